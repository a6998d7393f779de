/- Texts of the proof, joined. -/
import Derived.Test.YtbngfbpegdcpkaaQ3
import Derived.Test.YtbngfbpegdcpkaaProg
import Derived.KernelRfl
/-! What is owed of functions of the program, as formulas. -/
namespace Go.Proofs.Ytbngfbpegdcpkaa
set_option maxRecDepth 100000
set_option linter.unusedVariables false
set_option linter.unusedSimpArgs false
/-- duet/edit.Do -/
def c12 : AFun := ⟨2, 62, [.cell 4 3 true, .tmp 5],
  (.seq (.region [⟨(some 2), none, .box, [.t 0]⟩, ⟨(some 3), none, .box, [.t 1]⟩, ⟨(some 4), none, (.alloc [.nils, (.int .i64 0), .nils]), []⟩, ⟨(some 5), none, .move, [.c .nils]⟩] none [2, 3, 4])
  (.seq (.region [⟨(some 9), none, (.fieldAddr 0), [.t 2]⟩, ⟨(some 10), none, (.load 1 false), [.t 9]⟩, ⟨(some 11), none, .call, [.c (.fn (.func 25) [] []), .t 10]⟩, ⟨(some 12), none, (.fieldAddr 0), [.t 2]⟩, ⟨(some 13), none, (.load 1 false), [.t 12]⟩, ⟨(some 14), none, (.fieldAddr 1), [.t 2]⟩, ⟨(some 15), none, (.load 1 false), [.t 14]⟩, ⟨(some 16), none, .call, [.c (.fn (.func 26) [] []), .t 13, .t 15]⟩, ⟨(some 17), none, (.fieldAddr 2), [.t 2]⟩, ⟨(some 18), none, (.load 1 false), [.t 17]⟩, ⟨(some 19), none, .call, [.c (.fn (.func 25) [] []), .t 18]⟩, ⟨(some 20), none, (.build [.nils, (.int .i64 0), .nils] [(0, 1), (1, 1), (2, 1)]), [.t 11, .t 16, .t 19]⟩, ⟨(some 21), none, (.build [.nils, (.int .i64 0), .nils, .nils] [(0, 3)]), [.t 20]⟩, ⟨(some 22), none, .box, [.t 21]⟩, ⟨(some 6), none, .move, [.t 22]⟩] (some [0, 1, 3, 0, 8, 0, 32, 127, 0, 256, 1023, 2047, 4095, 8191, 16383]) [3, 4, 6])
  (.seq (.seq (.region [⟨(some 23), none, (.fieldAddr 0), [.t 3]⟩, ⟨(some 24), none, (.load 1 false), [.t 23]⟩, ⟨(some 25), none, (.bin .neq .num), [.t 24, .c (.int .i64 1)]⟩, ⟨(some 26), none, .move, [.t 25]⟩, ⟨(some 27), (some (26, true)), (.fieldAddr 0), [.t 3]⟩, ⟨(some 28), (some (26, true)), (.load 1 false), [.t 27]⟩, ⟨(some 29), (some (26, true)), (.bin .neq .num), [.t 28, .c (.int .i64 2)]⟩, ⟨(some 30), none, .pick, [.t 26, .t 29, .c (.bool false)]⟩, ⟨(some 31), none, .move, [.t 30]⟩, ⟨(some 32), (some (31, true)), (.fieldAddr 0), [.t 3]⟩, ⟨(some 33), (some (31, true)), (.load 1 false), [.t 32]⟩, ⟨(some 34), (some (31, true)), (.bin .neq .num), [.t 33, .c (.int .i64 3)]⟩, ⟨(some 35), none, .pick, [.t 31, .t 34, .c (.bool false)]⟩] none [3, 4, 6, 35])
  (.cond (.t 35) (.region [⟨(some 36), none, (.fieldAddr 1), [.t 3]⟩, ⟨none, none, (.store 1), [.t 36, .c (.int .i64 0)]⟩] none [3, 4, 6])
  .skip))
  (.seq (.seq (.region [⟨(some 37), none, (.fieldAddr 0), [.t 3]⟩, ⟨(some 38), none, (.load 1 false), [.t 37]⟩, ⟨(some 39), none, (.bin .eql .num), [.t 38, .c (.int .i64 1)]⟩] none [3, 4, 6, 39])
  (.cond (.t 39) (.region [⟨(some 40), none, .move, [.t 6]⟩, ⟨(some 41), none, (.fieldAddr 1), [.t 3]⟩, ⟨(some 42), none, (.load 1 false), [.t 41]⟩, ⟨(some 43), none, .call, [.c (.fn (.func 27) [] []), .t 40, .t 42]⟩] none [4, 6])
  (.seq (.region [⟨(some 45), none, .call, [.c (.fn (.func 28) [] [])]⟩, ⟨(some 46), none, (.load 2 true), [.t 3]⟩, ⟨(some 47), none, (.lookup true [.int, .int] .nilf true), [.t 45, .t 46]⟩, ⟨(some 44), none, .move, [.t 47]⟩, ⟨(some 48), none, (.extract 0), [.t 44]⟩, ⟨(some 49), none, (.extract 1), [.t 44]⟩, ⟨(some 7), none, .move, [.t 48]⟩, ⟨(some 8), none, .move, [.t 49]⟩] (some [0, 0, 3, 7, 15, 15, 31, 127]) [4, 6, 7, 8])
  (.seq (.region [⟨(some 50), none, .move, [.t 8]⟩] none [4, 6, 7, 50])
  (.cond (.t 50) (.region [⟨(some 51), none, .move, [.t 7]⟩, ⟨(some 52), none, .move, [.t 6]⟩, ⟨(some 53), none, .call, [.t 51, .t 52]⟩] none [4, 6])
  .skip)))))
  (.seq (.region [⟨(some 54), none, .move, [.t 6]⟩, ⟨(some 55), none, .nilCheck, [.t 54]⟩, ⟨(some 56), none, (.fieldAddr 0), [.t 55]⟩, ⟨(some 57), none, (.load 3 true), [.t 56]⟩, ⟨(some 58), none, .move, [.t 6]⟩, ⟨(some 59), none, .nilCheck, [.t 58]⟩, ⟨(some 60), none, (.fieldAddr 3), [.t 59]⟩, ⟨(some 61), none, (.load 1 false), [.t 60]⟩, ⟨none, none, (.store 3), [.t 4, .t 57]⟩, ⟨(some 5), none, .move, [.t 61]⟩] (some [0, 1, 3, 7, 0, 16, 48, 112, 15, 511]) [4, 5])
  .ret)))))⟩
theorem ok12 : FunOk Try.prog 12 c12 := ⟨⟨Try.f12, _, Try.func12, rfl, by kernel_rfl, by kernel_rfl, by kernel_rfl, by kernel_rfl⟩, by decide⟩
theorem m8 : c12.res = [.cell 4 3 true, .tmp 5] := rfl
def mZ (P : Program) (p : Lab) (Q : aA) (v61_48 : AV) (f48 : Option (List Lab)) (f44 : Option (List Lab)) (y4 : AV) (c : Nat) (v_49 : AV) (H49 : aB) (l49 : List Lab) (f49 : Option (List Lab)) : Prop :=
  aI [0, 1, 3, 7, 0, 16, 48, 112, 15, 511] (aH 3 [] ((c + 7) :: p) f44 (aH 7 [] ((c + 11) :: p) f48 (aH 8 l49 ((c + 12) :: p) f49 []))) ∧
  Q .ret [(4, y4), (5, v61_48)] H49 (c + 14)
def mY (P : Program) (p : Lab) (Q : aA) (y4 : AV) (y6 : AV) (c : Nat) (v43_40 : AV) (H40 : aB) (l40 : List Lab) (f40 : Option (List Lab)) : Prop :=
  aW y6 fun v55_42 =>
  vFA 0 v55_42 fun v56_43 =>
  aF 3 true v56_43 H40 fun v57_44 f44 =>
  aW y6 fun v59_46 =>
  vFA 3 v59_46 fun v60_47 =>
  aF 1 false v60_47 H40 fun v61_48 f48 =>
  aM (.store 3) [y4, v57_44] H40 ((c + 12) :: p) (mZ P p Q v61_48 f48 f44 y4 c)
def lU (P : Program) (p : Lab) (Q : aA) (y3 : AV) (y4 : AV) (y6 : AV) (H : aB) (c : Nat) : Prop :=
  vFA 1 y3 fun v41_38 =>
  aF 1 false v41_38 H fun v42_39 _ =>
  aN true P 27 [y6, v42_39] H ((c + 3) :: p) (mY P p Q y4 y6 c)
def mX (P : Program) (p : Lab) (Q : aA) (y3 : AV) (y4 : AV) (y6 : AV) (H : aB) (c : Nat) (_ : Unit) : Prop :=
  (lU P p Q y3 y4 y6 H (c + 3))
def mV (P : Program) (p : Lab) (Q : aA) (v61_70 : AV) (f70 : Option (List Lab)) (f66 : Option (List Lab)) (y4 : AV) (c : Nat) (v_71 : AV) (H71 : aB) (l71 : List Lab) (f71 : Option (List Lab)) : Prop :=
  aI [0, 1, 3, 7, 0, 16, 48, 112, 15, 511] (aH 3 [] ((c + 3) :: p) f66 (aH 7 [] ((c + 7) :: p) f70 (aH 8 l71 ((c + 8) :: p) f71 []))) ∧
  Q .ret [(4, y4), (5, v61_70)] H71 (c + 10)
def mW (P : Program) (p : Lab) (Q : aA) (y4 : AV) (y6 : AV) (H : aB) (c : Nat) : Prop :=
  aW y6 fun v55_64 =>
  vFA 0 v55_64 fun v56_65 =>
  aF 3 true v56_65 H fun v57_66 f66 =>
  aW y6 fun v59_68 =>
  vFA 3 v59_68 fun v60_69 =>
  aF 1 false v60_69 H fun v61_70 f70 =>
  aM (.store 3) [y4, v57_66] H ((c + 8) :: p) (mV P p Q v61_70 f70 f66 y4 c)
def jM (P : Program) (p : Lab) (Q : aA) (y4 : AV) (y6 : AV) (c : Nat) (v53_62 : AV) (H62 : aB) (l62 : List Lab) (f62 : Option (List Lab)) : Prop :=
  (mW P p Q y4 y6 H62 (c + 4))
def jL (P : Program) (p : Lab) (Q : aA) (y4 : AV) (y6 : AV) (y7 : AV) (H : aB) (c : Nat) (_ : Unit) : Prop :=
  QH P .call [y7, y6] H ((c + 3) :: p) (jM P p Q y4 y6 c)
def jJ (P : Program) (p : Lab) (Q : aA) (v61_80 : AV) (f80 : Option (List Lab)) (f76 : Option (List Lab)) (y4 : AV) (c : Nat) (v_81 : AV) (H81 : aB) (l81 : List Lab) (f81 : Option (List Lab)) : Prop :=
  aI [0, 1, 3, 7, 0, 16, 48, 112, 15, 511] (aH 3 [] ((c + 3) :: p) f76 (aH 7 [] ((c + 7) :: p) f80 (aH 8 l81 ((c + 8) :: p) f81 []))) ∧
  Q .ret [(4, y4), (5, v61_80)] H81 (c + 10)
def jK (P : Program) (p : Lab) (Q : aA) (y4 : AV) (y6 : AV) (y7 : AV) (y50 : AV) (H : aB) (c : Nat) : Prop :=
  aW y6 fun v55_74 =>
  vFA 0 v55_74 fun v56_75 =>
  aF 3 true v56_75 H fun v57_76 f76 =>
  aW y6 fun v59_78 =>
  vFA 3 v59_78 fun v60_79 =>
  aF 1 false v60_79 H fun v61_80 f80 =>
  aM (.store 3) [y4, v57_76] H ((c + 8) :: p) (jJ P p Q v61_80 f80 f76 y4 c)
def jI (P : Program) (p : Lab) (Q : aA) (y4 : AV) (y6 : AV) (y7 : AV) (y8 : AV) (H : aB) (c : Nat) (_ : Unit) : Prop :=
  (jK P p Q y4 y6 y7 y8 H (c + 1))
def lD (P : Program) (p : Lab) (Q : aA) (y4 : AV) (y6 : AV) (y7 : AV) (y8 : AV) (H : aB) (c : Nat) : Prop :=
  aL y8
  (jL P p Q y4 y6 y7 H c)
  (jI P p Q y4 y6 y7 y8 H c)
def jH (P : Program) (p : Lab) (Q : aA) (f52 : Option (List Lab)) (l51 : List Lab) (f51 : Option (List Lab)) (y4 : AV) (y6 : AV) (c : Nat) (v47_53 : AV) (H53 : aB) (l53 : List Lab) (f53 : Option (List Lab)) : Prop :=
  qX 0 v47_53 fun v48_55 =>
  qX 1 v47_53 fun v49_56 =>
  aI [0, 0, 3, 7, 15, 15, 31, 127] (aH 0 l51 ((c + 3) :: p) f51 (aH 1 [] ((c + 4) :: p) f52 (aH 2 l53 ((c + 5) :: p) f53 []))) ∧
  (lD P p Q y4 y6 v48_55 v49_56 H53 (c + 11))
def jG (P : Program) (p : Lab) (Q : aA) (y3 : AV) (y4 : AV) (y6 : AV) (c : Nat) (v45_51 : AV) (H51 : aB) (l51 : List Lab) (f51 : Option (List Lab)) : Prop :=
  aF 2 true y3 H51 fun v46_52 f52 =>
  aM (.lookup true [.int, .int] .nilf true) [v45_51, v46_52] H51 ((c + 5) :: p) (jH P p Q f52 l51 f51 y4 y6 c)
def jF (P : Program) (p : Lab) (Q : aA) (y3 : AV) (y4 : AV) (y6 : AV) (H : aB) (c : Nat) (_ : Unit) : Prop :=
  aN false P 28 [] H ((c + 3) :: p) (jG P p Q y3 y4 y6 c)
def m3 (P : Program) (p : Lab) (Q : aA) (y3 : AV) (y4 : AV) (y6 : AV) (H : aB) (c : Nat) : Prop :=
  vFA 0 y3 fun v37_34 =>
  aF 1 false v37_34 H fun v38_35 _ =>
  aJ .eql .num v38_35 (.int .i64 1) fun v39_36 =>
  aL v39_36
  (mX P p Q y3 y4 y6 H c)
  (jF P p Q y3 y4 y6 H c)
def jE (P : Program) (p : Lab) (Q : aA) (y3 : AV) (y4 : AV) (y6 : AV) (c : Nat) (v_33 : AV) (H33 : aB) (l33 : List Lab) (f33 : Option (List Lab)) : Prop :=
  (m3 P p Q y3 y4 y6 H33 (c + 2))
def jD (P : Program) (p : Lab) (Q : aA) (y3 : AV) (y4 : AV) (y6 : AV) (H : aB) (c : Nat) (_ : Unit) : Prop :=
  vFA 1 y3 fun v36_32 =>
  aM (.store 1) [v36_32, (.int .i64 0)] H ((c + 1) :: p) (jE P p Q y3 y4 y6 c)
def jB (P : Program) (p : Lab) (Q : aA) (y3 : AV) (y4 : AV) (y6 : AV) (H : aB) (c : Nat) (_ : Unit) : Prop :=
  (lU P p Q y3 y4 y6 H (c + 3))
def jA (P : Program) (p : Lab) (Q : aA) (f87 : Option (List Lab)) (l86 : List Lab) (f86 : Option (List Lab)) (y4 : AV) (y6 : AV) (c : Nat) (v47_88 : AV) (H88 : aB) (l88 : List Lab) (f88 : Option (List Lab)) : Prop :=
  qX 0 v47_88 fun v48_90 =>
  qX 1 v47_88 fun v49_91 =>
  aI [0, 0, 3, 7, 15, 15, 31, 127] (aH 0 l86 ((c + 3) :: p) f86 (aH 1 [] ((c + 4) :: p) f87 (aH 2 l88 ((c + 5) :: p) f88 []))) ∧
  (lD P p Q y4 y6 v48_90 v49_91 H88 (c + 11))
def i9 (P : Program) (p : Lab) (Q : aA) (y3 : AV) (y4 : AV) (y6 : AV) (c : Nat) (v45_86 : AV) (H86 : aB) (l86 : List Lab) (f86 : Option (List Lab)) : Prop :=
  aF 2 true y3 H86 fun v46_87 f87 =>
  aM (.lookup true [.int, .int] .nilf true) [v45_86, v46_87] H86 ((c + 5) :: p) (jA P p Q f87 l86 f86 y4 y6 c)
def i8 (P : Program) (p : Lab) (Q : aA) (y3 : AV) (y4 : AV) (y6 : AV) (H : aB) (c : Nat) (_ : Unit) : Prop :=
  aN false P 28 [] H ((c + 3) :: p) (i9 P p Q y3 y4 y6 c)
def jC (P : Program) (p : Lab) (Q : aA) (y3 : AV) (y4 : AV) (y6 : AV) (y35 : AV) (H : aB) (c : Nat) : Prop :=
  vFA 0 y3 fun v37_83 =>
  aF 1 false v37_83 H fun v38_84 _ =>
  aJ .eql .num v38_84 (.int .i64 1) fun v39_85 =>
  aL v39_85
  (jB P p Q y3 y4 y6 H c)
  (i8 P p Q y3 y4 y6 H c)
def i7 (P : Program) (p : Lab) (Q : aA) (y3 : AV) (y4 : AV) (y6 : AV) (y35 : AV) (H : aB) (c : Nat) (_ : Unit) : Prop :=
  (jC P p Q y3 y4 y6 y35 H c)
def m4 (P : Program) (p : Lab) (Q : aA) (y3 : AV) (y4 : AV) (y6 : AV) (y35 : AV) (H : aB) (c : Nat) : Prop :=
  aL y35
  (jD P p Q y3 y4 y6 H c)
  (i7 P p Q y3 y4 y6 y35 H c)
def i6 (P : Program) (p : Lab) (Q : aA) (y3 : AV) (y4 : AV) (y6 : AV) (H : aB) (c : Nat) (_ : Unit) : Prop :=
  vFA 0 y3 fun v32_28 =>
  aF 1 false v32_28 H fun v33_29 _ =>
  aJ .neq .num v33_29 (.int .i64 3) fun v34_30 =>
  (m4 P p Q y3 y4 y6 v34_30 H (c + 6))
def i5 (P : Program) (p : Lab) (Q : aA) (y3 : AV) (y4 : AV) (y6 : AV) (H : aB) (c : Nat) (_ : Unit) : Prop :=
  (lU P p Q y3 y4 y6 H (c + 3))
def i4 (P : Program) (p : Lab) (Q : aA) (f99 : Option (List Lab)) (l98 : List Lab) (f98 : Option (List Lab)) (y4 : AV) (y6 : AV) (c : Nat) (v47_100 : AV) (H100 : aB) (l100 : List Lab) (f100 : Option (List Lab)) : Prop :=
  qX 0 v47_100 fun v48_102 =>
  qX 1 v47_100 fun v49_103 =>
  aI [0, 0, 3, 7, 15, 15, 31, 127] (aH 0 l98 ((c + 3) :: p) f98 (aH 1 [] ((c + 4) :: p) f99 (aH 2 l100 ((c + 5) :: p) f100 []))) ∧
  (lD P p Q y4 y6 v48_102 v49_103 H100 (c + 11))
def i3 (P : Program) (p : Lab) (Q : aA) (y3 : AV) (y4 : AV) (y6 : AV) (c : Nat) (v45_98 : AV) (H98 : aB) (l98 : List Lab) (f98 : Option (List Lab)) : Prop :=
  aF 2 true y3 H98 fun v46_99 f99 =>
  aM (.lookup true [.int, .int] .nilf true) [v45_98, v46_99] H98 ((c + 5) :: p) (i4 P p Q f99 l98 f98 y4 y6 c)
def i2 (P : Program) (p : Lab) (Q : aA) (y3 : AV) (y4 : AV) (y6 : AV) (H : aB) (c : Nat) (_ : Unit) : Prop :=
  aN false P 28 [] H ((c + 3) :: p) (i3 P p Q y3 y4 y6 c)
def iR (P : Program) (p : Lab) (Q : aA) (y3 : AV) (y4 : AV) (y6 : AV) (H : aB) (c : Nat) : Prop :=
  vFA 0 y3 fun v37_95 =>
  aF 1 false v37_95 H fun v38_96 _ =>
  aJ .eql .num v38_96 (.int .i64 1) fun v39_97 =>
  aL v39_97
  (i5 P p Q y3 y4 y6 H c)
  (i2 P p Q y3 y4 y6 H c)
def i1 (P : Program) (p : Lab) (Q : aA) (y3 : AV) (y4 : AV) (y6 : AV) (H : aB) (c : Nat) (_ : Unit) : Prop :=
  (iR P p Q y3 y4 y6 H (c + 6))
def m5 (P : Program) (p : Lab) (Q : aA) (y3 : AV) (y4 : AV) (y6 : AV) (y29 : AV) (H : aB) (c : Nat) : Prop :=
  aL y29
  (i6 P p Q y3 y4 y6 H c)
  (i1 P p Q y3 y4 y6 H c)
def iQ (P : Program) (p : Lab) (Q : aA) (H17 : aB) (w17 : List AV) (w1 : List AV) (c : Nat) (_ : Unit) : Prop :=
  vFA 0 (.ptr ((c + 1) :: p) w1.length 0 0) fun v27_23 =>
  aF 1 false v27_23 H17 fun v28_24 _ =>
  aJ .neq .num v28_24 (.int .i64 2) fun v29_25 =>
  (m5 P p Q (.ptr ((c + 1) :: p) w1.length 0 0) (.ptr ((c + 2) :: p) 3 0 0) (.ptr ((c + 17) :: p) w17.length 0 0) v29_25 H17 (c + 26))
def i0 (P : Program) (p : Lab) (Q : aA) (y3 : AV) (y4 : AV) (y6 : AV) (H : aB) (c : Nat) : Prop :=
  (iR P p Q y3 y4 y6 H (c + 6))
def iP (P : Program) (p : Lab) (Q : aA) (H17 : aB) (w17 : List AV) (w1 : List AV) (c : Nat) (_ : Unit) : Prop :=
  (i0 P p Q (.ptr ((c + 1) :: p) w1.length 0 0) (.ptr ((c + 2) :: p) 3 0 0) (.ptr ((c + 17) :: p) w17.length 0 0) H17 (c + 26))
def iZ (P : Program) (p : Lab) (Q : aA) (f13 : Option (List Lab)) (v16_11 : AV) (l11 : List Lab) (f11 : Option (List Lab)) (f10 : Option (List Lab)) (f8 : Option (List Lab)) (v11_6 : AV) (l6 : List Lab) (f6 : Option (List Lab)) (f5 : Option (List Lab)) (w1 : List AV) (c : Nat) (v19_14 : AV) (H14 : aB) (l14 : List Lab) (f14 : Option (List Lab)) : Prop :=
  gB [.nils, (.int .i64 0), .nils] [(0, 1), (1, 1), (2, 1)] [v11_6, v16_11, v19_14] fun v20_15 =>
  gB [.nils, (.int .i64 0), .nils, .nils] [(0, 3)] [v20_15] fun v21_16 =>
  zI v21_16 fun w17 =>
  (fun (H17 : aB) =>
  aI [0, 1, 3, 0, 8, 0, 32, 127, 0, 256, 1023, 2047, 4095, 8191, 16383] (aH 1 [] ((c + 5) :: p) f5 (aH 2 l6 ((c + 6) :: p) f6 (aH 4 [] ((c + 8) :: p) f8 (aH 6 [] ((c + 10) :: p) f10 (aH 7 l11 ((c + 11) :: p) f11 (aH 9 [] ((c + 13) :: p) f13 (aH 10 l14 ((c + 14) :: p) f14 (aH 13 [((c + 17) :: p)] ((c + 17) :: p) (some []) [])))))))) ∧
  vFA 0 (.ptr ((c + 1) :: p) w1.length 0 0) fun v23_19 =>
  aF 1 false v23_19 H17 fun v24_20 _ =>
  aJ .neq .num v24_20 (.int .i64 1) fun v25_21 =>
  aL v25_21
  (iQ P p Q H17 w17 w1 c)
  (iP P p Q H17 w17 w1 c)) (upd [(((c + 17) :: p), some (.rows w17.length [w17]))] H14)
def iY (P : Program) (p : Lab) (Q : aA) (f10 : Option (List Lab)) (f8 : Option (List Lab)) (v11_6 : AV) (l6 : List Lab) (f6 : Option (List Lab)) (f5 : Option (List Lab)) (w1 : List AV) (w0 : List AV) (c : Nat) (v16_11 : AV) (H11 : aB) (l11 : List Lab) (f11 : Option (List Lab)) : Prop :=
  vFA 2 (.ptr (c :: p) w0.length 0 0) fun v17_12 =>
  aF 1 false v17_12 H11 fun v18_13 f13 =>
  aN false P 25 [v18_13] H11 ((c + 14) :: p) (iZ P p Q f13 v16_11 l11 f11 f10 f8 v11_6 l6 f6 f5 w1 c)
def iX (P : Program) (p : Lab) (Q : aA) (f5 : Option (List Lab)) (w1 : List AV) (w0 : List AV) (c : Nat) (v11_6 : AV) (H6 : aB) (l6 : List Lab) (f6 : Option (List Lab)) : Prop :=
  vFA 0 (.ptr (c :: p) w0.length 0 0) fun v12_7 =>
  aF 1 false v12_7 H6 fun v13_8 f8 =>
  vFA 1 (.ptr (c :: p) w0.length 0 0) fun v14_9 =>
  aF 1 false v14_9 H6 fun v15_10 f10 =>
  aN false P 26 [v13_8, v15_10] H6 ((c + 11) :: p) (iY P p Q f10 f8 v11_6 l6 f6 f5 w1 w0 c)
def V12 (P : Program) (p : Lab) (Q : aA) (x0 x1 : AV) (H : aB) (c : Nat) : Prop :=
  zI x0 fun w0 =>
  (fun (H0 : aB) =>
  zI x1 fun w1 =>
  (fun (H1 : aB) =>
  (fun (H2 : aB) =>
  vFA 0 (.ptr (c :: p) w0.length 0 0) fun v9_4 =>
  aF 1 false v9_4 H2 fun v10_5 f5 =>
  aN false P 25 [v10_5] H2 ((c + 6) :: p) (iX P p Q f5 w1 w0 c)) (upd [(((c + 2) :: p), some (.rows 3 [[.nils, (.int .i64 0), .nils]]))] H1)) (upd [(((c + 1) :: p), some (.rows w1.length [w1]))] H0)) (upd [((c :: p), some (.rows w0.length [w0]))] H)
theorem rY (P : Program) (p : Lab) (Q : aA) (x0 x1 : AV) (H : aB) (c : Nat) : vc P p c12.body Q [(0, x0), (1, x1)] H c = V12 P p Q x0 x1 H c := by kernel_rfl


/-- (*duet/edit.work).put -/
def c27 : AFun := ⟨2, 59, [.tmp 4],
  (.seq (.region [⟨(some 4), none, .move, [.c (.bool false)]⟩] none [0, 1])
  (.seq (.seq (.region [⟨(some 5), none, .move, [.t 0]⟩, ⟨(some 6), none, .nilCheck, [.t 5]⟩, ⟨(some 7), none, (.fieldAddr 0), [.t 6]⟩, ⟨(some 8), none, (.fieldAddr 0), [.t 7]⟩, ⟨(some 9), none, (.load 1 false), [.t 8]⟩, ⟨(some 10), none, (.len .slice), [.t 9]⟩, ⟨(some 11), none, (.bin .geq .num), [.t 10, .c (.int .i64 1000)]⟩, ⟨(some 12), none, .move, [.t 11]⟩, ⟨(some 13), (some (12, false)), .move, [.t 1]⟩, ⟨(some 14), (some (12, false)), .call, [.c (.fn (.func 40) [] []), .t 13]⟩, ⟨(some 15), (some (12, false)), (.un .not), [.t 14]⟩, ⟨(some 16), none, .pick, [.t 12, .c (.bool true), .t 15]⟩] none [0, 1, 16])
  (.cond (.t 16) (.seq (.region [⟨(some 4), none, .move, [.c (.bool false)]⟩] none [4])
  .ret)
  .skip))
  (.seq (.region [⟨(some 17), none, .move, [.t 0]⟩, ⟨(some 18), none, .move, [.t 0]⟩, ⟨(some 19), none, .nilCheck, [.t 18]⟩, ⟨(some 20), none, (.fieldAddr 3), [.t 19]⟩, ⟨(some 21), none, (.load 1 false), [.t 20]⟩, ⟨(some 22), none, .move, [.t 0]⟩, ⟨(some 23), none, .nilCheck, [.t 22]⟩, ⟨(some 24), none, (.fieldAddr 0), [.t 23]⟩, ⟨(some 25), none, (.fieldAddr 1), [.t 24]⟩, ⟨(some 26), none, (.load 1 false), [.t 25]⟩, ⟨(some 27), none, .move, [.t 1]⟩, ⟨(some 28), none, (.build [(.int .i64 0), (.int .i64 0), (.int .i64 0)] [(0, 1), (1, 1), (2, 1)]), [.c (.int .i64 1), .t 26, .t 27]⟩, ⟨(some 29), none, (.buildSlice 3 [(.int .i64 0), (.int .i64 0), (.int .i64 0)] [(0, 3)]), [.t 28]⟩, ⟨(some 30), none, (.append 3 24), [.t 21, .t 29]⟩, ⟨(some 31), none, .nilCheck, [.t 17]⟩, ⟨(some 32), none, (.fieldAddr 3), [.t 31]⟩, ⟨none, none, (.store 1), [.t 32, .t 30]⟩] (some [0, 0, 2, 6, 14, 0, 32, 96, 224, 480, 0, 2016, 4064, 8190, 16383, 32767, 65535]) [0, 1])
  (.seq (.region [⟨(some 33), none, .move, [.t 0]⟩, ⟨(some 34), none, .move, [.t 0]⟩, ⟨(some 35), none, .nilCheck, [.t 34]⟩, ⟨(some 36), none, (.fieldAddr 0), [.t 35]⟩, ⟨(some 37), none, (.fieldAddr 0), [.t 36]⟩, ⟨(some 38), none, (.load 1 false), [.t 37]⟩, ⟨(some 39), none, .move, [.t 0]⟩, ⟨(some 40), none, .nilCheck, [.t 39]⟩, ⟨(some 41), none, (.fieldAddr 0), [.t 40]⟩, ⟨(some 42), none, (.fieldAddr 1), [.t 41]⟩, ⟨(some 43), none, (.load 1 false), [.t 42]⟩, ⟨(some 44), none, .move, [.t 1]⟩, ⟨(some 45), none, (.buildSlice 1 [(.int .i64 0)] [(0, 1)]), [.t 44]⟩, ⟨(some 46), none, .call, [.c (.fn (.func 33) [] []), .t 38, .t 43, .t 45]⟩, ⟨(some 47), none, .nilCheck, [.t 33]⟩, ⟨(some 48), none, (.fieldAddr 0), [.t 47]⟩, ⟨(some 49), none, (.fieldAddr 0), [.t 48]⟩, ⟨none, none, (.store 1), [.t 49, .t 46]⟩] (some [0, 0, 2, 6, 14, 30, 0, 64, 192, 448, 960, 0, 2048, 8190, 16383, 32767, 65535, 131071]) [0])
  (.seq (.region [⟨(some 50), none, .move, [.t 0]⟩, ⟨(some 51), none, .nilCheck, [.t 50]⟩, ⟨(some 52), none, (.fieldAddr 0), [.t 51]⟩, ⟨(some 53), none, (.fieldAddr 1), [.t 52]⟩, ⟨(some 54), none, (.load 1 false), [.t 53]⟩, ⟨(some 55), none, (.bin .add .num), [.t 54, .c (.int .i64 1)]⟩, ⟨(some 56), none, .nilCheck, [.t 50]⟩, ⟨(some 57), none, (.fieldAddr 0), [.t 56]⟩, ⟨(some 58), none, (.fieldAddr 1), [.t 57]⟩, ⟨none, none, (.store 1), [.t 58, .t 55]⟩] none [])
  (.seq (.region [⟨(some 4), none, .move, [.c (.bool true)]⟩] none [4])
  .ret))))))⟩
theorem ok27 : FunOk Try.prog 27 c27 := ⟨⟨Try.f27, _, Try.func27, rfl, by kernel_rfl, by kernel_rfl, by kernel_rfl, by kernel_rfl⟩, by decide⟩
theorem HJ : c27.res = [.tmp 4] := rfl
def F6 (P : Program) (p : Lab) (Q : aA) (y0 : AV) (y1 : AV) (H : aB) (c : Nat) : Prop :=
  Q .ret [(4, (.bool false))] H (c + 1)
def F0 (P : Program) (p : Lab) (Q : aA) (x0 : AV) (x1 : AV) (H : aB) (c : Nat) (_ : Unit) : Prop :=
  (F6 P p Q x0 x1 H (c + 13))
def FY (P : Program) (p : Lab) (Q : aA)  (H : aB) (c : Nat) : Prop :=
  Q .ret [(4, (.bool false))] H c
def FX (P : Program) (p : Lab) (Q : aA) (H : aB) (c : Nat) (_ : Unit) : Prop :=
  (FY P p Q  H (c + 1))
def FV (P : Program) (p : Lab) (Q : aA) (l46 : List Lab) (f46 : Option (List Lab)) (f43 : Option (List Lab)) (f38 : Option (List Lab)) (y0 : AV) (c : Nat) (v_50 : AV) (H50 : aB) (l50 : List Lab) (f50 : Option (List Lab)) : Prop :=
  aI [0, 0, 2, 6, 14, 30, 0, 64, 192, 448, 960, 0, 2048, 8190, 16383, 32767, 65535, 131071] (aH 5 [] ((c + 22) :: p) f38 (aH 10 [] ((c + 27) :: p) f43 (aH 12 [((c + 29) :: p)] ((c + 29) :: p) (some []) (aH 13 l46 ((c + 30) :: p) f46 (aH 17 l50 ((c + 34) :: p) f50 []))))) ∧
  aW y0 fun v51_52 =>
  vFA 0 v51_52 fun v52_53 =>
  vFA 1 v52_53 fun v53_54 =>
  aF 1 false v53_54 H50 fun v54_55 _ =>
  aJ .add .num v54_55 (.int .i64 1) fun v55_56 =>
  aW y0 fun v56_57 =>
  vFA 0 v56_57 fun v57_58 =>
  vFA 1 v57_58 fun v58_59 =>
  aM (.store 1) [v58_59, v55_56] H50 ((c + 44) :: p) (fun v_60 H60 l60 f60 =>
  Q .ret [(4, (.bool true))] H60 (c + 46))
def FU (P : Program) (p : Lab) (Q : aA) (f43 : Option (List Lab)) (f38 : Option (List Lab)) (y0 : AV) (c : Nat) (v46_46 : AV) (H46 : aB) (l46 : List Lab) (f46 : Option (List Lab)) : Prop :=
  aW y0 fun v47_47 =>
  vFA 0 v47_47 fun v48_48 =>
  vFA 0 v48_48 fun v49_49 =>
  aM (.store 1) [v49_49, v46_46] H46 ((c + 34) :: p) (FV P p Q l46 f46 f43 f38 y0 c)
def FT (P : Program) (p : Lab) (Q : aA) (l29 : List Lab) (f29 : Option (List Lab)) (f25 : Option (List Lab)) (f20 : Option (List Lab)) (y0 : AV) (y1 : AV) (c : Nat) (v_32 : AV) (H32 : aB) (l32 : List Lab) (f32 : Option (List Lab)) : Prop :=
  aI [0, 0, 2, 6, 14, 0, 32, 96, 224, 480, 0, 2016, 4064, 8190, 16383, 32767, 65535] (aH 4 [] ((c + 4) :: p) f20 (aH 9 [] ((c + 9) :: p) f25 (aH 12 [((c + 12) :: p)] ((c + 12) :: p) (some []) (aH 13 l29 ((c + 13) :: p) f29 (aH 16 l32 ((c + 16) :: p) f32 []))))) ∧
  aW y0 fun v35_35 =>
  vFA 0 v35_35 fun v36_36 =>
  vFA 0 v36_36 fun v37_37 =>
  aF 1 false v37_37 H32 fun v38_38 f38 =>
  aW y0 fun v40_40 =>
  vFA 0 v40_40 fun v41_41 =>
  vFA 1 v41_41 fun v42_42 =>
  aF 1 false v42_42 H32 fun v43_43 f43 =>
  jP 1 [(.int .i64 0)] [(0, 1)] [y1] fun w45 n45 =>
  (fun (H45 : aB) =>
  aN false P 33 [v38_38, v43_43, (.sl ((c + 29) :: p) 1 0 n45)] H45 ((c + 30) :: p) (FU P p Q f43 f38 y0 c)) (upd [(((c + 29) :: p), some (.rows 1 w45))] H32)
def FS (P : Program) (p : Lab) (Q : aA) (f25 : Option (List Lab)) (f20 : Option (List Lab)) (y0 : AV) (y1 : AV) (c : Nat) (v30_29 : AV) (H29 : aB) (l29 : List Lab) (f29 : Option (List Lab)) : Prop :=
  aW y0 fun v31_30 =>
  vFA 3 v31_30 fun v32_31 =>
  aM (.store 1) [v32_31, v30_29] H29 ((c + 16) :: p) (FT P p Q l29 f29 f25 f20 y0 y1 c)
def FW (P : Program) (p : Lab) (Q : aA) (y0 : AV) (y1 : AV) (y16 : AV) (H : aB) (c : Nat) : Prop :=
  aW y0 fun v19_18 =>
  vFA 3 v19_18 fun v20_19 =>
  aF 1 false v20_19 H fun v21_20 f20 =>
  aW y0 fun v23_22 =>
  vFA 0 v23_22 fun v24_23 =>
  vFA 1 v24_23 fun v25_24 =>
  aF 1 false v25_24 H fun v26_25 f25 =>
  gB [(.int .i64 0), (.int .i64 0), (.int .i64 0)] [(0, 1), (1, 1), (2, 1)] [(.int .i64 1), v26_25, y1] fun v28_27 =>
  jP 3 [(.int .i64 0), (.int .i64 0), (.int .i64 0)] [(0, 3)] [v28_27] fun w28 n28 =>
  (fun (H28 : aB) =>
  aM (.append 3 24) [v21_20, (.sl ((c + 12) :: p) 3 0 n28)] H28 ((c + 13) :: p) (FS P p Q f25 f20 y0 y1 c)) (upd [(((c + 12) :: p), some (.rows 3 w28))] H)
def BI (P : Program) (p : Lab) (Q : aA) (y0 : AV) (y1 : AV) (y16 : AV) (H : aB) (c : Nat) (_ : Unit) : Prop :=
  (FW P p Q y0 y1 y16 H c)
def FZ (P : Program) (p : Lab) (Q : aA) (y0 : AV) (y1 : AV) (y16 : AV) (H : aB) (c : Nat) : Prop :=
  aL y16
  (FX P p Q H c)
  (BI P p Q y0 y1 y16 H c)
def BH (P : Program) (p : Lab) (Q : aA) (x0 : AV) (x1 : AV) (c : Nat) (v14_12 : AV) (H12 : aB) (l12 : List Lab) (f12 : Option (List Lab)) : Prop :=
  xU v14_12 fun v15_13 =>
  (FZ P p Q x0 x1 v15_13 H12 (c + 13))
def BG (P : Program) (p : Lab) (Q : aA) (x0 : AV) (x1 : AV) (H : aB) (c : Nat) (_ : Unit) : Prop :=
  aN false P 40 [x1] H ((c + 10) :: p) (BH P p Q x0 x1 c)
def V27 (P : Program) (p : Lab) (Q : aA) (x0 x1 : AV) (H : aB) (c : Nat) : Prop :=
  aW x0 fun v6_2 =>
  vFA 0 v6_2 fun v7_3 =>
  vFA 0 v7_3 fun v8_4 =>
  aF 1 false v8_4 H fun v9_5 _ =>
  cS v9_5 fun v10_6 =>
  aJ .geq .num v10_6 (.int .i64 1000) fun v11_7 =>
  aL v11_7
  (F0 P p Q x0 x1 H c)
  (BG P p Q x0 x1 H c)
theorem N7 (P : Program) (p : Lab) (Q : aA) (x0 x1 : AV) (H : aB) (c : Nat) : vc P p c27.body Q [(0, x0), (1, x1)] H c = V27 P p Q x0 x1 H c := by kernel_rfl


/-- (*duet/edit.work).home -/
def c43 : AFun := ⟨1, 6, [],
  (.region [⟨(some 2), none, .move, [.t 0]⟩, ⟨(some 3), none, .nilCheck, [.t 2]⟩, ⟨(some 4), none, (.fieldAddr 0), [.t 3]⟩, ⟨(some 5), none, (.fieldAddr 1), [.t 4]⟩, ⟨none, none, (.store 1), [.t 5, .c (.int .i64 0)]⟩] none [])⟩
theorem ok43 : FunOk Try.prog 43 c43 := ⟨⟨Try.f43, _, Try.func43, rfl, by kernel_rfl, by kernel_rfl, by kernel_rfl, by kernel_rfl⟩, by decide⟩
theorem res43 : c43.res = [] := rfl
def V43 (P : Program) (p : Lab) (Q : aA) (x0 : AV) (H : aB) (c : Nat) : Prop :=
  aW x0 fun v3_1 =>
  vFA 0 v3_1 fun v4_2 =>
  vFA 1 v4_2 fun v5_3 =>
  aM (.store 1) [v5_3, (.int .i64 0)] H ((c + 4) :: p) (fun v_4 H4 l4 f4 =>
  Q .normal [] H4 (c + 5))
theorem vt43 (P : Program) (p : Lab) (Q : aA) (x0 : AV) (H : aB) (c : Nat) : vc P p c43.body Q [(0, x0)] H c = V43 P p Q x0 H c := by kernel_rfl


/-- (*duet/edit.work).end -/
def c44 : AFun := ⟨1, 12, [],
  (.region [⟨(some 2), none, .move, [.t 0]⟩, ⟨(some 3), none, .move, [.t 0]⟩, ⟨(some 4), none, .nilCheck, [.t 3]⟩, ⟨(some 5), none, (.fieldAddr 0), [.t 4]⟩, ⟨(some 6), none, (.fieldAddr 0), [.t 5]⟩, ⟨(some 7), none, (.load 1 false), [.t 6]⟩, ⟨(some 8), none, (.len .slice), [.t 7]⟩, ⟨(some 9), none, .nilCheck, [.t 2]⟩, ⟨(some 10), none, (.fieldAddr 0), [.t 9]⟩, ⟨(some 11), none, (.fieldAddr 1), [.t 10]⟩, ⟨none, none, (.store 1), [.t 11, .t 8]⟩] none [])⟩
theorem ok44 : FunOk Try.prog 44 c44 := ⟨⟨Try.f44, _, Try.func44, rfl, by kernel_rfl, by kernel_rfl, by kernel_rfl, by kernel_rfl⟩, by decide⟩
theorem res44 : c44.res = [] := rfl
def V44 (P : Program) (p : Lab) (Q : aA) (x0 : AV) (H : aB) (c : Nat) : Prop :=
  aW x0 fun v4_2 =>
  vFA 0 v4_2 fun v5_3 =>
  vFA 0 v5_3 fun v6_4 =>
  aF 1 false v6_4 H fun v7_5 _ =>
  cS v7_5 fun v8_6 =>
  aW x0 fun v9_7 =>
  vFA 0 v9_7 fun v10_8 =>
  vFA 1 v10_8 fun v11_9 =>
  aM (.store 1) [v11_9, v8_6] H ((c + 10) :: p) (fun v_10 H10 l10 f10 =>
  Q .normal [] H10 (c + 11))
theorem vt44 (P : Program) (p : Lab) (Q : aA) (x0 : AV) (H : aB) (c : Nat) : vc P p c44.body Q [(0, x0)] H c = V44 P p Q x0 H c := by kernel_rfl


/-- (*duet/edit.work).left -/
def c45 : AFun := ⟨1, 18, [],
  (.region [⟨(some 2), none, .move, [.t 0]⟩, ⟨(some 3), none, .move, [.t 0]⟩, ⟨(some 4), none, .nilCheck, [.t 3]⟩, ⟨(some 5), none, (.fieldAddr 0), [.t 4]⟩, ⟨(some 6), none, (.fieldAddr 0), [.t 5]⟩, ⟨(some 7), none, (.load 1 false), [.t 6]⟩, ⟨(some 8), none, .move, [.t 0]⟩, ⟨(some 9), none, .nilCheck, [.t 8]⟩, ⟨(some 10), none, (.fieldAddr 0), [.t 9]⟩, ⟨(some 11), none, (.fieldAddr 1), [.t 10]⟩, ⟨(some 12), none, (.load 1 false), [.t 11]⟩, ⟨(some 13), none, (.bin .sub .num), [.t 12, .c (.int .i64 1)]⟩, ⟨(some 14), none, .call, [.c (.fn (.func 26) [] []), .t 7, .t 13]⟩, ⟨(some 15), none, .nilCheck, [.t 2]⟩, ⟨(some 16), none, (.fieldAddr 0), [.t 15]⟩, ⟨(some 17), none, (.fieldAddr 1), [.t 16]⟩, ⟨none, none, (.store 1), [.t 17, .t 14]⟩] (some [0, 0, 2, 6, 14, 30, 0, 64, 192, 448, 960, 1984, 4094, 8191, 16383, 32767, 65535]) [])⟩
theorem ok45 : FunOk Try.prog 45 c45 := ⟨⟨Try.f45, _, Try.func45, rfl, by kernel_rfl, by kernel_rfl, by kernel_rfl, by kernel_rfl⟩, by decide⟩
theorem XO : c45.res = [] := rfl
def SM (P : Program) (p : Lab) (Q : aA) (l12 : List Lab) (f12 : Option (List Lab)) (f10 : Option (List Lab)) (f5 : Option (List Lab)) (c : Nat) (v_16 : AV) (H16 : aB) (l16 : List Lab) (f16 : Option (List Lab)) : Prop :=
  aI [0, 0, 2, 6, 14, 30, 0, 64, 192, 448, 960, 1984, 4094, 8191, 16383, 32767, 65535] (aH 5 [] ((c + 5) :: p) f5 (aH 10 [] ((c + 10) :: p) f10 (aH 12 l12 ((c + 12) :: p) f12 (aH 16 l16 ((c + 16) :: p) f16 [])))) ∧
  Q .normal [] H16 (c + 17)
def SL (P : Program) (p : Lab) (Q : aA) (f10 : Option (List Lab)) (f5 : Option (List Lab)) (x0 : AV) (c : Nat) (v14_12 : AV) (H12 : aB) (l12 : List Lab) (f12 : Option (List Lab)) : Prop :=
  aW x0 fun v15_13 =>
  vFA 0 v15_13 fun v16_14 =>
  vFA 1 v16_14 fun v17_15 =>
  aM (.store 1) [v17_15, v14_12] H12 ((c + 16) :: p) (SM P p Q l12 f12 f10 f5 c)
def V45 (P : Program) (p : Lab) (Q : aA) (x0 : AV) (H : aB) (c : Nat) : Prop :=
  aW x0 fun v4_2 =>
  vFA 0 v4_2 fun v5_3 =>
  vFA 0 v5_3 fun v6_4 =>
  aF 1 false v6_4 H fun v7_5 f5 =>
  aW x0 fun v9_7 =>
  vFA 0 v9_7 fun v10_8 =>
  vFA 1 v10_8 fun v11_9 =>
  aF 1 false v11_9 H fun v12_10 f10 =>
  aJ .sub .num v12_10 (.int .i64 1) fun v13_11 =>
  aN false P 26 [v7_5, v13_11] H ((c + 12) :: p) (SL P p Q f10 f5 x0 c)
theorem aAf (P : Program) (p : Lab) (Q : aA) (x0 : AV) (H : aB) (c : Nat) : vc P p c45.body Q [(0, x0)] H c = V45 P p Q x0 H c := by kernel_rfl


/-- (*duet/edit.work).right -/
def c46 : AFun := ⟨1, 18, [],
  (.region [⟨(some 2), none, .move, [.t 0]⟩, ⟨(some 3), none, .move, [.t 0]⟩, ⟨(some 4), none, .nilCheck, [.t 3]⟩, ⟨(some 5), none, (.fieldAddr 0), [.t 4]⟩, ⟨(some 6), none, (.fieldAddr 0), [.t 5]⟩, ⟨(some 7), none, (.load 1 false), [.t 6]⟩, ⟨(some 8), none, .move, [.t 0]⟩, ⟨(some 9), none, .nilCheck, [.t 8]⟩, ⟨(some 10), none, (.fieldAddr 0), [.t 9]⟩, ⟨(some 11), none, (.fieldAddr 1), [.t 10]⟩, ⟨(some 12), none, (.load 1 false), [.t 11]⟩, ⟨(some 13), none, (.bin .add .num), [.t 12, .c (.int .i64 1)]⟩, ⟨(some 14), none, .call, [.c (.fn (.func 26) [] []), .t 7, .t 13]⟩, ⟨(some 15), none, .nilCheck, [.t 2]⟩, ⟨(some 16), none, (.fieldAddr 0), [.t 15]⟩, ⟨(some 17), none, (.fieldAddr 1), [.t 16]⟩, ⟨none, none, (.store 1), [.t 17, .t 14]⟩] (some [0, 0, 2, 6, 14, 30, 0, 64, 192, 448, 960, 1984, 4094, 8191, 16383, 32767, 65535]) [])⟩
theorem ok46 : FunOk Try.prog 46 c46 := ⟨⟨Try.f46, _, Try.func46, rfl, by kernel_rfl, by kernel_rfl, by kernel_rfl, by kernel_rfl⟩, by decide⟩
theorem XN : c46.res = [] := rfl
def SK (P : Program) (p : Lab) (Q : aA) (l12 : List Lab) (f12 : Option (List Lab)) (f10 : Option (List Lab)) (f5 : Option (List Lab)) (c : Nat) (v_16 : AV) (H16 : aB) (l16 : List Lab) (f16 : Option (List Lab)) : Prop :=
  aI [0, 0, 2, 6, 14, 30, 0, 64, 192, 448, 960, 1984, 4094, 8191, 16383, 32767, 65535] (aH 5 [] ((c + 5) :: p) f5 (aH 10 [] ((c + 10) :: p) f10 (aH 12 l12 ((c + 12) :: p) f12 (aH 16 l16 ((c + 16) :: p) f16 [])))) ∧
  Q .normal [] H16 (c + 17)
def SJ (P : Program) (p : Lab) (Q : aA) (f10 : Option (List Lab)) (f5 : Option (List Lab)) (x0 : AV) (c : Nat) (v14_12 : AV) (H12 : aB) (l12 : List Lab) (f12 : Option (List Lab)) : Prop :=
  aW x0 fun v15_13 =>
  vFA 0 v15_13 fun v16_14 =>
  vFA 1 v16_14 fun v17_15 =>
  aM (.store 1) [v17_15, v14_12] H12 ((c + 16) :: p) (SK P p Q l12 f12 f10 f5 c)
def V46 (P : Program) (p : Lab) (Q : aA) (x0 : AV) (H : aB) (c : Nat) : Prop :=
  aW x0 fun v4_2 =>
  vFA 0 v4_2 fun v5_3 =>
  vFA 0 v5_3 fun v6_4 =>
  aF 1 false v6_4 H fun v7_5 f5 =>
  aW x0 fun v9_7 =>
  vFA 0 v9_7 fun v10_8 =>
  vFA 1 v10_8 fun v11_9 =>
  aF 1 false v11_9 H fun v12_10 f10 =>
  aJ .add .num v12_10 (.int .i64 1) fun v13_11 =>
  aN false P 26 [v7_5, v13_11] H ((c + 12) :: p) (SJ P p Q f10 f5 x0 c)
theorem aAe (P : Program) (p : Lab) (Q : aA) (x0 : AV) (H : aB) (c : Nat) : vc P p c46.body Q [(0, x0)] H c = V46 P p Q x0 H c := by kernel_rfl


/-- (*duet/edit.work).rub -/
def c47 : AFun := ⟨1, 21, [],
  (.region [⟨(some 2), none, .move, [.t 0]⟩, ⟨(some 3), none, .move, [.t 0]⟩, ⟨(some 4), none, .nilCheck, [.t 3]⟩, ⟨(some 5), none, (.fieldAddr 0), [.t 4]⟩, ⟨(some 6), none, (.fieldAddr 0), [.t 5]⟩, ⟨(some 7), none, (.load 1 false), [.t 6]⟩, ⟨(some 8), none, .move, [.t 0]⟩, ⟨(some 9), none, .nilCheck, [.t 8]⟩, ⟨(some 10), none, (.fieldAddr 0), [.t 9]⟩, ⟨(some 11), none, (.fieldAddr 1), [.t 10]⟩, ⟨(some 12), none, (.load 1 false), [.t 11]⟩, ⟨(some 13), none, (.bin .sub .num), [.t 12, .c (.int .i64 1)]⟩, ⟨(some 14), none, .call, [.c (.fn (.func 26) [] []), .t 7, .t 13]⟩, ⟨(some 15), none, .move, [.t 0]⟩, ⟨(some 16), none, .nilCheck, [.t 15]⟩, ⟨(some 17), none, (.fieldAddr 0), [.t 16]⟩, ⟨(some 18), none, (.fieldAddr 1), [.t 17]⟩, ⟨(some 19), none, (.load 1 false), [.t 18]⟩, ⟨(some 20), none, .call, [.c (.fn (.func 62) [] []), .t 2, .t 14, .t 19]⟩] (some [0, 0, 2, 6, 14, 30, 0, 64, 192, 448, 960, 1984, 4094, 0, 8192, 24576, 57344, 122880, 262143]) [])⟩
theorem ok47 : FunOk Try.prog 47 c47 := ⟨⟨Try.f47, _, Try.func47, rfl, by kernel_rfl, by kernel_rfl, by kernel_rfl, by kernel_rfl⟩, by decide⟩
theorem Q7 : c47.res = [] := rfl
def PX (P : Program) (p : Lab) (Q : aA) (f17 : Option (List Lab)) (l12 : List Lab) (f12 : Option (List Lab)) (f10 : Option (List Lab)) (f5 : Option (List Lab)) (c : Nat) (v20_18 : AV) (H18 : aB) (l18 : List Lab) (f18 : Option (List Lab)) : Prop :=
  aI [0, 0, 2, 6, 14, 30, 0, 64, 192, 448, 960, 1984, 4094, 0, 8192, 24576, 57344, 122880, 262143] (aH 5 [] ((c + 5) :: p) f5 (aH 10 [] ((c + 10) :: p) f10 (aH 12 l12 ((c + 12) :: p) f12 (aH 17 [] ((c + 17) :: p) f17 (aH 18 l18 ((c + 18) :: p) f18 []))))) ∧
  Q .normal [] H18 (c + 19)
def PW (P : Program) (p : Lab) (Q : aA) (f10 : Option (List Lab)) (f5 : Option (List Lab)) (x0 : AV) (c : Nat) (v14_12 : AV) (H12 : aB) (l12 : List Lab) (f12 : Option (List Lab)) : Prop :=
  aW x0 fun v16_14 =>
  vFA 0 v16_14 fun v17_15 =>
  vFA 1 v17_15 fun v18_16 =>
  aF 1 false v18_16 H12 fun v19_17 f17 =>
  aN false P 62 [x0, v14_12, v19_17] H12 ((c + 18) :: p) (PX P p Q f17 l12 f12 f10 f5 c)
def V47 (P : Program) (p : Lab) (Q : aA) (x0 : AV) (H : aB) (c : Nat) : Prop :=
  aW x0 fun v4_2 =>
  vFA 0 v4_2 fun v5_3 =>
  vFA 0 v5_3 fun v6_4 =>
  aF 1 false v6_4 H fun v7_5 f5 =>
  aW x0 fun v9_7 =>
  vFA 0 v9_7 fun v10_8 =>
  vFA 1 v10_8 fun v11_9 =>
  aF 1 false v11_9 H fun v12_10 f10 =>
  aJ .sub .num v12_10 (.int .i64 1) fun v13_11 =>
  aN false P 26 [v7_5, v13_11] H ((c + 12) :: p) (PW P p Q f10 f5 x0 c)
theorem Z1 (P : Program) (p : Lab) (Q : aA) (x0 : AV) (H : aB) (c : Nat) : vc P p c47.body Q [(0, x0)] H c = V47 P p Q x0 H c := by kernel_rfl


/-- (*duet/edit.work).del -/
def c48 : AFun := ⟨1, 21, [],
  (.region [⟨(some 2), none, .move, [.t 0]⟩, ⟨(some 3), none, .move, [.t 0]⟩, ⟨(some 4), none, .nilCheck, [.t 3]⟩, ⟨(some 5), none, (.fieldAddr 0), [.t 4]⟩, ⟨(some 6), none, (.fieldAddr 1), [.t 5]⟩, ⟨(some 7), none, (.load 1 false), [.t 6]⟩, ⟨(some 8), none, .move, [.t 0]⟩, ⟨(some 9), none, .nilCheck, [.t 8]⟩, ⟨(some 10), none, (.fieldAddr 0), [.t 9]⟩, ⟨(some 11), none, (.fieldAddr 0), [.t 10]⟩, ⟨(some 12), none, (.load 1 false), [.t 11]⟩, ⟨(some 13), none, .move, [.t 0]⟩, ⟨(some 14), none, .nilCheck, [.t 13]⟩, ⟨(some 15), none, (.fieldAddr 0), [.t 14]⟩, ⟨(some 16), none, (.fieldAddr 1), [.t 15]⟩, ⟨(some 17), none, (.load 1 false), [.t 16]⟩, ⟨(some 18), none, (.bin .add .num), [.t 17, .c (.int .i64 1)]⟩, ⟨(some 19), none, .call, [.c (.fn (.func 26) [] []), .t 12, .t 18]⟩, ⟨(some 20), none, .call, [.c (.fn (.func 62) [] []), .t 2, .t 7, .t 19]⟩] (some [0, 0, 2, 6, 14, 30, 0, 64, 192, 448, 960, 0, 2048, 6144, 14336, 30720, 63488, 131008, 262143]) [])⟩
theorem ok48 : FunOk Try.prog 48 c48 := ⟨⟨Try.f48, _, Try.func48, rfl, by kernel_rfl, by kernel_rfl, by kernel_rfl, by kernel_rfl⟩, by decide⟩
theorem Q6 : c48.res = [] := rfl
def PV (P : Program) (p : Lab) (Q : aA) (l17 : List Lab) (f17 : Option (List Lab)) (f15 : Option (List Lab)) (f10 : Option (List Lab)) (f5 : Option (List Lab)) (c : Nat) (v20_18 : AV) (H18 : aB) (l18 : List Lab) (f18 : Option (List Lab)) : Prop :=
  aI [0, 0, 2, 6, 14, 30, 0, 64, 192, 448, 960, 0, 2048, 6144, 14336, 30720, 63488, 131008, 262143] (aH 5 [] ((c + 5) :: p) f5 (aH 10 [] ((c + 10) :: p) f10 (aH 15 [] ((c + 15) :: p) f15 (aH 17 l17 ((c + 17) :: p) f17 (aH 18 l18 ((c + 18) :: p) f18 []))))) ∧
  Q .normal [] H18 (c + 19)
def PU (P : Program) (p : Lab) (Q : aA) (f15 : Option (List Lab)) (f10 : Option (List Lab)) (v7_5 : AV) (f5 : Option (List Lab)) (x0 : AV) (c : Nat) (v19_17 : AV) (H17 : aB) (l17 : List Lab) (f17 : Option (List Lab)) : Prop :=
  aN false P 62 [x0, v7_5, v19_17] H17 ((c + 18) :: p) (PV P p Q l17 f17 f15 f10 f5 c)
def V48 (P : Program) (p : Lab) (Q : aA) (x0 : AV) (H : aB) (c : Nat) : Prop :=
  aW x0 fun v4_2 =>
  vFA 0 v4_2 fun v5_3 =>
  vFA 1 v5_3 fun v6_4 =>
  aF 1 false v6_4 H fun v7_5 f5 =>
  aW x0 fun v9_7 =>
  vFA 0 v9_7 fun v10_8 =>
  vFA 0 v10_8 fun v11_9 =>
  aF 1 false v11_9 H fun v12_10 f10 =>
  aW x0 fun v14_12 =>
  vFA 0 v14_12 fun v15_13 =>
  vFA 1 v15_13 fun v16_14 =>
  aF 1 false v16_14 H fun v17_15 f15 =>
  aJ .add .num v17_15 (.int .i64 1) fun v18_16 =>
  aN false P 26 [v12_10, v18_16] H ((c + 17) :: p) (PU P p Q f15 f10 v7_5 f5 x0 c)
theorem Z0 (P : Program) (p : Lab) (Q : aA) (x0 : AV) (H : aB) (c : Nat) : vc P p c48.body Q [(0, x0)] H c = V48 P p Q x0 H c := by kernel_rfl


/-- (*duet/edit.work).killOn -/
def c49 : AFun := ⟨1, 15, [],
  (.region [⟨(some 2), none, .move, [.t 0]⟩, ⟨(some 3), none, .move, [.t 0]⟩, ⟨(some 4), none, .nilCheck, [.t 3]⟩, ⟨(some 5), none, (.fieldAddr 0), [.t 4]⟩, ⟨(some 6), none, (.fieldAddr 1), [.t 5]⟩, ⟨(some 7), none, (.load 1 false), [.t 6]⟩, ⟨(some 8), none, .move, [.t 0]⟩, ⟨(some 9), none, .nilCheck, [.t 8]⟩, ⟨(some 10), none, (.fieldAddr 0), [.t 9]⟩, ⟨(some 11), none, (.fieldAddr 0), [.t 10]⟩, ⟨(some 12), none, (.load 1 false), [.t 11]⟩, ⟨(some 13), none, (.len .slice), [.t 12]⟩, ⟨(some 14), none, .call, [.c (.fn (.func 63) [] []), .t 2, .t 7, .t 13]⟩] (some [0, 0, 2, 6, 14, 30, 0, 64, 192, 448, 960, 1984, 4095]) [])⟩
theorem ok49 : FunOk Try.prog 49 c49 := ⟨⟨Try.f49, _, Try.func49, rfl, by kernel_rfl, by kernel_rfl, by kernel_rfl, by kernel_rfl⟩, by decide⟩
theorem XM : c49.res = [] := rfl
def SI (P : Program) (p : Lab) (Q : aA) (f10 : Option (List Lab)) (f5 : Option (List Lab)) (c : Nat) (v14_12 : AV) (H12 : aB) (l12 : List Lab) (f12 : Option (List Lab)) : Prop :=
  aI [0, 0, 2, 6, 14, 30, 0, 64, 192, 448, 960, 1984, 4095] (aH 5 [] ((c + 5) :: p) f5 (aH 10 [] ((c + 10) :: p) f10 (aH 12 l12 ((c + 12) :: p) f12 []))) ∧
  Q .normal [] H12 (c + 13)
def V49 (P : Program) (p : Lab) (Q : aA) (x0 : AV) (H : aB) (c : Nat) : Prop :=
  aW x0 fun v4_2 =>
  vFA 0 v4_2 fun v5_3 =>
  vFA 1 v5_3 fun v6_4 =>
  aF 1 false v6_4 H fun v7_5 f5 =>
  aW x0 fun v9_7 =>
  vFA 0 v9_7 fun v10_8 =>
  vFA 0 v10_8 fun v11_9 =>
  aF 1 false v11_9 H fun v12_10 f10 =>
  cS v12_10 fun v13_11 =>
  aN false P 63 [x0, v7_5, v13_11] H ((c + 12) :: p) (SI P p Q f10 f5 c)
theorem aAd (P : Program) (p : Lab) (Q : aA) (x0 : AV) (H : aB) (c : Nat) : vc P p c49.body Q [(0, x0)] H c = V49 P p Q x0 H c := by kernel_rfl


/-- (*duet/edit.work).killBack -/
def c50 : AFun := ⟨1, 9, [],
  (.region [⟨(some 2), none, .move, [.t 0]⟩, ⟨(some 3), none, .move, [.t 0]⟩, ⟨(some 4), none, .nilCheck, [.t 3]⟩, ⟨(some 5), none, (.fieldAddr 0), [.t 4]⟩, ⟨(some 6), none, (.fieldAddr 1), [.t 5]⟩, ⟨(some 7), none, (.load 1 false), [.t 6]⟩, ⟨(some 8), none, .call, [.c (.fn (.func 63) [] []), .t 2, .c (.int .i64 0), .t 7]⟩] none [])⟩
theorem ok50 : FunOk Try.prog 50 c50 := ⟨⟨Try.f50, _, Try.func50, rfl, by kernel_rfl, by kernel_rfl, by kernel_rfl, by kernel_rfl⟩, by decide⟩
theorem res50 : c50.res = [] := rfl
def V50 (P : Program) (p : Lab) (Q : aA) (x0 : AV) (H : aB) (c : Nat) : Prop :=
  aW x0 fun v4_2 =>
  vFA 0 v4_2 fun v5_3 =>
  vFA 1 v5_3 fun v6_4 =>
  aF 1 false v6_4 H fun v7_5 _ =>
  aN true P 63 [x0, (.int .i64 0), v7_5] H ((c + 6) :: p) (fun v8_6 H6 l6 f6 =>
  Q .normal [] H6 (c + 7))
theorem vt50 (P : Program) (p : Lab) (Q : aA) (x0 : AV) (H : aB) (c : Nat) : vc P p c50.body Q [(0, x0)] H c = V50 P p Q x0 H c := by kernel_rfl


/-- (*duet/edit.work).killWord -/
def c51 : AFun := ⟨1, 20, [],
  (.region [⟨(some 2), none, .move, [.t 0]⟩, ⟨(some 3), none, .move, [.t 0]⟩, ⟨(some 4), none, .nilCheck, [.t 3]⟩, ⟨(some 5), none, (.fieldAddr 0), [.t 4]⟩, ⟨(some 6), none, (.fieldAddr 0), [.t 5]⟩, ⟨(some 7), none, (.load 1 false), [.t 6]⟩, ⟨(some 8), none, .move, [.t 0]⟩, ⟨(some 9), none, .nilCheck, [.t 8]⟩, ⟨(some 10), none, (.fieldAddr 0), [.t 9]⟩, ⟨(some 11), none, (.fieldAddr 1), [.t 10]⟩, ⟨(some 12), none, (.load 1 false), [.t 11]⟩, ⟨(some 13), none, .call, [.c (.fn (.func 22) [] []), .t 7, .t 12, .c (.bool true)]⟩, ⟨(some 14), none, .move, [.t 0]⟩, ⟨(some 15), none, .nilCheck, [.t 14]⟩, ⟨(some 16), none, (.fieldAddr 0), [.t 15]⟩, ⟨(some 17), none, (.fieldAddr 1), [.t 16]⟩, ⟨(some 18), none, (.load 1 false), [.t 17]⟩, ⟨(some 19), none, .call, [.c (.fn (.func 63) [] []), .t 2, .t 13, .t 18]⟩] (some [0, 0, 2, 6, 14, 30, 0, 64, 192, 448, 960, 2046, 0, 4096, 12288, 28672, 61440, 131071]) [])⟩
theorem ok51 : FunOk Try.prog 51 c51 := ⟨⟨Try.f51, _, Try.func51, rfl, by kernel_rfl, by kernel_rfl, by kernel_rfl, by kernel_rfl⟩, by decide⟩
theorem Q5 : c51.res = [] := rfl
def PT (P : Program) (p : Lab) (Q : aA) (f16 : Option (List Lab)) (l11 : List Lab) (f11 : Option (List Lab)) (f10 : Option (List Lab)) (f5 : Option (List Lab)) (c : Nat) (v19_17 : AV) (H17 : aB) (l17 : List Lab) (f17 : Option (List Lab)) : Prop :=
  aI [0, 0, 2, 6, 14, 30, 0, 64, 192, 448, 960, 2046, 0, 4096, 12288, 28672, 61440, 131071] (aH 5 [] ((c + 5) :: p) f5 (aH 10 [] ((c + 10) :: p) f10 (aH 11 l11 ((c + 11) :: p) f11 (aH 16 [] ((c + 16) :: p) f16 (aH 17 l17 ((c + 17) :: p) f17 []))))) ∧
  Q .normal [] H17 (c + 18)
def PS (P : Program) (p : Lab) (Q : aA) (f10 : Option (List Lab)) (f5 : Option (List Lab)) (x0 : AV) (c : Nat) (v13_11 : AV) (H11 : aB) (l11 : List Lab) (f11 : Option (List Lab)) : Prop :=
  aW x0 fun v15_13 =>
  vFA 0 v15_13 fun v16_14 =>
  vFA 1 v16_14 fun v17_15 =>
  aF 1 false v17_15 H11 fun v18_16 f16 =>
  aN false P 63 [x0, v13_11, v18_16] H11 ((c + 17) :: p) (PT P p Q f16 l11 f11 f10 f5 c)
def V51 (P : Program) (p : Lab) (Q : aA) (x0 : AV) (H : aB) (c : Nat) : Prop :=
  aW x0 fun v4_2 =>
  vFA 0 v4_2 fun v5_3 =>
  vFA 0 v5_3 fun v6_4 =>
  aF 1 false v6_4 H fun v7_5 f5 =>
  aW x0 fun v9_7 =>
  vFA 0 v9_7 fun v10_8 =>
  vFA 1 v10_8 fun v11_9 =>
  aF 1 false v11_9 H fun v12_10 f10 =>
  aN false P 22 [v7_5, v12_10, (.bool true)] H ((c + 11) :: p) (PS P p Q f10 f5 x0 c)
theorem ZZ (P : Program) (p : Lab) (Q : aA) (x0 : AV) (H : aB) (c : Nat) : vc P p c51.body Q [(0, x0)] H c = V51 P p Q x0 H c := by kernel_rfl

def ZH : ACode := (.seq (.region [⟨(some 11), none, (.bin .lss .num), [.t 10, .t 9]⟩] none [0, 8, 9, 10, 11])
  (.seq (.cond (.t 11) .skip
  (.exit 0))
  (.seq (.block 1 (.seq (.region [⟨(some 12), none, (.indexAddr 1), [.t 8, .t 10]⟩, ⟨(some 13), none, (.load 1 false), [.t 12]⟩, ⟨(some 3), none, .move, [.t 13]⟩] none [0, 3, 8, 9, 10])
  (.seq (.region [⟨(some 14), none, .move, [.t 0]⟩, ⟨(some 15), none, .move, [.t 3]⟩, ⟨(some 16), none, .call, [.c (.fn (.func 27) [] []), .t 14, .t 15]⟩, ⟨(some 17), none, (.un .not), [.t 16]⟩] none [0, 8, 9, 10, 17])
  (.cond (.t 17) (.exit 0)
  .skip))))
  (.region [⟨(some 18), none, (.bin .add .num), [.t 10, .c (.int .i64 1)]⟩, ⟨(some 10), none, .move, [.t 18]⟩] none [0, 8, 9, 10]))))
def XW : ACode := .loop [0, 8, 9, 10] ZH
/-- (*duet/edit.work).yank -/
def c52 : AFun := ⟨1, 19, [],
  (.seq (.region [⟨(some 4), none, .move, [.t 0]⟩, ⟨(some 5), none, .nilCheck, [.t 4]⟩, ⟨(some 6), none, (.fieldAddr 0), [.t 5]⟩, ⟨(some 7), none, (.fieldAddr 2), [.t 6]⟩, ⟨(some 8), none, (.load 1 false), [.t 7]⟩, ⟨(some 9), none, (.len .slice), [.t 8]⟩, ⟨(some 10), none, .move, [.c (.int .i64 0)]⟩] none [0, 8, 9, 10])
  (.block 0 XW))⟩
theorem ok52 : FunOk Try.prog 52 c52 := ⟨⟨Try.f52, _, Try.func52, rfl, by kernel_rfl, by kernel_rfl, by kernel_rfl, by kernel_rfl⟩, by decide⟩
theorem MB : c52.res = [] := rfl
def RC (P : Program) (p : Lab) (Q : aA) : aA := (jO 0 Q)
theorem wU (P : Program) (p : Lab) (Q : aA) (r : RL) (H : aB) (c : Nat) : RC P p Q .ret r H c = Q .ret r H c := rfl
def V52 (P : Program) (p : Lab) (Q : aA) (x0 : AV) (H : aB) (c : Nat) : Prop :=
  aW x0 fun v5_1 =>
  vFA 0 v5_1 fun v6_2 =>
  vFA 2 v6_2 fun v7_3 =>
  aF 1 false v7_3 H fun v8_4 _ =>
  cS v8_4 fun v9_5 =>
  vc P p XW (RC P p Q) [(0, x0), (8, v8_4), (9, v9_5), (10, (.int .i64 0))] H (c + 7)
theorem QN (P : Program) (p : Lab) (Q : aA) (x0 : AV) (H : aB) (c : Nat) : vc P p c52.body Q [(0, x0)] H c = V52 P p Q x0 H c := by kernel_rfl
def J4 (P : Program) (p : Lab) (Q : aA) (y0 : AV) (y8 : AV) (y9 : AV) (y10 : AV) (y17 : AV) (H : aB) (c : Nat) : Prop :=
  aJ .add .num y10 (.int .i64 1) fun v18_15 =>
  Q .normal [(0, y0), (8, y8), (9, y9), (10, v18_15)] H (c + 2)
def J3 (P : Program) (p : Lab) (Q : aA) (v17_14 : AV) (H13 : aB) (y0 : AV) (y8 : AV) (y9 : AV) (y10 : AV) (c : Nat) (_ : Unit) : Prop :=
  (J4 P p Q y0 y8 y9 y10 v17_14 H13 (c + 7))
def J2 (P : Program) (p : Lab) (Q : aA) (y0 : AV) (y8 : AV) (y9 : AV) (y10 : AV) (c : Nat) (v16_13 : AV) (H13 : aB) (l13 : List Lab) (f13 : Option (List Lab)) : Prop :=
  xU v16_13 fun v17_14 =>
  aL v17_14
  (fun _ =>
  Q (.exit 0) [(0, y0), (8, y8), (9, y9), (10, y10), (17, v17_14)] H13 (c + 7))
  (J3 P p Q v17_14 H13 y0 y8 y9 y10 c)
def J5 (P : Program) (p : Lab) (Q : aA) (y0 : AV) (y8 : AV) (y9 : AV) (y10 : AV) (y11 : AV) (H : aB) (c : Nat) : Prop :=
  vIx 1 y8 y10 fun v12_8 =>
  aF 1 false v12_8 H fun v13_9 _ =>
  aN true P 27 [y0, v13_9] H ((c + 5) :: p) (J2 P p Q y0 y8 y9 y10 c)
def J1 (P : Program) (p : Lab) (Q : aA) (v11_7 : AV) (x0 : AV) (x8 : AV) (x9 : AV) (x10 : AV) (H : aB) (c : Nat) (_ : Unit) : Prop :=
  (J5 P p Q x0 x8 x9 x10 v11_7 H (c + 1))
def K5 (P : Program) (p : Lab) (Q : aA) (x0 x8 x9 x10 : AV) (H : aB) (c : Nat) : Prop :=
  aJ .lss .num x10 x9 fun v11_7 =>
  aL v11_7
  (J1 P p Q v11_7 x0 x8 x9 x10 H c)
  (fun _ =>
  Q (.exit 0) [(0, x0), (8, x8), (9, x9), (10, x10), (11, v11_7)] H (c + 1))
theorem GP (P : Program) (p : Lab) (Q : aA) (x0 x8 x9 x10 : AV) (H : aB) (c : Nat) : vc P p ZH Q [(0, x0), (8, x8), (9, x9), (10, x10)] H c = K5 P p Q x0 x8 x9 x10 H c := by kernel_rfl
theorem zQ (P : Program) (p : Lab) (Q : aA) (r : RL) (H : aB) (c : Nat) : RC P p Q (.exit 0) r H c = (Q .normal r H c) := rfl


/-- (*duet/edit.work).swap -/
def c53 : AFun := ⟨1, 67, [],
  (.seq (.seq (.region [⟨(some 4), none, .move, [.t 0]⟩, ⟨(some 5), none, .nilCheck, [.t 4]⟩, ⟨(some 6), none, (.fieldAddr 0), [.t 5]⟩, ⟨(some 7), none, (.fieldAddr 0), [.t 6]⟩, ⟨(some 8), none, (.load 1 false), [.t 7]⟩, ⟨(some 9), none, (.len .slice), [.t 8]⟩, ⟨(some 10), none, (.bin .lss .num), [.t 9, .c (.int .i64 2)]⟩, ⟨(some 11), none, .move, [.t 10]⟩, ⟨(some 12), (some (11, false)), .move, [.t 0]⟩, ⟨(some 13), (some (11, false)), .nilCheck, [.t 12]⟩, ⟨(some 14), (some (11, false)), (.fieldAddr 0), [.t 13]⟩, ⟨(some 15), (some (11, false)), (.fieldAddr 1), [.t 14]⟩, ⟨(some 16), (some (11, false)), (.load 1 false), [.t 15]⟩, ⟨(some 17), (some (11, false)), (.bin .eql .num), [.t 16, .c (.int .i64 0)]⟩, ⟨(some 18), none, .pick, [.t 11, .c (.bool true), .t 17]⟩] none [0, 18])
  (.cond (.t 18) .ret
  .skip))
  (.seq (.region [⟨(some 19), none, .move, [.t 0]⟩, ⟨(some 20), none, .nilCheck, [.t 19]⟩, ⟨(some 21), none, (.fieldAddr 0), [.t 20]⟩, ⟨(some 22), none, (.fieldAddr 1), [.t 21]⟩, ⟨(some 23), none, (.load 1 false), [.t 22]⟩, ⟨(some 24), none, .move, [.t 0]⟩, ⟨(some 25), none, .nilCheck, [.t 24]⟩, ⟨(some 26), none, (.fieldAddr 0), [.t 25]⟩, ⟨(some 27), none, (.fieldAddr 0), [.t 26]⟩, ⟨(some 28), none, (.load 1 false), [.t 27]⟩, ⟨(some 29), none, (.len .slice), [.t 28]⟩, ⟨(some 30), none, (.bin .sub .num), [.t 29, .c (.int .i64 1)]⟩, ⟨(some 31), none, .min, [.t 23, .t 30]⟩, ⟨(some 2), none, .move, [.t 31]⟩] (some [0, 1, 3, 7, 15, 0, 32, 96, 224, 480, 992, 2016, 4095, 8191]) [0, 2])
  (.seq (.seq (.region [⟨(some 32), none, .move, [.t 0]⟩, ⟨(some 33), none, .nilCheck, [.t 32]⟩, ⟨(some 34), none, (.fieldAddr 0), [.t 33]⟩, ⟨(some 35), none, (.fieldAddr 0), [.t 34]⟩, ⟨(some 36), none, (.load 1 false), [.t 35]⟩, ⟨(some 37), none, (.len .slice), [.t 36]⟩, ⟨(some 38), none, (.bin .gtr .num), [.t 37, .c (.int .i64 1000)]⟩, ⟨(some 39), none, .move, [.t 38]⟩, ⟨(some 40), (some (39, false)), .move, [.t 0]⟩, ⟨(some 41), (some (39, false)), .nilCheck, [.t 40]⟩, ⟨(some 42), (some (39, false)), (.fieldAddr 0), [.t 41]⟩, ⟨(some 43), (some (39, false)), (.fieldAddr 0), [.t 42]⟩, ⟨(some 44), (some (39, false)), (.load 1 false), [.t 43]⟩, ⟨(some 45), (some (39, false)), .move, [.t 2]⟩, ⟨(some 46), (some (39, false)), (.bin .sub .num), [.t 45, .c (.int .i64 1)]⟩, ⟨(some 47), (some (39, false)), (.indexAddr 1), [.t 44, .t 46]⟩, ⟨(some 48), (some (39, false)), (.load 1 false), [.t 47]⟩, ⟨(some 49), (some (39, false)), .call, [.c (.fn (.func 40) [] []), .t 48]⟩, ⟨(some 50), (some (39, false)), (.un .not), [.t 49]⟩, ⟨(some 51), none, .pick, [.t 39, .c (.bool true), .t 50]⟩] none [0, 2, 51])
  (.cond (.t 51) .ret
  .skip))
  (.seq (.region [⟨(some 52), none, .move, [.t 0]⟩, ⟨(some 53), none, .move, [.t 2]⟩, ⟨(some 54), none, (.bin .sub .num), [.t 53, .c (.int .i64 1)]⟩, ⟨(some 55), none, .move, [.t 2]⟩, ⟨(some 56), none, .call, [.c (.fn (.func 62) [] []), .t 52, .t 54, .t 55]⟩, ⟨(some 3), none, .move, [.t 56]⟩] none [0, 2, 3])
  (.seq (.region [⟨(some 57), none, .move, [.t 0]⟩, ⟨(some 58), none, .move, [.t 2]⟩, ⟨(some 59), none, .nilCheck, [.t 57]⟩, ⟨(some 60), none, (.fieldAddr 0), [.t 59]⟩, ⟨(some 61), none, (.fieldAddr 1), [.t 60]⟩, ⟨none, none, (.store 1), [.t 61, .t 58]⟩] none [0, 3])
  (.region [⟨(some 62), none, .move, [.t 0]⟩, ⟨(some 63), none, .move, [.t 3]⟩, ⟨(some 64), none, (.indexAddr 1), [.t 63, .c (.int .i64 0)]⟩, ⟨(some 65), none, (.load 1 false), [.t 64]⟩, ⟨(some 66), none, .call, [.c (.fn (.func 27) [] []), .t 62, .t 65]⟩] none []))))))⟩
theorem ok53 : FunOk Try.prog 53 c53 := ⟨⟨Try.f53, _, Try.func53, rfl, by kernel_rfl, by kernel_rfl, by kernel_rfl, by kernel_rfl⟩, by decide⟩
theorem CH : c53.res = [] := rfl
def BE (P : Program) (p : Lab) (Q : aA) (y0 : AV) (H : aB) (c : Nat) : Prop :=
  Q .ret [(0, y0), (18, (.bool true))] H c
def BD (P : Program) (p : Lab) (Q : aA) (x0 : AV) (H : aB) (c : Nat) (_ : Unit) : Prop :=
  (BE P p Q x0 H (c + 15))
def BA (P : Program) (p : Lab) (Q : aA) (y0 : AV) (y2 : AV) (H : aB) (c : Nat) : Prop :=
  Q .ret [(0, y0), (2, y2), (51, (.bool true))] H c
def A9 (P : Program) (p : Lab) (Q : aA) (v31_28 : AV) (y0 : AV) (H : aB) (c : Nat) (_ : Unit) : Prop :=
  (BA P p Q y0 v31_28 H (c + 34))
def A6 (P : Program) (p : Lab) (Q : aA) (v56_55 : AV) (y0 : AV) (c : Nat) (v_62 : AV) (H62 : aB) (l62 : List Lab) (f62 : Option (List Lab)) : Prop :=
  vIx 1 v56_55 (.int .i64 0) fun v64_65 =>
  aF 1 false v64_65 H62 fun v65_66 _ =>
  aN true P 27 [y0, v65_66] H62 ((c + 16) :: p) (fun v66_67 H67 l67 f67 =>
  Q .normal [] H67 (c + 17))
def A5 (P : Program) (p : Lab) (Q : aA) (y0 : AV) (y2 : AV) (c : Nat) (v56_55 : AV) (H55 : aB) (l55 : List Lab) (f55 : Option (List Lab)) : Prop :=
  aW y0 fun v59_59 =>
  vFA 0 v59_59 fun v60_60 =>
  vFA 1 v60_60 fun v61_61 =>
  aM (.store 1) [v61_61, y2] H55 ((c + 11) :: p) (A6 P p Q v56_55 y0 c)
def A7 (P : Program) (p : Lab) (Q : aA) (y0 : AV) (y2 : AV) (y51 : AV) (H : aB) (c : Nat) : Prop :=
  aJ .sub .num y2 (.int .i64 1) fun v54_53 =>
  aN true P 62 [y0, v54_53, y2] H ((c + 4) :: p) (A5 P p Q y0 y2 c)
def uA (P : Program) (p : Lab) (Q : aA) (y0 : AV) (y2 : AV) (y51 : AV) (H : aB) (c : Nat) (_ : Unit) : Prop :=
  (A7 P p Q y0 y2 y51 H c)
def A8 (P : Program) (p : Lab) (Q : aA) (y0 : AV) (y2 : AV) (y51 : AV) (H : aB) (c : Nat) : Prop :=
  aL y51
  (fun _ =>
  Q .ret [(0, y0), (2, y2), (51, y51)] H c)
  (uA P p Q y0 y2 y51 H c)
def t9 (P : Program) (p : Lab) (Q : aA) (v31_28 : AV) (y0 : AV) (c : Nat) (v49_48 : AV) (H48 : aB) (l48 : List Lab) (f48 : Option (List Lab)) : Prop :=
  xU v49_48 fun v50_49 =>
  (A8 P p Q y0 v31_28 v50_49 H48 (c + 34))
def t8 (P : Program) (p : Lab) (Q : aA) (v31_28 : AV) (y0 : AV) (H : aB) (c : Nat) (_ : Unit) : Prop :=
  aW y0 fun v41_40 =>
  vFA 0 v41_40 fun v42_41 =>
  vFA 0 v42_41 fun v43_42 =>
  aF 1 false v43_42 H fun v44_43 _ =>
  aJ .sub .num v31_28 (.int .i64 1) fun v46_45 =>
  vIx 1 v44_43 v46_45 fun v47_46 =>
  aF 1 false v47_46 H fun v48_47 _ =>
  aN false P 40 [v48_47] H ((c + 31) :: p) (t9 P p Q v31_28 y0 c)
def BB (P : Program) (p : Lab) (Q : aA) (y0 : AV) (y18 : AV) (H : aB) (c : Nat) : Prop :=
  aW y0 fun v20_17 =>
  vFA 0 v20_17 fun v21_18 =>
  vFA 1 v21_18 fun v22_19 =>
  aF 1 false v22_19 H fun v23_20 f20 =>
  aW y0 fun v25_22 =>
  vFA 0 v25_22 fun v26_23 =>
  vFA 0 v26_23 fun v27_24 =>
  aF 1 false v27_24 H fun v28_25 f25 =>
  cS v28_25 fun v29_26 =>
  aJ .sub .num v29_26 (.int .i64 1) fun v30_27 =>
  I2 v23_20 v30_27 fun v31_28 =>
  aI [0, 1, 3, 7, 15, 0, 32, 96, 224, 480, 992, 2016, 4095, 8191] (aH 4 [] ((c + 4) :: p) f20 (aH 9 [] ((c + 9) :: p) f25 [])) ∧
  aW y0 fun v33_31 =>
  vFA 0 v33_31 fun v34_32 =>
  vFA 0 v34_32 fun v35_33 =>
  aF 1 false v35_33 H fun v36_34 _ =>
  cS v36_34 fun v37_35 =>
  aJ .gtr .num v37_35 (.int .i64 1000) fun v38_36 =>
  aL v38_36
  (A9 P p Q v31_28 y0 H c)
  (t8 P p Q v31_28 y0 H c)
def t7 (P : Program) (p : Lab) (Q : aA) (y0 : AV) (y18 : AV) (H : aB) (c : Nat) (_ : Unit) : Prop :=
  (BB P p Q y0 y18 H c)
def BC (P : Program) (p : Lab) (Q : aA) (y0 : AV) (y18 : AV) (H : aB) (c : Nat) : Prop :=
  aL y18
  (fun _ =>
  Q .ret [(0, y0), (18, y18)] H c)
  (t7 P p Q y0 y18 H c)
def t6 (P : Program) (p : Lab) (Q : aA) (x0 : AV) (H : aB) (c : Nat) (_ : Unit) : Prop :=
  aW x0 fun v13_10 =>
  vFA 0 v13_10 fun v14_11 =>
  vFA 1 v14_11 fun v15_12 =>
  aF 1 false v15_12 H fun v16_13 _ =>
  aJ .eql .num v16_13 (.int .i64 0) fun v17_14 =>
  (BC P p Q x0 v17_14 H (c + 15))
def V53 (P : Program) (p : Lab) (Q : aA) (x0 : AV) (H : aB) (c : Nat) : Prop :=
  aW x0 fun v5_1 =>
  vFA 0 v5_1 fun v6_2 =>
  vFA 0 v6_2 fun v7_3 =>
  aF 1 false v7_3 H fun v8_4 _ =>
  cS v8_4 fun v9_5 =>
  aJ .lss .num v9_5 (.int .i64 2) fun v10_6 =>
  aL v10_6
  (BD P p Q x0 H c)
  (t6 P p Q x0 H c)
theorem IZ (P : Program) (p : Lab) (Q : aA) (x0 : AV) (H : aB) (c : Nat) : vc P p c53.body Q [(0, x0)] H c = V53 P p Q x0 H c := by kernel_rfl


/-- (*duet/edit.work).wordBack -/
def c54 : AFun := ⟨1, 17, [],
  (.region [⟨(some 2), none, .move, [.t 0]⟩, ⟨(some 3), none, .move, [.t 0]⟩, ⟨(some 4), none, .nilCheck, [.t 3]⟩, ⟨(some 5), none, (.fieldAddr 0), [.t 4]⟩, ⟨(some 6), none, (.fieldAddr 0), [.t 5]⟩, ⟨(some 7), none, (.load 1 false), [.t 6]⟩, ⟨(some 8), none, .move, [.t 0]⟩, ⟨(some 9), none, .nilCheck, [.t 8]⟩, ⟨(some 10), none, (.fieldAddr 0), [.t 9]⟩, ⟨(some 11), none, (.fieldAddr 1), [.t 10]⟩, ⟨(some 12), none, (.load 1 false), [.t 11]⟩, ⟨(some 13), none, .call, [.c (.fn (.func 22) [] []), .t 7, .t 12, .c (.bool true)]⟩, ⟨(some 14), none, .nilCheck, [.t 2]⟩, ⟨(some 15), none, (.fieldAddr 0), [.t 14]⟩, ⟨(some 16), none, (.fieldAddr 1), [.t 15]⟩, ⟨none, none, (.store 1), [.t 16, .t 13]⟩] (some [0, 0, 2, 6, 14, 30, 0, 64, 192, 448, 960, 2046, 4095, 8191, 16383, 32767]) [])⟩
theorem ok54 : FunOk Try.prog 54 c54 := ⟨⟨Try.f54, _, Try.func54, rfl, by kernel_rfl, by kernel_rfl, by kernel_rfl, by kernel_rfl⟩, by decide⟩
theorem XL : c54.res = [] := rfl
def SH (P : Program) (p : Lab) (Q : aA) (l11 : List Lab) (f11 : Option (List Lab)) (f10 : Option (List Lab)) (f5 : Option (List Lab)) (c : Nat) (v_15 : AV) (H15 : aB) (l15 : List Lab) (f15 : Option (List Lab)) : Prop :=
  aI [0, 0, 2, 6, 14, 30, 0, 64, 192, 448, 960, 2046, 4095, 8191, 16383, 32767] (aH 5 [] ((c + 5) :: p) f5 (aH 10 [] ((c + 10) :: p) f10 (aH 11 l11 ((c + 11) :: p) f11 (aH 15 l15 ((c + 15) :: p) f15 [])))) ∧
  Q .normal [] H15 (c + 16)
def SG (P : Program) (p : Lab) (Q : aA) (f10 : Option (List Lab)) (f5 : Option (List Lab)) (x0 : AV) (c : Nat) (v13_11 : AV) (H11 : aB) (l11 : List Lab) (f11 : Option (List Lab)) : Prop :=
  aW x0 fun v14_12 =>
  vFA 0 v14_12 fun v15_13 =>
  vFA 1 v15_13 fun v16_14 =>
  aM (.store 1) [v16_14, v13_11] H11 ((c + 15) :: p) (SH P p Q l11 f11 f10 f5 c)
def V54 (P : Program) (p : Lab) (Q : aA) (x0 : AV) (H : aB) (c : Nat) : Prop :=
  aW x0 fun v4_2 =>
  vFA 0 v4_2 fun v5_3 =>
  vFA 0 v5_3 fun v6_4 =>
  aF 1 false v6_4 H fun v7_5 f5 =>
  aW x0 fun v9_7 =>
  vFA 0 v9_7 fun v10_8 =>
  vFA 1 v10_8 fun v11_9 =>
  aF 1 false v11_9 H fun v12_10 f10 =>
  aN false P 22 [v7_5, v12_10, (.bool true)] H ((c + 11) :: p) (SG P p Q f10 f5 x0 c)
theorem aAc (P : Program) (p : Lab) (Q : aA) (x0 : AV) (H : aB) (c : Nat) : vc P p c54.body Q [(0, x0)] H c = V54 P p Q x0 H c := by kernel_rfl


/-- (*duet/edit.work).wordOn -/
def c55 : AFun := ⟨1, 17, [],
  (.region [⟨(some 2), none, .move, [.t 0]⟩, ⟨(some 3), none, .move, [.t 0]⟩, ⟨(some 4), none, .nilCheck, [.t 3]⟩, ⟨(some 5), none, (.fieldAddr 0), [.t 4]⟩, ⟨(some 6), none, (.fieldAddr 0), [.t 5]⟩, ⟨(some 7), none, (.load 1 false), [.t 6]⟩, ⟨(some 8), none, .move, [.t 0]⟩, ⟨(some 9), none, .nilCheck, [.t 8]⟩, ⟨(some 10), none, (.fieldAddr 0), [.t 9]⟩, ⟨(some 11), none, (.fieldAddr 1), [.t 10]⟩, ⟨(some 12), none, (.load 1 false), [.t 11]⟩, ⟨(some 13), none, .call, [.c (.fn (.func 22) [] []), .t 7, .t 12, .c (.bool false)]⟩, ⟨(some 14), none, .nilCheck, [.t 2]⟩, ⟨(some 15), none, (.fieldAddr 0), [.t 14]⟩, ⟨(some 16), none, (.fieldAddr 1), [.t 15]⟩, ⟨none, none, (.store 1), [.t 16, .t 13]⟩] (some [0, 0, 2, 6, 14, 30, 0, 64, 192, 448, 960, 2046, 4095, 8191, 16383, 32767]) [])⟩
theorem ok55 : FunOk Try.prog 55 c55 := ⟨⟨Try.f55, _, Try.func55, rfl, by kernel_rfl, by kernel_rfl, by kernel_rfl, by kernel_rfl⟩, by decide⟩
theorem XK : c55.res = [] := rfl
def SF (P : Program) (p : Lab) (Q : aA) (l11 : List Lab) (f11 : Option (List Lab)) (f10 : Option (List Lab)) (f5 : Option (List Lab)) (c : Nat) (v_15 : AV) (H15 : aB) (l15 : List Lab) (f15 : Option (List Lab)) : Prop :=
  aI [0, 0, 2, 6, 14, 30, 0, 64, 192, 448, 960, 2046, 4095, 8191, 16383, 32767] (aH 5 [] ((c + 5) :: p) f5 (aH 10 [] ((c + 10) :: p) f10 (aH 11 l11 ((c + 11) :: p) f11 (aH 15 l15 ((c + 15) :: p) f15 [])))) ∧
  Q .normal [] H15 (c + 16)
def SE (P : Program) (p : Lab) (Q : aA) (f10 : Option (List Lab)) (f5 : Option (List Lab)) (x0 : AV) (c : Nat) (v13_11 : AV) (H11 : aB) (l11 : List Lab) (f11 : Option (List Lab)) : Prop :=
  aW x0 fun v14_12 =>
  vFA 0 v14_12 fun v15_13 =>
  vFA 1 v15_13 fun v16_14 =>
  aM (.store 1) [v16_14, v13_11] H11 ((c + 15) :: p) (SF P p Q l11 f11 f10 f5 c)
def V55 (P : Program) (p : Lab) (Q : aA) (x0 : AV) (H : aB) (c : Nat) : Prop :=
  aW x0 fun v4_2 =>
  vFA 0 v4_2 fun v5_3 =>
  vFA 0 v5_3 fun v6_4 =>
  aF 1 false v6_4 H fun v7_5 f5 =>
  aW x0 fun v9_7 =>
  vFA 0 v9_7 fun v10_8 =>
  vFA 1 v10_8 fun v11_9 =>
  aF 1 false v11_9 H fun v12_10 f10 =>
  aN false P 22 [v7_5, v12_10, (.bool false)] H ((c + 11) :: p) (SE P p Q f10 f5 x0 c)
theorem aAb (P : Program) (p : Lab) (Q : aA) (x0 : AV) (H : aB) (c : Nat) : vc P p c55.body Q [(0, x0)] H c = V55 P p Q x0 H c := by kernel_rfl


/-- (*duet/edit.work).killNext -/
def c56 : AFun := ⟨1, 20, [],
  (.region [⟨(some 2), none, .move, [.t 0]⟩, ⟨(some 3), none, .move, [.t 0]⟩, ⟨(some 4), none, .nilCheck, [.t 3]⟩, ⟨(some 5), none, (.fieldAddr 0), [.t 4]⟩, ⟨(some 6), none, (.fieldAddr 1), [.t 5]⟩, ⟨(some 7), none, (.load 1 false), [.t 6]⟩, ⟨(some 8), none, .move, [.t 0]⟩, ⟨(some 9), none, .nilCheck, [.t 8]⟩, ⟨(some 10), none, (.fieldAddr 0), [.t 9]⟩, ⟨(some 11), none, (.fieldAddr 0), [.t 10]⟩, ⟨(some 12), none, (.load 1 false), [.t 11]⟩, ⟨(some 13), none, .move, [.t 0]⟩, ⟨(some 14), none, .nilCheck, [.t 13]⟩, ⟨(some 15), none, (.fieldAddr 0), [.t 14]⟩, ⟨(some 16), none, (.fieldAddr 1), [.t 15]⟩, ⟨(some 17), none, (.load 1 false), [.t 16]⟩, ⟨(some 18), none, .call, [.c (.fn (.func 22) [] []), .t 12, .t 17, .c (.bool false)]⟩, ⟨(some 19), none, .call, [.c (.fn (.func 63) [] []), .t 2, .t 7, .t 18]⟩] (some [0, 0, 2, 6, 14, 30, 0, 64, 192, 448, 960, 0, 2048, 6144, 14336, 30720, 65472, 131071]) [])⟩
theorem ok56 : FunOk Try.prog 56 c56 := ⟨⟨Try.f56, _, Try.func56, rfl, by kernel_rfl, by kernel_rfl, by kernel_rfl, by kernel_rfl⟩, by decide⟩
theorem Q4 : c56.res = [] := rfl
def PR (P : Program) (p : Lab) (Q : aA) (l16 : List Lab) (f16 : Option (List Lab)) (f15 : Option (List Lab)) (f10 : Option (List Lab)) (f5 : Option (List Lab)) (c : Nat) (v19_17 : AV) (H17 : aB) (l17 : List Lab) (f17 : Option (List Lab)) : Prop :=
  aI [0, 0, 2, 6, 14, 30, 0, 64, 192, 448, 960, 0, 2048, 6144, 14336, 30720, 65472, 131071] (aH 5 [] ((c + 5) :: p) f5 (aH 10 [] ((c + 10) :: p) f10 (aH 15 [] ((c + 15) :: p) f15 (aH 16 l16 ((c + 16) :: p) f16 (aH 17 l17 ((c + 17) :: p) f17 []))))) ∧
  Q .normal [] H17 (c + 18)
def PQ (P : Program) (p : Lab) (Q : aA) (f15 : Option (List Lab)) (f10 : Option (List Lab)) (v7_5 : AV) (f5 : Option (List Lab)) (x0 : AV) (c : Nat) (v18_16 : AV) (H16 : aB) (l16 : List Lab) (f16 : Option (List Lab)) : Prop :=
  aN false P 63 [x0, v7_5, v18_16] H16 ((c + 17) :: p) (PR P p Q l16 f16 f15 f10 f5 c)
def V56 (P : Program) (p : Lab) (Q : aA) (x0 : AV) (H : aB) (c : Nat) : Prop :=
  aW x0 fun v4_2 =>
  vFA 0 v4_2 fun v5_3 =>
  vFA 1 v5_3 fun v6_4 =>
  aF 1 false v6_4 H fun v7_5 f5 =>
  aW x0 fun v9_7 =>
  vFA 0 v9_7 fun v10_8 =>
  vFA 0 v10_8 fun v11_9 =>
  aF 1 false v11_9 H fun v12_10 f10 =>
  aW x0 fun v14_12 =>
  vFA 0 v14_12 fun v15_13 =>
  vFA 1 v15_13 fun v16_14 =>
  aF 1 false v16_14 H fun v17_15 f15 =>
  aN false P 22 [v12_10, v17_15, (.bool false)] H ((c + 16) :: p) (PQ P p Q f15 f10 v7_5 f5 x0 c)
theorem ZY (P : Program) (p : Lab) (Q : aA) (x0 : AV) (H : aB) (c : Nat) : vc P p c56.body Q [(0, x0)] H c = V56 P p Q x0 H c := by kernel_rfl

def ZF : ACode := (.seq (.region [⟨(some 22), none, (.bin .lss .num), [.t 21, .t 20]⟩] none [0, 1, 2, 7, 19, 20, 21, 22])
  (.seq (.cond (.t 22) .skip
  (.exit 0))
  (.seq (.block 1 (.seq (.region [⟨(some 23), none, (.indexAddr 1), [.t 19, .t 21]⟩, ⟨(some 24), none, (.load 1 false), [.t 23]⟩, ⟨(some 9), none, .move, [.t 24]⟩] none [0, 1, 2, 7, 9, 19, 20, 21])
  (.region [⟨(some 25), none, .move, [.t 0]⟩, ⟨(some 26), none, .move, [.t 0]⟩, ⟨(some 27), none, .nilCheck, [.t 26]⟩, ⟨(some 28), none, (.fieldAddr 3), [.t 27]⟩, ⟨(some 29), none, (.load 1 false), [.t 28]⟩, ⟨(some 30), none, .move, [.t 1]⟩, ⟨(some 31), none, .move, [.t 9]⟩, ⟨(some 32), none, (.build [(.int .i64 0), (.int .i64 0), (.int .i64 0)] [(0, 1), (1, 1), (2, 1)]), [.c (.int .i64 2), .t 30, .t 31]⟩, ⟨(some 33), none, (.buildSlice 3 [(.int .i64 0), (.int .i64 0), (.int .i64 0)] [(0, 3)]), [.t 32]⟩, ⟨(some 34), none, (.append 3 24), [.t 29, .t 33]⟩, ⟨(some 35), none, .nilCheck, [.t 25]⟩, ⟨(some 36), none, (.fieldAddr 3), [.t 35]⟩, ⟨none, none, (.store 1), [.t 36, .t 34]⟩] none [0, 1, 2, 7, 19, 20, 21])))
  (.region [⟨(some 37), none, (.bin .add .num), [.t 21, .c (.int .i64 1)]⟩, ⟨(some 21), none, .move, [.t 37]⟩] none [0, 1, 2, 7, 19, 20, 21]))))
def XU : ACode := .loop [0, 1, 2, 7, 19, 20, 21] ZF
def O4 : ACode := (.seq (.seq (.region [⟨(some 38), none, .move, [.t 7]⟩, ⟨(some 39), none, (.len .slice), [.t 38]⟩, ⟨(some 40), none, (.bin .gtr .num), [.t 39, .c (.int .i64 0)]⟩] none [0, 1, 2, 7, 40])
  (.cond (.t 40) (.seq (.region [⟨(some 41), none, .move, [.t 0]⟩, ⟨(some 42), none, .move, [.t 0]⟩, ⟨(some 43), none, .nilCheck, [.t 42]⟩, ⟨(some 44), none, (.fieldAddr 0), [.t 43]⟩, ⟨(some 45), none, (.fieldAddr 0), [.t 44]⟩, ⟨(some 46), none, (.load 1 false), [.t 45]⟩, ⟨(some 47), none, .move, [.t 1]⟩, ⟨(some 48), none, .move, [.t 2]⟩, ⟨(some 49), none, .call, [.c (.fn (.func 34) [] []), .t 46, .t 47, .t 48]⟩, ⟨(some 50), none, .nilCheck, [.t 41]⟩, ⟨(some 51), none, (.fieldAddr 0), [.t 50]⟩, ⟨(some 52), none, (.fieldAddr 0), [.t 51]⟩, ⟨none, none, (.store 1), [.t 52, .t 49]⟩] none [0, 1, 7])
  (.region [⟨(some 53), none, .move, [.t 0]⟩, ⟨(some 54), none, .move, [.t 1]⟩, ⟨(some 55), none, .nilCheck, [.t 53]⟩, ⟨(some 56), none, (.fieldAddr 0), [.t 55]⟩, ⟨(some 57), none, (.fieldAddr 1), [.t 56]⟩, ⟨none, none, (.store 1), [.t 57, .t 54]⟩] none [7]))
  .skip))
  (.seq (.region [⟨(some 58), none, .move, [.t 7]⟩, ⟨(some 6), none, .move, [.t 58]⟩] none [6])
  .ret))
/-- (*duet/edit.work).cut -/
def c62 : AFun := ⟨3, 59, [.tmp 6],
  (.seq (.region [⟨(some 6), none, .move, [.c .nils]⟩] none [0, 1, 2])
  (.seq (.region [⟨(some 10), none, .move, [.t 0]⟩, ⟨(some 11), none, .nilCheck, [.t 10]⟩, ⟨(some 12), none, (.fieldAddr 0), [.t 11]⟩, ⟨(some 13), none, (.fieldAddr 0), [.t 12]⟩, ⟨(some 14), none, (.load 1 false), [.t 13]⟩, ⟨(some 15), none, .move, [.t 1]⟩, ⟨(some 16), none, .move, [.t 2]⟩, ⟨(some 17), none, (.slice 1 true true false), [.t 14, .t 15, .t 16]⟩, ⟨(some 18), none, .call, [.c (.fn (.func 25) [] []), .t 17]⟩, ⟨(some 7), none, .move, [.t 18]⟩] none [0, 1, 2, 7])
  (.seq (.seq (.region [⟨(some 19), none, .move, [.t 7]⟩, ⟨(some 20), none, (.len .slice), [.t 19]⟩, ⟨(some 21), none, .move, [.c (.int .i64 0)]⟩] none [0, 1, 2, 7, 19, 20, 21])
  (.block 0 XU)) O4)))⟩
theorem ok62 : FunOk Try.prog 62 c62 := ⟨⟨Try.f62, _, Try.func62, rfl, by kernel_rfl, by kernel_rfl, by kernel_rfl, by kernel_rfl⟩, by decide⟩
theorem yR : c62.res = [.tmp 6] := rfl
def Q9 (P : Program) (p : Lab) (Q : aA) : aA := (jO 0 (qG (vc P p O4 Q) Q))
theorem lR (P : Program) (p : Lab) (Q : aA) (r : RL) (H : aB) (c : Nat) : Q9 P p Q .ret r H c = Q .ret r H c := rfl
def xI (P : Program) (p : Lab) (Q : aA) (x0 : AV) (x1 : AV) (x2 : AV) (c : Nat) (v18_9 : AV) (H9 : aB) (l9 : List Lab) (f9 : Option (List Lab)) : Prop :=
  cS v18_9 fun v20_12 =>
  vc P p XU (Q9 P p Q) [(0, x0), (1, x1), (2, x2), (7, v18_9), (19, v18_9), (20, v20_12), (21, (.int .i64 0))] H9 (c + 14)
def xH (P : Program) (p : Lab) (Q : aA) (x0 : AV) (x1 : AV) (x2 : AV) (c : Nat) (v17_8 : AV) (H8 : aB) (l8 : List Lab) (f8 : Option (List Lab)) : Prop :=
  aN true P 25 [v17_8] H8 ((c + 9) :: p) (xI P p Q x0 x1 x2 c)
def V62 (P : Program) (p : Lab) (Q : aA) (x0 x1 x2 : AV) (H : aB) (c : Nat) : Prop :=
  aW x0 fun v11_2 =>
  vFA 0 v11_2 fun v12_3 =>
  vFA 0 v12_3 fun v13_4 =>
  aF 1 false v13_4 H fun v14_5 _ =>
  aM (.slice 1 true true false) [v14_5, x1, x2] H ((c + 8) :: p) (xH P p Q x0 x1 x2 c)
theorem GG (P : Program) (p : Lab) (Q : aA) (x0 x1 x2 : AV) (H : aB) (c : Nat) : vc P p c62.body Q [(0, x0), (1, x1), (2, x2)] H c = V62 P p Q x0 x1 x2 H c := by kernel_rfl
def xF (P : Program) (p : Lab) (Q : aA) (y0 : AV) (y1 : AV) (y2 : AV) (y7 : AV) (y19 : AV) (y20 : AV) (y21 : AV) (c : Nat) (v_30 : AV) (H30 : aB) (l30 : List Lab) (f30 : Option (List Lab)) : Prop :=
  aJ .add .num y21 (.int .i64 1) fun v37_31 =>
  Q .normal [(0, y0), (1, y1), (2, y2), (7, y7), (19, y19), (20, y20), (21, v37_31)] H30 (c + 18)
def xE (P : Program) (p : Lab) (Q : aA) (y0 : AV) (y1 : AV) (y2 : AV) (y7 : AV) (y19 : AV) (y20 : AV) (y21 : AV) (c : Nat) (v34_27 : AV) (H27 : aB) (l27 : List Lab) (f27 : Option (List Lab)) : Prop :=
  aW y0 fun v35_28 =>
  vFA 3 v35_28 fun v36_29 =>
  aM (.store 1) [v36_29, v34_27] H27 ((c + 15) :: p) (xF P p Q y0 y1 y2 y7 y19 y20 y21 c)
def xG (P : Program) (p : Lab) (Q : aA) (y0 : AV) (y1 : AV) (y2 : AV) (y7 : AV) (y19 : AV) (y20 : AV) (y21 : AV) (y22 : AV) (H : aB) (c : Nat) : Prop :=
  vIx 1 y19 y21 fun v23_15 =>
  aF 1 false v23_15 H fun v24_16 _ =>
  aW y0 fun v27_20 =>
  vFA 3 v27_20 fun v28_21 =>
  aF 1 false v28_21 H fun v29_22 _ =>
  gB [(.int .i64 0), (.int .i64 0), (.int .i64 0)] [(0, 1), (1, 1), (2, 1)] [(.int .i64 2), y1, v24_16] fun v32_25 =>
  jP 3 [(.int .i64 0), (.int .i64 0), (.int .i64 0)] [(0, 3)] [v32_25] fun w26 n26 =>
  (fun (H26 : aB) =>
  aM (.append 3 24) [v29_22, (.sl ((c + 11) :: p) 3 0 n26)] H26 ((c + 12) :: p) (xE P p Q y0 y1 y2 y7 y19 y20 y21 c)) (upd [(((c + 11) :: p), some (.rows 3 w26))] H)
def xD (P : Program) (p : Lab) (Q : aA) (v22_14 : AV) (x0 : AV) (x1 : AV) (x2 : AV) (x7 : AV) (x19 : AV) (x20 : AV) (x21 : AV) (H : aB) (c : Nat) (_ : Unit) : Prop :=
  (xG P p Q x0 x1 x2 x7 x19 x20 x21 v22_14 H (c + 1))
def xN (P : Program) (p : Lab) (Q : aA) (x0 x1 x2 x7 x19 x20 x21 : AV) (H : aB) (c : Nat) : Prop :=
  aJ .lss .num x21 x20 fun v22_14 =>
  aL v22_14
  (xD P p Q v22_14 x0 x1 x2 x7 x19 x20 x21 H c)
  (fun _ =>
  Q (.exit 0) [(0, x0), (1, x1), (2, x2), (7, x7), (19, x19), (20, x20), (21, x21), (22, v22_14)] H (c + 1))
theorem sC (P : Program) (p : Lab) (Q : aA) (x0 x1 x2 x7 x19 x20 x21 : AV) (H : aB) (c : Nat) : vc P p ZF Q [(0, x0), (1, x1), (2, x2), (7, x7), (19, x19), (20, x20), (21, x21)] H c = xN P p Q x0 x1 x2 x7 x19 x20 x21 H c := by kernel_rfl
theorem nJ (P : Program) (p : Lab) (Q : aA) (r : RL) (H : aB) (c : Nat) : Q9 P p Q (.exit 0) r H c = (vc P p O4 Q r H c) := rfl
def xB (P : Program) (p : Lab) (Q : aA) (y0 : AV) (y1 : AV) (y7 : AV) (c : Nat) (v_48 : AV) (H48 : aB) (l48 : List Lab) (f48 : Option (List Lab)) : Prop :=
  aW y0 fun v55_51 =>
  vFA 0 v55_51 fun v56_52 =>
  vFA 1 v56_52 fun v57_53 =>
  aM (.store 1) [v57_53, y1] H48 ((c + 18) :: p) (fun v_54 H54 l54 f54 =>
  Q .ret [(6, y7)] H54 (c + 21))
def xA (P : Program) (p : Lab) (Q : aA) (y0 : AV) (y1 : AV) (y7 : AV) (c : Nat) (v49_44 : AV) (H44 : aB) (l44 : List Lab) (f44 : Option (List Lab)) : Prop :=
  aW y0 fun v50_45 =>
  vFA 0 v50_45 fun v51_46 =>
  vFA 0 v51_46 fun v52_47 =>
  aM (.store 1) [v52_47, v49_44] H44 ((c + 12) :: p) (xB P p Q y0 y1 y7 c)
def xC (P : Program) (p : Lab) (Q : aA) (y0 : AV) (y1 : AV) (y2 : AV) (y7 : AV) (H : aB) (c : Nat) : Prop :=
  aW y0 fun v43_38 =>
  vFA 0 v43_38 fun v44_39 =>
  vFA 0 v44_39 fun v45_40 =>
  aF 1 false v45_40 H fun v46_41 _ =>
  aN true P 34 [v46_41, y1, y2] H ((c + 8) :: p) (xA P p Q y0 y1 y7 c)
def w9 (P : Program) (p : Lab) (Q : aA) (x0 : AV) (x1 : AV) (x2 : AV) (x7 : AV) (H : aB) (c : Nat) (_ : Unit) : Prop :=
  (xC P p Q x0 x1 x2 x7 H (c + 3))
def rP (P : Program) (p : Lab) (Q : aA) (y0 : AV) (y1 : AV) (y2 : AV) (y7 : AV) (y40 : AV) (H : aB) (c : Nat) : Prop :=
  Q .ret [(6, y7)] H (c + 2)
def rO (P : Program) (p : Lab) (Q : aA) (v40_35 : AV) (x0 : AV) (x1 : AV) (x2 : AV) (x7 : AV) (H : aB) (c : Nat) (_ : Unit) : Prop :=
  (rP P p Q x0 x1 x2 x7 v40_35 H (c + 3))
def xM (P : Program) (p : Lab) (Q : aA) (x0 x1 x2 x7 x19 x20 x21 x22 : AV) (H : aB) (c : Nat) : Prop :=
  cS x7 fun v39_34 =>
  aJ .gtr .num v39_34 (.int .i64 0) fun v40_35 =>
  aL v40_35
  (w9 P p Q x0 x1 x2 x7 H c)
  (rO P p Q v40_35 x0 x1 x2 x7 H c)
theorem sB (P : Program) (p : Lab) (Q : aA) (x0 x1 x2 x7 x19 x20 x21 x22 : AV) (H : aB) (c : Nat) : vc P p O4 Q [(0, x0), (1, x1), (2, x2), (7, x7), (19, x19), (20, x20), (21, x21), (22, x22)] H c = xM P p Q x0 x1 x2 x7 x19 x20 x21 x22 H c := by kernel_rfl


/-- (*duet/edit.work).kill -/
def c63 : AFun := ⟨3, 19, [],
  (.seq (.region [⟨(some 7), none, .move, [.t 0]⟩, ⟨(some 8), none, .move, [.t 1]⟩, ⟨(some 9), none, .move, [.t 2]⟩, ⟨(some 10), none, .call, [.c (.fn (.func 62) [] []), .t 7, .t 8, .t 9]⟩, ⟨(some 6), none, .move, [.t 10]⟩] none [0, 6])
  (.seq (.region [⟨(some 11), none, .move, [.t 6]⟩, ⟨(some 12), none, (.len .slice), [.t 11]⟩, ⟨(some 13), none, (.bin .gtr .num), [.t 12, .c (.int .i64 0)]⟩] none [0, 6, 13])
  (.cond (.t 13) (.region [⟨(some 14), none, .move, [.t 0]⟩, ⟨(some 15), none, .move, [.t 6]⟩, ⟨(some 16), none, .nilCheck, [.t 14]⟩, ⟨(some 17), none, (.fieldAddr 0), [.t 16]⟩, ⟨(some 18), none, (.fieldAddr 2), [.t 17]⟩, ⟨none, none, (.store 1), [.t 18, .t 15]⟩] none [])
  .skip)))⟩
theorem ok63 : FunOk Try.prog 63 c63 := ⟨⟨Try.f63, _, Try.func63, rfl, by kernel_rfl, by kernel_rfl, by kernel_rfl, by kernel_rfl⟩, by decide⟩
theorem OU : c63.res = [] := rfl
def MT (P : Program) (p : Lab) (Q : aA) (y0 : AV) (y6 : AV) (H : aB) (c : Nat) : Prop :=
  aW y0 fun v16_10 =>
  vFA 0 v16_10 fun v17_11 =>
  vFA 2 v17_11 fun v18_12 =>
  aM (.store 1) [v18_12, y6] H ((c + 5) :: p) (fun v_13 H13 l13 f13 =>
  Q .normal [] H13 (c + 6))
def MS (P : Program) (p : Lab) (Q : aA) (v10_3 : AV) (H3 : aB) (x0 : AV) (c : Nat) (_ : Unit) : Prop :=
  (MT P p Q x0 v10_3 H3 (c + 8))
def MR (P : Program) (p : Lab) (Q : aA) (x0 : AV) (c : Nat) (v10_3 : AV) (H3 : aB) (l3 : List Lab) (f3 : Option (List Lab)) : Prop :=
  cS v10_3 fun v12_6 =>
  aJ .gtr .num v12_6 (.int .i64 0) fun v13_7 =>
  aL v13_7
  (MS P p Q v10_3 H3 x0 c)
  (fun _ =>
  Q .normal [(0, x0), (6, v10_3), (13, v13_7)] H3 (c + 8))
def V63 (P : Program) (p : Lab) (Q : aA) (x0 x1 x2 : AV) (H : aB) (c : Nat) : Prop :=
  aN true P 62 [x0, x1, x2] H ((c + 3) :: p) (MR P p Q x0 c)
theorem WU (P : Program) (p : Lab) (Q : aA) (x0 x1 x2 : AV) (H : aB) (c : Nat) : vc P p c63.body Q [(0, x0), (1, x1), (2, x2)] H c = V63 P p Q x0 x1 x2 H c := by kernel_rfl



end Go.Proofs.Ytbngfbpegdcpkaa
/-! Joined texts. -/
namespace Go.Proofs.Ytbngfbpegdcpkaa
set_option linter.unusedVariables false
set_option linter.unusedSimpArgs false
set_option maxRecDepth 100000
/-! What keys do: the work in memory; a rune that is put. -/
section
/-- one more row of the call's own making; where it lies is told -/
theorem zT {H : aB} {p : Lab} {KK : KF} {x : AV} {e b c k1 k2 : Nat} {rows : List (List AV)} {row : List AV} (h : Own H x e rows) (hf : Fresh p c H) (hc : c ≤ k1) (hk : k1 < k2) (he : 0 < e) (h1 : (rows.length + 1) * b ≤ 140737488355328) (h2 : rows.length + 1 ≤ 4611686018427387904)
    (hK : ∀ x' H' l f, x' = .sl (k2 :: p) e 0 (rows.length + 1) → Own H' x' e (rows ++ [row]) → Fresh p (k2 + 1) H' → yM x H H' → KK x' H' l f) : aM (.append e b) [x, .sl (k1 :: p) e 0 1] (upd [(k1 :: p, some (.rows e [row]))] H) (k2 :: p) KK := by
  have hs : lF e (.sl (k1 :: p) e 0 1) (upd [(k1 :: p, some (.rows e [row]))] H) = some ([row], [k1 :: p]) := by simp [lF, upd]
  have hH : ∀ k, k ≠ k1 :: p → upd [(k1 :: p, some (.rows e [row]))] H k = H k := fun k hk => by simp [upd, hk]
  have hq : (k2 :: p) ≠ (k1 :: p) := fun e => by simp at e; omega
  have hq0 : H (k2 :: p) = none := hf.at (by omega)
  rcases h with ⟨rfl, rfl⟩ | ⟨l, rfl, hl⟩
  · refine ⟨⟨.sl (k2 :: p) e 0 1, [(k2 :: p, some (.rows e [row]))], some [k1 :: p]⟩, ?_, hK _ _ _ _ rfl (.inr ⟨k2 :: p, rfl, by simp [upd]⟩) (fun j s hj => ?_) (fun k o hk' _ => ?_)⟩
    · simp only [List.length_nil, Nat.zero_add] at h1 h2
      simp [aop, gI, hs, he]
      omega
    · have := hf j s (by omega)
      simp only [Ytbngfbpegdcpkaa.upd, if_neg (rV (p := p) (s := s) (show j ≠ k2 by omega)), if_neg (rV (p := p) (s := s) (show j ≠ k1 by omega)), this]
    · have e1 : k ≠ k2 :: p := fun e => by rw [e, hq0] at hk'; cases hk'
      have e2 : k ≠ k1 :: p := fun e => by rw [e, hf.at hc] at hk'; cases hk'
      simp [upd, e1, e2, hk']
  · have hl1 : l ≠ k1 :: p := fun e => by rw [e, hf.at hc] at hl; cases hl
    have hl2 : l ≠ k2 :: p := fun e => by rw [e, hq0] at hl; cases hl
    have hl' : upd [(k1 :: p, some (.rows e [row]))] H l = some (.rows e rows) := by rw [hH l hl1]; exact hl
    refine ⟨⟨.sl (k2 :: p) e 0 (rows.length + 1), [(k2 :: p, some (.rows e (rows ++ [row]))), (l, none)], some [l, k1 :: p]⟩, ?_, hK _ _ _ _ rfl (.inr ⟨k2 :: p, by simp, by simp [upd]⟩) (fun j s hj => ?_) (fun k o hk' hx => ?_)⟩
    · simp [aop, gI, hs, hl', he, h1, h2]
    · have := hf j s (by omega)
      simp only [Ytbngfbpegdcpkaa.upd, if_neg (rV (p := p) (s := s) (show j ≠ k2 by omega)), if_neg (rV (p := p) (s := s) (show j ≠ k1 by omega)), this, ite_self]
    · have e1 : k ≠ k2 :: p := fun e => by rw [e, hq0] at hk'; cases hk'
      have e2 : k ≠ k1 :: p := fun e => by rw [e, hf.at hc] at hk'; cases hk'
      have e3 : k ≠ l := fun e' => hx e 0 rows.length (by rw [e'])
      simp [upd, e1, e2, e3, hk']
/-- the work: a line, a caret in it, what was killed, what was done -/
structure Wk where
  line : List Int
  pos : Nat
  kill : List Int
  acts : List (Int × Int × Int)
def bA (a : Int × Int × Int) : List AV := [.int .i64 a.1, .int .i64 a.2.1, .int .i64 a.2.2]
def ListE (H : aB) (x : AV) (l : List Int) : Prop := (x = .sl0 ∧ l = []) ∨ ∃ lab, x = .sl lab 1 0 l.length ∧ H lab = some (.rows 1 (l.map aE))
structure WorkI (H : aB) (lw : Lab) (xl xk xa : AV) (w : Wk) : Prop where
  s : H lw = some (.rows 4 [[xl, .int .i64 w.pos, xk, xa]])
  l : ListE H xl w.line
  k : ListE H xk w.kill
  a : Own H xa 3 (w.acts.map bA)
  ne : ∀ lab n m, xl = .sl lab 1 0 n → xk ≠ .sl lab 1 0 m
theorem ListE.len {H : aB} {x : AV} {l : List Int} (h : ListE H x l) {K : AV → Prop} : cS x K = K (.int .i64 l.length) := by
  rcases h with ⟨rfl, rfl⟩ | ⟨lab, rfl, _⟩
  · exact EZ
  · exact G7
theorem ListE.mono {H H' : aB} {x : AV} {l : List Int} (h : ListE H x l) (hk : ∀ lab n, x = .sl lab 1 0 n → H lab = some (.rows 1 (l.map aE)) → H' lab = some (.rows 1 (l.map aE))) : ListE H' x l := by
  rcases h with h | ⟨lab, e, h⟩
  · exact .inl h
  · exact .inr ⟨lab, e, hk lab _ e h⟩
theorem ListE.lab {H : aB} {x : AV} {l : List Int} (h : ListE H x l) {k : Lab} (hk : k ∈ labs x) : H k ≠ none := by
  rcases h with ⟨rfl, rfl⟩ | ⟨lab, rfl, h⟩
  · cases hk
  · obtain rfl := List.mem_singleton.1 hk
    rw [h]; simp
theorem Own.labn {H : aB} {x : AV} {e : Nat} {rows : List (List AV)} (h : Own H x e rows) {k : Lab} (hk : k ∈ labs x) : H k ≠ none := by
  rcases h with ⟨rfl, rfl⟩ | ⟨lab, rfl, h⟩
  · cases hk
  · obtain rfl := List.mem_singleton.1 hk
    rw [h]; simp
theorem Own.mono' {H H' : aB} {x : AV} {e : Nat} {rows : List (List AV)} (h : Own H x e rows) (hk : ∀ lab, H lab = some (.rows e rows) → H' lab = some (.rows e rows)) : Own H' x e rows := by
  rcases h with h | ⟨l, e1, h⟩
  · exact .inl h
  · exact .inr ⟨l, e1, hk l h⟩
theorem WorkI.mono {H H' : aB} {lw : Lab} {xl xk xa : AV} {w : Wk} (h : WorkI H lw xl xk xa w) (hk : ∀ k o, H k = some o → H' k = some o) : WorkI H' lw xl xk xa w :=
  ⟨hk _ _ h.s, h.l.mono fun _ _ _ h => hk _ _ h, h.k.mono fun _ _ _ h => hk _ _ h, h.a.mono' fun _ h => hk _ _ h, h.ne⟩
def yP (n : Int) : Bool := decide (32 ≤ n) && decide (n ≤ 1114111) && !(decide (127 ≤ n) && decide (n ≤ 159)) && !(decide (55296 ≤ n) && decide (n ≤ 57343))
theorem HR (n : Int) : lV Try.prog 40 [.int .i64 n] (.bool (yP n)) := by
  refine cP Try.mixed ok40 rfl (fun q => ?_)
  simp only [params, Nat.zero_add, Nat.reduceAdd]
  repeat' (first | (simp (disch := omega) only [vsb, aE, reduceIte, AV.cells, putL, aC, Nat.reduceAdd, Nat.reduceDiv, Nat.reduceMod, AV.one, Nat.reduceLeDiff, Nat.reduceEqDiff, res40, vt40, V40, YR, YQ, SN, YO, YN, YM, SO, YL, S3, S1, S0, SZ, OC, SY, OB, SX, S2, SW, S4, SV, ST, SS, SU, SR, YK, SQ, YP, SP]) | (refine aY (fun _ => ?_) (fun _ => ?_)) | (refine jN (fun _ => ?_) (fun _ => ?_)) | (refine cF (fun _ => ?_) (fun _ => ?_)) | (refine bI (fun _ => ?_) (fun _ => ?_)) | (refine And.intro (aV rfl) ?_) | (refine cG (fun _ => ?_) ?_) | (exfalso; omega; done))
  all_goals (refine vp1 (congrArg AV.bool ?_); simp [yP]; omega)
def xK (l : List Int) (i : Nat) (c : Int) : List Int := l.take i ++ [c] ++ l.drop i
theorem r9 {l : List Int} {i : Nat} {c : Int} (h : i ≤ l.length) : (xK l i c).length = l.length + 1 := by
  simp [xK]; omega
theorem KN {H : aB} {q lv : Lab} {x : AV} {l : List Int} {i : Nat} {c : Int} (h : ListE H x l) (hi : i ≤ l.length) (hv : H lv = some (.rows 1 [[.int .i64 c]])) (hne : ∀ n, x ≠ .sl lv 1 0 n) (hl : l.length ≤ 1000000000) :
    ∃ u f, aZ Try.prog 33 [x, .int .i64 i, .sl lv 1 0 1] H q ⟨.sl q 1 0 (l.length + 1), (q, some (.rows 1 ((xK l i c).map aE))) :: u, f⟩ ∧ ∀ p ∈ u, ∃ n, x = .sl p.1 1 0 n := by
  rcases h with ⟨rfl, rfl⟩ | ⟨lab, rfl, h⟩
  · obtain rfl : i = 0 := by simpa using hi
    exact ⟨[], _, F7 (.inr rfl) hv, fun p hp => by cases hp⟩
  · refine ⟨[(lab, none)], some [lab, lv], ?_, fun p hp => ⟨l.length, by obtain rfl := List.mem_singleton.1 hp; rfl⟩⟩
    have := KM (q := q) h (off := 0) (n := l.length) (i := i) (by simp) hv (fun e => hne l.length (by rw [e])) hi (by omega) (by omega)
    have e : (((l.map aE).drop 0).take i ++ [[AV.int .i64 c]] ++ ((l.map aE).drop (0 + i)).take (l.length - i)) = (xK l i c).map aE := by
      simp only [List.drop_zero, Nat.zero_add]
      rw [List.take_of_length_le (l := (l.map aE).drop i) (by simp)]
      simp [xK, aE, List.map_take, List.map_drop]
    rw [e] at this
    exact this
/-- what lies where none of the changes is told -/
theorem OP {H : aB} {u : Chg} {k : Lab} (h : ∀ p ∈ u, k ≠ p.1) : upd u H k = H k := by
  induction u with
  | nil => rfl
  | cons p u ih => rw [show p = (p.1, p.2) from rfl, aP (h p (by simp))]; exact ih fun a ha => h a (by simp [ha])
def wX (w : Wk) (c : Int) : Bool := decide (w.line.length < 1000) && yP c
def mN (w : Wk) (c : Int) : Wk := if wX w c then ⟨xK w.line w.pos c, w.pos + 1, w.kill, w.acts ++ [(1, (w.pos : Int), c)]⟩ else w
theorem E9 {H : aB} {q lw : Lab} {xl xk xa : AV} {w : Wk} (h : WorkI H lw xl xk xa w) (hf : Fresh q 0 H) (hp : w.pos ≤ w.line.length) (ha : w.acts.length ≤ 1000000) (c : Int) :
    SoundE Try.prog 27 [.ptr lw 4 0 0, .int .i64 c] H q (fun y u => y = .bool (wX w c) ∧ ∃ xl' xa', WorkI (upd u H) lw xl' xk xa' (mN w c)) := by
  refine cC Try.mixed ok27 rfl ?_
  have hs := h.s
  have hll : ∀ {K : AV → Prop}, cS xl K = K (.int .i64 w.line.length) := h.l.len
  have out : ∀ {c' : Nat}, wX w c = false → VRE q H [.tmp 4] (fun y u => y = .bool (wX w c) ∧ ∃ xl' xa', WorkI (upd u H) lw xl' xk xa' (mN w c)) .ret [(4, .bool false)] H c' := fun {c'} hb =>
    ⟨.inr rfl, .bool false, .bool false, [], by simp [j1, iV, nA, bE], ⟨by rw [hb], xl, xa, by rw [mN, hb]; exact h⟩, fun l hl => absurd hl (aS l), .refl _, fun l o hl => hl⟩
  simp only [params, Nat.zero_add, Nat.reduceAdd]
  simp (disch := omega) only [vsb, aE, reduceIte, AV.cells, putL, aC, Nat.reduceAdd, Nat.reduceDiv, Nat.reduceMod, AV.one, Nat.reduceLeDiff, Nat.reduceEqDiff, HJ, N7, V27, F6, F0, FY, FX, FV, FU, FT, FS, FW, BI, FZ, BH, BG, hs, hll]
  refine aY (fun hfull => ?_) (fun hroom => ?_)
  · simp (disch := omega) only [vsb, aE, reduceIte, AV.cells, putL, aC, Nat.reduceAdd, Nat.reduceDiv, Nat.reduceMod, AV.one, Nat.reduceLeDiff, Nat.reduceEqDiff, HJ, N7, V27, F6, F0, FY, FX, FV, FU, FT, FS, FW, BI, FZ, BH, BG]
    exact out (by simp [wX]; omega)
  simp (disch := omega) only [vsb, aE, reduceIte, AV.cells, putL, aC, Nat.reduceAdd, Nat.reduceDiv, Nat.reduceMod, AV.one, Nat.reduceLeDiff, Nat.reduceEqDiff, HJ, N7, V27, F6, F0, FY, FX, FV, FU, FT, FS, FW, BI, FZ, BH, BG]
  refine aO (HR c) ?_
  cases hr : yP c
  · simp (disch := omega) only [vsb, aE, reduceIte, AV.cells, putL, aC, Nat.reduceAdd, Nat.reduceDiv, Nat.reduceMod, AV.one, Nat.reduceLeDiff, Nat.reduceEqDiff, HJ, N7, V27, F6, F0, FY, FX, FV, FU, FT, FS, FW, BI, FZ, BH, BG]
    exact out (by simp [wX, hr])
  have hb : wX w c = true := by simp [wX, hr]; omega
  simp (disch := omega) only [vsb, aE, reduceIte, AV.cells, putL, aC, Nat.reduceAdd, Nat.reduceDiv, Nat.reduceMod, AV.one, Nat.reduceLeDiff, Nat.reduceEqDiff, HJ, N7, V27, F6, F0, FY, FX, FV, FU, FT, FS, FW, BI, FZ, BH, BG, hs]
  refine zT h.a hf (Nat.zero_le _) (by omega) (by decide) (by rw [List.length_map]; omega) (by rw [List.length_map]; omega) (fun x' H2 l2 f2 hx2 ho2 hf2 hkb => ?_)
  have hs2 : H2 lw = some (.rows 4 [[xl, .int .i64 w.pos, xk, xa]]) := hkb _ _ hs (fun e i n hx => by rcases h.a with ⟨h1, _⟩ | ⟨l, h1, h2⟩ <;> (rw [h1] at hx; cases hx); rw [hs] at h2; cases h2)
  subst hx2
  have hlw : ∀ k, lw ≠ k :: q := fun k e => by rw [e, hf.at (Nat.zero_le _)] at hs; cases hs
  have hlw' : ∀ k, ¬ (k :: q = lw) := fun k e => hlw k e.symm
  simp (disch := omega) only [vsb, aE, reduceIte, AV.cells, putL, aC, Nat.reduceAdd, Nat.reduceDiv, Nat.reduceMod, AV.one, Nat.reduceLeDiff, Nat.reduceEqDiff, HJ, N7, V27, F6, F0, FY, FX, FV, FU, FT, FS, FW, BI, FZ, BH, BG, hs2]
  refine ⟨(by (repeat' (first | exact cV | exact bB | refine cW ?_ ?_ | refine bC ?_ ?_)); all_goals (first | exact Or.inl rfl | exact Or.inl (by decide) | exact Or.inr ⟨by (simp (decide := true) [a6, hlw'] <;> assumption), by (simp (decide := true) [a6, hlw'] <;> assumption)⟩)), ?_⟩
  have hx42 : ∀ n, xl ≠ .sl (42 :: q) 1 0 n := fun n e => by
    rcases h.l with ⟨h1, _⟩ | ⟨lab, h1, h2⟩ <;> rw [h1] at e <;> cases e
    rw [hf.at (Nat.zero_le _)] at h2; cases h2
  -- rows of another width lie where they lay
  have hk3 : ∀ k rs, H k = some (.rows 1 rs) → upd [(42 :: q, some (.rows 1 [[.int .i64 c]]))] (upd [(lw, some (.rows 4 [[xl, .int .i64 w.pos, xk, .sl (26 :: q) 3 0 (w.acts.length + 1)]]))] H2) k = some (.rows 1 rs) := fun k rs hk => by
    rw [aP (fun e => by rw [e, hf.at (Nat.zero_le _)] at hk; cases hk), a8, aP (fun e => by rw [e, hs] at hk; cases hk), a8]
    exact hkb _ _ hk (fun e i n hx => by rcases h.a with ⟨h1, _⟩ | ⟨l, h1, h2⟩ <;> (rw [h1] at hx; cases hx); rw [hk] at h2; cases h2)
  obtain ⟨u, f, hi, hu⟩ := KN (q := 43 :: q) (lv := 42 :: q) (c := c) (i := w.pos) (h.l.mono (H' := upd [(42 :: q, some (.rows 1 [[.int .i64 c]]))] (upd [(lw, some (.rows 4 [[xl, .int .i64 w.pos, xk, .sl (26 :: q) 3 0 (w.acts.length + 1)]]))] H2)) (fun _ _ _ hk => hk3 _ _ hk)) hp aK hx42 (by omega)
  refine cB hi ?_
  have hu1 : ∀ k o, upd [(42 :: q, some (.rows 1 [[.int .i64 c]]))] (upd [(lw, some (.rows 4 [[xl, .int .i64 w.pos, xk, .sl (26 :: q) 3 0 (w.acts.length + 1)]]))] H2) k = some o → k ≠ 43 :: q → (∀ n, xl ≠ .sl k 1 0 n) → upd ((43 :: q, some (.rows 1 ((xK w.line w.pos c).map aE))) :: u) (upd [(42 :: q, some (.rows 1 [[.int .i64 c]]))] (upd [(lw, some (.rows 4 [[xl, .int .i64 w.pos, xk, .sl (26 :: q) 3 0 (w.acts.length + 1)]]))] H2)) k = some o := fun k o hk h1 h2 => by
    rw [aP h1, OP (fun p hp e => by obtain ⟨n, hn⟩ := hu p hp; exact h2 n (e ▸ hn))]; exact hk
  have h43 : upd ((43 :: q, some (.rows 1 ((xK w.line w.pos c).map aE))) :: u) (upd [(42 :: q, some (.rows 1 [[.int .i64 c]]))] (upd [(lw, some (.rows 4 [[xl, .int .i64 w.pos, xk, .sl (26 :: q) 3 0 (w.acts.length + 1)]]))] H2)) (43 :: q) = some (.rows 1 ((xK w.line w.pos c).map aE)) := aK
  have hxlw : ∀ n, xl ≠ .sl lw 1 0 n := fun n e => by
    rcases h.l with ⟨h1, _⟩ | ⟨lab, h1, h2⟩ <;> rw [h1] at e <;> cases e
    rw [hs] at h2; cases h2
  have hxk : ∀ k, xl ≠ .sl k 1 0 w.line.length → ∀ n, xl ≠ .sl k 1 0 n := fun k h1 n e => by
    rcases h.l with ⟨h2, _⟩ | ⟨lab, h2, _⟩ <;> rw [h2] at e <;> cases e
    exact h1 h2
  have hs4 := hu1 lw _ (by rw [aP (hlw 42), a8, aK]) (hlw 43) hxlw
  have h26 : H2 (26 :: q) = some (.rows 3 ((w.acts ++ [(1, (w.pos : Int), c)]).map bA)) := by
    rcases ho2 with ⟨h1, _⟩ | ⟨l, h1, h2⟩
    · cases h1
    · injection h1 with e1
      rw [e1, h2]; simp [bA]
  have h264 := hu1 (26 :: q) _ (by rw [aP (by simp), a8, aP (fun e => hlw 26 e.symm), a8]; exact h26) (by simp) (fun n e => by
    rcases h.l with ⟨h1, _⟩ | ⟨lab, h1, h2⟩ <;> rw [h1] at e <;> cases e
    rw [hf.at (Nat.zero_le _)] at h2; cases h2)
  have hH4 : ∀ k o, H k = some o → k ≠ lw → (∀ n, xl ≠ .sl k 1 0 n) → (∀ e i n, xa ≠ .sl k e i n) → upd ((43 :: q, some (.rows 1 ((xK w.line w.pos c).map aE))) :: u) (upd [(42 :: q, some (.rows 1 [[.int .i64 c]]))] (upd [(lw, some (.rows 4 [[xl, .int .i64 w.pos, xk, .sl (26 :: q) 3 0 (w.acts.length + 1)]]))] H2)) k = some o := fun k o hk h1 h2 h3 =>
    hu1 k o (by rw [aP (fun e => by rw [e, hf.at (Nat.zero_le _)] at hk; cases hk), a8, aP h1, a8]; exact hkb _ _ hk h3) (fun e => by rw [e, hf.at (Nat.zero_le _)] at hk; cases hk) h2
  clear hu1
  generalize upd ((43 :: q, some (.rows 1 ((xK w.line w.pos c).map aE))) :: u) (upd [(42 :: q, some (.rows 1 [[.int .i64 c]]))] (upd [(lw, some (.rows 4 [[xl, .int .i64 w.pos, xk, .sl (26 :: q) 3 0 (w.acts.length + 1)]]))] H2)) = H4 at *
  simp (disch := omega) only [vsb, aE, reduceIte, AV.cells, putL, aC, Nat.reduceAdd, Nat.reduceDiv, Nat.reduceMod, AV.one, Nat.reduceLeDiff, Nat.reduceEqDiff, HJ, N7, V27, F6, F0, FY, FX, FV, FU, FT, FS, FW, BI, FZ, BH, BG, hs4]
  refine ⟨(by (repeat' (first | exact cV | exact bB | refine cW ?_ ?_ | refine bC ?_ ?_)); all_goals (first | exact Or.inl rfl | exact Or.inl (by decide) | exact Or.inr ⟨by (simp (decide := true) [a6, hlw'] <;> assumption), by (simp (decide := true) [a6, hlw'] <;> assumption)⟩)), ?_⟩
  have hend : ∀ k, k ≠ lw → ∀ o, H4 k = some o → upd [(lw, some (.rows 4 [[.sl (43 :: q) 1 0 (w.line.length + 1), .int .i64 (w.pos + 1), xk, .sl (26 :: q) 3 0 (w.acts.length + 1)]]))] (upd [(lw, some (.rows 4 [[.sl (43 :: q) 1 0 (w.line.length + 1), .int .i64 w.pos, xk, .sl (26 :: q) 3 0 (w.acts.length + 1)]]))] H4) k = some o := fun k hk o h => by
    rw [aP hk, a8, aP hk, a8]; exact h
  have hendl : upd [(lw, some (.rows 4 [[.sl (43 :: q) 1 0 (w.line.length + 1), .int .i64 (w.pos + 1), xk, .sl (26 :: q) 3 0 (w.acts.length + 1)]]))] (upd [(lw, some (.rows 4 [[.sl (43 :: q) 1 0 (w.line.length + 1), .int .i64 w.pos, xk, .sl (26 :: q) 3 0 (w.acts.length + 1)]]))] H4) lw = some (.rows 4 [[.sl (43 :: q) 1 0 (w.line.length + 1), .int .i64 (w.pos + 1), xk, .sl (26 :: q) 3 0 (w.acts.length + 1)]]) := aK
  generalize upd [(lw, some (.rows 4 [[.sl (43 :: q) 1 0 (w.line.length + 1), .int .i64 (w.pos + 1), xk, .sl (26 :: q) 3 0 (w.acts.length + 1)]]))] (upd [(lw, some (.rows 4 [[.sl (43 :: q) 1 0 (w.line.length + 1), .int .i64 w.pos, xk, .sl (26 :: q) 3 0 (w.acts.length + 1)]]))] H4) = He at *
  have hv := QU (Hend := He) (H := H) (q := q) (ls := lw :: (26 :: q) :: (43 :: q) :: (labs xl ++ labs xa)) ?_ ?_
  · refine ⟨.inr rfl, .bool true, .bool true, _, by simp [j1, iV, nA, bE], ⟨by rw [hb], .sl (43 :: q) 1 0 (w.line.length + 1), .sl (26 :: q) 3 0 (w.acts.length + 1), ?_⟩, hv.1, .refl _, hv.2.1⟩
    rw [mN, if_pos hb]
    refine ⟨hv.2.2 lw _ hendl (.inl (by simp)), .inr ⟨43 :: q, by rw [r9 hp], hv.2.2 _ _ (hend _ (hlw' _) _ h43) (.inl (by simp))⟩, h.k.mono (fun lab n e hk => ?_), .inr ⟨26 :: q, by simp, hv.2.2 _ _ (hend _ (hlw' _) _ h264) (.inl (by simp))⟩, fun lab n m e e' => ?_⟩
    · refine hv.2.2 lab _ (hend _ (fun e => by rw [e, hs] at hk; cases hk) _ (hH4 lab _ hk (fun e => by rw [e, hs] at hk; cases hk) (fun n' e' => h.ne _ _ _ e' e) (fun e' i n' hx => ?_))) (.inr hk)
      rcases h.a with ⟨h1, _⟩ | ⟨l, h1, h2⟩ <;> (rw [h1] at hx; cases hx)
      rw [hk] at h2; cases h2
    · cases e
      rcases h.k with ⟨h1, _⟩ | ⟨l, h1, h2⟩ <;> rw [h1] at e' <;> cases e'
      rw [hf.at (Nat.zero_le _)] at h2; cases h2
  · intro l hl
    simp only [List.mem_cons, List.mem_append] at hl
    rcases hl with rfl | rfl | rfl | hl | hl
    · exact .inl (by rw [hs]; simp)
    · exact .inr ⟨[26], rfl⟩
    · exact .inr ⟨[43], rfl⟩
    · exact .inl (h.l.lab hl)
    · exact .inl (h.a.labn hl)
  · intro l o hl hn
    simp only [List.mem_cons, List.mem_append, not_or] at hn
    exact hend l hn.1 o (hH4 l o hl hn.1 (fun n e => hn.2.2.2.1 (by simp [e, labs])) (fun e i n e' => hn.2.2.2.2 (by simp [e', labs])))
end
/-! What keys do: runes that are cut, and killed. -/
section
theorem GY {H : aB} {q : Lab} {KK : KF} {l : Lab} {e n : Nat} {a b : Nat} (h0 : a ≤ b) (h1 : b ≤ n) : aM (.slice e true true false) [.sl l e 0 n, .int .i64 a, .int .i64 b] H q KK = KK (.sl l e a (b - a)) H [] (some []) := by
  have : aop nU (.slice e true true false) [.sl l e 0 n, .int .i64 a, .int .i64 b] H q = some (.pure (.sl l e a (b - a))) := by
    have e1 : ((b : Int) - a).toNat = b - a := by omega
    have h2 : (a : Int) ≤ b := by omega
    have h3 : (b : Int) ≤ n := by omega
    simp [aop, iU, rD, h0, h1, e1]
  simp [aM, this]; rfl
theorem v_slice_s0 {H : aB} {q : Lab} {KK : KF} {e : Nat} : aM (.slice e true true false) [.sl0, .int .i64 (0 : Nat), .int .i64 (0 : Nat)] H q KK = KK .sl0 H [] (some []) := by
  show aM (.slice e true true false) [.sl0, .int .i64 0, .int .i64 0] H q KK = _
  have : aop nU (.slice e true true false) [.sl0, .int .i64 0, .int .i64 0] H q = some (.pure .sl0) := by simp [aop, iU, rD]
  simp [aM, this]; rfl
theorem app_on0s {H : aB} {l q k : Lab} {KK : KF} {b off n : Nat} {rs : List (List AV)} (hl : H l = some (.rows 1 [])) (hk' : H k = some (.rows 1 rs)) (hn : off + n ≤ rs.length) (hne : n ≠ 0) (h1 : n * b ≤ 140737488355328) (h2 : n ≤ 4611686018427387904)
    (hk : KK (.sl q 1 0 n) (upd [(q, some (.rows 1 ((rs.drop off).take n))), (l, none)] H) [q, l] (some [l, k])) : aM (.append 1 b) [.sl l 1 0 0, .sl k 1 off n] H q KK := by
  have hln : ((rs.drop off).take n).length = n := by simp; omega
  have hln' : min n (rs.length - off) = n := by omega
  have hne2 : (rs.drop off).take n ≠ [] := fun e => by rw [e] at hln; exact hne hln.symm
  have hem : ((rs.drop off).take n).isEmpty = false := by cases h : (rs.drop off).take n with
    | nil => exact absurd h hne2
    | cons => rfl
  refine ⟨⟨.sl q 1 0 n, [(q, some (.rows 1 ((rs.drop off).take n))), (l, none)], some [l, k]⟩, ?_, hk⟩
  have ha : lF 1 (.sl k 1 off n) H = some ((rs.drop off).take n, [k]) := by simp [lF, hne, hk', hn]
  simp only [aop, gI, ha, Option.bind_some, hem, hl]
  simp [hln, hln', h1, h2]
theorem app_on0e {H : aB} {l q k : Lab} {KK : KF} {b off : Nat} (hk : KK (.sl l 1 0 0) H [] (some [])) : aM (.append 1 b) [.sl l 1 0 0, .sl k 1 off 0] H q KK := by
  refine ⟨.pure (.sl l 1 0 0), ?_, hk⟩
  simp [aop, gI, lF]
/-- a copy of one's own -/
theorem clone_sl {H : aB} {q lab : Lab} {off n : Nat} {rs : List (List AV)} (hl : H lab = some (.rows 1 rs)) (hn : off + n ≤ rs.length) (h0 : n ≠ 0) (hb : n ≤ 1000000000) (h3 : lab ≠ 3 :: q) :
    aZ Try.prog 25 [.sl lab 1 off n] H q ⟨.sl (5 :: q) 1 0 n, [(5 :: q, some (.rows 1 ((rs.drop off).take n)))], some [lab]⟩ := by
  refine nI Try.mixed ok25 rfl (fun l hl => by rw [cR hl]; exact .inr ⟨[5], rfl⟩) ?_
  have hs : restr H (some [lab]) lab = some (.rows 1 rs) := by rw [nS (by simp)]; exact hl
  have honly : ∀ k o, restr H (some [lab]) k = some o → k = lab := fun k o e => by simpa using (tQ e).1
  generalize restr H (some [lab]) = G at hs honly
  simp only [params, Nat.zero_add, Nat.reduceAdd]
  repeat' (first | (simp (disch := omega) only [vsb, aE, reduceIte, AV.cells, putL, aC, Nat.reduceAdd, Nat.reduceDiv, Nat.reduceMod, AV.one, Nat.reduceLeDiff, Nat.reduceEqDiff, OV, WV, V25, MZ, MY, MX, MW, DZ]) | (refine aY (fun _ => ?_) (fun _ => ?_)) | (refine jN (fun _ => ?_) (fun _ => ?_)) | (refine cF (fun _ => ?_) (fun _ => ?_)) | (refine bI (fun _ => ?_) (fun _ => ?_)) | (refine And.intro (aV rfl) ?_) | (refine cG (fun _ => ?_) ?_) | (exfalso; omega; done))
  refine app_on0s aK (k := lab) (by rw [aP h3]; exact hs) hn h0 (by omega) (by omega) ?_
  refine ⟨.inr rfl, _, by simp [j1, iV, nA, bE], .refl _, fun k o hk => ?_⟩
  rcases Classical.em (k = 5 :: q) with rfl | hn
  · simp only [aK] at hk ⊢; exact hk
  · rw [aP hn, a8] at hk
    obtain rfl := honly k o hk
    rw [aP hn, aP h3, a8, aP h3]; exact hk
theorem clone_s0 {H : aB} {q lab : Lab} {off : Nat} : aZ Try.prog 25 [.sl lab 1 off 0] H q ⟨.sl (3 :: q) 1 0 0, [(3 :: q, some (.rows 1 []))], some []⟩ := by
  refine nI Try.mixed ok25 rfl (fun l hl => by rw [cR hl]; exact .inr ⟨[3], rfl⟩) ?_
  simp only [params, Nat.zero_add, Nat.reduceAdd]
  repeat' (first | (simp (disch := omega) only [vsb, aE, reduceIte, AV.cells, putL, aC, Nat.reduceAdd, Nat.reduceDiv, Nat.reduceMod, AV.one, Nat.reduceLeDiff, Nat.reduceEqDiff, OV, WV, V25, MZ, MY, MX, MW, DZ]) | (refine aY (fun _ => ?_) (fun _ => ?_)) | (refine jN (fun _ => ?_) (fun _ => ?_)) | (refine cF (fun _ => ?_) (fun _ => ?_)) | (refine bI (fun _ => ?_) (fun _ => ?_)) | (refine And.intro (aV rfl) ?_) | (refine cG (fun _ => ?_) ?_) | (exfalso; omega; done))
  refine app_on0e ?_
  refine ⟨.inr rfl, _, by simp [j1, iV, nA, bE], .refl _, fun k o hk => ?_⟩
  exact hk
def jV (w : Wk) (f t : Nat) : List Int := (w.line.drop f).take (t - f)
def mH (w : Wk) (f t : Nat) : Wk := if f < t then ⟨w.line.take f ++ w.line.drop t, f, w.kill, w.acts ++ (jV w f t).map fun c => (2, (f : Int), c)⟩ else w
def CutR (H : aB) (lw : Lab) (xk : AV) (w : Wk) (f t : Nat) (y : AV) (u : Chg) : Prop := ListE (upd u H) y (jV w f t) ∧ ∃ xl' xa', WorkI (upd u H) lw xl' xk xa' (mH w f t) ∧ ∀ lab n m, xl' = .sl lab 1 0 n → y ≠ .sl lab 1 0 m
/-- nothing is cut -/
theorem cut_none {H : aB} {q lw : Lab} {xl xk xa : AV} {w : Wk} (h : WorkI H lw xl xk xa w) (hf : Fresh q 0 H) (f : Nat) (hl : f ≤ w.line.length) :
    ∃ y u, aZ Try.prog 62 [.ptr lw 4 0 0, .int .i64 f, .int .i64 f] H q ⟨y, u, none⟩ ∧ CutR H lw xk w f f y u := by
  have hs := h.s
  have hcw : mH w f f = w := by simp [mH]
  have hcg : jV w f f = [] := by simp [jV]
  rcases h.l with ⟨rfl, hl0⟩ | ⟨lab, rfl, hlab⟩
  · refine ⟨.sl0, [], ?_, by rw [CutR, hcw, hcg]; exact ⟨.inl ⟨rfl, rfl⟩, _, _, h, fun _ _ _ e => by cases e⟩⟩
    obtain rfl : f = 0 := by rw [hl0] at hl; simpa using hl
    refine nI Try.mixed ok62 rfl (fun l hl => absurd hl (aS l)) ?_
    rw [show restr H none = H from rfl]
    simp only [params, Nat.zero_add, Nat.reduceAdd]
    simp (disch := omega) only [vsb, aE, reduceIte, AV.cells, putL, aC, Nat.reduceAdd, Nat.reduceDiv, Nat.reduceMod, AV.one, Nat.reduceLeDiff, Nat.reduceEqDiff, yR, lR, nJ, GG, sC, sB, V62, xN, xM, xI, xH, xF, xE, xG, xD, xB, xA, xC, w9, rP, rO, hs, v_slice_s0]
    refine cB (BM (.inr (.inr rfl))) ?_
    simp (disch := omega) only [vsb, aE, reduceIte, AV.cells, putL, aC, Nat.reduceAdd, Nat.reduceDiv, Nat.reduceMod, AV.one, Nat.reduceLeDiff, Nat.reduceEqDiff, yR, lR, nJ, GG, sC, sB, V62, xN, xM, xI, xH, xF, xE, xG, xD, xB, xA, xC, w9, rP, rO, hs]
    refine qH (fun n r H' c => r = [(0, .ptr lw 4 0 0), (1, .int .i64 (0 : Nat)), (2, .int .i64 (0 : Nat)), (7, .sl0), (19, .sl0), (20, .int .i64 0), (21, .int .i64 0)] ∧ H' = H) 0 ⟨rfl, rfl⟩ ?_
    rintro n r H' c ⟨rfl, rfl⟩
    simp (disch := omega) only [vsb, aE, reduceIte, AV.cells, putL, aC, Nat.reduceAdd, Nat.reduceDiv, Nat.reduceMod, AV.one, Nat.reduceLeDiff, Nat.reduceEqDiff, yR, lR, nJ, GG, sC, sB, V62, xN, xM, xI, xH, xF, xE, xG, xD, xB, xA, xC, w9, rP, rO]
    exact ⟨.inr rfl, _, by simp [j1, iV, nA, bE], .refl _, fun k o h => h⟩
  · have hne : lab ≠ 3 :: 9 :: q := fun e => by rw [e, show H (3 :: 9 :: q) = none from hf 9 [3] (Nat.zero_le _)] at hlab; cases hlab
    refine ⟨.sl (3 :: 9 :: q) 1 0 0, [(3 :: 9 :: q, some (.rows 1 []))], ?_, ?_⟩
    · refine nI Try.mixed ok62 rfl (fun l hl => by rw [cR hl]; exact .inr ⟨[3, 9], rfl⟩) ?_
      rw [show restr H none = H from rfl]
      simp only [params, Nat.zero_add, Nat.reduceAdd]
      simp (disch := omega) only [vsb, aE, reduceIte, AV.cells, putL, aC, Nat.reduceAdd, Nat.reduceDiv, Nat.reduceMod, AV.one, Nat.reduceLeDiff, Nat.reduceEqDiff, yR, lR, nJ, GG, sC, sB, V62, xN, xM, xI, xH, xF, xE, xG, xD, xB, xA, xC, w9, rP, rO, hs, GY]
      rw [Nat.sub_self]
      refine cB clone_s0 ?_
      simp (disch := omega) only [vsb, aE, reduceIte, AV.cells, putL, aC, Nat.reduceAdd, Nat.reduceDiv, Nat.reduceMod, AV.one, Nat.reduceLeDiff, Nat.reduceEqDiff, yR, lR, nJ, GG, sC, sB, V62, xN, xM, xI, xH, xF, xE, xG, xD, xB, xA, xC, w9, rP, rO, hs]
      refine qH (fun n r H' c => r = [(0, .ptr lw 4 0 0), (1, .int .i64 f), (2, .int .i64 f), (7, .sl (3 :: 9 :: q) 1 0 0), (19, .sl (3 :: 9 :: q) 1 0 0), (20, .int .i64 (0 : Nat)), (21, .int .i64 0)] ∧ H' = upd [(3 :: 9 :: q, some (.rows 1 []))] H) 0 ⟨rfl, rfl⟩ ?_
      rintro n r H' c ⟨rfl, rfl⟩
      simp (disch := omega) only [vsb, aE, reduceIte, AV.cells, putL, aC, Nat.reduceAdd, Nat.reduceDiv, Nat.reduceMod, AV.one, Nat.reduceLeDiff, Nat.reduceEqDiff, yR, lR, nJ, GG, sC, sB, V62, xN, xM, xI, xH, xF, xE, xG, xD, xB, xA, xC, w9, rP, rO]
      exact ⟨.inr rfl, _, by simp [j1, iV, nA, bE], .refl _, fun k o h => h⟩
    · rw [CutR, hcw, hcg]
      have hk : ∀ k o, H k = some o → upd [(3 :: 9 :: q, some (.rows 1 []))] H k = some o := fun k o hk => by
        rw [aP (fun e => by rw [e, show H (3 :: 9 :: q) = none from hf 9 [3] (Nat.zero_le _)] at hk; cases hk)]; exact hk
      exact ⟨.inr ⟨_, rfl, aK⟩, _, _, h.mono hk, fun l n m e e' => by cases e; cases e'; exact hne rfl⟩
theorem JG {H : aB} {ls : List Lab} {k : Lab} {o : AO} (h : upd (ls.map fun l => (l, none)) H k = some o) : k ∉ ls ∧ H k = some o := by
  induction ls with
  | nil => exact ⟨by simp, h⟩
  | cons l ls ih =>
    simp only [List.map_cons, upd] at h
    split at h
    · cases h
    · rename_i hn
      exact ⟨by simp [hn, (ih h).1], (ih h).2⟩
theorem CE {l : List Int} {i : Nat} (h : i < l.length) : l.take (i + 1) = l.take i ++ [nth l i] := by
  rw [List.take_add_one]
  simp [nth, List.getD_eq_getElem?_getD, h]
theorem wZ {H : aB} {x : AV} {e e2 : Nat} {rows rs : List (List AV)} (h : Own H x e rows) {k : Lab} (hk : H k = some (.rows e2 rs)) (hne : e2 ≠ e) : ∀ e i n, x ≠ .sl k e i n := fun e' i n hx => by
  rcases h with ⟨h1, _⟩ | ⟨l, h1, h2⟩ <;> (rw [h1] at hx; cases hx)
  rw [hk] at h2; cases h2; exact hne rfl
/-- something is cut -/
theorem cut_some {H : aB} {q lw : Lab} {xl xk xa : AV} {w : Wk} (h : WorkI H lw xl xk xa w) (hf : Fresh q 0 H) (f t : Nat) (hft : f < t) (hl : t ≤ w.line.length) (hb : w.line.length ≤ 1000000) (ha : w.acts.length ≤ 1000000) :
    ∃ y u, aZ Try.prog 62 [.ptr lw 4 0 0, .int .i64 f, .int .i64 t] H q ⟨y, u, none⟩ ∧ CutR H lw xk w f t y u := by
  have hs := h.s
  obtain ⟨lab, rfl, hlab⟩ : ∃ lab, xl = .sl lab 1 0 w.line.length ∧ H lab = some (.rows 1 (w.line.map aE)) := by
    rcases h.l with ⟨h1, h2⟩ | ⟨lab, h1, h2⟩
    · rw [h2] at hl; simp at hl; omega
    · exact ⟨lab, h1, h2⟩
  have hcw : mH w f t = ⟨w.line.take f ++ w.line.drop t, f, w.kill, w.acts ++ (jV w f t).map fun c => (2, (f : Int), c)⟩ := by rw [mH, if_pos hft]
  have hfk : ∀ s k, H (s ++ k :: q) = none := fun s k => hf k s (Nat.zero_le _)
  have hneq : ∀ {k o}, H k = some o → ∀ s j, k ≠ s ++ j :: q := fun h s j e => by rw [e, hfk] at h; cases h
  have hne59 : ∀ {k o}, H k = some o → k ≠ 5 :: 9 :: q := fun h => hneq h [5] 9
  have hne1 : ∀ {k o}, H k = some o → ∀ j, k ≠ j :: q := fun h j => hneq h [] j
  have hlw5 : ∀ j, lw ≠ j :: q := fun j => hneq hs [] j
  have hlb5 : ∀ j, lab ≠ j :: q := fun j => hneq hlab [] j
  have hlw59 : lw ≠ 5 :: 9 :: q := hneq hs [5] 9
  have hlb59 : lab ≠ 5 :: 9 :: q := hneq hlab [5] 9
  have hlwlb : lw ≠ lab := fun e => by rw [e, hlab] at hs; cases hs
  generalize hN : t - f = N
  have hgl : (jV w f t).length = N := by simp [jV]; omega
  generalize hg : jV w f t = g at *
  let ln := 26 + 19 * N
  let an := 8 + 19 * N
  refine ⟨.sl (5 :: 9 :: q) 1 0 N, [(lw, some (.rows 4 [[.sl (ln :: q) 1 0 (f + (w.line.length - t)), .int .i64 f, xk, .sl (an :: q) 3 0 (w.acts.length + N)]])), (5 :: 9 :: q, some (.rows 1 (g.map aE))), (an :: q, some (.rows 3 ((w.acts ++ g.map fun c => (2, (f : Int), c)).map bA))), (ln :: q, some (.rows 1 ((w.line.take f ++ w.line.drop t).map aE))), (lab, none)] ++ (labs xa).map fun l => (l, none), ?_, ?_⟩
  · refine nI Try.mixed ok62 rfl (fun l hl => ?_) ?_
    · rw [show restr H none = H from rfl]
      obtain ⟨p, hp, rfl⟩ := hl
      simp only [List.cons_append, List.nil_append, List.mem_cons, List.mem_map] at hp
      rcases hp with rfl | rfl | rfl | rfl | rfl | ⟨l, hl, rfl⟩
      · exact .inl (by rw [hs]; simp)
      · exact .inr ⟨[5, 9], rfl⟩
      · exact .inr ⟨[an], rfl⟩
      · exact .inr ⟨[ln], rfl⟩
      · exact .inl (by rw [hlab]; simp)
      · exact .inl (h.a.labn hl)
    rw [show restr H none = H from rfl]
    simp only [params, Nat.zero_add, Nat.reduceAdd]
    simp (disch := omega) only [vsb, aE, reduceIte, AV.cells, putL, aC, Nat.reduceAdd, Nat.reduceDiv, Nat.reduceMod, AV.one, Nat.reduceLeDiff, Nat.reduceEqDiff, yR, lR, nJ, GG, sC, sB, V62, xN, xM, xI, xH, xF, xE, xG, xD, xB, xA, xC, w9, rP, rO, hs, GY]
    rw [hN]
    refine cB (clone_sl hlab (by simp; omega) (by omega) (by omega) (hneq hlab [3] 9)) ?_
    have e1 : ((w.line.map aE).drop f).take N = g.map aE := by rw [← hg, jV, hN, List.map_take, List.map_drop]
    rw [e1]
    simp (disch := omega) only [vsb, aE, reduceIte, AV.cells, putL, aC, Nat.reduceAdd, Nat.reduceDiv, Nat.reduceMod, AV.one, Nat.reduceLeDiff, Nat.reduceEqDiff, yR, lR, nJ, GG, sC, sB, V62, xN, xM, xI, xH, xF, xE, xG, xD, xB, xA, xC, w9, rP, rO, hs]
    refine qH (fun n r H' c => ∃ (i : Nat) (xa' : AV), r = [(0, .ptr lw 4 0 0), (1, .int .i64 f), (2, .int .i64 t), (7, .sl (5 :: 9 :: q) 1 0 N), (19, .sl (5 :: 9 :: q) 1 0 N), (20, .int .i64 N), (21, .int .i64 i)] ∧ i ≤ N ∧ n = N - i ∧ c = 14 + 19 * i ∧ H' lw = some (.rows 4 [[.sl lab 1 0 w.line.length, .int .i64 w.pos, xk, xa']]) ∧ Own H' xa' 3 ((w.acts ++ (g.take i).map fun c => (2, (f : Int), c)).map bA) ∧ (i = 0 → xa' = xa) ∧ (0 < i → xa' = .sl ((8 + 19 * i) :: q) 3 0 (w.acts.length + i)) ∧ H' (5 :: 9 :: q) = some (.rows 1 (g.map aE)) ∧ Fresh q c H' ∧ ∀ k o, H k = some o → k ≠ lw → (∀ e i n, xa ≠ .sl k e i n) → H' k = some o) N ⟨0, xa, rfl, by omega, by omega, rfl, ?_⟩ ?_
    · refine ⟨by rw [aP hlw59]; exact hs, ?_, fun _ => rfl, fun h => absurd h (Nat.lt_irrefl _), aK, fun k s hk => ?_, fun k o hk _ _ => ?_⟩
      · simp only [List.take_zero, List.map_nil, List.append_nil]
        exact h.a.mono' fun l hl => by rw [aP (hne59 hl)]; exact hl
      · rw [aP (fun e => ?_)]
        · exact hfk s k
        · have := congrArg List.length e
          have e2 : (s ++ [k]) ++ q = [5, 9] ++ q := by simpa using e
          have e3 := congrArg List.reverse (List.append_cancel_right e2)
          simp at e3
          omega
      · rw [aP (hne59 hk)]; exact hk
    · rintro n r H' c ⟨i, xa', rfl, hi, rfl, rfl, hs', ho', hx0, hx1, hg', hf', hk'⟩
      simp (disch := omega) only [vsb, aE, reduceIte, AV.cells, putL, aC, Nat.reduceAdd, Nat.reduceDiv, Nat.reduceMod, AV.one, Nat.reduceLeDiff, Nat.reduceEqDiff, yR, lR, nJ, GG, sC, sB, V62, xN, xM, xI, xH, xF, xE, xG, xD, xB, xA, xC, w9, rP, rO, hs', hg']
      refine aY (fun hlt => ?_) (fun hge => ?_)
      · simp (disch := omega) only [vsb, aE, reduceIte, AV.cells, putL, aC, Nat.reduceAdd, Nat.reduceDiv, Nat.reduceMod, AV.one, Nat.reduceLeDiff, Nat.reduceEqDiff, yR, lR, nJ, GG, sC, sB, V62, xN, xM, xI, xH, xF, xE, xG, xD, xB, xA, xC, w9, rP, rO, hs', hg']
        have hlen : ((w.acts ++ (g.take i).map fun c => (2, (f : Int), c)).map bA).length = w.acts.length + i := by simp; omega
        have hlast : (w.acts ++ (g.take i).map fun c => (2, (f : Int), c)).map bA ++ [[.int .i64 2, .int .i64 f, .int .i64 (nth g i)]] = (w.acts ++ (g.take (i + 1)).map fun c => (2, (f : Int), c)).map bA := by
          rw [CE (by omega)]
          simp [bA]
        refine zT ho' hf' (by omega) (by omega) (by decide) (by rw [hlen]; omega) (by rw [hlen]; omega) (fun x' H2 l2 f2 hx2 ho2 hf2 hkb => ?_)
        rw [hlen] at hx2
        rw [hlast] at ho2
        subst hx2
        have hx42 : ∀ {k o}, H' k = some o → (∀ e i n, xa' ≠ .sl k e i n) → H2 k = some o := fun h1 h2 => hkb _ _ h1 h2
        have hs2 := hx42 hs' (wZ ho' hs' (by decide))
        have hg2 := hx42 hg' (wZ ho' hg' (by decide))
        simp (disch := omega) only [vsb, aE, reduceIte, AV.cells, putL, aC, Nat.reduceAdd, Nat.reduceDiv, Nat.reduceMod, AV.one, Nat.reduceLeDiff, Nat.reduceEqDiff, yR, lR, nJ, GG, sC, sB, V62, xN, xM, xI, xH, xF, xE, xG, xD, xB, xA, xC, w9, rP, rO, hs2]
        refine w7 (N - (i + 1)) (by omega) ⟨i + 1, .sl ((14 + 19 * i + 1 + 12) :: q) 3 0 (w.acts.length + i + 1), rfl, by omega, rfl, by omega, aK, ?_, by omega, fun _ => by rw [show 14 + 19 * i + 1 + 12 = 8 + 19 * (i + 1) by omega]; rfl, ?_, ?_, fun k o hk1 hk2 hk3 => ?_⟩
        · refine ho2.mono' fun l hl => ?_
          rw [aP (fun e => by rw [e, hs2] at hl; cases hl)]; exact hl
        · rw [aP (Ne.symm hlw59)]; exact hg2
        · exact (hf2.mono (by omega)).old (by rw [hs2]; simp)
        · rw [aP hk2, a8]
          refine hkb _ _ (hk' k o hk1 hk2 hk3) (fun e j n hx => ?_)
          rcases Nat.eq_zero_or_pos i with h0 | h0
          · rw [hx0 h0] at hx; exact hk3 _ _ _ hx
          · rw [hx1 h0] at hx; cases hx
            exact absurd hk1 (by rw [show H ((8 + 19 * i) :: q) = none from hfk [] _]; simp)
      · obtain rfl : i = N := by omega
        have hxN := hx1 (by omega)
        rw [List.take_of_length_le (by omega)] at ho'
        have hlb' : H' lab = some (.rows 1 (w.line.map aE)) := hk' _ _ hlab (Ne.symm hlwlb) (wZ h.a hlab (by decide))
        have hdel := FF (q := (14 + 19 * i + 1 + 3 + 8) :: q) (off := 0) (n := w.line.length) (i := f) (j := t) hlb' (by simp) (by omega) hl (by omega)
        have erow : ((w.line.map aE).drop 0).take f ++ ((w.line.map aE).drop (0 + t)).take (w.line.length - t) = (w.line.take f ++ w.line.drop t).map aE := by
          rw [Nat.zero_add, List.drop_zero, List.take_of_length_le (l := (w.line.map aE).drop t) (by simp)]
          simp [List.map_take, List.map_drop]
        rw [erow] at hdel
        rw [show 14 + 19 * i + 1 + 3 + 8 = ln by omega] at hdel ⊢
        refine cB hdel ?_
        have hs4 : upd [(ln :: q, some (.rows 1 ((w.line.take f ++ w.line.drop t).map aE))), (lab, none)] H' lw = some (.rows 4 [[.sl lab 1 0 w.line.length, .int .i64 w.pos, xk, xa']]) := by
          rw [aP (hlw5 _), aP hlwlb, a8]; exact hs'
        simp (disch := omega) only [vsb, aE, reduceIte, AV.cells, putL, aC, Nat.reduceAdd, Nat.reduceDiv, Nat.reduceMod, AV.one, Nat.reduceLeDiff, Nat.reduceEqDiff, yR, lR, nJ, GG, sC, sB, V62, xN, xM, xI, xH, xF, xE, xG, xD, xB, xA, xC, w9, rP, rO, hs4]
        subst hxN
        have han : H' (an :: q) = some (.rows 3 ((w.acts ++ g.map fun c => (2, (f : Int), c)).map bA)) := by
          rcases ho' with ⟨h1, _⟩ | ⟨l, h1, h2⟩
          · cases h1
          · injection h1 with e1; rw [← e1] at h2; exact h2
        refine ⟨.inr rfl, _, by simp [j1, iV, nA, bE], .refl _, fun k o hk => ?_⟩
        have h1 : (an :: q) ≠ (ln :: q) := fun e => by simp at e; omega
        by_cases k1 : k = lw
        · subst k1; rw [aK] at hk ⊢; exact hk
        rw [aP k1, a8, aP k1, a8]
        rw [aP k1] at hk
        by_cases k2 : k = 5 :: 9 :: q
        · subst k2; rw [aK] at hk; rw [aP (by simp), aP (Ne.symm hlb59), a8, hg', ← hk]
        rw [aP k2] at hk
        by_cases k3 : k = an :: q
        · subst k3; rw [aK] at hk; rw [aP h1, aP (Ne.symm (hlb5 _)), a8, han, ← hk]
        rw [aP k3] at hk
        by_cases k4 : k = ln :: q
        · subst k4; rw [aK] at hk ⊢; exact hk
        rw [aP k4] at hk ⊢
        by_cases k5 : k = lab
        · subst k5; rw [aK] at hk; cases hk
        rw [aP k5] at hk ⊢
        obtain ⟨hn, hk⟩ := JG hk
        exact hk' k o hk k1 (fun e i n hx => hn (by simp [hx, labs]))
  · have hH : ∀ {k o}, H k = some o → k ≠ lw → k ≠ lab → (∀ e i n, xa ≠ .sl k e i n) → upd ([(lw, some (.rows 4 [[.sl (ln :: q) 1 0 (f + (w.line.length - t)), .int .i64 f, xk, .sl (an :: q) 3 0 (w.acts.length + N)]])), (5 :: 9 :: q, some (.rows 1 (g.map aE))), (an :: q, some (.rows 3 ((w.acts ++ g.map fun c => (2, (f : Int), c)).map bA))), (ln :: q, some (.rows 1 ((w.line.take f ++ w.line.drop t).map aE))), (lab, none)] ++ (labs xa).map fun l => (l, none)) H k = some o := fun {k o} hk h1 h2 h3 => by
      simp only [List.cons_append, List.nil_append]
      rw [aP h1, aP (hne59 hk), aP (hne1 hk an), aP (hne1 hk ln), aP h2, OP, hk]
      intro p hp e
      obtain ⟨l, hl, rfl⟩ := List.mem_map.1 hp
      subst e
      cases xa <;> simp [labs] at hl
      subst hl
      exact h3 _ _ _ rfl
    have h1 : (an :: q) ≠ (ln :: q) := fun e => by simp at e; omega
    have hy : ListE (upd ([(lw, some (.rows 4 [[.sl (ln :: q) 1 0 (f + (w.line.length - t)), .int .i64 f, xk, .sl (an :: q) 3 0 (w.acts.length + N)]])), (5 :: 9 :: q, some (.rows 1 (g.map aE))), (an :: q, some (.rows 3 ((w.acts ++ g.map fun c => (2, (f : Int), c)).map bA))), (ln :: q, some (.rows 1 ((w.line.take f ++ w.line.drop t).map aE))), (lab, none)] ++ (labs xa).map fun l => (l, none)) H) (.sl (5 :: 9 :: q) 1 0 N) g := .inr ⟨_, by rw [hgl], by simp only [List.cons_append, List.nil_append]; rw [aP (Ne.symm hlw59), aK]⟩
    refine ⟨hg ▸ hy, .sl (ln :: q) 1 0 (f + (w.line.length - t)), .sl (an :: q) 3 0 (w.acts.length + N), ⟨?_, .inr ⟨ln :: q, ?_, ?_⟩, ?_, .inr ⟨an :: q, ?_, ?_⟩, ?_⟩, ?_⟩
    · simp only [List.cons_append, List.nil_append, aK, hcw]
    · rw [hcw]; simp; omega
    · simp only [List.cons_append, List.nil_append, hcw]
      rw [aP (Ne.symm (hlw5 _)), aP (by simp), aP (Ne.symm h1), aK]
    · rw [hcw]
      refine h.k.mono (fun l n e hk => hH hk (fun e => by rw [e, hs] at hk; cases hk) (fun e' => h.ne _ _ _ rfl (e' ▸ e)) (wZ h.a hk (by decide)))
    · rw [hcw]; simp [hgl]
    · simp only [List.cons_append, List.nil_append, hcw]
      rw [aP (Ne.symm (hlw5 _)), aP (by simp), aK]
    · intro l n m e e'
      cases e
      rcases h.k with ⟨h1, _⟩ | ⟨l, h1, h2⟩ <;> rw [h1] at e' <;> cases e'
      rw [show H (ln :: q) = none from hfk [] _] at h2; cases h2
    · intro l n m e e'
      cases e
      simp at e'
theorem GO {H : aB} {q lw : Lab} {xl xk xa : AV} {w : Wk} (h : WorkI H lw xl xk xa w) (hf : Fresh q 0 H) (f t : Nat) (hft : f ≤ t) (hl : t ≤ w.line.length) (hb : w.line.length ≤ 1000000) (ha : w.acts.length ≤ 1000000) :
    ∃ y u, aZ Try.prog 62 [.ptr lw 4 0 0, .int .i64 f, .int .i64 t] H q ⟨y, u, none⟩ ∧ CutR H lw xk w f t y u := by
  rcases Nat.lt_or_ge f t with h1 | h1
  · exact cut_some h hf f t h1 hl hb ha
  · obtain rfl : f = t := by omega
    exact cut_none h hf f hl
def kX (w : Wk) (f t : Nat) : Wk := if f < t then { mH w f t with kill := jV w f t } else w
theorem EV {w : Wk} {f t : Nat} (hft : f ≤ t) (hl : t ≤ w.line.length) : (jV w f t).length = t - f := by simp [jV]; omega
theorem EE {H : aB} {q lw : Lab} {xl xk xa : AV} {w : Wk} (h : WorkI H lw xl xk xa w) (hf : Fresh q 0 H) (f t : Nat) (hft : f ≤ t) (hl : t ≤ w.line.length) (hb : w.line.length ≤ 1000000) (ha : w.acts.length ≤ 1000000) :
    ∃ y u, aZ Try.prog 63 [.ptr lw 4 0 0, .int .i64 f, .int .i64 t] H q ⟨y, u, none⟩ ∧ ∃ xl' xk' xa', WorkI (upd u H) lw xl' xk' xa' (kX w f t) := by
  have hs0 := h.s
  obtain ⟨y, uc, hc, hy, xl', xa', hw, hne⟩ := GO (q := 3 :: q) h (hf.mono (Nat.zero_le 3)).callee f t hft hl hb ha
  have hs := hw.s
  have hlen := @EV w f t hft hl
  have huc : ∀ l, Chg.has uc l → H l ≠ none ∨ Under q l := fun l hl => (hc.2.1 l hl).imp id fun ⟨s, hs⟩ => ⟨s ++ [3], by simpa using hs⟩
  by_cases hlt : f < t
  · have hcw : mH w f t = ⟨w.line.take f ++ w.line.drop t, f, w.kill, w.acts ++ (jV w f t).map fun c => (2, (f : Int), c)⟩ := by rw [mH, if_pos hlt]
    obtain ⟨ly, rfl, hly⟩ : ∃ ly, y = .sl ly 1 0 (jV w f t).length ∧ upd uc H ly = some (.rows 1 ((jV w f t).map aE)) := by
      rcases hy with ⟨_, h1⟩ | h1
      · rw [h1] at hlen; simp at hlen; omega
      · exact h1
    have hlylw : ly ≠ lw := fun e => by rw [e, hs] at hly; cases hly
    refine ⟨.tuple [], (lw, some (.rows 4 [[xl', .int .i64 f, .sl ly 1 0 (jV w f t).length, xa']])) :: uc, ?_, xl', .sl ly 1 0 (jV w f t).length, xa', ?_⟩
    · refine nI Try.mixed ok63 rfl (fun l hl => ?_) ?_
      · rw [show restr H none = H from rfl]
        obtain ⟨p, hp, rfl⟩ := hl
        rcases List.mem_cons.1 hp with rfl | hp
        · exact .inl (by rw [hs0]; simp)
        · exact huc _ ⟨p, hp, rfl⟩
      rw [show restr H none = H from rfl]
      simp only [params, Nat.zero_add, Nat.reduceAdd]
      simp (disch := omega) only [vsb, aE, reduceIte, AV.cells, putL, aC, Nat.reduceAdd, Nat.reduceDiv, Nat.reduceMod, AV.one, Nat.reduceLeDiff, Nat.reduceEqDiff, OU, WU, V63, MT, MS, MR]
      refine cB hc ?_
      rw [hcw] at hs
      simp (disch := omega) only [vsb, aE, reduceIte, AV.cells, putL, aC, Nat.reduceAdd, Nat.reduceDiv, Nat.reduceMod, AV.one, Nat.reduceLeDiff, Nat.reduceEqDiff, OU, WU, V63, MT, MS, MR, hs]
      refine ⟨.inl rfl, .tuple [], by simp [j1, iV], .refl _, fun k o hk => ?_⟩
      by_cases k1 : k = lw
      · subst k1; rw [aK] at hk ⊢; exact hk
      · rw [aP k1] at hk ⊢; exact hk
    · rw [kX, if_pos hlt, hcw]
      rw [hcw] at hw
      have ho : ∀ {k o}, upd uc H k = some o → k ≠ lw → upd ((lw, some (.rows 4 [[xl', .int .i64 f, .sl ly 1 0 (jV w f t).length, xa']])) :: uc) H k = some o := fun h1 h2 => by rw [aP h2]; exact h1
      have hd : ∀ {k e rs}, upd uc H k = some (.rows e rs) → e ≠ 4 → k ≠ lw := fun h1 h2 e => by rw [e, hw.s] at h1; cases h1; exact h2 rfl
      refine ⟨aK, hw.l.mono fun l n e hk => ho hk (hd hk (by decide)), .inr ⟨ly, rfl, ho hly hlylw⟩, hw.a.mono' fun l hk => ho hk (hd hk (by decide)), fun l n m e e' => hne l n _ e (by cases e'; rfl)⟩
  · refine ⟨.tuple [], uc, ?_, xl', xk, xa', by rw [kX, if_neg hlt]; rw [mH, if_neg hlt] at hw; exact hw⟩
    refine nI Try.mixed ok63 rfl (fun l hl => ?_) ?_
    · rw [show restr H none = H from rfl]; exact huc l hl
    rw [show restr H none = H from rfl]
    simp only [params, Nat.zero_add, Nat.reduceAdd]
    simp (disch := omega) only [vsb, aE, reduceIte, AV.cells, putL, aC, Nat.reduceAdd, Nat.reduceDiv, Nat.reduceMod, AV.one, Nat.reduceLeDiff, Nat.reduceEqDiff, OU, WU, V63, MT, MS, MR]
    refine cB hc ?_
    have h0 : (jV w f t).length = 0 := by omega
    have hyl := @ListE.len _ _ _ hy
    rw [h0] at hyl
    simp (disch := omega) only [vsb, aE, reduceIte, AV.cells, putL, aC, Nat.reduceAdd, Nat.reduceDiv, Nat.reduceMod, AV.one, Nat.reduceLeDiff, Nat.reduceEqDiff, OU, WU, V63, MT, MS, MR, hyl]
    exact ⟨.inl rfl, .tuple [], by simp [j1, iV], .refl _, fun k o hk => hk⟩
end
/-! What keys do: the ways, one by one. -/
section
def WT (H : aB) (lw : Lab) (w' : Wk) : AV → Chg → Prop := fun _ u => ∃ xl' xk' xa', WorkI (upd u H) lw xl' xk' xa' w'
structure Wk.Ok (w : Wk) : Prop where
  p : w.pos ≤ w.line.length
  l : w.line.length ≤ 1000000
  k : w.kill.length ≤ 400000
  a : w.acts.length ≤ 500000
def B9 (f : Nat) (spec : Wk → Wk) : Prop := ∀ {H : aB} {q lw : Lab} {xl xk xa : AV} {w : Wk}, WorkI H lw xl xk xa w → Fresh q 0 H → w.Ok → SoundE Try.prog f [.ptr lw 4 0 0] H q (WT H lw (spec w))
theorem WorkI.at {H : aB} {lw : Lab} {xl xk xa : AV} {w : Wk} (h : WorkI H lw xl xk xa w) (n : Nat) : WorkI (upd [(lw, some (.rows 4 [[xl, .int .i64 n, xk, xa]]))] H) lw xl xk xa { w with pos := n } := by
  have hk : ∀ k e rs, e ≠ 4 → H k = some (.rows e rs) → upd [(lw, some (.rows 4 [[xl, .int .i64 n, xk, xa]]))] H k = some (.rows e rs) := fun k e rs he hk => by
    rw [aP (fun e' => by rw [e', h.s] at hk; cases hk; exact he rfl)]; exact hk
  exact ⟨aK, h.l.mono fun _ _ _ h1 => hk _ _ _ (by decide) h1, h.k.mono fun _ _ _ h1 => hk _ _ _ (by decide) h1, h.a.mono' fun _ h1 => hk _ _ _ (by decide) h1, h.ne⟩
/-- the caret alone is changed -/
theorem B2 {H : aB} {q lw : Lab} {xl xk xa : AV} {w : Wk} (h : WorkI H lw xl xk xa w) {p' : Int} (n : Nat) (hp : p' = n) {c : Nat} : VRE q H [] (WT H lw { w with pos := n }) .normal [] (upd [(lw, some (.rows 4 [[xl, .int .i64 p', xk, xa]]))] H) c := by
  subst hp
  refine ⟨.inl rfl, .tuple [], .tuple [], [(lw, some (.rows 4 [[xl, .int .i64 n, xk, xa]]))], by simp [j1, iV], ⟨xl, xk, xa, h.at n⟩, fun l hl => by rw [cR hl, h.s]; exact .inl (by simp), .refl _, fun l o hl => hl⟩
theorem ListE.fr {H : aB} {x : AV} {l : List Int} (h : ListE H x l) : Fr (fun l => H l ≠ none) H x (il l) := by
  rcases h with ⟨rfl, rfl⟩ | ⟨lab, rfl, h⟩
  · exact .sl0 _
  · exact .of_own (rows := l.map aE) (.inr ⟨_, by rw [List.length_map], h⟩) j7
theorem NG : B9 43 fun w => { w with pos := 0 } := by
  intro H q lw xl xk xa w h hf hok
  refine cC Try.mixed ok43 rfl ?_
  have hs := h.s
  simp only [params, Nat.zero_add, Nat.reduceAdd]
  simp (disch := omega) only [vsb, aE, reduceIte, AV.cells, putL, aC, Nat.reduceAdd, Nat.reduceDiv, Nat.reduceMod, AV.one, Nat.reduceLeDiff, Nat.reduceEqDiff, res43, vt43, V43, hs]
  exact B2 h 0 rfl
theorem P4 : B9 44 fun w => { w with pos := w.line.length } := by
  intro H q lw xl xk xa w h hf hok
  refine cC Try.mixed ok44 rfl ?_
  have hs := h.s
  have hll : ∀ {K : AV → Prop}, cS xl K = K (.int .i64 w.line.length) := h.l.len
  simp only [params, Nat.zero_add, Nat.reduceAdd]
  simp (disch := omega) only [vsb, aE, reduceIte, AV.cells, putL, aC, Nat.reduceAdd, Nat.reduceDiv, Nat.reduceMod, AV.one, Nat.reduceLeDiff, Nat.reduceEqDiff, res44, vt44, V44, hs, hll]
  exact B2 h _ rfl
theorem MO : B9 45 fun w => { w with pos := aR w.line.length (w.pos - 1) } := by
  intro H q lw xl xk xa w h hf hok
  refine cC Try.mixed ok45 rfl ?_
  have hs := h.s
  have ⟨hp, hl, _, _⟩ := hok
  simp only [params, Nat.zero_add, Nat.reduceAdd]
  simp (disch := omega) only [vsb, aE, reduceIte, AV.cells, putL, aC, Nat.reduceAdd, Nat.reduceDiv, Nat.reduceMod, AV.one, Nat.reduceLeDiff, Nat.reduceEqDiff, XO, aAf, V45, SM, SL, hs]
  refine oT (rQ w.line (w.pos - 1)) rfl (.cons h.l.fr (.cons (.refl _) .nil)) ?_
  simp (disch := omega) only [vsb, aE, reduceIte, AV.cells, putL, aC, Nat.reduceAdd, Nat.reduceDiv, Nat.reduceMod, AV.one, Nat.reduceLeDiff, Nat.reduceEqDiff, XO, aAf, V45, SM, SL, hs]
  refine ⟨(by (repeat' (first | exact cV | exact bB | refine cW ?_ ?_ | refine bC ?_ ?_)); all_goals (first | exact Or.inl rfl | exact Or.inl (by decide) | exact Or.inr ⟨by (simp (decide := true) [a6, h] <;> assumption), by (simp (decide := true) [a6, h] <;> assumption)⟩)), ?_⟩
  exact B2 h _ rfl
theorem JS : B9 46 fun w => { w with pos := aR w.line.length (w.pos + 1) } := by
  intro H q lw xl xk xa w h hf hok
  refine cC Try.mixed ok46 rfl ?_
  have hs := h.s
  have ⟨hp, hl, _, _⟩ := hok
  simp only [params, Nat.zero_add, Nat.reduceAdd]
  simp (disch := omega) only [vsb, aE, reduceIte, AV.cells, putL, aC, Nat.reduceAdd, Nat.reduceDiv, Nat.reduceMod, AV.one, Nat.reduceLeDiff, Nat.reduceEqDiff, XN, aAe, V46, SK, SJ, hs]
  refine oT (rQ w.line (w.pos + 1)) rfl (.cons h.l.fr (.cons (.refl _) .nil)) ?_
  simp (disch := omega) only [vsb, aE, reduceIte, AV.cells, putL, aC, Nat.reduceAdd, Nat.reduceDiv, Nat.reduceMod, AV.one, Nat.reduceLeDiff, Nat.reduceEqDiff, XN, aAe, V46, SK, SJ, hs]
  refine ⟨(by (repeat' (first | exact cV | exact bB | refine cW ?_ ?_ | refine bC ?_ ?_)); all_goals (first | exact Or.inl rfl | exact Or.inl (by decide) | exact Or.inr ⟨by (simp (decide := true) [a6, h] <;> assumption), by (simp (decide := true) [a6, h] <;> assumption)⟩)), ?_⟩
  exact B2 h _ rfl
theorem wordOn_key : B9 55 fun w => { w with pos := cH w.line (aR w.line.length w.pos) } := by
  intro H q lw xl xk xa w h hf hok
  refine cC Try.mixed ok55 rfl ?_
  have hs := h.s
  have ⟨hp, hl, _, _⟩ := hok
  simp only [params, Nat.zero_add, Nat.reduceAdd]
  simp (disch := omega) only [vsb, aE, reduceIte, AV.cells, putL, aC, Nat.reduceAdd, Nat.reduceDiv, Nat.reduceMod, AV.one, Nat.reduceLeDiff, Nat.reduceEqDiff, XK, aAb, V55, SF, SE, hs]
  refine oT (rX w.line (by omega) w.pos) rfl (.cons h.l.fr (.cons (.refl _) (.cons (.refl _) .nil))) ?_
  simp (disch := omega) only [vsb, aE, reduceIte, AV.cells, putL, aC, Nat.reduceAdd, Nat.reduceDiv, Nat.reduceMod, AV.one, Nat.reduceLeDiff, Nat.reduceEqDiff, XK, aAb, V55, SF, SE, hs]
  refine ⟨(by (repeat' (first | exact cV | exact bB | refine cW ?_ ?_ | refine bC ?_ ?_)); all_goals (first | exact Or.inl rfl | exact Or.inl (by decide) | exact Or.inr ⟨by (simp (decide := true) [a6, h] <;> assumption), by (simp (decide := true) [a6, h] <;> assumption)⟩)), ?_⟩
  exact B2 h _ rfl
theorem qZ {l : List Int} {a : Nat} (h : a ≤ l.length) : bK l a = (bK l a).toNat ∧ (bK l a).toNat ≤ a := by
  have h1 := tB (l := (l.take a).reverse) (a := 0) (Nat.zero_le _)
  rw [List.length_reverse, List.length_take] at h1
  unfold bK
  omega
theorem wordBack_key : B9 54 fun w => { w with pos := (bK w.line (aR w.line.length w.pos)).toNat } := by
  intro H q lw xl xk xa w h hf hok
  refine cC Try.mixed ok54 rfl ?_
  have hs := h.s
  have ⟨hp, hl, _, _⟩ := hok
  simp only [params, Nat.zero_add, Nat.reduceAdd]
  simp (disch := omega) only [vsb, aE, reduceIte, AV.cells, putL, aC, Nat.reduceAdd, Nat.reduceDiv, Nat.reduceMod, AV.one, Nat.reduceLeDiff, Nat.reduceEqDiff, XL, aAc, V54, SH, SG, hs]
  refine oT (wE w.line (by omega) w.pos) rfl (.cons h.l.fr (.cons (.refl _) (.cons (.refl _) .nil))) ?_
  simp (disch := omega) only [vsb, aE, reduceIte, AV.cells, putL, aC, Nat.reduceAdd, Nat.reduceDiv, Nat.reduceMod, AV.one, Nat.reduceLeDiff, Nat.reduceEqDiff, XL, aAc, V54, SH, SG, hs]
  refine ⟨(by (repeat' (first | exact cV | exact bB | refine cW ?_ ?_ | refine bC ?_ ?_)); all_goals (first | exact Or.inl rfl | exact Or.inl (by decide) | exact Or.inr ⟨by (simp (decide := true) [a6, h] <;> assumption), by (simp (decide := true) [a6, h] <;> assumption)⟩)), ?_⟩
  exact B2 h _ (qZ cA).1
/-- behind a cut or a kill -/
theorem s7 {H : aB} {q : Lab} {lw : Lab} {u : Chg} {w' : Wk} (hu : ∀ l, u.has l → H l ≠ none ∨ Under q l) (h : ∃ xl' xk' xa', WorkI (upd u H) lw xl' xk' xa' w') {c : Nat} {r : RL} : VRE q H [] (WT H lw w') .normal r (upd u H) c :=
  ⟨.inl rfl, .tuple [], .tuple [], u, by simp [j1, iV], h, hu, .refl _, fun _ _ h => h⟩
theorem tI {H : aB} {q : Lab} {c : Nat} {f : Nat} {xs : List AV} {y : AV} {u : Chg} (h : aZ Try.prog f xs H (c :: q) ⟨y, u, none⟩) : ∀ l, Chg.has u l → H l ≠ none ∨ Under q l :=
  fun l hl => (h.2.1 l hl).imp id fun ⟨s, hs⟩ => ⟨s ++ [c], by simpa using hs⟩
theorem vB {H : aB} {q : Lab} (hf : Fresh q 0 H) (c : Nat) : Fresh (c :: q) 0 H := (hf.mono (Nat.zero_le c)).callee
theorem CutR.out {H : aB} {lw : Lab} {xk y : AV} {w : Wk} {f t : Nat} {u : Chg} (h : CutR H lw xk w f t y u) : ∃ xl' xk' xa', WorkI (upd u H) lw xl' xk' xa' (mH w f t) := by
  obtain ⟨_, xl', xa', h1, _⟩ := h
  exact ⟨xl', xk, xa', h1⟩
theorem heldN_lt {n : Nat} {a : Int} (h : a ≤ n) : aR n a = a.toNat := by unfold aR; omega
theorem rub_key : B9 47 fun w => mH w (aR w.line.length (w.pos - 1)) w.pos := by
  intro H q lw xl xk xa w h hf hok
  refine cC Try.mixed ok47 rfl ?_
  have hs := h.s
  have ⟨hp, hl, _, ha⟩ := hok
  simp only [params, Nat.zero_add, Nat.reduceAdd]
  simp (disch := omega) only [vsb, aE, reduceIte, AV.cells, putL, aC, Nat.reduceAdd, Nat.reduceDiv, Nat.reduceMod, AV.one, Nat.reduceLeDiff, Nat.reduceEqDiff, Q7, Z1, V47, PX, PW, hs]
  refine oT (rQ w.line (w.pos - 1)) rfl (.cons h.l.fr (.cons (.refl _) .nil)) ?_
  simp (disch := omega) only [vsb, aE, reduceIte, AV.cells, putL, aC, Nat.reduceAdd, Nat.reduceDiv, Nat.reduceMod, AV.one, Nat.reduceLeDiff, Nat.reduceEqDiff, Q7, Z1, V47, PX, PW, hs]
  obtain ⟨y, u, hc, hR⟩ := GO (q := 18 :: q) h (vB hf _) (aR w.line.length (w.pos - 1)) w.pos (by rw [heldN_lt (by omega)]; omega) hp hl (by omega)
  refine cB hc ?_
  simp (disch := omega) only [vsb, aE, reduceIte, AV.cells, putL, aC, Nat.reduceAdd, Nat.reduceDiv, Nat.reduceMod, AV.one, Nat.reduceLeDiff, Nat.reduceEqDiff, Q7, Z1, V47, PX, PW, hs]
  refine ⟨(by (repeat' (first | exact cV | exact bB | refine cW ?_ ?_ | refine bC ?_ ?_)); all_goals (first | exact Or.inl rfl | exact Or.inl (by decide) | exact Or.inr ⟨by (simp (decide := true) [a6, h] <;> assumption), by (simp (decide := true) [a6, h] <;> assumption)⟩)), ?_⟩
  exact s7 (tI hc) hR.out
theorem P7 : B9 48 fun w => mH w w.pos (aR w.line.length (w.pos + 1)) := by
  intro H q lw xl xk xa w h hf hok
  refine cC Try.mixed ok48 rfl ?_
  have hs := h.s
  have ⟨hp, hl, _, ha⟩ := hok
  simp only [params, Nat.zero_add, Nat.reduceAdd]
  simp (disch := omega) only [vsb, aE, reduceIte, AV.cells, putL, aC, Nat.reduceAdd, Nat.reduceDiv, Nat.reduceMod, AV.one, Nat.reduceLeDiff, Nat.reduceEqDiff, Q6, Z0, V48, PV, PU, hs]
  refine oT (rQ w.line (w.pos + 1)) rfl (.cons h.l.fr (.cons (.refl _) .nil)) ?_
  simp (disch := omega) only [vsb, aE, reduceIte, AV.cells, putL, aC, Nat.reduceAdd, Nat.reduceDiv, Nat.reduceMod, AV.one, Nat.reduceLeDiff, Nat.reduceEqDiff, Q6, Z0, V48, PV, PU, hs]
  obtain ⟨y, u, hc, hR⟩ := GO (q := 18 :: q) h (vB hf _) w.pos (aR w.line.length (w.pos + 1)) (by unfold aR; omega) cA hl (by omega)
  refine cB hc ?_
  simp (disch := omega) only [vsb, aE, reduceIte, AV.cells, putL, aC, Nat.reduceAdd, Nat.reduceDiv, Nat.reduceMod, AV.one, Nat.reduceLeDiff, Nat.reduceEqDiff, Q6, Z0, V48, PV, PU, hs]
  refine ⟨(by (repeat' (first | exact cV | exact bB | refine cW ?_ ?_ | refine bC ?_ ?_)); all_goals (first | exact Or.inl rfl | exact Or.inl (by decide) | exact Or.inr ⟨by (simp (decide := true) [a6, h] <;> assumption), by (simp (decide := true) [a6, h] <;> assumption)⟩)), ?_⟩
  exact s7 (tI hc) hR.out
theorem killOn_key : B9 49 fun w => kX w w.pos w.line.length := by
  intro H q lw xl xk xa w h hf hok
  refine cC Try.mixed ok49 rfl ?_
  have hs := h.s
  have hll : ∀ {K : AV → Prop}, cS xl K = K (.int .i64 w.line.length) := h.l.len
  have ⟨hp, hl, _, ha⟩ := hok
  simp only [params, Nat.zero_add, Nat.reduceAdd]
  simp (disch := omega) only [vsb, aE, reduceIte, AV.cells, putL, aC, Nat.reduceAdd, Nat.reduceDiv, Nat.reduceMod, AV.one, Nat.reduceLeDiff, Nat.reduceEqDiff, XM, aAd, V49, SI, hs, hll]
  obtain ⟨y, u, hc, hR⟩ := EE (q := 12 :: q) h (vB hf _) w.pos w.line.length hp (Nat.le_refl _) hl (by omega)
  refine cB hc ?_
  simp (disch := omega) only [vsb, aE, reduceIte, AV.cells, putL, aC, Nat.reduceAdd, Nat.reduceDiv, Nat.reduceMod, AV.one, Nat.reduceLeDiff, Nat.reduceEqDiff, XM, aAd, V49, SI, hs]
  refine ⟨(by (repeat' (first | exact cV | exact bB | refine cW ?_ ?_ | refine bC ?_ ?_)); all_goals (first | exact Or.inl rfl | exact Or.inl (by decide) | exact Or.inr ⟨by (simp (decide := true) [a6, h] <;> assumption), by (simp (decide := true) [a6, h] <;> assumption)⟩)), ?_⟩
  exact s7 (tI hc) hR
theorem killBack_key : B9 50 fun w => kX w 0 w.pos := by
  intro H q lw xl xk xa w h hf hok
  refine cC Try.mixed ok50 rfl ?_
  have hs := h.s
  have ⟨hp, hl, _, ha⟩ := hok
  simp only [params, Nat.zero_add, Nat.reduceAdd]
  simp (disch := omega) only [vsb, aE, reduceIte, AV.cells, putL, aC, Nat.reduceAdd, Nat.reduceDiv, Nat.reduceMod, AV.one, Nat.reduceLeDiff, Nat.reduceEqDiff, res50, vt50, V50, hs]
  obtain ⟨y, u, hc, hR⟩ := EE (q := 6 :: q) h (vB hf _) 0 w.pos (Nat.zero_le _) hp hl (by omega)
  refine cB hc ?_
  exact s7 (tI hc) hR
theorem EF : B9 51 fun w => kX w (bK w.line (aR w.line.length w.pos)).toNat w.pos := by
  intro H q lw xl xk xa w h hf hok
  refine cC Try.mixed ok51 rfl ?_
  have hs := h.s
  have ⟨hp, hl, _, ha⟩ := hok
  simp only [params, Nat.zero_add, Nat.reduceAdd]
  simp (disch := omega) only [vsb, aE, reduceIte, AV.cells, putL, aC, Nat.reduceAdd, Nat.reduceDiv, Nat.reduceMod, AV.one, Nat.reduceLeDiff, Nat.reduceEqDiff, Q5, ZZ, V51, PT, PS, hs]
  refine oT (wE w.line (by omega) w.pos) rfl (.cons h.l.fr (.cons (.refl _) (.cons (.refl _) .nil))) ?_
  have hwb := qZ (l := w.line) (a := aR w.line.length w.pos) cA
  rw [hwb.1]
  have hhe : aR w.line.length w.pos = w.pos := by unfold aR; omega
  obtain ⟨y, u, hc, hR⟩ := EE (q := 17 :: q) h (vB hf _) (bK w.line (aR w.line.length w.pos)).toNat w.pos (by omega) hp hl (by omega)
  generalize (bK w.line (aR w.line.length w.pos)).toNat = wb at *
  simp (disch := omega) only [vsb, aE, reduceIte, AV.cells, putL, aC, Nat.reduceAdd, Nat.reduceDiv, Nat.reduceMod, AV.one, Nat.reduceLeDiff, Nat.reduceEqDiff, Q5, ZZ, V51, PT, PS, hs]
  refine cB hc ?_
  simp (disch := omega) only [vsb, aE, reduceIte, AV.cells, putL, aC, Nat.reduceAdd, Nat.reduceDiv, Nat.reduceMod, AV.one, Nat.reduceLeDiff, Nat.reduceEqDiff, Q5, ZZ, V51, PT, PS, hs]
  refine ⟨(by (repeat' (first | exact cV | exact bB | refine cW ?_ ?_ | refine bC ?_ ?_)); all_goals (first | exact Or.inl rfl | exact Or.inl (by decide) | exact Or.inr ⟨by (simp (decide := true) [a6, h] <;> assumption), by (simp (decide := true) [a6, h] <;> assumption)⟩)), ?_⟩
  exact s7 (tI hc) hR
theorem I8 {l : List Int} {a : Nat} : a ≤ cH l a := by unfold cH; omega
theorem killNext_key : B9 56 fun w => kX w w.pos (cH w.line (aR w.line.length w.pos)) := by
  intro H q lw xl xk xa w h hf hok
  refine cC Try.mixed ok56 rfl ?_
  have hs := h.s
  have ⟨hp, hl, _, ha⟩ := hok
  simp only [params, Nat.zero_add, Nat.reduceAdd]
  simp (disch := omega) only [vsb, aE, reduceIte, AV.cells, putL, aC, Nat.reduceAdd, Nat.reduceDiv, Nat.reduceMod, AV.one, Nat.reduceLeDiff, Nat.reduceEqDiff, Q4, ZY, V56, PR, PQ, hs]
  refine oT (rX w.line (by omega) w.pos) rfl (.cons h.l.fr (.cons (.refl _) (.cons (.refl _) .nil))) ?_
  have hhe : aR w.line.length w.pos = w.pos := by unfold aR; omega
  have hge := @I8 w.line (aR w.line.length w.pos)
  have hle := tB (l := w.line) (a := aR w.line.length w.pos) cA
  obtain ⟨y, u, hc, hR⟩ := EE (q := 17 :: q) h (vB hf _) w.pos (cH w.line (aR w.line.length w.pos)) (by omega) hle hl (by omega)
  generalize cH w.line (aR w.line.length w.pos) = wb at *
  simp (disch := omega) only [vsb, aE, reduceIte, AV.cells, putL, aC, Nat.reduceAdd, Nat.reduceDiv, Nat.reduceMod, AV.one, Nat.reduceLeDiff, Nat.reduceEqDiff, Q4, ZY, V56, PR, PQ, hs]
  refine cB hc ?_
  simp (disch := omega) only [vsb, aE, reduceIte, AV.cells, putL, aC, Nat.reduceAdd, Nat.reduceDiv, Nat.reduceMod, AV.one, Nat.reduceLeDiff, Nat.reduceEqDiff, Q4, ZY, V56, PR, PQ, hs]
  refine ⟨(by (repeat' (first | exact cV | exact bB | refine cW ?_ ?_ | refine bC ?_ ?_)); all_goals (first | exact Or.inl rfl | exact Or.inl (by decide) | exact Or.inr ⟨by (simp (decide := true) [a6, h] <;> assumption), by (simp (decide := true) [a6, h] <;> assumption)⟩)), ?_⟩
  exact s7 (tI hc) hR
end
/-! What keys do: yank and swap. -/
section
theorem upd_app {H : aB} {u v : Chg} : upd (u ++ v) H = upd u (upd v H) := by
  funext l
  induction u with
  | nil => rfl
  | cons p u ih => simp only [List.cons_append, upd]; split <;> simp [ih]
theorem tA {H : aB} {q : Lab} {u v : Chg} (h1 : ∀ l, v.has l → H l ≠ none ∨ Under q l) (h2 : ∀ l, u.has l → upd v H l ≠ none ∨ Under q l) : ∀ l, (u ++ v).has l → H l ≠ none ∨ Under q l := fun l ⟨p, hp, e⟩ => by
  rcases List.mem_append.1 hp with hp | hp
  · rcases h2 l ⟨p, hp, e⟩ with h | h
    · by_cases hv : v.has l
      · exact h1 l hv
      · rw [bQ hv] at h; exact .inl h
    · exact .inr h
  · exact h1 l ⟨p, hp, e⟩
theorem m6 {P : Program} {H : aB} {p : Lab} {KK : KF} {c : Nat} {f : Nat} {xs : List AV} {Φ : AV → Chg → Prop} (h : SoundE P f xs H (c :: p) Φ) (hf : Fresh p c H) (hk : ∀ x u, Φ x u → (∀ l, u.has l → H l ≠ none ∨ Under p l) → Fresh p (c + 1) (upd u H) → KK x (upd u H) (u.map (·.1)) none) : aN true P f xs H (c :: p) KK := by
  refine call_e_gen (Φ := fun x u => Φ x u ∧ ∀ l, u.has l → H l ≠ none ∨ Under (c :: p) l) (h.mono fun x u h1 h2 => ⟨h1, h2⟩) hf (fun x u H' h1 h2 h3 => ?_)
  obtain rfl : H' = upd u H := funext h2
  exact hk x u h1.1 (fun l hl => (h1.2 l hl).imp id fun ⟨s, hs⟩ => ⟨s ++ [c], by simpa using hs⟩) h3
def mJ (w : Wk) : List Int → Wk
  | [] => w
  | c :: l => if wX w c then mJ (mN w c) l else w
theorem B1 {w : Wk} {c : Int} : (mN w c).kill = w.kill := by unfold mN; split <;> rfl
theorem EC {w : Wk} {c : Int} (h : w.pos ≤ w.line.length) : (mN w c).pos ≤ (mN w c).line.length := by
  unfold mN
  split
  · simp only [r9 h]; omega
  · exact h
theorem tC {w : Wk} {c : Int} : (mN w c).acts.length ≤ w.acts.length + 1 := by
  unfold mN; split <;> simp
theorem EU {l : List Int} {i : Nat} (h : i < l.length) : l.drop i = nth l i :: l.drop (i + 1) := by
  rw [List.drop_eq_getElem_cons h]
  simp [nth, List.getD_eq_getElem?_getD, h]
theorem yank_key : B9 52 fun w => mJ w w.kill := by
  intro H q lw xl xk xa w h hf hok
  refine cC Try.mixed ok52 rfl ?_
  have hs := h.s
  have ⟨hp, hl, hkl, ha⟩ := hok
  simp only [params, Nat.zero_add, Nat.reduceAdd]
  simp (disch := omega) only [vsb, aE, reduceIte, AV.cells, putL, aC, Nat.reduceAdd, Nat.reduceDiv, Nat.reduceMod, AV.one, Nat.reduceLeDiff, Nat.reduceEqDiff, MB, wU, zQ, QN, GP, V52, K5, J4, J3, J2, J5, J1, hs, h.k.len]
  refine qH (fun n r H' c => ∃ (i : Nat) (u : Chg) (xl' xa' : AV) (w' : Wk), r = [(0, .ptr lw 4 0 0), (8, xk), (9, .int .i64 w.kill.length), (10, .int .i64 i)] ∧ i ≤ w.kill.length ∧ n = w.kill.length - i ∧ H' = upd u H ∧ (∀ l, u.has l → H l ≠ none ∨ Under q l) ∧ Fresh q c H' ∧ WorkI H' lw xl' xk xa' w' ∧ w'.kill = w.kill ∧ w'.pos ≤ w'.line.length ∧ w'.acts.length ≤ w.acts.length + i ∧ mJ w w.kill = mJ w' (w.kill.drop i)) w.kill.length ⟨0, [], xl, xa, w, rfl, Nat.zero_le _, rfl, rfl, fun l hl => absurd hl (aS l), hf.mono (Nat.zero_le _), h, rfl, hp, Nat.le_refl _, rfl⟩ ?_
  rintro n r H' c ⟨i, u, xl', xa', w', rfl, hi, rfl, rfl, hu, hf', h', hk', hp', ha', hy⟩
  have hs' := h'.s
  simp (disch := omega) only [vsb, aE, reduceIte, AV.cells, putL, aC, Nat.reduceAdd, Nat.reduceDiv, Nat.reduceMod, AV.one, Nat.reduceLeDiff, Nat.reduceEqDiff, MB, wU, zQ, QN, GP, V52, K5, J4, J3, J2, J5, J1, hs']
  refine aY (fun hlt => ?_) (fun hge => ?_)
  · obtain ⟨lk, rfl, hlk⟩ : ∃ lk, xk = .sl lk 1 0 w'.kill.length ∧ upd u H lk = some (.rows 1 (w'.kill.map aE)) := by
      rcases h'.k with ⟨_, h1⟩ | h1
      · rw [← hk', h1] at hlt; simp at hlt; omega
      · exact h1
    rw [hk'] at hlk
    rw [hk']
    have hd := EU (l := w.kill) (i := i) (by omega)
    simp (disch := omega) only [vsb, aE, reduceIte, AV.cells, putL, aC, Nat.reduceAdd, Nat.reduceDiv, Nat.reduceMod, AV.one, Nat.reduceLeDiff, Nat.reduceEqDiff, MB, wU, zQ, QN, GP, V52, K5, J4, J3, J2, J5, J1, hs', hlk]
    refine m6 (E9 h' ((hf'.mono (by omega)).callee) hp' (by omega) (nth w.kill i)) (hf'.mono (by omega)) (fun x u2 hx hu2 hf2 => ?_)
    obtain ⟨rfl, xl2, xa2, h2⟩ := hx
    cases hb : wX w' (nth w.kill i)
    · simp (disch := omega) only [vsb, aE, reduceIte, AV.cells, putL, aC, Nat.reduceAdd, Nat.reduceDiv, Nat.reduceMod, AV.one, Nat.reduceLeDiff, Nat.reduceEqDiff, MB, wU, zQ, QN, GP, V52, K5, J4, J3, J2, J5, J1, hs']
      rw [← upd_app]
      refine s7 (tA hu hu2) ⟨xl2, .sl lk 1 0 w'.kill.length, xa2, ?_⟩
      rw [upd_app, hy, hd, mJ, hb, if_neg (by simp)]
      rw [mN, hb, if_neg (by simp)] at h2
      exact h2
    · simp (disch := omega) only [vsb, aE, reduceIte, AV.cells, putL, aC, Nat.reduceAdd, Nat.reduceDiv, Nat.reduceMod, AV.one, Nat.reduceLeDiff, Nat.reduceEqDiff, MB, wU, zQ, QN, GP, V52, K5, J4, J3, J2, J5, J1, hs']
      refine w7 (w.kill.length - (i + 1)) (by omega) ⟨i + 1, u2 ++ u, xl2, xa2, mN w' (nth w.kill i), by rw [← hk']; rfl, by omega, rfl, upd_app.symm, tA hu hu2, hf2.mono (by omega), ?_, by rw [B1, hk'], EC hp', ?_, ?_⟩
      · rw [hk'] at h2; exact h2
      · have := @tC w' (nth w.kill i); omega
      · rw [hy, hd, mJ, hb, if_pos rfl]
  · refine s7 hu ⟨xl', xk, xa', ?_⟩
    rw [hy, show i = w.kill.length by omega, List.drop_length, mJ]
    exact h'
def oU (w : Wk) : Wk := if w.line.length < 2 ∨ w.pos = 0 then w else if 1000 < w.line.length ∨ yP (nth w.line (Min.min w.pos (w.line.length - 1) - 1)) = false then w else mN { mH w (Min.min w.pos (w.line.length - 1) - 1) (Min.min w.pos (w.line.length - 1)) with pos := Min.min w.pos (w.line.length - 1) } (nth w.line (Min.min w.pos (w.line.length - 1) - 1))
theorem swap_key : B9 53 oU := by
  intro H q lw xl xk xa w h hf hok
  refine cC Try.mixed ok53 rfl ?_
  have hs := h.s
  have hll : ∀ {K : AV → Prop}, cS xl K = K (.int .i64 w.line.length) := h.l.len
  have ⟨hp, hl, hkl, ha⟩ := hok
  have stay : ∀ {r : RL} {c : Nat}, oU w = w → VRE q H [] (WT H lw (oU w)) .ret r H c := fun {r c} e =>
    ⟨.inr rfl, .tuple [], .tuple [], [], by simp [j1, iV], by rw [e]; exact ⟨xl, xk, xa, h⟩, fun l hl => absurd hl (aS l), .refl _, fun _ _ h => h⟩
  simp only [params, Nat.zero_add, Nat.reduceAdd]
  simp (disch := omega) only [vsb, aE, reduceIte, AV.cells, putL, aC, Nat.reduceAdd, Nat.reduceDiv, Nat.reduceMod, AV.one, Nat.reduceLeDiff, Nat.reduceEqDiff, CH, IZ, V53, BE, BD, BA, A9, A6, A5, A7, uA, A8, t9, t8, BB, t7, BC, t6, hs, hll]
  refine aY (fun hshort => ?_) (fun hlong => ?_)
  · simp (disch := omega) only [vsb, aE, reduceIte, AV.cells, putL, aC, Nat.reduceAdd, Nat.reduceDiv, Nat.reduceMod, AV.one, Nat.reduceLeDiff, Nat.reduceEqDiff, CH, IZ, V53, BE, BD, BA, A9, A6, A5, A7, uA, A8, t9, t8, BB, t7, BC, t6, hs, hll]
    exact stay (by unfold oU; rw [if_pos (.inl (by omega))])
  simp (disch := omega) only [vsb, aE, reduceIte, AV.cells, putL, aC, Nat.reduceAdd, Nat.reduceDiv, Nat.reduceMod, AV.one, Nat.reduceLeDiff, Nat.reduceEqDiff, CH, IZ, V53, BE, BD, BA, A9, A6, A5, A7, uA, A8, t9, t8, BB, t7, BC, t6, hs, hll]
  refine aY (fun hz => ?_) (fun hnz => ?_)
  · exact stay (by unfold oU; rw [if_pos (.inr (by omega))])
  simp (disch := omega) only [vsb, aE, reduceIte, AV.cells, putL, aC, Nat.reduceAdd, Nat.reduceDiv, Nat.reduceMod, AV.one, Nat.reduceLeDiff, Nat.reduceEqDiff, CH, IZ, V53, BE, BD, BA, A9, A6, A5, A7, uA, A8, t9, t8, BB, t7, BC, t6, hs, hll]
  refine ⟨(by (repeat' (first | exact cV | exact bB | refine cW ?_ ?_ | refine bC ?_ ?_)); all_goals (first | exact Or.inl rfl | exact Or.inl (by decide) | exact Or.inr ⟨by (simp (decide := true) [a6, h] <;> assumption), by (simp (decide := true) [a6, h] <;> assumption)⟩)), ?_⟩
  obtain ⟨m, hm, hm1⟩ : ∃ m, m = Min.min w.pos (w.line.length - 1) ∧ Min.min (w.pos : Int) ((w.line.length : Int) - 1) = (m : Int) := ⟨_, rfl, by omega⟩
  rw [hm1]
  have hsw : oU w = if 1000 < w.line.length ∨ yP (nth w.line (m - 1)) = false then w else mN { mH w (m - 1) m with pos := m } (nth w.line (m - 1)) := by
    unfold oU; rw [if_neg (by omega), ← hm]
  refine aY (fun hbig => ?_) (fun hfit => ?_)
  · simp (disch := omega) only [vsb, aE, reduceIte, AV.cells, putL, aC, Nat.reduceAdd, Nat.reduceDiv, Nat.reduceMod, AV.one, Nat.reduceLeDiff, Nat.reduceEqDiff, CH, IZ, V53, BE, BD, BA, A9, A6, A5, A7, uA, A8, t9, t8, BB, t7, BC, t6, hs, hll]
    exact stay (by rw [hsw, if_pos (.inl (by omega))])
  obtain ⟨lab, rfl, hlab⟩ : ∃ lab, xl = .sl lab 1 0 w.line.length ∧ H lab = some (.rows 1 (w.line.map aE)) := by
    rcases h.l with ⟨_, h1⟩ | h1
    · rw [h1] at hlong; simp at hlong
    · exact h1
  simp (disch := omega) only [vsb, aE, reduceIte, AV.cells, putL, aC, Nat.reduceAdd, Nat.reduceDiv, Nat.reduceMod, AV.one, Nat.reduceLeDiff, Nat.reduceEqDiff, CH, IZ, V53, BE, BD, BA, A9, A6, A5, A7, uA, A8, t9, t8, BB, t7, BC, t6, hs, hll, hlab]
  obtain ⟨m1, rfl⟩ : ∃ m1, m = m1 + 1 := ⟨m - 1, by omega⟩
  have em : ((m1 + 1 : Nat) : Int) - 1 = (m1 : Nat) := by omega
  rw [em, Int.toNat_natCast]
  rw [Nat.add_sub_cancel] at hsw
  refine aO (HR _) ?_
  cases hr : yP (nth w.line m1)
  · simp (disch := omega) only [vsb, aE, reduceIte, AV.cells, putL, aC, Nat.reduceAdd, Nat.reduceDiv, Nat.reduceMod, AV.one, Nat.reduceLeDiff, Nat.reduceEqDiff, CH, IZ, V53, BE, BD, BA, A9, A6, A5, A7, uA, A8, t9, t8, BB, t7, BC, t6]
    exact stay (by rw [hsw, if_pos (.inr hr)])
  simp (disch := omega) only [vsb, aE, reduceIte, AV.cells, putL, aC, Nat.reduceAdd, Nat.reduceDiv, Nat.reduceMod, AV.one, Nat.reduceLeDiff, Nat.reduceEqDiff, CH, IZ, V53, BE, BD, BA, A9, A6, A5, A7, uA, A8, t9, t8, BB, t7, BC, t6, em]
  obtain ⟨y, u, hc, hy, xl', xa', hw, hne⟩ := GO (q := 53 :: q) h (vB hf _) m1 (m1 + 1) (by omega) (by omega) hl (by omega)
  have hu := tI hc
  have hg : jV w m1 (m1 + 1) = [nth w.line m1] := by
    rw [jV, Nat.add_sub_cancel_left, EU (by omega)]; rfl
  have hcw : mH w m1 (m1 + 1) = ⟨w.line.take m1 ++ w.line.drop (m1 + 1), m1, w.kill, w.acts ++ [(2, (m1 : Int), nth w.line m1)]⟩ := by rw [mH, if_pos (by omega), hg]; rfl
  refine jZ hc (hf.mono (by omega)) (fun H2 hH2 hf2 => ?_)
  obtain rfl : H2 = upd u H := funext hH2
  rw [hcw] at hw
  rw [hg] at hy
  obtain ⟨ly, rfl, hly⟩ : ∃ ly, y = .sl ly 1 0 1 ∧ upd u H ly = some (.rows 1 [[.int .i64 (nth w.line m1)]]) := by
    rcases hy with ⟨_, h1⟩ | h1
    · cases h1
    · exact h1
  have hs2 := hw.s
  simp (disch := omega) only [vsb, aE, reduceIte, AV.cells, putL, aC, Nat.reduceAdd, Nat.reduceDiv, Nat.reduceMod, AV.one, Nat.reduceLeDiff, Nat.reduceEqDiff, CH, IZ, V53, BE, BD, BA, A9, A6, A5, A7, uA, A8, t9, t8, BB, t7, BC, t6, hs2]
  have hly2 : upd [(lw, some (.rows 4 [[xl', .int .i64 ((m1 + 1 : Nat) : Int), xk, xa']]))] (upd u H) ly = some (.rows 1 [[.int .i64 (nth w.line m1)]]) := by
    rw [aP (fun e => by rw [e, hs2] at hly; cases hly)]; exact hly
  simp (disch := omega) only [vsb, aE, reduceIte, AV.cells, putL, aC, Nat.reduceAdd, Nat.reduceDiv, Nat.reduceMod, AV.one, Nat.reduceLeDiff, Nat.reduceEqDiff, CH, IZ, V53, BE, BD, BA, A9, A6, A5, A7, uA, A8, t9, t8, BB, t7, BC, t6, hs2, hly2, Int.toNat_zero]
  have hw2 := hw.at (m1 + 1)
  refine m6 (E9 hw2 (((hf2.old (by rw [hs2]; simp)).mono (by omega)).callee) (by simp; omega) (by simp; omega) (nth w.line m1)) ((hf2.old (by rw [hs2]; simp)).mono (by omega)) (fun x u2 hx hu2 hf3 => ?_)
  obtain ⟨rfl, xl2, xa2, h2⟩ := hx
  rw [show upd u2 (upd [(lw, some (.rows 4 [[xl', .int .i64 ((m1 + 1 : Nat) : Int), xk, xa']]))] (upd u H)) = upd (u2 ++ ([(lw, some (.rows 4 [[xl', .int .i64 ((m1 + 1 : Nat) : Int), xk, xa']]))] ++ u)) H by rw [upd_app, upd_app]] at h2 ⊢
  refine s7 (tA (tA hu (fun l hl => by rw [cR hl, hs2]; exact .inl (by simp))) (by rw [upd_app]; exact hu2)) ⟨xl2, xk, xa2, ?_⟩
  rw [hsw, if_neg (by rw [hr]; simp; omega), hcw]
  exact h2
end
end Go.Proofs.Ytbngfbpegdcpkaa
/-! The program's functions in the abstract machine's terms. -/
namespace Go.Proofs.Ytbngfbpegdcpkaa.RunC0
set_option maxRecDepth 100000
set_option linter.unusedVariables false
set_option linter.unusedSimpArgs false
/-- duet/edit.ways -/
def c28 : AFun := ⟨0, 40, [.tmp 0],
  (.seq (.region [⟨(some 0), none, .move, [.c .nilm]⟩] none [])
  (.seq (.region [⟨(some 1), none, .move, [.c (.fn (.func 41) [] [])]⟩] none [1])
  (.seq (.region [⟨(some 2), none, .move, [.c (.fn (.func 42) [] [])]⟩] none [1, 2])
  (.seq (.region [⟨(some 3), none, .mkmap, []⟩, ⟨(some 4), none, .move, [.t 1]⟩, ⟨(some 5), none, .call, [.t 4, .c (.int .i32 97)]⟩, ⟨none, none, (.mapUpdate true [.int, .int]), [.t 3, .t 5, .c (.fn (.func 43) [] [])]⟩, ⟨(some 6), none, .move, [.t 1]⟩, ⟨(some 7), none, .call, [.t 6, .c (.int .i32 101)]⟩, ⟨none, none, (.mapUpdate true [.int, .int]), [.t 3, .t 7, .c (.fn (.func 44) [] [])]⟩, ⟨(some 8), none, .move, [.t 1]⟩, ⟨(some 9), none, .call, [.t 8, .c (.int .i32 98)]⟩, ⟨none, none, (.mapUpdate true [.int, .int]), [.t 3, .t 9, .c (.fn (.func 45) [] [])]⟩, ⟨(some 10), none, .move, [.t 1]⟩, ⟨(some 11), none, .call, [.t 10, .c (.int .i32 102)]⟩, ⟨none, none, (.mapUpdate true [.int, .int]), [.t 3, .t 11, .c (.fn (.func 46) [] [])]⟩, ⟨(some 12), none, .move, [.t 1]⟩, ⟨(some 13), none, .call, [.t 12, .c (.int .i32 104)]⟩, ⟨none, none, (.mapUpdate true [.int, .int]), [.t 3, .t 13, .c (.fn (.func 47) [] [])]⟩, ⟨(some 14), none, .move, [.t 1]⟩, ⟨(some 15), none, .call, [.t 14, .c (.int .i32 100)]⟩, ⟨none, none, (.mapUpdate true [.int, .int]), [.t 3, .t 15, .c (.fn (.func 48) [] [])]⟩, ⟨(some 16), none, .move, [.t 1]⟩, ⟨(some 17), none, .call, [.t 16, .c (.int .i32 107)]⟩, ⟨none, none, (.mapUpdate true [.int, .int]), [.t 3, .t 17, .c (.fn (.func 49) [] [])]⟩, ⟨(some 18), none, .move, [.t 1]⟩, ⟨(some 19), none, .call, [.t 18, .c (.int .i32 117)]⟩, ⟨none, none, (.mapUpdate true [.int, .int]), [.t 3, .t 19, .c (.fn (.func 50) [] [])]⟩, ⟨(some 20), none, .move, [.t 1]⟩, ⟨(some 21), none, .call, [.t 20, .c (.int .i32 119)]⟩, ⟨none, none, (.mapUpdate true [.int, .int]), [.t 3, .t 21, .c (.fn (.func 51) [] [])]⟩, ⟨(some 22), none, .move, [.t 1]⟩, ⟨(some 23), none, .call, [.t 22, .c (.int .i32 121)]⟩, ⟨none, none, (.mapUpdate true [.int, .int]), [.t 3, .t 23, .c (.fn (.func 52) [] [])]⟩, ⟨(some 24), none, .move, [.t 1]⟩, ⟨(some 25), none, .call, [.t 24, .c (.int .i32 116)]⟩, ⟨none, none, (.mapUpdate true [.int, .int]), [.t 3, .t 25, .c (.fn (.func 53) [] [])]⟩, ⟨(some 26), none, .move, [.t 2]⟩, ⟨(some 27), none, .call, [.t 26, .c (.int .i32 98)]⟩, ⟨none, none, (.mapUpdate true [.int, .int]), [.t 3, .t 27, .c (.fn (.func 54) [] [])]⟩, ⟨(some 28), none, .move, [.t 2]⟩, ⟨(some 29), none, .call, [.t 28, .c (.int .i32 102)]⟩, ⟨none, none, (.mapUpdate true [.int, .int]), [.t 3, .t 29, .c (.fn (.func 55) [] [])]⟩, ⟨(some 30), none, .move, [.t 2]⟩, ⟨(some 31), none, .call, [.t 30, .c (.int .i32 100)]⟩, ⟨none, none, (.mapUpdate true [.int, .int]), [.t 3, .t 31, .c (.fn (.func 56) [] [])]⟩, ⟨(some 32), none, .move, [.t 2]⟩, ⟨(some 33), none, .call, [.t 32, .c (.int .i32 127)]⟩, ⟨none, none, (.mapUpdate true [.int, .int]), [.t 3, .t 33, .c (.fn (.func 51) [] [])]⟩, ⟨(some 34), none, (.build [(.int .i64 0), (.int .i64 0)] [(0, 1)]), [.c (.int .i64 7)]⟩, ⟨none, none, (.mapUpdate true [.int, .int]), [.t 3, .t 34, .c (.fn (.func 45) [] [])]⟩, ⟨(some 35), none, (.build [(.int .i64 0), (.int .i64 0)] [(0, 1)]), [.c (.int .i64 6)]⟩, ⟨none, none, (.mapUpdate true [.int, .int]), [.t 3, .t 35, .c (.fn (.func 46) [] [])]⟩, ⟨(some 36), none, (.build [(.int .i64 0), (.int .i64 0)] [(0, 1)]), [.c (.int .i64 8)]⟩, ⟨none, none, (.mapUpdate true [.int, .int]), [.t 3, .t 36, .c (.fn (.func 43) [] [])]⟩, ⟨(some 37), none, (.build [(.int .i64 0), (.int .i64 0)] [(0, 1)]), [.c (.int .i64 9)]⟩, ⟨none, none, (.mapUpdate true [.int, .int]), [.t 3, .t 37, .c (.fn (.func 44) [] [])]⟩, ⟨(some 38), none, (.build [(.int .i64 0), (.int .i64 0)] [(0, 1)]), [.c (.int .i64 10)]⟩, ⟨none, none, (.mapUpdate true [.int, .int]), [.t 3, .t 38, .c (.fn (.func 48) [] [])]⟩, ⟨(some 39), none, .move, [.t 3]⟩, ⟨(some 0), none, .move, [.t 39]⟩] (some [0, 0, 2, 7, 0, 22, 55, 0, 182, 439, 0, 1462, 3511, 0, 11702, 28087, 0, 93622, 224695, 0, 748982, 1797559, 0, 5991862, 14380471, 0, 47934902, 115043767, 0, 383479222, 920350135, 0, 3067833782, 7362801079, 0, 24542670262, 58902408631, 0, 196341362102, 471219269047, 0, 1570730896822, 3769754152375, 0, 12565847174582, 30158033218999, 0, 70368744177665, 0, 281474976710657, 0, 1125899906842625, 0, 4503599627370497, 0, 18014398509481985, 72057594037927935, 144115188075855871]) [0])
  .ret))))⟩
theorem ok28 : FunOk Try.prog 28 c28 := ⟨⟨Try.f28, _, Try.func28, rfl, by kernel_rfl, by kernel_rfl, by kernel_rfl, by kernel_rfl⟩, by decide⟩
def tblL : List (Nat × AFun) := [(28, c28)]
def tbl (f : Nat) : Option AFun := tblL.lookup f
theorem tbl_ok : ∀ f A, tbl f = some A → FunOk Try.prog f A := JZ (by
  simp only [tblL, List.forall_mem_cons]
  exact ⟨ok28, by simp⟩)
theorem run_ok (fuel d : Nat) : iS Try.prog (WN tbl fuel d) := QD Try.mixed tbl_ok fuel d
end Go.Proofs.Ytbngfbpegdcpkaa.RunC0
/-! What keys do: the table. -/
namespace Go.Proofs.Ytbngfbpegdcpkaa
set_option linter.unusedVariables false
set_option linter.unusedSimpArgs false
set_option maxRecDepth 100000
theorem ctrl_pure (c : Int) (h : 0 ≤ c ∧ c ≤ 1000) : lV Try.prog 41 [.int .i32 c] (.agg [.int .i64 2, .int .i64 c]) := by
  refine cP Try.mixed ok41 rfl (fun q => ?_)
  simp only [params, Nat.zero_add, Nat.reduceAdd]
  repeat' (first | (simp (disch := omega) only [vsb, aE, reduceIte, AV.cells, putL, aC, Nat.reduceAdd, Nat.reduceDiv, Nat.reduceMod, AV.one, Nat.reduceLeDiff, Nat.reduceEqDiff, res41, vt41, V41, YJ, QZ]) | (refine aY (fun _ => ?_) (fun _ => ?_)) | (refine jN (fun _ => ?_) (fun _ => ?_)) | (refine cF (fun _ => ?_) (fun _ => ?_)) | (refine bI (fun _ => ?_) (fun _ => ?_)) | (refine And.intro (aV rfl) ?_) | (refine cG (fun _ => ?_) ?_) | (exfalso; omega; done))
  exact Z3 (by simp [upd]) rfl (.refl _)
theorem meta_pure (c : Int) (h : 0 ≤ c ∧ c ≤ 1000) : lV Try.prog 42 [.int .i32 c] (.agg [.int .i64 3, .int .i64 c]) := by
  refine cP Try.mixed ok42 rfl (fun q => ?_)
  simp only [params, Nat.zero_add, Nat.reduceAdd]
  repeat' (first | (simp (disch := omega) only [vsb, aE, reduceIte, AV.cells, putL, aC, Nat.reduceAdd, Nat.reduceDiv, Nat.reduceMod, AV.one, Nat.reduceLeDiff, Nat.reduceEqDiff, res42, vt42, V42, YI, QZ]) | (refine aY (fun _ => ?_) (fun _ => ?_)) | (refine jN (fun _ => ?_) (fun _ => ?_)) | (refine cF (fun _ => ?_) (fun _ => ?_)) | (refine bI (fun _ => ?_) (fun _ => ?_)) | (refine And.intro (aV rfl) ?_) | (refine cG (fun _ => ?_) ?_) | (exfalso; omega; done))
  exact Z3 (by simp [upd]) rfl (.refl _)
def W3 : b9 := fun f xs _ _ => match xs with
  | [.int .i32 c] => if 0 ≤ c ∧ c ≤ 1000 then (if f = 41 then some (.pure (.agg [.int .i64 2, .int .i64 c])) else if f = 42 then some (.pure (.agg [.int .i64 3, .int .i64 c])) else none) else none
  | _ => none
theorem GL : iS Try.prog W3 := FI fun f xs H q r h => by
  unfold W3 at h
  split at h
  · split at h
    · rename_i hc
      split at h
      · rename_i hf; subst hf; cases h; exact ctrl_pure _ hc H q
      · split at h
        · rename_i hf; subst hf; cases h; exact meta_pure _ hc H q
        · cases h
    · cases h
  · cases h
end Go.Proofs.Ytbngfbpegdcpkaa
/-! A map's literal: its operations. -/
namespace Go.Proofs.Ytbngfbpegdcpkaa
set_option maxRecDepth 100000
def litOps : List AIns := [⟨(some 3), none, .mkmap, []⟩, ⟨(some 4), none, .move, [.t 1]⟩, ⟨(some 5), none, .call, [.t 4, .c (.int .i32 97)]⟩, ⟨none, none, (.mapUpdate true [.int, .int]), [.t 3, .t 5, .c (.fn (.func 43) [] [])]⟩, ⟨(some 6), none, .move, [.t 1]⟩, ⟨(some 7), none, .call, [.t 6, .c (.int .i32 101)]⟩, ⟨none, none, (.mapUpdate true [.int, .int]), [.t 3, .t 7, .c (.fn (.func 44) [] [])]⟩, ⟨(some 8), none, .move, [.t 1]⟩, ⟨(some 9), none, .call, [.t 8, .c (.int .i32 98)]⟩, ⟨none, none, (.mapUpdate true [.int, .int]), [.t 3, .t 9, .c (.fn (.func 45) [] [])]⟩, ⟨(some 10), none, .move, [.t 1]⟩, ⟨(some 11), none, .call, [.t 10, .c (.int .i32 102)]⟩, ⟨none, none, (.mapUpdate true [.int, .int]), [.t 3, .t 11, .c (.fn (.func 46) [] [])]⟩, ⟨(some 12), none, .move, [.t 1]⟩, ⟨(some 13), none, .call, [.t 12, .c (.int .i32 104)]⟩, ⟨none, none, (.mapUpdate true [.int, .int]), [.t 3, .t 13, .c (.fn (.func 47) [] [])]⟩, ⟨(some 14), none, .move, [.t 1]⟩, ⟨(some 15), none, .call, [.t 14, .c (.int .i32 100)]⟩, ⟨none, none, (.mapUpdate true [.int, .int]), [.t 3, .t 15, .c (.fn (.func 48) [] [])]⟩, ⟨(some 16), none, .move, [.t 1]⟩, ⟨(some 17), none, .call, [.t 16, .c (.int .i32 107)]⟩, ⟨none, none, (.mapUpdate true [.int, .int]), [.t 3, .t 17, .c (.fn (.func 49) [] [])]⟩, ⟨(some 18), none, .move, [.t 1]⟩, ⟨(some 19), none, .call, [.t 18, .c (.int .i32 117)]⟩, ⟨none, none, (.mapUpdate true [.int, .int]), [.t 3, .t 19, .c (.fn (.func 50) [] [])]⟩, ⟨(some 20), none, .move, [.t 1]⟩, ⟨(some 21), none, .call, [.t 20, .c (.int .i32 119)]⟩, ⟨none, none, (.mapUpdate true [.int, .int]), [.t 3, .t 21, .c (.fn (.func 51) [] [])]⟩, ⟨(some 22), none, .move, [.t 1]⟩, ⟨(some 23), none, .call, [.t 22, .c (.int .i32 121)]⟩, ⟨none, none, (.mapUpdate true [.int, .int]), [.t 3, .t 23, .c (.fn (.func 52) [] [])]⟩, ⟨(some 24), none, .move, [.t 1]⟩, ⟨(some 25), none, .call, [.t 24, .c (.int .i32 116)]⟩, ⟨none, none, (.mapUpdate true [.int, .int]), [.t 3, .t 25, .c (.fn (.func 53) [] [])]⟩, ⟨(some 26), none, .move, [.t 2]⟩, ⟨(some 27), none, .call, [.t 26, .c (.int .i32 98)]⟩, ⟨none, none, (.mapUpdate true [.int, .int]), [.t 3, .t 27, .c (.fn (.func 54) [] [])]⟩, ⟨(some 28), none, .move, [.t 2]⟩, ⟨(some 29), none, .call, [.t 28, .c (.int .i32 102)]⟩, ⟨none, none, (.mapUpdate true [.int, .int]), [.t 3, .t 29, .c (.fn (.func 55) [] [])]⟩, ⟨(some 30), none, .move, [.t 2]⟩, ⟨(some 31), none, .call, [.t 30, .c (.int .i32 100)]⟩, ⟨none, none, (.mapUpdate true [.int, .int]), [.t 3, .t 31, .c (.fn (.func 56) [] [])]⟩, ⟨(some 32), none, .move, [.t 2]⟩, ⟨(some 33), none, .call, [.t 32, .c (.int .i32 127)]⟩, ⟨none, none, (.mapUpdate true [.int, .int]), [.t 3, .t 33, .c (.fn (.func 51) [] [])]⟩, ⟨(some 34), none, (.build [(.int .i64 0), (.int .i64 0)] [(0, 1)]), [.c (.int .i64 7)]⟩, ⟨none, none, (.mapUpdate true [.int, .int]), [.t 3, .t 34, .c (.fn (.func 45) [] [])]⟩, ⟨(some 35), none, (.build [(.int .i64 0), (.int .i64 0)] [(0, 1)]), [.c (.int .i64 6)]⟩, ⟨none, none, (.mapUpdate true [.int, .int]), [.t 3, .t 35, .c (.fn (.func 46) [] [])]⟩, ⟨(some 36), none, (.build [(.int .i64 0), (.int .i64 0)] [(0, 1)]), [.c (.int .i64 8)]⟩, ⟨none, none, (.mapUpdate true [.int, .int]), [.t 3, .t 36, .c (.fn (.func 43) [] [])]⟩, ⟨(some 37), none, (.build [(.int .i64 0), (.int .i64 0)] [(0, 1)]), [.c (.int .i64 9)]⟩, ⟨none, none, (.mapUpdate true [.int, .int]), [.t 3, .t 37, .c (.fn (.func 44) [] [])]⟩, ⟨(some 38), none, (.build [(.int .i64 0), (.int .i64 0)] [(0, 1)]), [.c (.int .i64 10)]⟩, ⟨none, none, (.mapUpdate true [.int, .int]), [.t 3, .t 38, .c (.fn (.func 48) [] [])]⟩, ⟨(some 39), none, .move, [.t 3]⟩, ⟨(some 0), none, .move, [.t 39]⟩]
def MM : List Nat := [0, 0, 2, 7, 0, 22, 55, 0, 182, 439, 0, 1462, 3511, 0, 11702, 28087, 0, 93622, 224695, 0, 748982, 1797559, 0, 5991862, 14380471, 0, 47934902, 115043767, 0, 383479222, 920350135, 0, 3067833782, 7362801079, 0, 24542670262, 58902408631, 0, 196341362102, 471219269047, 0, 1570730896822, 3769754152375, 0, 12565847174582, 30158033218999, 0, 70368744177665, 0, 281474976710657, 0, 1125899906842625, 0, 4503599627370497, 0, 18014398509481985, 72057594037927935, 144115188075855871]
def aAn (lM : Lab) : RL := [(1, (.fn (.func 41) [] [])), (2, (.fn (.func 42) [] [])), (3, (.map lM)), (4, (.fn (.func 41) [] [])), (5, (.agg [.int .i64 2, .int .i64 97])), (6, (.fn (.func 41) [] [])), (7, (.agg [.int .i64 2, .int .i64 101])), (8, (.fn (.func 41) [] [])), (9, (.agg [.int .i64 2, .int .i64 98])), (10, (.fn (.func 41) [] [])), (11, (.agg [.int .i64 2, .int .i64 102])), (12, (.fn (.func 41) [] [])), (13, (.agg [.int .i64 2, .int .i64 104])), (14, (.fn (.func 41) [] [])), (15, (.agg [.int .i64 2, .int .i64 100])), (16, (.fn (.func 41) [] [])), (17, (.agg [.int .i64 2, .int .i64 107])), (18, (.fn (.func 41) [] [])), (19, (.agg [.int .i64 2, .int .i64 117])), (20, (.fn (.func 41) [] [])), (21, (.agg [.int .i64 2, .int .i64 119])), (22, (.fn (.func 41) [] [])), (23, (.agg [.int .i64 2, .int .i64 121])), (24, (.fn (.func 41) [] [])), (25, (.agg [.int .i64 2, .int .i64 116])), (26, (.fn (.func 42) [] [])), (27, (.agg [.int .i64 3, .int .i64 98])), (28, (.fn (.func 42) [] [])), (29, (.agg [.int .i64 3, .int .i64 102])), (30, (.fn (.func 42) [] [])), (31, (.agg [.int .i64 3, .int .i64 100])), (32, (.fn (.func 42) [] [])), (33, (.agg [.int .i64 3, .int .i64 127])), (34, (.agg [(.int .i64 7), (.int .i64 0)])), (35, (.agg [(.int .i64 6), (.int .i64 0)])), (36, (.agg [(.int .i64 8), (.int .i64 0)])), (37, (.agg [(.int .i64 9), (.int .i64 0)])), (38, (.agg [(.int .i64 10), (.int .i64 0)])), (39, (.map lM)), (0, (.map lM))]
def litU : List (Nat × (AV × AV)) := [(3, ((.agg [.int .i64 2, .int .i64 97]), (.fn (.func 43) [] []))), (6, ((.agg [.int .i64 2, .int .i64 101]), (.fn (.func 44) [] []))), (9, ((.agg [.int .i64 2, .int .i64 98]), (.fn (.func 45) [] []))), (12, ((.agg [.int .i64 2, .int .i64 102]), (.fn (.func 46) [] []))), (15, ((.agg [.int .i64 2, .int .i64 104]), (.fn (.func 47) [] []))), (18, ((.agg [.int .i64 2, .int .i64 100]), (.fn (.func 48) [] []))), (21, ((.agg [.int .i64 2, .int .i64 107]), (.fn (.func 49) [] []))), (24, ((.agg [.int .i64 2, .int .i64 117]), (.fn (.func 50) [] []))), (27, ((.agg [.int .i64 2, .int .i64 119]), (.fn (.func 51) [] []))), (30, ((.agg [.int .i64 2, .int .i64 121]), (.fn (.func 52) [] []))), (33, ((.agg [.int .i64 2, .int .i64 116]), (.fn (.func 53) [] []))), (36, ((.agg [.int .i64 3, .int .i64 98]), (.fn (.func 54) [] []))), (39, ((.agg [.int .i64 3, .int .i64 102]), (.fn (.func 55) [] []))), (42, ((.agg [.int .i64 3, .int .i64 100]), (.fn (.func 56) [] []))), (45, ((.agg [.int .i64 3, .int .i64 127]), (.fn (.func 51) [] []))), (47, ((.agg [(.int .i64 7), (.int .i64 0)]), (.fn (.func 45) [] []))), (49, ((.agg [(.int .i64 6), (.int .i64 0)]), (.fn (.func 46) [] []))), (51, ((.agg [(.int .i64 8), (.int .i64 0)]), (.fn (.func 43) [] []))), (53, ((.agg [(.int .i64 9), (.int .i64 0)]), (.fn (.func 44) [] []))), (55, ((.agg [(.int .i64 10), (.int .i64 0)]), (.fn (.func 48) [] [])))]
def Z5 : List Nat := [1, 2]
theorem lit_ops (lM : Lab) : OL (LitOp W3 litOps MM Z5 (aAn lM) litU true [.int, .int] lM) 0 litOps :=
  ⟨.mk 3 rfl,
   .val 1 4 .move [.t 1] [(.fn (.func 41) [] [])] (.fn (.func 41) [] []) (some []) (by decide) rfl (fun _ _ => rfl) rfl (by decide) (by decide),
   .val 2 5 .call [.t 4, .c (.int .i32 97)] [(.fn (.func 41) [] []), (.int .i32 97)] (.agg [.int .i64 2, .int .i64 97]) (some []) (by decide) rfl (fun _ _ => rfl) rfl (by decide) (by decide),
   .upd 3 (.t 3) (.t 5) (.c (.fn (.func 43) [] [])) (.agg [.int .i64 2, .int .i64 97]) (.fn (.func 43) [] []) (by decide) (by decide) rfl (by simp [litU]),
   .val 4 6 .move [.t 1] [(.fn (.func 41) [] [])] (.fn (.func 41) [] []) (some []) (by decide) rfl (fun _ _ => rfl) rfl (by decide) (by decide),
   .val 5 7 .call [.t 6, .c (.int .i32 101)] [(.fn (.func 41) [] []), (.int .i32 101)] (.agg [.int .i64 2, .int .i64 101]) (some []) (by decide) rfl (fun _ _ => rfl) rfl (by decide) (by decide),
   .upd 6 (.t 3) (.t 7) (.c (.fn (.func 44) [] [])) (.agg [.int .i64 2, .int .i64 101]) (.fn (.func 44) [] []) (by decide) (by decide) rfl (by simp [litU]),
   .val 7 8 .move [.t 1] [(.fn (.func 41) [] [])] (.fn (.func 41) [] []) (some []) (by decide) rfl (fun _ _ => rfl) rfl (by decide) (by decide),
   .val 8 9 .call [.t 8, .c (.int .i32 98)] [(.fn (.func 41) [] []), (.int .i32 98)] (.agg [.int .i64 2, .int .i64 98]) (some []) (by decide) rfl (fun _ _ => rfl) rfl (by decide) (by decide),
   .upd 9 (.t 3) (.t 9) (.c (.fn (.func 45) [] [])) (.agg [.int .i64 2, .int .i64 98]) (.fn (.func 45) [] []) (by decide) (by decide) rfl (by simp [litU]),
   .val 10 10 .move [.t 1] [(.fn (.func 41) [] [])] (.fn (.func 41) [] []) (some []) (by decide) rfl (fun _ _ => rfl) rfl (by decide) (by decide),
   .val 11 11 .call [.t 10, .c (.int .i32 102)] [(.fn (.func 41) [] []), (.int .i32 102)] (.agg [.int .i64 2, .int .i64 102]) (some []) (by decide) rfl (fun _ _ => rfl) rfl (by decide) (by decide),
   .upd 12 (.t 3) (.t 11) (.c (.fn (.func 46) [] [])) (.agg [.int .i64 2, .int .i64 102]) (.fn (.func 46) [] []) (by decide) (by decide) rfl (by simp [litU]),
   .val 13 12 .move [.t 1] [(.fn (.func 41) [] [])] (.fn (.func 41) [] []) (some []) (by decide) rfl (fun _ _ => rfl) rfl (by decide) (by decide),
   .val 14 13 .call [.t 12, .c (.int .i32 104)] [(.fn (.func 41) [] []), (.int .i32 104)] (.agg [.int .i64 2, .int .i64 104]) (some []) (by decide) rfl (fun _ _ => rfl) rfl (by decide) (by decide),
   .upd 15 (.t 3) (.t 13) (.c (.fn (.func 47) [] [])) (.agg [.int .i64 2, .int .i64 104]) (.fn (.func 47) [] []) (by decide) (by decide) rfl (by simp [litU]),
   .val 16 14 .move [.t 1] [(.fn (.func 41) [] [])] (.fn (.func 41) [] []) (some []) (by decide) rfl (fun _ _ => rfl) rfl (by decide) (by decide),
   .val 17 15 .call [.t 14, .c (.int .i32 100)] [(.fn (.func 41) [] []), (.int .i32 100)] (.agg [.int .i64 2, .int .i64 100]) (some []) (by decide) rfl (fun _ _ => rfl) rfl (by decide) (by decide),
   .upd 18 (.t 3) (.t 15) (.c (.fn (.func 48) [] [])) (.agg [.int .i64 2, .int .i64 100]) (.fn (.func 48) [] []) (by decide) (by decide) rfl (by simp [litU]),
   .val 19 16 .move [.t 1] [(.fn (.func 41) [] [])] (.fn (.func 41) [] []) (some []) (by decide) rfl (fun _ _ => rfl) rfl (by decide) (by decide),
   .val 20 17 .call [.t 16, .c (.int .i32 107)] [(.fn (.func 41) [] []), (.int .i32 107)] (.agg [.int .i64 2, .int .i64 107]) (some []) (by decide) rfl (fun _ _ => rfl) rfl (by decide) (by decide),
   .upd 21 (.t 3) (.t 17) (.c (.fn (.func 49) [] [])) (.agg [.int .i64 2, .int .i64 107]) (.fn (.func 49) [] []) (by decide) (by decide) rfl (by simp [litU]),
   .val 22 18 .move [.t 1] [(.fn (.func 41) [] [])] (.fn (.func 41) [] []) (some []) (by decide) rfl (fun _ _ => rfl) rfl (by decide) (by decide),
   .val 23 19 .call [.t 18, .c (.int .i32 117)] [(.fn (.func 41) [] []), (.int .i32 117)] (.agg [.int .i64 2, .int .i64 117]) (some []) (by decide) rfl (fun _ _ => rfl) rfl (by decide) (by decide),
   .upd 24 (.t 3) (.t 19) (.c (.fn (.func 50) [] [])) (.agg [.int .i64 2, .int .i64 117]) (.fn (.func 50) [] []) (by decide) (by decide) rfl (by simp [litU]),
   .val 25 20 .move [.t 1] [(.fn (.func 41) [] [])] (.fn (.func 41) [] []) (some []) (by decide) rfl (fun _ _ => rfl) rfl (by decide) (by decide),
   .val 26 21 .call [.t 20, .c (.int .i32 119)] [(.fn (.func 41) [] []), (.int .i32 119)] (.agg [.int .i64 2, .int .i64 119]) (some []) (by decide) rfl (fun _ _ => rfl) rfl (by decide) (by decide),
   .upd 27 (.t 3) (.t 21) (.c (.fn (.func 51) [] [])) (.agg [.int .i64 2, .int .i64 119]) (.fn (.func 51) [] []) (by decide) (by decide) rfl (by simp [litU]),
   .val 28 22 .move [.t 1] [(.fn (.func 41) [] [])] (.fn (.func 41) [] []) (some []) (by decide) rfl (fun _ _ => rfl) rfl (by decide) (by decide),
   .val 29 23 .call [.t 22, .c (.int .i32 121)] [(.fn (.func 41) [] []), (.int .i32 121)] (.agg [.int .i64 2, .int .i64 121]) (some []) (by decide) rfl (fun _ _ => rfl) rfl (by decide) (by decide),
   .upd 30 (.t 3) (.t 23) (.c (.fn (.func 52) [] [])) (.agg [.int .i64 2, .int .i64 121]) (.fn (.func 52) [] []) (by decide) (by decide) rfl (by simp [litU]),
   .val 31 24 .move [.t 1] [(.fn (.func 41) [] [])] (.fn (.func 41) [] []) (some []) (by decide) rfl (fun _ _ => rfl) rfl (by decide) (by decide),
   .val 32 25 .call [.t 24, .c (.int .i32 116)] [(.fn (.func 41) [] []), (.int .i32 116)] (.agg [.int .i64 2, .int .i64 116]) (some []) (by decide) rfl (fun _ _ => rfl) rfl (by decide) (by decide),
   .upd 33 (.t 3) (.t 25) (.c (.fn (.func 53) [] [])) (.agg [.int .i64 2, .int .i64 116]) (.fn (.func 53) [] []) (by decide) (by decide) rfl (by simp [litU]),
   .val 34 26 .move [.t 2] [(.fn (.func 42) [] [])] (.fn (.func 42) [] []) (some []) (by decide) rfl (fun _ _ => rfl) rfl (by decide) (by decide),
   .val 35 27 .call [.t 26, .c (.int .i32 98)] [(.fn (.func 42) [] []), (.int .i32 98)] (.agg [.int .i64 3, .int .i64 98]) (some []) (by decide) rfl (fun _ _ => rfl) rfl (by decide) (by decide),
   .upd 36 (.t 3) (.t 27) (.c (.fn (.func 54) [] [])) (.agg [.int .i64 3, .int .i64 98]) (.fn (.func 54) [] []) (by decide) (by decide) rfl (by simp [litU]),
   .val 37 28 .move [.t 2] [(.fn (.func 42) [] [])] (.fn (.func 42) [] []) (some []) (by decide) rfl (fun _ _ => rfl) rfl (by decide) (by decide),
   .val 38 29 .call [.t 28, .c (.int .i32 102)] [(.fn (.func 42) [] []), (.int .i32 102)] (.agg [.int .i64 3, .int .i64 102]) (some []) (by decide) rfl (fun _ _ => rfl) rfl (by decide) (by decide),
   .upd 39 (.t 3) (.t 29) (.c (.fn (.func 55) [] [])) (.agg [.int .i64 3, .int .i64 102]) (.fn (.func 55) [] []) (by decide) (by decide) rfl (by simp [litU]),
   .val 40 30 .move [.t 2] [(.fn (.func 42) [] [])] (.fn (.func 42) [] []) (some []) (by decide) rfl (fun _ _ => rfl) rfl (by decide) (by decide),
   .val 41 31 .call [.t 30, .c (.int .i32 100)] [(.fn (.func 42) [] []), (.int .i32 100)] (.agg [.int .i64 3, .int .i64 100]) (some []) (by decide) rfl (fun _ _ => rfl) rfl (by decide) (by decide),
   .upd 42 (.t 3) (.t 31) (.c (.fn (.func 56) [] [])) (.agg [.int .i64 3, .int .i64 100]) (.fn (.func 56) [] []) (by decide) (by decide) rfl (by simp [litU]),
   .val 43 32 .move [.t 2] [(.fn (.func 42) [] [])] (.fn (.func 42) [] []) (some []) (by decide) rfl (fun _ _ => rfl) rfl (by decide) (by decide),
   .val 44 33 .call [.t 32, .c (.int .i32 127)] [(.fn (.func 42) [] []), (.int .i32 127)] (.agg [.int .i64 3, .int .i64 127]) (some []) (by decide) rfl (fun _ _ => rfl) rfl (by decide) (by decide),
   .upd 45 (.t 3) (.t 33) (.c (.fn (.func 51) [] [])) (.agg [.int .i64 3, .int .i64 127]) (.fn (.func 51) [] []) (by decide) (by decide) rfl (by simp [litU]),
   .val 46 34 (.build [(.int .i64 0), (.int .i64 0)] [(0, 1)]) [.c (.int .i64 7)] [(.int .i64 7)] (.agg [(.int .i64 7), (.int .i64 0)]) (some []) (by decide) rfl (fun _ _ => rfl) rfl (by decide) (by decide),
   .upd 47 (.t 3) (.t 34) (.c (.fn (.func 45) [] [])) (.agg [(.int .i64 7), (.int .i64 0)]) (.fn (.func 45) [] []) (by decide) (by decide) rfl (by simp [litU]),
   .val 48 35 (.build [(.int .i64 0), (.int .i64 0)] [(0, 1)]) [.c (.int .i64 6)] [(.int .i64 6)] (.agg [(.int .i64 6), (.int .i64 0)]) (some []) (by decide) rfl (fun _ _ => rfl) rfl (by decide) (by decide),
   .upd 49 (.t 3) (.t 35) (.c (.fn (.func 46) [] [])) (.agg [(.int .i64 6), (.int .i64 0)]) (.fn (.func 46) [] []) (by decide) (by decide) rfl (by simp [litU]),
   .val 50 36 (.build [(.int .i64 0), (.int .i64 0)] [(0, 1)]) [.c (.int .i64 8)] [(.int .i64 8)] (.agg [(.int .i64 8), (.int .i64 0)]) (some []) (by decide) rfl (fun _ _ => rfl) rfl (by decide) (by decide),
   .upd 51 (.t 3) (.t 36) (.c (.fn (.func 43) [] [])) (.agg [(.int .i64 8), (.int .i64 0)]) (.fn (.func 43) [] []) (by decide) (by decide) rfl (by simp [litU]),
   .val 52 37 (.build [(.int .i64 0), (.int .i64 0)] [(0, 1)]) [.c (.int .i64 9)] [(.int .i64 9)] (.agg [(.int .i64 9), (.int .i64 0)]) (some []) (by decide) rfl (fun _ _ => rfl) rfl (by decide) (by decide),
   .upd 53 (.t 3) (.t 37) (.c (.fn (.func 44) [] [])) (.agg [(.int .i64 9), (.int .i64 0)]) (.fn (.func 44) [] []) (by decide) (by decide) rfl (by simp [litU]),
   .val 54 38 (.build [(.int .i64 0), (.int .i64 0)] [(0, 1)]) [.c (.int .i64 10)] [(.int .i64 10)] (.agg [(.int .i64 10), (.int .i64 0)]) (some []) (by decide) rfl (fun _ _ => rfl) rfl (by decide) (by decide),
   .upd 55 (.t 3) (.t 38) (.c (.fn (.func 48) [] [])) (.agg [(.int .i64 10), (.int .i64 0)]) (.fn (.func 48) [] []) (by decide) (by decide) rfl (by simp [litU]),
   .val 56 39 .move [.t 3] [(.map lM)] (.map lM) (some []) (by decide) rfl (fun _ _ => rfl) rfl (by decide) (by decide),
   .val 57 0 .move [.t 39] [(.map lM)] (.map lM) (some []) (by decide) rfl (fun _ _ => rfl) rfl (by decide) (by decide), trivial⟩
end Go.Proofs.Ytbngfbpegdcpkaa
/-! What keys do: the table's contract. -/
namespace Go.Proofs.Ytbngfbpegdcpkaa
set_option linter.unusedVariables false
set_option linter.unusedSimpArgs false
set_option maxRecDepth 100000
/-- the table's entries -/
def MQ : List (AV × AV) := litU.map (·.2)
theorem body_ways : RunC0.c28.body = .seq (.region [⟨some 0, none, .move, [.c .nilm]⟩] none []) (.seq (.region [⟨some 1, none, .move, [.c (.fn (.func 41) [] [])]⟩] none [1]) (.seq (.region [⟨some 2, none, .move, [.c (.fn (.func 42) [] [])]⟩] none [1, 2]) (.seq (.region litOps (some MM) [0]) .ret))) := by kernel_rfl
theorem xP {H : aB} {q : Lab} : aZ Try.prog 28 [] H q ⟨.map (3 :: q), [(3 :: q, some (.bag MQ))], some []⟩ := by
  refine xV (Z := fun l => upd [(3 :: q, some (.bag MQ))] (restr H (some [])) l = none) Try.mixed RunC0.ok28 rfl (fun l hl => by rw [cR hl]; exact .inr ⟨[3], rfl⟩) ?_
  rw [body_ways, rN]
  simp only [gwp]
  refine ER GL (s' := ⟨[(0, .nilm)], [], 1⟩) rfl ⟨_, Weak.refl _ _ _, ?_⟩
  refine ER GL (s' := ⟨[(1, .fn (.func 41) [] [])], [], 2⟩) rfl ⟨_, Weak.refl _ _ _, ?_⟩
  refine ER GL (s' := ⟨[(1, .fn (.func 41) [] []), (2, .fn (.func 42) [] [])], [], 3⟩) rfl ⟨_, Weak.refl _ _ _, ?_⟩
  refine .inr ⟨W3, GL, nd_lit (V := aAn (3 :: q)) (base := Z5) (U := litU) (agg := true) (ks := [.int, .int]) (fun a ha => ?_) (fun j i h => ?_) (by decide) (fun u hu => ?_) (fun u hu => ?_) (by decide) (fun rl ov es h1 h2 h3 h4 => ?_)⟩
  · simp only [Z5, List.mem_cons, List.not_mem_nil, or_false] at ha
    rcases ha with rfl | rfl <;> rfl
  · have := QF (lit_ops (3 :: q)) j i h
    rwa [Nat.zero_add] at this
  · have hc : (litU.all fun u => gC true [.int, .int] u.2.1 && litU.all fun u' => u'.1 == u.1 || vH true [.int, .int] u.2.1 u'.2.1 == some false) = true := by kernel_rfl
    have h1 := List.all_eq_true.1 hc u hu
    simp only [Bool.and_eq_true, List.all_eq_true, Bool.or_eq_true, beq_iff_eq] at h1
    exact ⟨h1.1, fun u' hu' hne => (h1.2 u' hu').resolve_left hne⟩
  · have hc : (litU.all fun u => decide (u.1 < litOps.length) && decide (u.1 ≠ 0)) = true := by kernel_rfl
    have h1 := List.all_eq_true.1 hc u hu
    simpa using h1
  · have h5 : bE rl 0 = some (.map (3 :: q)) := h1 57 ⟨some 0, none, .move, [.t 39]⟩ 0 rfl rfl
    have hr : restrict rl [0] = [(0, .map (3 :: q))] := by simp [restrict, h5]
    have hov : ∀ l, l ≠ 3 :: q → upd ov (fun _ => none) l = none := fun l hl => by rw [h4 l hl]; rfl
    rw [hr]
    refine ⟨⟨[(0, .map (3 :: q))], [(3 :: q, some (.bag MQ))], 3 + litOps.length⟩, weak_bag h2 (E := MQ) h3 ?_, .inr rfl, .map (3 :: q), by simp [j1, iV, nA, bE, RunC0.c28], .refl _, fun l o hl => ⟨fun hz => (by have := hz.1.symm.trans hl; cases this), hl⟩⟩
    funext l
    by_cases e : l = 3 :: q
    · subst e; simp [upd]
    · simp only [upd, if_neg e]
      exact (hov l e).symm
def Z8 : b9 := fun f xs H q => if f = 28 then (match xs with | [] => some ⟨.map (3 :: q), [(3 :: q, some (.bag MQ))], some []⟩ | _ => none) else Z7 f xs H q
theorem extE_ok : iS Try.prog Z8 := FI fun f xs H q r h => by
  unfold Z8 at h
  split at h
  · rename_i hf; subst hf
    split at h
    · cases h; exact xP
    · cases h
  · exact extI_ok f xs H q r h
end Go.Proofs.Ytbngfbpegdcpkaa
/-! Joined texts. -/
namespace Go.Proofs.Ytbngfbpegdcpkaa
set_option linter.unusedVariables false
set_option linter.unusedSimpArgs false
set_option maxRecDepth 100000
/-! What keys do: Do. -/
section
/-- what is done over a part of the heap, its outcome left open -/
theorem SoundE.frame {P : Program} {f : Nat} {xs : List AV} {H G : aB} {q : Lab} {Φ : AV → Chg → Prop} (h : SoundE P f xs H q Φ) (hsub : ∀ l o, H l = some o → G l = some o) : SoundE P f xs G q fun x u => Φ x u ∧ ∀ l, u.has l → H l ≠ none ∨ Under q l := by
  refine ⟨h.1, fun ρ R vs hvs w hG hfr => ?_⟩
  have hH : Rep H ρ R w := ⟨fun l o e => hG.own l o (hsub l o e), fun l l' o o' L L' e e' => hG.sep l l' o o' L L' (hsub l o e) (hsub l' o' e'), fun l o L e => hG.dis l o L (hsub l o e), hG.imm⟩
  refine Calls.mono (h.2 ρ R vs hvs w hH hfr) ?_
  rintro e w' ⟨v, rfl, x, u, ρ', R', hΦ, hu, hF, hx, hR⟩
  have hd : Does (fun w0 K => w0 = w → K v w') H u (Under q) ρ R x := fun w0 _ _ e => by subst e; exact ⟨ρ', R', hF, hx, hR⟩
  obtain ⟨ρ2, R2, h1, h2, h3⟩ := hd.frame (fun w0 K K' hk hc e => hk _ _ (hc e)) hsub hu w hG hfr rfl
  exact ⟨v, rfl, x, u, ρ2, R2, ⟨hΦ, hu⟩, fun l hl => (hu l hl).imp (fun h e => by
    obtain ⟨o, ho⟩ := Option.ne_none_iff_exists'.1 h
    rw [hsub l o ho] at e; cases e) id, h1, h2, h3⟩
theorem FG {H : aB} {q : Lab} (l : List Int) (hl : l.length ≤ 1000000000) : ∃ y u, aZ Try.prog 25 [il l] H q ⟨y, u, some []⟩ ∧ ListE (upd u H) y l ∧ (∀ k, Chg.has u k → k = 5 :: q) ∧ (∀ k n, y = .sl k 1 0 n → k = 5 :: q) ∧ ((y = .sl0 ∧ u = []) ∨ (y = .sl (5 :: q) 1 0 l.length ∧ u = [(5 :: q, some (.rows 1 (l.map aE)))])) := by
  by_cases h : l = []
  · subst h
    exact ⟨.sl0, [], BM (.inl rfl), .inl ⟨rfl, rfl⟩, fun k hk => absurd hk (aS k), (fun k n e => by cases e), .inl ⟨rfl, rfl⟩⟩
  · exact ⟨_, _, KW l hl h, .inr ⟨_, rfl, aK⟩, fun k hk => cR hk, (fun k n e => by cases e; rfl), .inr ⟨rfl, rfl⟩⟩
def keyT : List (Int × Int × Nat × (Wk → Wk)) := [
  (2, 97, 43, fun w => { w with pos := 0 }),
  (2, 101, 44, fun w => { w with pos := w.line.length }),
  (2, 98, 45, fun w => { w with pos := aR w.line.length (w.pos - 1) }),
  (2, 102, 46, fun w => { w with pos := aR w.line.length (w.pos + 1) }),
  (2, 104, 47, fun w => mH w (aR w.line.length (w.pos - 1)) w.pos),
  (2, 100, 48, fun w => mH w w.pos (aR w.line.length (w.pos + 1))),
  (2, 107, 49, fun w => kX w w.pos w.line.length),
  (2, 117, 50, fun w => kX w 0 w.pos),
  (2, 119, 51, fun w => kX w (bK w.line (aR w.line.length w.pos)).toNat w.pos),
  (2, 121, 52, fun w => mJ w w.kill),
  (2, 116, 53, oU),
  (3, 98, 54, fun w => { w with pos := (bK w.line (aR w.line.length w.pos)).toNat }),
  (3, 102, 55, fun w => { w with pos := cH w.line (aR w.line.length w.pos) }),
  (3, 100, 56, fun w => kX w w.pos (cH w.line (aR w.line.length w.pos))),
  (3, 127, 51, fun w => kX w (bK w.line (aR w.line.length w.pos)).toNat w.pos),
  (7, 0, 45, fun w => { w with pos := aR w.line.length (w.pos - 1) }),
  (6, 0, 46, fun w => { w with pos := aR w.line.length (w.pos + 1) }),
  (8, 0, 43, fun w => { w with pos := 0 }),
  (9, 0, 44, fun w => { w with pos := w.line.length }),
  (10, 0, 48, fun w => mH w w.pos (aR w.line.length (w.pos + 1)))]
theorem keyT_eq : MQ = keyT.map fun e => (.agg [.int .i64 e.1, .int .i64 e.2.1], .fn (.func e.2.2.1) [] []) := by rfl
theorem keyT_ok : ∀ e ∈ keyT, B9 e.2.2.1 e.2.2.2 := by
  intro e he
  simp only [keyT, List.mem_cons, List.not_mem_nil, or_false] at he
  rcases he with rfl | rfl | rfl | rfl | rfl | rfl | rfl | rfl | rfl | rfl | rfl | rfl | rfl | rfl | rfl | rfl | rfl | rfl | rfl | rfl
  · exact NG
  · exact P4
  · exact MO
  · exact JS
  · exact rub_key
  · exact P7
  · exact killOn_key
  · exact killBack_key
  · exact EF
  · exact yank_key
  · exact swap_key
  · exact wordBack_key
  · exact wordOn_key
  · exact killNext_key
  · exact EF
  · exact MO
  · exact JS
  · exact NG
  · exact P4
  · exact P7
def cQ (k r : Int) : Option (Int × Int × Nat × (Wk → Wk)) := keyT.find? fun e => decide (e.1 = k) && decide (e.2.1 = r)
theorem JY (k r : Int) : ∀ (T : List (Int × Int × Nat × (Wk → Wk))), (T.map fun e => (e.1, e.2.1)).Nodup →
    sS true [.int, .int] (.agg [.int .i64 k, .int .i64 r]) (T.map fun e => (.agg [.int .i64 e.1, .int .i64 e.2.1], .fn (.func e.2.2.1) [] [])) = some (match T.find? fun e => decide (e.1 = k) && decide (e.2.1 = r) with | some e => [.fn (.func e.2.2.1) [] []] | none => [])
  | [], _ => rfl
  | e :: T, hn => by
    simp only [List.map_cons, List.nodup_cons] at hn
    have ih := JY k r T hn.2
    simp only [List.map_cons, sS, ih]
    have hk : vH true [.int, .int] (.agg [.int .i64 k, .int .i64 r]) (.agg [.int .i64 e.1, .int .i64 e.2.1]) = some (decide (k = e.1) && (decide (r = e.2.1) && true)) := by
      simp [vH, gC, AV.isAgg, AV.cells, FM, ceq]
    rw [hk]
    by_cases h1 : e.1 = k
    · by_cases h2 : e.2.1 = r
      · have hnone : (T.find? fun e => decide (e.1 = k) && decide (e.2.1 = r)) = none := by
          rw [List.find?_eq_none]
          intro e' he' hc
          simp only [Bool.and_eq_true, decide_eq_true_eq] at hc
          exact hn.1 (List.mem_map.2 ⟨e', he', by rw [hc.1, hc.2, h1, h2]⟩)
        simp [List.find?_cons, h1, h2, hnone]
      · simp [List.find?_cons, h1, h2, Ne.symm h2]
    · simp [List.find?_cons, h1, Ne.symm h1]
theorem key_match (k r : Int) : sS true [.int, .int] (.agg [.int .i64 k, .int .i64 r]) MQ = some (match cQ k r with | some e => [.fn (.func e.2.2.1) [] []] | none => []) := by
  rw [keyT_eq]
  exact JY k r keyT (by decide)
def wH (w : Wk) (k r : Int) : Wk := match cQ k r with | some e => e.2.2.2 w | none => w
def doS (l : List Int) (a : Int) (kl : List Int) (k r : Int) : Wk :=
  if k = 1 then mN ⟨l, aR l.length a, kl, []⟩ r else wH ⟨l, aR l.length a, kl, []⟩ k (if k = 2 ∨ k = 3 then r else 0)
def doR (w : Wk) : AV := .tuple [.agg [il w.line, .int .i64 w.pos, il w.kill], .isl 3 (w.acts.map bA)]
theorem aU {H : aB} {q lb : Lab} {KK : KF} {k r : Int} (h : H lb = some (.bag MQ)) : aM (.lookup true [.int, .int] .nilf true) [.map lb, .agg [.int .i64 k, .int .i64 r]] H q KK = KK (match cQ k r with | some e => .tuple [.fn (.func e.2.2.1) [] [], .bool true] | none => .tuple [.nilf, .bool false]) H [] (some [lb]) := by
  have : aop nU (.lookup true [.int, .int] .nilf true) [.map lb, .agg [.int .i64 k, .int .i64 r]] H q = some ⟨(match cQ k r with | some e => .tuple [.fn (.func e.2.2.1) [] [], .bool true] | none => .tuple [.nilf, .bool false]), [], some [lb]⟩ := by
    have hm := key_match k r
    simp only [aop, yL, h, hm]
    cases cQ k r <;> simp [gC, AV.isAgg, AV.cells]
  simp [aM, this]; rfl
end
/-! What keys do: Do, walked. -/
section
theorem Fr.agg3 {Z : Lab → Prop} {H : aB} {a b c a' b' c' : AV} (h1 : Fr Z H a a') (h2 : Fr Z H b b') (h3 : Fr Z H c c') : Fr Z H (.agg [a, b, c]) (.agg [a', b', c']) := by
  refine .agg _ _ rfl (fun i => match i with | 0 => a | 1 => b | _ => c) (fun i d hd => ?_) (fun i d hd => ?_)
  · match i with
    | 0 => rfl
    | 1 => rfl
    | 2 => rfl
    | i + 3 => simp at hd
  · match i with
    | 0 => cases hd; exact h1
    | 1 => cases hd; exact h2
    | 2 => cases hd; exact h3
    | i + 3 => simp at hd
theorem tP {l : List (Int × Int × Int)} : ∀ r ∈ l.map bA, sY 3 r := JR fun a => ⟨rfl, by simp [bA, AV.one]⟩
theorem OH {H : aB} {q lw : Lab} {xl xk xa : AV} {w : Wk} (h : WorkI H lw xl xk xa w) (h2 : H (2 :: q) = some (.rows 3 [[.nils, .int .i64 0, .nils]])) (hx : xa ≠ .sl (2 :: q) 3 0 w.acts.length) {c : Nat} :
    VP [.cell 4 3 true, .tmp 5] (doR w) .ret [(4, .ptr (2 :: q) 3 0 0), (5, xa)] (upd [(2 :: q, some (.rows 3 [[xl, .int .i64 w.pos, xk]]))] H) c := by
  have hk : ∀ k rs, H k = some (.rows 1 rs) → upd [(2 :: q, some (.rows 3 [[xl, .int .i64 w.pos, xk]]))] H k = some (.rows 1 rs) := fun k rs hk => by
    rw [aP (fun e => by rw [e, h2] at hk; cases hk)]; exact hk
  have hl := h.l.mono fun _ _ _ h1 => hk _ _ h1
  have hkk := h.k.mono fun _ _ _ h1 => hk _ _ h1
  have ha : Own (upd [(2 :: q, some (.rows 3 [[xl, .int .i64 w.pos, xk]]))] H) xa 3 (w.acts.map bA) := by
    rcases h.a with h1 | ⟨l, h1, h3⟩
    · exact .inl h1
    · refine .inr ⟨l, h1, ?_⟩
      rw [aP (fun e => hx (by rw [h1, e, List.length_map]))]; exact h3
  refine ⟨.inr rfl, .tuple [.agg [xl, .int .i64 w.pos, xk], xa], LU aK rfl (by decide), Fr.two (Fr.agg3 hl.fr (.refl _) hkk.fr) (.of_own ha tP)⟩
theorem I7 {f : Nat} {xs : List AV} {H : aB} {q : Lab} {xl xk : AV} {w w' : Wk} {c : Nat} {KK : KF} {Φ : aB → AV → Chg → Prop} (hw : WorkI H (17 :: q) xl xk .nils w) (h2 : H (2 :: q) = some (.rows 3 [[.nils, .int .i64 0, .nils]])) (hF : Fresh q c H) (hc : 18 ≤ c)
    (h : ∀ H0, WorkI H0 (17 :: q) xl xk .nils w → Fresh (c :: q) 0 H0 → SoundE Try.prog f xs H0 (c :: q) (Φ H0)) (hΦ : ∀ H0 x u, Φ H0 x u → ∃ xl' xk' xa', WorkI (upd u H0) (17 :: q) xl' xk' xa' w')
    (hk : ∀ x u xl' xk' xa', WorkI (upd u H) (17 :: q) xl' xk' xa' w' → upd u H (2 :: q) = some (.rows 3 [[.nils, .int .i64 0, .nils]]) → xa' ≠ .sl (2 :: q) 3 0 w'.acts.length → KK x (upd u H) (u.map (·.1)) none) : aN true Try.prog f xs H (c :: q) KK := by
  have hl17 := hw.s
  have hin : ∀ k o, H k = some o → k ∈ (17 :: q) :: (labs xl ++ labs xk) → restr H (some ((17 :: q) :: (labs xl ++ labs xk))) k = some o := fun k o hk hm => by rw [nS hm]; exact hk
  have hw0 : WorkI (restr H (some ((17 :: q) :: (labs xl ++ labs xk)))) (17 :: q) xl xk .nils w := by
    refine ⟨hin _ _ hw.s (by simp), hw.l.mono fun lab n e hk => hin _ _ hk (by simp [e, labs]), hw.k.mono fun lab n e hk => hin _ _ hk (by simp [e, labs]), ?_, hw.ne⟩
    rcases hw.a with h1 | ⟨l, h1, _⟩
    · exact .inl h1
    · cases h1
  have hs := (h _ hw0 hF.restr.callee).frame (G := H) (fun l o h => (tQ h).2)
  refine call_e hs (fun x u hx => ?_)
  obtain ⟨xl', xk', xa', h3⟩ := hΦ _ _ _ hx.1
  have hr2 : restr H (some ((17 :: q) :: (labs xl ++ labs xk))) (2 :: q) = none := by
    cases hr : restr H (some ((17 :: q) :: (labs xl ++ labs xk))) (2 :: q) with
    | none => rfl
    | some o =>
      have hm := (tQ hr).1
      simp only [List.mem_cons, List.mem_append] at hm
      rcases hm with hm | hm | hm
      · simp at hm
      · rcases hw.l with ⟨h5, _⟩ | ⟨lab, h5, h6⟩
        · rw [h5] at hm; cases hm
        · rw [h5] at hm
          obtain rfl := List.mem_singleton.1 hm
          rw [h2] at h6; cases h6
      · rcases hw.k with ⟨h5, _⟩ | ⟨lab, h5, h6⟩
        · rw [h5] at hm; cases hm
        · rw [h5] at hm
          obtain rfl := List.mem_singleton.1 hm
          rw [h2] at h6; cases h6
  have hn2 : ¬ u.has (2 :: q) := fun hh => by
    rcases hx.2 _ hh with h4 | ⟨s, hs⟩
    · exact h4 hr2
    · have hlen := congrArg List.length hs
      cases s with
      | nil => simp at hs; omega
      | cons a s => simp at hlen; omega
  have hm : ∀ k o, upd u (restr H (some ((17 :: q) :: (labs xl ++ labs xk)))) k = some o → upd u H k = some o := fun k o hk => by
    by_cases hh : u.has k
    · rw [BT (H' := restr H (some ((17 :: q) :: (labs xl ++ labs xk)))) hh]; exact hk
    · rw [bQ hh] at hk ⊢; exact (tQ hk).2
  refine hk x u xl' xk' xa' (h3.mono hm) (by rw [bQ hn2]; exact h2) (fun e => ?_)
  rcases h3.a with ⟨h4, _⟩ | ⟨l, h4, h5⟩
  · rw [h4] at e; cases e
  · rw [h4] at e
    injection e with e1
    rw [e1, bQ hn2, hr2] at h5; cases h5
theorem rT {H : aB} {x : AV} {l : List Int} (h : ListE H x l) : x = .sl0 ∨ ∃ a n, x = .sl a 1 0 n := by
  rcases h with ⟨h, _⟩ | ⟨a, h, _⟩
  · exact .inl h
  · exact .inr ⟨a, _, h⟩
theorem OG {H : aB} {q : Lab} {xl xk : AV} {w : Wk} {k r : Int} (hw : WorkI H (17 :: q) xl xk .nils w) (hok : w.Ok) (h2 : H (2 :: q) = some (.rows 3 [[.nils, .int .i64 0, .nils]])) {c : Nat} (hF : Fresh q c H) (hc : 18 ≤ c) :
    lD Try.prog q (VP [.cell 4 3 true, .tmp 5] (doR (wH w k r))) (.ptr (2 :: q) 3 0 0) (.ptr (17 :: q) 4 0 0) (match cQ k r with | some e => .fn (.func e.2.2.1) [] [] | none => .nilf) (.bool (cQ k r).isSome) H c := by
  unfold wH
  cases hkf : cQ k r with
  | none =>
    have h6 := hw.s
    rcases rT hw.l with rfl | ⟨_, _, rfl⟩ <;> rcases rT hw.k with rfl | ⟨_, _, rfl⟩
    all_goals (simp (disch := omega) only [vsb, aE, reduceIte, AV.cells, putL, aC, Nat.reduceAdd, Nat.reduceDiv, Nat.reduceMod, AV.one, Nat.reduceLeDiff, Nat.reduceEqDiff, m8, rY, V12, mZ, mY, lU, mX, mV, mW, jM, jL, jJ, jK, jI, lD, jH, jG, jF, m3, jE, jD, jB, jA, i9, i8, jC, i7, m4, i6, i5, i4, i3, i2, iR, i1, m5, iQ, i0, iP, iZ, iY, iX, aU, Option.isSome_none, h2, h6]; refine ⟨(by (repeat' (first | exact cV | exact bB | refine cW ?_ ?_ | refine bC ?_ ?_)); all_goals (first | exact Or.inl rfl | exact Or.inl (by decide) | exact Or.inr ⟨by (simp (decide := true) [a6, h2] <;> assumption), by (simp (decide := true) [a6, h2] <;> assumption)⟩)), ?_⟩; exact OH hw h2 (by intro e; cases e))
  | some e =>
    simp (disch := omega) only [vsb, aE, reduceIte, AV.cells, putL, aC, Nat.reduceAdd, Nat.reduceDiv, Nat.reduceMod, AV.one, Nat.reduceLeDiff, Nat.reduceEqDiff, m8, rY, V12, mZ, mY, lU, mX, mV, mW, jM, jL, jJ, jK, jI, lD, jH, jG, jF, m3, jE, jD, jB, jA, i9, i8, jC, i7, m4, i6, i5, i4, i3, i2, iR, i1, m5, iQ, i0, iP, iZ, iY, iX, aU, Option.isSome_some]
    have hkey : B9 e.2.2.1 e.2.2.2 := keyT_ok e (List.mem_of_find?_eq_some hkf)
    refine I7 (Φ := fun H0 => WT H0 (17 :: q) (e.2.2.2 w)) hw h2 (hF.mono (by omega)) (by omega) (fun H0 h0 hf0 => hkey h0 hf0 hok) (fun H0 x u hx => hx) (fun x u xl' xk' xa' h3 h4 h5 => ?_)
    have h6 := h3.s
    rcases rT h3.l with rfl | ⟨_, _, rfl⟩ <;> rcases rT h3.k with rfl | ⟨_, _, rfl⟩
    all_goals (simp (disch := omega) only [vsb, aE, reduceIte, AV.cells, putL, aC, Nat.reduceAdd, Nat.reduceDiv, Nat.reduceMod, AV.one, Nat.reduceLeDiff, Nat.reduceEqDiff, m8, rY, V12, mZ, mY, lU, mX, mV, mW, jM, jL, jJ, jK, jI, lD, jH, jG, jF, m3, jE, jD, jB, jA, i9, i8, jC, i7, m4, i6, i5, i4, i3, i2, iR, i1, m5, iQ, i0, iP, iZ, iY, iX, aU, h4, h6]; refine ⟨(by (repeat' (first | exact cV | exact bB | refine cW ?_ ?_ | refine bC ?_ ?_)); all_goals (first | exact Or.inl rfl | exact Or.inl (by decide) | exact Or.inr ⟨by (simp (decide := true) [a6, h2] <;> assumption), by (simp (decide := true) [a6, h2] <;> assumption)⟩)), ?_⟩; exact OH h3 h4 h5)
theorem WorkI.mono2 {H H' : aB} {lw : Lab} {xl xk xa : AV} {w : Wk} (h : WorkI H lw xl xk xa w) (hk : ∀ k e rs, e ≠ 2 → H k = some (.rows e rs) → H' k = some (.rows e rs)) : WorkI H' lw xl xk xa w :=
  ⟨hk _ _ _ (by decide) h.s, h.l.mono fun _ _ _ h => hk _ _ _ (by decide) h, h.k.mono fun _ _ _ h => hk _ _ _ (by decide) h, h.a.mono' fun _ h => hk _ _ _ (by decide) h, h.ne⟩
theorem do_mid {H : aB} {q : Lab} {xl xk : AV} {l kl : List Int} {a : Int} {k r : Int} (hw : WorkI H (17 :: q) xl xk .nils ⟨l, aR l.length a, kl, []⟩) (hl : l.length ≤ 100000) (hkl : kl.length ≤ 100000) (h1 : H (1 :: q) = some (.rows 2 [[.int .i64 k, .int .i64 r]])) (h2 : H (2 :: q) = some (.rows 3 [[.nils, .int .i64 0, .nils]])) (hF : Fresh q 18 H) :
    aL (.bool (!decide (k = 1))) (iQ Try.prog q (VP [.cell 4 3 true, .tmp 5] (doR (doS l a kl k r))) H [xl, .int .i64 (aR l.length a), xk, .nils] [.int .i64 k, .int .i64 r] 0) (iP Try.prog q (VP [.cell 4 3 true, .tmp 5] (doR (doS l a kl k r))) H [xl, .int .i64 (aR l.length a), xk, .nils] [.int .i64 k, .int .i64 r] 0) := by
  have hwl : (⟨l, aR l.length a, kl, []⟩ : Wk).Ok := ⟨cA, by simp; omega, by simp; omega, by simp⟩
  refine jN (fun hk1 => ?_) (fun hk1 => ?_)
  · have hd : doS l a kl k r = wH ⟨l, aR l.length a, kl, []⟩ k (if k = 2 ∨ k = 3 then r else 0) := by rw [doS, if_neg (by omega)]
    rw [hd]
    generalize hr' : (if k = 2 ∨ k = 3 then r else 0) = r'
    simp (disch := omega) only [vsb, aE, reduceIte, AV.cells, putL, aC, Nat.reduceAdd, Nat.reduceDiv, Nat.reduceMod, AV.one, Nat.reduceLeDiff, Nat.reduceEqDiff, m8, rY, V12, mZ, mY, lU, mX, mV, mW, jM, jL, jJ, jK, jI, lD, jH, jG, jF, m3, jE, jD, jB, jA, i9, i8, jC, i7, m4, i6, i5, i4, i3, i2, iR, i1, m5, iQ, i0, iP, iZ, iY, iX, aU, h1]
    refine jN (fun hk2 => ?_) (fun hk2 => ?_)
    · simp (disch := omega) only [vsb, aE, reduceIte, AV.cells, putL, aC, Nat.reduceAdd, Nat.reduceDiv, Nat.reduceMod, AV.one, Nat.reduceLeDiff, Nat.reduceEqDiff, m8, rY, V12, mZ, mY, lU, mX, mV, mW, jM, jL, jJ, jK, jI, lD, jH, jG, jF, m3, jE, jD, jB, jA, i9, i8, jC, i7, m4, i6, i5, i4, i3, i2, iR, i1, m5, iQ, i0, iP, iZ, iY, iX, aU, h1]
      refine jN (fun hk3 => ?_) (fun hk3 => ?_)
      · rw [if_neg (by omega)] at hr'
        subst hr'
        simp (disch := omega) only [vsb, aE, reduceIte, AV.cells, putL, aC, Nat.reduceAdd, Nat.reduceDiv, Nat.reduceMod, AV.one, Nat.reduceLeDiff, Nat.reduceEqDiff, m8, rY, V12, mZ, mY, lU, mX, mV, mW, jM, jL, jJ, jK, jI, lD, jH, jG, jF, m3, jE, jD, jB, jA, i9, i8, jC, i7, m4, i6, i5, i4, i3, i2, iR, i1, m5, iQ, i0, iP, iZ, iY, iX, aU, h1]
        refine jZ xP ((hF.old (o := some (.rows 2 [[.int .i64 k, .int .i64 0]])) (l := 1 :: q) (by rw [h1]; simp)).mono (by omega)) (fun H2 hH2 hF2 => ?_)
        have hb := by have := hH2 (3 :: 37 :: q); rwa [aK] at this
        have h1' : H2 (1 :: q) = some (.rows 2 [[.int .i64 k, .int .i64 0]]) := by rw [hH2, aP (by simp), a8, aK]
        have hot : ∀ j o, H j = some o → j ≠ 1 :: q → H2 j = some o := fun j o h hn => by
          rw [hH2, aP (fun e => by rw [e, show H (3 :: 37 :: q) = none from hF 37 [3] (by omega)] at h; cases h), a8, aP hn]; exact h
        clear hH2
        have way := fun (c : Nat) (hF : Fresh q c H2) (hc : 18 ≤ c) => OG (H := H2) (k := k) (r := 0) (hw.mono2 fun j e rs he hj => hot _ _ hj (fun e' => by rw [e', h1] at hj; cases hj; exact he rfl)) hwl (hot _ _ h2 (by simp)) hF hc
        cases hkf : cQ k 0 with
        | none =>
          rw [hkf] at way
          simp (disch := omega) only [vsb, aE, reduceIte, AV.cells, putL, aC, Nat.reduceAdd, Nat.reduceDiv, Nat.reduceMod, AV.one, Nat.reduceLeDiff, Nat.reduceEqDiff, m8, rY, V12, mZ, mY, lU, mX, mV, mW, jM, jL, jJ, jK, jI, lD, jH, jG, jF, m3, jE, jD, jB, jA, i9, i8, jC, i7, m4, i6, i5, i4, i3, i2, iR, i1, m5, iQ, i0, iP, iZ, iY, iX, aU, h1', hb, hkf]
          refine ⟨(by (repeat' (first | exact cV | exact bB | refine cW ?_ ?_ | refine bC ?_ ?_)); all_goals (first | exact Or.inl rfl | exact Or.inl (by decide) | exact Or.inr ⟨by (simp (decide := true) [a6, h2] <;> assumption), by (simp (decide := true) [a6, h2] <;> assumption)⟩)), ?_⟩
          have w := way 45 (hF2.mono (by omega)) (by decide)
          simp (disch := omega) only [vsb, aE, reduceIte, AV.cells, putL, aC, Nat.reduceAdd, Nat.reduceDiv, Nat.reduceMod, AV.one, Nat.reduceLeDiff, Nat.reduceEqDiff, m8, rY, V12, mZ, mY, lU, mX, mV, mW, jM, jL, jJ, jK, jI, lD, jH, jG, jF, m3, jE, jD, jB, jA, i9, i8, jC, i7, m4, i6, i5, i4, i3, i2, iR, i1, m5, iQ, i0, iP, iZ, iY, iX, aU, Option.isSome_none, Option.isSome_some] at w
          exact w
        | some e =>
          rw [hkf] at way
          simp (disch := omega) only [vsb, aE, reduceIte, AV.cells, putL, aC, Nat.reduceAdd, Nat.reduceDiv, Nat.reduceMod, AV.one, Nat.reduceLeDiff, Nat.reduceEqDiff, m8, rY, V12, mZ, mY, lU, mX, mV, mW, jM, jL, jJ, jK, jI, lD, jH, jG, jF, m3, jE, jD, jB, jA, i9, i8, jC, i7, m4, i6, i5, i4, i3, i2, iR, i1, m5, iQ, i0, iP, iZ, iY, iX, aU, h1', hb, hkf]
          refine ⟨(by (repeat' (first | exact cV | exact bB | refine cW ?_ ?_ | refine bC ?_ ?_)); all_goals (first | exact Or.inl rfl | exact Or.inl (by decide) | exact Or.inr ⟨by (simp (decide := true) [a6, h2] <;> assumption), by (simp (decide := true) [a6, h2] <;> assumption)⟩)), ?_⟩
          have w := way 45 (hF2.mono (by omega)) (by decide)
          simp (disch := omega) only [vsb, aE, reduceIte, AV.cells, putL, aC, Nat.reduceAdd, Nat.reduceDiv, Nat.reduceMod, AV.one, Nat.reduceLeDiff, Nat.reduceEqDiff, m8, rY, V12, mZ, mY, lU, mX, mV, mW, jM, jL, jJ, jK, jI, lD, jH, jG, jF, m3, jE, jD, jB, jA, i9, i8, jC, i7, m4, i6, i5, i4, i3, i2, iR, i1, m5, iQ, i0, iP, iZ, iY, iX, aU, Option.isSome_none, Option.isSome_some] at w
          exact w
      · rw [if_pos (by omega)] at hr'
        subst hr'
        simp (disch := omega) only [vsb, aE, reduceIte, AV.cells, putL, aC, Nat.reduceAdd, Nat.reduceDiv, Nat.reduceMod, AV.one, Nat.reduceLeDiff, Nat.reduceEqDiff, m8, rY, V12, mZ, mY, lU, mX, mV, mW, jM, jL, jJ, jK, jI, lD, jH, jG, jF, m3, jE, jD, jB, jA, i9, i8, jC, i7, m4, i6, i5, i4, i3, i2, iR, i1, m5, iQ, i0, iP, iZ, iY, iX, aU, h1]
        refine jZ xP (hF.mono (by omega)) (fun H2 hH2 hF2 => ?_)
        have hb := by have := hH2 (3 :: 35 :: q); rwa [aK] at this
        have hot : ∀ j o, H j = some o → H2 j = some o := fun j o h => by
          rw [hH2, aP (fun e => by rw [e, show H (3 :: 35 :: q) = none from hF 35 [3] (by omega)] at h; cases h), a8]; exact h
        clear hH2
        have h1' := hot _ _ h1
        have way := fun (c : Nat) (hF : Fresh q c H2) (hc : 18 ≤ c) => OG (H := H2) (k := k) (r := r) (hw.mono2 fun j e rs he hj => hot _ _ hj) hwl (hot _ _ h2) hF hc
        cases hkf : cQ k r with
        | none =>
          rw [hkf] at way
          simp (disch := omega) only [vsb, aE, reduceIte, AV.cells, putL, aC, Nat.reduceAdd, Nat.reduceDiv, Nat.reduceMod, AV.one, Nat.reduceLeDiff, Nat.reduceEqDiff, m8, rY, V12, mZ, mY, lU, mX, mV, mW, jM, jL, jJ, jK, jI, lD, jH, jG, jF, m3, jE, jD, jB, jA, i9, i8, jC, i7, m4, i6, i5, i4, i3, i2, iR, i1, m5, iQ, i0, iP, iZ, iY, iX, aU, h1', hb, hkf]
          refine ⟨(by (repeat' (first | exact cV | exact bB | refine cW ?_ ?_ | refine bC ?_ ?_)); all_goals (first | exact Or.inl rfl | exact Or.inl (by decide) | exact Or.inr ⟨by (simp (decide := true) [a6, h2] <;> assumption), by (simp (decide := true) [a6, h2] <;> assumption)⟩)), ?_⟩
          have w := way 43 (hF2.mono (by omega)) (by decide)
          simp (disch := omega) only [vsb, aE, reduceIte, AV.cells, putL, aC, Nat.reduceAdd, Nat.reduceDiv, Nat.reduceMod, AV.one, Nat.reduceLeDiff, Nat.reduceEqDiff, m8, rY, V12, mZ, mY, lU, mX, mV, mW, jM, jL, jJ, jK, jI, lD, jH, jG, jF, m3, jE, jD, jB, jA, i9, i8, jC, i7, m4, i6, i5, i4, i3, i2, iR, i1, m5, iQ, i0, iP, iZ, iY, iX, aU, Option.isSome_none, Option.isSome_some] at w
          exact w
        | some e =>
          rw [hkf] at way
          simp (disch := omega) only [vsb, aE, reduceIte, AV.cells, putL, aC, Nat.reduceAdd, Nat.reduceDiv, Nat.reduceMod, AV.one, Nat.reduceLeDiff, Nat.reduceEqDiff, m8, rY, V12, mZ, mY, lU, mX, mV, mW, jM, jL, jJ, jK, jI, lD, jH, jG, jF, m3, jE, jD, jB, jA, i9, i8, jC, i7, m4, i6, i5, i4, i3, i2, iR, i1, m5, iQ, i0, iP, iZ, iY, iX, aU, h1', hb, hkf]
          refine ⟨(by (repeat' (first | exact cV | exact bB | refine cW ?_ ?_ | refine bC ?_ ?_)); all_goals (first | exact Or.inl rfl | exact Or.inl (by decide) | exact Or.inr ⟨by (simp (decide := true) [a6, h2] <;> assumption), by (simp (decide := true) [a6, h2] <;> assumption)⟩)), ?_⟩
          have w := way 43 (hF2.mono (by omega)) (by decide)
          simp (disch := omega) only [vsb, aE, reduceIte, AV.cells, putL, aC, Nat.reduceAdd, Nat.reduceDiv, Nat.reduceMod, AV.one, Nat.reduceLeDiff, Nat.reduceEqDiff, m8, rY, V12, mZ, mY, lU, mX, mV, mW, jM, jL, jJ, jK, jI, lD, jH, jG, jF, m3, jE, jD, jB, jA, i9, i8, jC, i7, m4, i6, i5, i4, i3, i2, iR, i1, m5, iQ, i0, iP, iZ, iY, iX, aU, Option.isSome_none, Option.isSome_some] at w
          exact w
    · rw [if_pos (by omega)] at hr'
      subst hr'
      simp (disch := omega) only [vsb, aE, reduceIte, AV.cells, putL, aC, Nat.reduceAdd, Nat.reduceDiv, Nat.reduceMod, AV.one, Nat.reduceLeDiff, Nat.reduceEqDiff, m8, rY, V12, mZ, mY, lU, mX, mV, mW, jM, jL, jJ, jK, jI, lD, jH, jG, jF, m3, jE, jD, jB, jA, i9, i8, jC, i7, m4, i6, i5, i4, i3, i2, iR, i1, m5, iQ, i0, iP, iZ, iY, iX, aU, h1]
      refine jZ xP (hF.mono (by omega)) (fun H2 hH2 hF2 => ?_)
      have hb := by have := hH2 (3 :: 35 :: q); rwa [aK] at this
      have hot : ∀ j o, H j = some o → H2 j = some o := fun j o h => by
        rw [hH2, aP (fun e => by rw [e, show H (3 :: 35 :: q) = none from hF 35 [3] (by omega)] at h; cases h), a8]; exact h
      clear hH2
      have h1' := hot _ _ h1
      have way := fun (c : Nat) (hF : Fresh q c H2) (hc : 18 ≤ c) => OG (H := H2) (k := k) (r := r) (hw.mono2 fun j e rs he hj => hot _ _ hj) hwl (hot _ _ h2) hF hc
      cases hkf : cQ k r with
      | none =>
        rw [hkf] at way
        simp (disch := omega) only [vsb, aE, reduceIte, AV.cells, putL, aC, Nat.reduceAdd, Nat.reduceDiv, Nat.reduceMod, AV.one, Nat.reduceLeDiff, Nat.reduceEqDiff, m8, rY, V12, mZ, mY, lU, mX, mV, mW, jM, jL, jJ, jK, jI, lD, jH, jG, jF, m3, jE, jD, jB, jA, i9, i8, jC, i7, m4, i6, i5, i4, i3, i2, iR, i1, m5, iQ, i0, iP, iZ, iY, iX, aU, h1', hb, hkf]
        refine ⟨(by (repeat' (first | exact cV | exact bB | refine cW ?_ ?_ | refine bC ?_ ?_)); all_goals (first | exact Or.inl rfl | exact Or.inl (by decide) | exact Or.inr ⟨by (simp (decide := true) [a6, h2] <;> assumption), by (simp (decide := true) [a6, h2] <;> assumption)⟩)), ?_⟩
        have w := way 43 (hF2.mono (by omega)) (by decide)
        simp (disch := omega) only [vsb, aE, reduceIte, AV.cells, putL, aC, Nat.reduceAdd, Nat.reduceDiv, Nat.reduceMod, AV.one, Nat.reduceLeDiff, Nat.reduceEqDiff, m8, rY, V12, mZ, mY, lU, mX, mV, mW, jM, jL, jJ, jK, jI, lD, jH, jG, jF, m3, jE, jD, jB, jA, i9, i8, jC, i7, m4, i6, i5, i4, i3, i2, iR, i1, m5, iQ, i0, iP, iZ, iY, iX, aU, Option.isSome_none, Option.isSome_some] at w
        exact w
      | some e =>
        rw [hkf] at way
        simp (disch := omega) only [vsb, aE, reduceIte, AV.cells, putL, aC, Nat.reduceAdd, Nat.reduceDiv, Nat.reduceMod, AV.one, Nat.reduceLeDiff, Nat.reduceEqDiff, m8, rY, V12, mZ, mY, lU, mX, mV, mW, jM, jL, jJ, jK, jI, lD, jH, jG, jF, m3, jE, jD, jB, jA, i9, i8, jC, i7, m4, i6, i5, i4, i3, i2, iR, i1, m5, iQ, i0, iP, iZ, iY, iX, aU, h1', hb, hkf]
        refine ⟨(by (repeat' (first | exact cV | exact bB | refine cW ?_ ?_ | refine bC ?_ ?_)); all_goals (first | exact Or.inl rfl | exact Or.inl (by decide) | exact Or.inr ⟨by (simp (decide := true) [a6, h2] <;> assumption), by (simp (decide := true) [a6, h2] <;> assumption)⟩)), ?_⟩
        have w := way 43 (hF2.mono (by omega)) (by decide)
        simp (disch := omega) only [vsb, aE, reduceIte, AV.cells, putL, aC, Nat.reduceAdd, Nat.reduceDiv, Nat.reduceMod, AV.one, Nat.reduceLeDiff, Nat.reduceEqDiff, m8, rY, V12, mZ, mY, lU, mX, mV, mW, jM, jL, jJ, jK, jI, lD, jH, jG, jF, m3, jE, jD, jB, jA, i9, i8, jC, i7, m4, i6, i5, i4, i3, i2, iR, i1, m5, iQ, i0, iP, iZ, iY, iX, aU, Option.isSome_none, Option.isSome_some] at w
        exact w
  · have hd : doS l a kl k r = mN ⟨l, aR l.length a, kl, []⟩ r := by rw [doS, if_pos (by omega)]
    rw [hd]
    simp (disch := omega) only [vsb, aE, reduceIte, AV.cells, putL, aC, Nat.reduceAdd, Nat.reduceDiv, Nat.reduceMod, AV.one, Nat.reduceLeDiff, Nat.reduceEqDiff, m8, rY, V12, mZ, mY, lU, mX, mV, mW, jM, jL, jJ, jK, jI, lD, jH, jG, jF, m3, jE, jD, jB, jA, i9, i8, jC, i7, m4, i6, i5, i4, i3, i2, iR, i1, m5, iQ, i0, iP, iZ, iY, iX, aU, h1]
    refine I7 (Φ := fun H0 y u => y = .bool (wX ⟨l, aR l.length a, kl, []⟩ r) ∧ ∃ xl' xa', WorkI (upd u H0) (17 :: q) xl' xk xa' (mN ⟨l, aR l.length a, kl, []⟩ r)) hw h2 (hF.mono (by omega)) (by omega) (fun H0 h0 hf0 => E9 h0 hf0 cA (by simp) r) (fun H0 x u hx => by obtain ⟨_, xl', xa', h⟩ := hx; exact ⟨xl', xk, xa', h⟩) (fun x u xl' xk' xa' h3 h4 h5 => ?_)
    have h6 := h3.s
    rcases rT h3.l with rfl | ⟨_, _, rfl⟩ <;> rcases rT h3.k with rfl | ⟨_, _, rfl⟩
    all_goals (simp (disch := omega) only [vsb, aE, reduceIte, AV.cells, putL, aC, Nat.reduceAdd, Nat.reduceDiv, Nat.reduceMod, AV.one, Nat.reduceLeDiff, Nat.reduceEqDiff, m8, rY, V12, mZ, mY, lU, mX, mV, mW, jM, jL, jJ, jK, jI, lD, jH, jG, jF, m3, jE, jD, jB, jA, i9, i8, jC, i7, m4, i6, i5, i4, i3, i2, iR, i1, m5, iQ, i0, iP, iZ, iY, iX, aU, h4, h6]; refine ⟨(by (repeat' (first | exact cV | exact bB | refine cW ?_ ?_ | refine bC ?_ ?_)); all_goals (first | exact Or.inl rfl | exact Or.inl (by decide) | exact Or.inr ⟨by (simp (decide := true) [a6, h2] <;> assumption), by (simp (decide := true) [a6, h2] <;> assumption)⟩)), ?_⟩; exact OH h3 h4 h5)
theorem P5 (l : List Int) (hl : l.length ≤ 100000) (a : Int) (kl : List Int) (hkl : kl.length ≤ 100000) (k r : Int) : lV Try.prog 12 [.agg [il l, .int .i64 a, il kl], .agg [.int .i64 k, .int .i64 r]] (doR (doS l a kl k r)) := by
  refine cP Try.mixed ok12 rfl (fun q => ?_)
  simp only [params, Nat.zero_add, Nat.reduceAdd]
  simp (disch := omega) only [vsb, aE, reduceIte, AV.cells, putL, aC, Nat.reduceAdd, Nat.reduceDiv, Nat.reduceMod, AV.one, Nat.reduceLeDiff, Nat.reduceEqDiff, m8, rY, V12, mZ, mY, lU, mX, mV, mW, jM, jL, jJ, jK, jI, lD, jH, jG, jF, m3, jE, jD, jB, jA, i9, i8, jC, i7, m4, i6, i5, i4, i3, i2, iR, i1, m5, iQ, i0, iP, iZ, iY, iX, aU]
  have hF : Fresh q 6 (upd [(2 :: q, some (.rows 3 [[.nils, .int .i64 0, .nils]]))] (upd [(1 :: q, some (.rows 2 [[.int .i64 k, .int .i64 r]]))] (upd [(0 :: q, some (.rows 3 [[il l, .int .i64 a, il kl]]))] fun x => none))) :=
    (((Fresh.empty (c := 0)).upd (k := 0) (d := 1) (by omega) (by omega)).upd (k := 1) (d := 2) (by omega) (by omega)).upd (k := 2) (d := 6) (by omega) (by omega)
  generalize hH : upd [(2 :: q, some (.rows 3 [[.nils, .int .i64 0, .nils]]))] (upd [(1 :: q, some (.rows 2 [[.int .i64 k, .int .i64 r]]))] (upd [(0 :: q, some (.rows 3 [[il l, .int .i64 a, il kl]]))] fun x => none)) = H at hF ⊢
  have h0 : H (0 :: q) = some (.rows 3 [[il l, .int .i64 a, il kl]]) := by rw [← hH, aP (by simp), a8, aP (by simp), a8, aK]
  have h1 : H (1 :: q) = some (.rows 2 [[.int .i64 k, .int .i64 r]]) := by rw [← hH, aP (by simp), a8, aK]
  have h2 : H (2 :: q) = some (.rows 3 [[.nils, .int .i64 0, .nils]]) := by rw [← hH, aK]
  clear hH
  obtain ⟨xl, u1, hc1, hy1, hu1, hx1, hs1⟩ := FG (H := H) (q := 6 :: q) l (by omega)
  refine jZ hc1 hF (fun H2 hH2 hF2 => ?_)
  have hk1 : ∀ j, H2 (j :: q) = H (j :: q) := fun j => by
    rw [hH2, bQ (fun h => by have := hu1 _ h; simp at this)]
  rw [← hk1] at h0 h1 h2
  obtain rfl : H2 = upd u1 H := funext hH2
  clear hH2 hk1
  simp (disch := omega) only [vsb, aE, reduceIte, AV.cells, putL, aC, Nat.reduceAdd, Nat.reduceDiv, Nat.reduceMod, AV.one, Nat.reduceLeDiff, Nat.reduceEqDiff, m8, rY, V12, mZ, mY, lU, mX, mV, mW, jM, jL, jJ, jK, jI, lD, jH, jG, jF, m3, jE, jD, jB, jA, i9, i8, jC, i7, m4, i6, i5, i4, i3, i2, iR, i1, m5, iQ, i0, iP, iZ, iY, iX, aU, h0, h1, h2]
  refine aO (rQ l a) ?_
  simp (disch := omega) only [vsb, aE, reduceIte, AV.cells, putL, aC, Nat.reduceAdd, Nat.reduceDiv, Nat.reduceMod, AV.one, Nat.reduceLeDiff, Nat.reduceEqDiff, m8, rY, V12, mZ, mY, lU, mX, mV, mW, jM, jL, jJ, jK, jI, lD, jH, jG, jF, m3, jE, jD, jB, jA, i9, i8, jC, i7, m4, i6, i5, i4, i3, i2, iR, i1, m5, iQ, i0, iP, iZ, iY, iX, aU, h0, h1, h2]
  obtain ⟨xk, u2, hc2, hy2, hu2, hx2, hs2⟩ := FG (H := upd u1 H) (q := 14 :: q) kl (by omega)
  refine jZ hc2 (hF2.mono (by omega)) (fun H3 hH3 hF3 => ?_)
  have hk2 : ∀ j, H3 (j :: q) = upd u1 H (j :: q) := fun j => by
    rw [hH3, bQ (fun h => by have := hu2 _ h; simp at this)]
  rw [← hk2] at h0 h1 h2
  have hl3 : ListE H3 xl l := hy1.mono fun lab n e hk => by
    obtain rfl := hx1 _ _ e
    rw [hH3, bQ (fun h => by have := hu2 _ h; simp at this)]; exact hk
  obtain rfl : H3 = upd u2 (upd u1 H) := funext hH3
  have hk3 : ∀ o, upd [(17 :: q, some o)] (upd u2 (upd u1 H)) (1 :: q) = some (.rows 2 [[.int .i64 k, .int .i64 r]]) ∧ upd [(17 :: q, some o)] (upd u2 (upd u1 H)) (2 :: q) = some (.rows 3 [[.nils, .int .i64 0, .nils]]) := fun o => ⟨by rw [aP (by simp)]; exact h1, by rw [aP (by simp)]; exact h2⟩
  have hF4 : ∀ o, Fresh q 18 (upd [(17 :: q, o)] (upd u2 (upd u1 H))) := fun o => hF3.upd (by omega) (by omega)
  have hw : WorkI (upd [(17 :: q, some (.rows 4 [[xl, .int .i64 (aR l.length a), xk, .nils]]))] (upd u2 (upd u1 H))) (17 :: q) xl xk .nils ⟨l, aR l.length a, kl, []⟩ := by
    have hn : ∀ {j o}, upd u2 (upd u1 H) j = some o → upd [(17 :: q, some (.rows 4 [[xl, .int .i64 (aR l.length a), xk, .nils]]))] (upd u2 (upd u1 H)) j = some o := fun {j o} h => by
      rw [aP (fun e => by rw [e, hF3.at (by omega)] at h; cases h)]; exact h
    refine ⟨aK, hl3.mono fun _ _ _ h => hn h, hy2.mono fun _ _ _ h => hn h, .inl ⟨rfl, rfl⟩, fun lab n m e e' => ?_⟩
    have e1 := hx1 _ _ e
    have e2 := hx2 _ _ e'
    rw [e1] at e2
    simp at e2
  have hmid := do_mid (k := k) (r := r) hw hl hkl (hk3 _).1 (hk3 _).2 (hF4 _)
  rcases hs1 with ⟨rfl, rfl⟩ | ⟨rfl, rfl⟩ <;> rcases hs2 with ⟨rfl, rfl⟩ | ⟨rfl, rfl⟩
  all_goals (simp (disch := omega) only [vsb, aE, reduceIte, AV.cells, putL, aC, Nat.reduceAdd, Nat.reduceDiv, Nat.reduceMod, AV.one, Nat.reduceLeDiff, Nat.reduceEqDiff, m8, rY, V12, mZ, mY, lU, mX, mV, mW, jM, jL, jJ, jK, jI, lD, jH, jG, jF, m3, jE, jD, jB, jA, i9, i8, jC, i7, m4, i6, i5, i4, i3, i2, iR, i1, m5, iQ, i0, iP, iZ, iY, iX, aU, h0, h1, h2]; refine ⟨(by (repeat' (first | exact cV | exact bB | refine cW ?_ ?_ | refine bC ?_ ?_)); all_goals (first | exact Or.inl rfl | exact Or.inl (by decide) | exact Or.inr ⟨by (simp (decide := true) [a6, h2] <;> assumption), by (simp (decide := true) [a6, h2] <;> assumption)⟩)), ?_⟩)
  all_goals exact hmid
end
end Go.Proofs.Ytbngfbpegdcpkaa
