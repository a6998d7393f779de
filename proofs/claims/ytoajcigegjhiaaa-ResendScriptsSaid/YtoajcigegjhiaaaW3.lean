/- What is owed of functions of the program, as formulas. -/
import Derived.Test.YtoajcigegjhiaaaA26
import Derived.Test.YtoajcigegjhiaaaProg
import Derived.KernelRfl
namespace Go.Proofs.Ytoajcigegjhiaaa
set_option maxRecDepth 100000
set_option linter.unusedVariables false
set_option linter.unusedSimpArgs false
def b27_1 : ACode := (.seq (.seq (.region [⟨(some 57), none, .move, [.t 4]⟩, ⟨(some 58), none, .move, [.t 3]⟩, ⟨(some 59), none, (.bin .lss .num), [.t 57, .t 58]⟩] none [1, 3, 4, 59])
  (.cond (.t 59) .skip
  (.exit 0)))
  (.seq (.block 1 (.seq (.region [⟨(some 62), none, (.fieldAddr 2), [.t 1]⟩, ⟨(some 63), none, (.load 1 false), [.t 62]⟩, ⟨(some 64), none, .move, [.t 4]⟩, ⟨(some 65), none, (.indexAddr 1), [.t 63, .t 64]⟩, ⟨(some 66), none, (.load 1 false), [.t 65]⟩, ⟨(some 67), none, .call, [.c (.fn (.func 52) [] []), .t 66]⟩, ⟨(some 68), none, (.un .not), [.t 67]⟩] none [1, 3, 4, 68])
  (.cond (.t 68) (.seq (.region [⟨(some 2), none, .move, [.c (.int .i64 1)]⟩] none [2])
  .ret)
  .skip)))
  (.region [⟨(some 60), none, .move, [.t 4]⟩, ⟨(some 61), none, (.bin .add .num), [.t 60, .c (.int .i64 1)]⟩, ⟨(some 4), none, .move, [.t 61]⟩] none [1, 3, 4])))
def l27_1 : ACode := .loop [1, 3, 4] b27_1
def r27_2 : ACode := (.seq (.region [⟨(some 2), none, .move, [.c (.int .i64 0)]⟩] none [2])
  .ret)
/-- duet/duetref04.Check -/
def c27 : AFun := ⟨1, 69, [.tmp 2],
  (.seq (.region [⟨(some 1), none, .box, [.t 0]⟩, ⟨(some 2), none, .move, [.c (.int .i64 0)]⟩] none [1])
  (.seq (.region [⟨(some 5), none, (.fieldAddr 2), [.t 1]⟩, ⟨(some 6), none, (.load 1 false), [.t 5]⟩, ⟨(some 7), none, (.len .slice), [.t 6]⟩, ⟨(some 3), none, .move, [.t 7]⟩] none [1, 3])
  (.seq (.seq (.region [⟨(some 8), none, .move, [.t 3]⟩, ⟨(some 9), none, (.bin .lss .num), [.t 8, .c (.int .i64 1)]⟩, ⟨(some 10), none, .move, [.t 9]⟩, ⟨(some 11), (some (10, false)), .move, [.t 3]⟩, ⟨(some 12), (some (10, false)), (.bin .gtr .num), [.t 11, .c (.int .i64 16)]⟩, ⟨(some 13), none, .pick, [.t 10, .c (.bool true), .t 12]⟩, ⟨(some 14), none, .move, [.t 13]⟩, ⟨(some 15), (some (14, false)), (.fieldAddr 0), [.t 1]⟩, ⟨(some 16), (some (14, false)), (.load 1 false), [.t 15]⟩, ⟨(some 17), (some (14, false)), (.bin .lss .num), [.t 16, .c (.int .i64 0)]⟩, ⟨(some 18), none, .pick, [.t 14, .c (.bool true), .t 17]⟩, ⟨(some 19), none, .move, [.t 18]⟩, ⟨(some 20), (some (19, false)), (.fieldAddr 0), [.t 1]⟩, ⟨(some 21), (some (19, false)), (.load 1 false), [.t 20]⟩, ⟨(some 22), (some (19, false)), .move, [.t 3]⟩, ⟨(some 23), (some (19, false)), (.bin .geq .num), [.t 21, .t 22]⟩, ⟨(some 24), none, .pick, [.t 19, .c (.bool true), .t 23]⟩, ⟨(some 25), none, .move, [.t 24]⟩, ⟨(some 26), (some (25, false)), (.fieldAddr 1), [.t 1]⟩, ⟨(some 27), (some (25, false)), (.load 1 false), [.t 26]⟩, ⟨(some 28), (some (25, false)), (.bin .lss .num), [.t 27, .c (.int .i64 1)]⟩, ⟨(some 29), none, .pick, [.t 25, .c (.bool true), .t 28]⟩, ⟨(some 30), none, .move, [.t 29]⟩, ⟨(some 31), (some (30, false)), (.fieldAddr 1), [.t 1]⟩, ⟨(some 32), (some (30, false)), (.load 1 false), [.t 31]⟩, ⟨(some 33), (some (30, false)), .call, [.c (.fn (.func 52) [] []), .t 32]⟩, ⟨(some 34), (some (30, false)), (.un .not), [.t 33]⟩, ⟨(some 35), none, .pick, [.t 30, .c (.bool true), .t 34]⟩, ⟨(some 36), none, .move, [.t 35]⟩, ⟨(some 37), (some (36, false)), (.fieldAddr 2), [.t 1]⟩, ⟨(some 38), (some (36, false)), (.load 1 false), [.t 37]⟩, ⟨(some 39), (some (36, false)), (.fieldAddr 0), [.t 1]⟩, ⟨(some 40), (some (36, false)), (.load 1 false), [.t 39]⟩, ⟨(some 41), (some (36, false)), (.indexAddr 1), [.t 38, .t 40]⟩, ⟨(some 42), (some (36, false)), (.load 1 false), [.t 41]⟩, ⟨(some 43), (some (36, false)), (.fieldAddr 1), [.t 1]⟩, ⟨(some 44), (some (36, false)), (.load 1 false), [.t 43]⟩, ⟨(some 45), (some (36, false)), (.bin .sub .num), [.t 44, .c (.int .i64 1)]⟩, ⟨(some 46), (some (36, false)), (.bin .neq .num), [.t 42, .t 45]⟩, ⟨(some 47), none, .pick, [.t 36, .c (.bool true), .t 46]⟩, ⟨(some 48), none, .move, [.t 47]⟩, ⟨(some 49), (some (48, false)), (.fieldAddr 3), [.t 1]⟩, ⟨(some 50), (some (48, false)), (.load 7 true), [.t 49]⟩, ⟨(some 51), (some (48, false)), (.fieldAddr 0), [.t 1]⟩, ⟨(some 52), (some (48, false)), (.load 1 false), [.t 51]⟩, ⟨(some 53), (some (48, false)), .move, [.t 3]⟩, ⟨(some 54), (some (48, false)), .call, [.c (.fn (.func 53) [] []), .t 50, .t 52, .t 53]⟩, ⟨(some 55), (some (48, false)), (.un .not), [.t 54]⟩, ⟨(some 56), none, .pick, [.t 48, .c (.bool true), .t 55]⟩] (some [0, 1, 3, 7, 15, 31, 63, 127, 255, 511, 1023, 2047, 4095, 8191, 4095, 32767, 65535, 131071, 262143, 524287, 1048575, 2097151, 4194303, 8388607, 16777215, 33554431, 67108863, 134217727, 268435455, 536870911, 1073741823, 536870911, 2684354559, 8589934591, 17179869183, 536870911, 34896609279, 103616086015, 274877906943, 549755813887, 1099511627775, 2199023255551, 4398046511103, 2199023255551, 10995116277759, 2199023255551, 70368744177663, 140737488355327, 281474976710655]) [1, 3, 56])
  (.cond (.t 56) (.seq (.region [⟨(some 2), none, .move, [.c (.int .i64 1)]⟩] none [2])
  .ret)
  .skip))
  (.seq (.seq (.region [⟨(some 4), none, .move, [.c (.int .i64 0)]⟩] none [1, 3, 4])
  (.block 0 l27_1)) r27_2))))⟩
theorem ok27 : FunOk Try.prog 27 c27 := ⟨⟨Try.f27, _, Try.func27, rfl, by kernel_rfl, by kernel_rfl, by kernel_rfl, by kernel_rfl⟩, by decide⟩
theorem res27 : c27.res = [.tmp 2] := rfl
def k27_0 (P : Program) (p : Lab) (Q : VPost) (y1 : AV) (y3 : AV) (H : Heap) (c : Nat) : Prop :=
  Q .ret [(2, (.int .i64 1))] H (c + 1)
def k27_1 (P : Program) (p : Lab) (Q : VPost) (v7_4 : AV) (H0 : Heap) (w0 : List AV) (c : Nat) (_ : Unit) : Prop :=
  clashFree [0, 1, 3, 7, 15, 31, 63, 127, 255, 511, 1023, 2047, 4095, 8191, 4095, 32767, 65535, 131071, 262143, 524287, 1048575, 2097151, 4194303, 8388607, 16777215, 33554431, 67108863, 134217727, 268435455, 536870911, 1073741823, 536870911, 2684354559, 8589934591, 17179869183, 536870911, 34896609279, 103616086015, 274877906943, 549755813887, 1099511627775, 2199023255551, 4398046511103, 2199023255551, 10995116277759, 2199023255551, 70368744177663, 140737488355327, 281474976710655] [] ∧
  (k27_0 P p Q (.ptr (c :: p) w0.length 0 0) v7_4 H0 (c + 55))
def k27_2 (P : Program) (p : Lab) (Q : VPost) (v7_4 : AV) (H0 : Heap) (w0 : List AV) (c : Nat) (_ : Unit) : Prop :=
  clashFree [0, 1, 3, 7, 15, 31, 63, 127, 255, 511, 1023, 2047, 4095, 8191, 4095, 32767, 65535, 131071, 262143, 524287, 1048575, 2097151, 4194303, 8388607, 16777215, 33554431, 67108863, 134217727, 268435455, 536870911, 1073741823, 536870911, 2684354559, 8589934591, 17179869183, 536870911, 34896609279, 103616086015, 274877906943, 549755813887, 1099511627775, 2199023255551, 4398046511103, 2199023255551, 10995116277759, 2199023255551, 70368744177663, 140737488355327, 281474976710655] [] ∧
  (k27_0 P p Q (.ptr (c :: p) w0.length 0 0) v7_4 H0 (c + 55))
def k27_3 (P : Program) (p : Lab) (Q : VPost) (f39 : Option (List Lab)) (v7_4 : AV) (H0 : Heap) (w0 : List AV) (c : Nat) (_ : Unit) : Prop :=
  clashFree [0, 1, 3, 7, 15, 31, 63, 127, 255, 511, 1023, 2047, 4095, 8191, 4095, 32767, 65535, 131071, 262143, 524287, 1048575, 2097151, 4194303, 8388607, 16777215, 33554431, 67108863, 134217727, 268435455, 536870911, 1073741823, 536870911, 2684354559, 8589934591, 17179869183, 536870911, 34896609279, 103616086015, 274877906943, 549755813887, 1099511627775, 2199023255551, 4398046511103, 2199023255551, 10995116277759, 2199023255551, 70368744177663, 140737488355327, 281474976710655] (addTr 8 [] ((c + 14) :: p) f39 []) ∧
  (k27_0 P p Q (.ptr (c :: p) w0.length 0 0) v7_4 H0 (c + 55))
def k27_4 (P : Program) (p : Lab) (Q : VPost) (f53 : Option (List Lab)) (f39 : Option (List Lab)) (v7_4 : AV) (H0 : Heap) (w0 : List AV) (c : Nat) (_ : Unit) : Prop :=
  clashFree [0, 1, 3, 7, 15, 31, 63, 127, 255, 511, 1023, 2047, 4095, 8191, 4095, 32767, 65535, 131071, 262143, 524287, 1048575, 2097151, 4194303, 8388607, 16777215, 33554431, 67108863, 134217727, 268435455, 536870911, 1073741823, 536870911, 2684354559, 8589934591, 17179869183, 536870911, 34896609279, 103616086015, 274877906943, 549755813887, 1099511627775, 2199023255551, 4398046511103, 2199023255551, 10995116277759, 2199023255551, 70368744177663, 140737488355327, 281474976710655] (addTr 8 [] ((c + 14) :: p) f39 (addTr 13 [] ((c + 19) :: p) f53 [])) ∧
  (k27_0 P p Q (.ptr (c :: p) w0.length 0 0) v7_4 H0 (c + 55))
def k27_5 (P : Program) (p : Lab) (Q : VPost) (f66 : Option (List Lab)) (f53 : Option (List Lab)) (f39 : Option (List Lab)) (v7_4 : AV) (H0 : Heap) (w0 : List AV) (c : Nat) (_ : Unit) : Prop :=
  clashFree [0, 1, 3, 7, 15, 31, 63, 127, 255, 511, 1023, 2047, 4095, 8191, 4095, 32767, 65535, 131071, 262143, 524287, 1048575, 2097151, 4194303, 8388607, 16777215, 33554431, 67108863, 134217727, 268435455, 536870911, 1073741823, 536870911, 2684354559, 8589934591, 17179869183, 536870911, 34896609279, 103616086015, 274877906943, 549755813887, 1099511627775, 2199023255551, 4398046511103, 2199023255551, 10995116277759, 2199023255551, 70368744177663, 140737488355327, 281474976710655] (addTr 8 [] ((c + 14) :: p) f39 (addTr 13 [] ((c + 19) :: p) f53 (addTr 19 [] ((c + 25) :: p) f66 []))) ∧
  (k27_0 P p Q (.ptr (c :: p) w0.length 0 0) v7_4 H0 (c + 55))
def k27_6 (P : Program) (p : Lab) (Q : VPost) (H77 : Heap) (l77 : List Lab) (f77 : Option (List Lab)) (f76 : Option (List Lab)) (f66 : Option (List Lab)) (f53 : Option (List Lab)) (f39 : Option (List Lab)) (v7_4 : AV) (w0 : List AV) (c : Nat) (_ : Unit) : Prop :=
  clashFree [0, 1, 3, 7, 15, 31, 63, 127, 255, 511, 1023, 2047, 4095, 8191, 4095, 32767, 65535, 131071, 262143, 524287, 1048575, 2097151, 4194303, 8388607, 16777215, 33554431, 67108863, 134217727, 268435455, 536870911, 1073741823, 536870911, 2684354559, 8589934591, 17179869183, 536870911, 34896609279, 103616086015, 274877906943, 549755813887, 1099511627775, 2199023255551, 4398046511103, 2199023255551, 10995116277759, 2199023255551, 70368744177663, 140737488355327, 281474976710655] (addTr 8 [] ((c + 14) :: p) f39 (addTr 13 [] ((c + 19) :: p) f53 (addTr 19 [] ((c + 25) :: p) f66 (addTr 24 [] ((c + 30) :: p) f76 (addTr 25 l77 ((c + 31) :: p) f77 []))))) ∧
  (k27_0 P p Q (.ptr (c :: p) w0.length 0 0) v7_4 H77 (c + 55))
def k27_7 (P : Program) (p : Lab) (Q : VPost) (f91 : Option (List Lab)) (f89 : Option (List Lab)) (f87 : Option (List Lab)) (f85 : Option (List Lab)) (H77 : Heap) (l77 : List Lab) (f77 : Option (List Lab)) (f76 : Option (List Lab)) (f66 : Option (List Lab)) (f53 : Option (List Lab)) (f39 : Option (List Lab)) (v7_4 : AV) (w0 : List AV) (c : Nat) (_ : Unit) : Prop :=
  clashFree [0, 1, 3, 7, 15, 31, 63, 127, 255, 511, 1023, 2047, 4095, 8191, 4095, 32767, 65535, 131071, 262143, 524287, 1048575, 2097151, 4194303, 8388607, 16777215, 33554431, 67108863, 134217727, 268435455, 536870911, 1073741823, 536870911, 2684354559, 8589934591, 17179869183, 536870911, 34896609279, 103616086015, 274877906943, 549755813887, 1099511627775, 2199023255551, 4398046511103, 2199023255551, 10995116277759, 2199023255551, 70368744177663, 140737488355327, 281474976710655] (addTr 8 [] ((c + 14) :: p) f39 (addTr 13 [] ((c + 19) :: p) f53 (addTr 19 [] ((c + 25) :: p) f66 (addTr 24 [] ((c + 30) :: p) f76 (addTr 25 l77 ((c + 31) :: p) f77 (addTr 30 [] ((c + 36) :: p) f85 (addTr 32 [] ((c + 38) :: p) f87 (addTr 34 [] ((c + 40) :: p) f89 (addTr 36 [] ((c + 42) :: p) f91 []))))))))) ∧
  (k27_0 P p Q (.ptr (c :: p) w0.length 0 0) v7_4 H77 (c + 55))
def k27_9 (P : Program) (p : Lab) (Q : VPost)  (H : Heap) (c : Nat) : Prop :=
  Q .ret [(2, (.int .i64 1))] H c
def k27_10 (P : Program) (p : Lab) (Q : VPost) (H : Heap) (c : Nat) (_ : Unit) : Prop :=
  (k27_9 P p Q  H (c + 1))
def q27_0 (P : Program) (p : Lab) (Q : VPost) : VPost := (vblockQ 0 (vseqQ (vc P p r27_2 Q) Q))
theorem q27_0_ret (P : Program) (p : Lab) (Q : VPost) (r : RL) (H : Heap) (c : Nat) : q27_0 P p Q .ret r H c = Q .ret r H c := rfl
def k27_11 (P : Program) (p : Lab) (Q : VPost) (y1 : AV) (y3 : AV) (y56 : AV) (H : Heap) (c : Nat) : Prop :=
  vc P p l27_1 (q27_0 P p Q) [(1, y1), (3, y3), (4, (.int .i64 0))] H (c + 1)
def k27_12 (P : Program) (p : Lab) (Q : VPost) (y1 : AV) (y3 : AV) (y56 : AV) (H : Heap) (c : Nat) (_ : Unit) : Prop :=
  (k27_11 P p Q y1 y3 y56 H c)
def k27_8 (P : Program) (p : Lab) (Q : VPost) (y1 : AV) (y3 : AV) (y56 : AV) (H : Heap) (c : Nat) : Prop :=
  vSel y56
  (k27_10 P p Q H c)
  (k27_12 P p Q y1 y3 y56 H c)
def k27_13 (P : Program) (p : Lab) (Q : VPost) (f100 : Option (List Lab)) (f98 : Option (List Lab)) (f91 : Option (List Lab)) (f89 : Option (List Lab)) (f87 : Option (List Lab)) (f85 : Option (List Lab)) (l77 : List Lab) (f77 : Option (List Lab)) (f76 : Option (List Lab)) (f66 : Option (List Lab)) (f53 : Option (List Lab)) (f39 : Option (List Lab)) (v7_4 : AV) (w0 : List AV) (c : Nat) (v54_102 : AV) (H102 : Heap) (l102 : List Lab) (f102 : Option (List Lab)) : Prop :=
  vNot v54_102 fun v55_103 =>
  clashFree [0, 1, 3, 7, 15, 31, 63, 127, 255, 511, 1023, 2047, 4095, 8191, 4095, 32767, 65535, 131071, 262143, 524287, 1048575, 2097151, 4194303, 8388607, 16777215, 33554431, 67108863, 134217727, 268435455, 536870911, 1073741823, 536870911, 2684354559, 8589934591, 17179869183, 536870911, 34896609279, 103616086015, 274877906943, 549755813887, 1099511627775, 2199023255551, 4398046511103, 2199023255551, 10995116277759, 2199023255551, 70368744177663, 140737488355327, 281474976710655] (addTr 8 [] ((c + 14) :: p) f39 (addTr 13 [] ((c + 19) :: p) f53 (addTr 19 [] ((c + 25) :: p) f66 (addTr 24 [] ((c + 30) :: p) f76 (addTr 25 l77 ((c + 31) :: p) f77 (addTr 30 [] ((c + 36) :: p) f85 (addTr 32 [] ((c + 38) :: p) f87 (addTr 34 [] ((c + 40) :: p) f89 (addTr 36 [] ((c + 42) :: p) f91 (addTr 42 [] ((c + 48) :: p) f98 (addTr 44 [] ((c + 50) :: p) f100 (addTr 46 l102 ((c + 52) :: p) f102 [])))))))))))) ∧
  (k27_8 P p Q (.ptr (c :: p) w0.length 0 0) v7_4 v55_103 H102 (c + 55))
def k27_14 (P : Program) (p : Lab) (Q : VPost) (f91 : Option (List Lab)) (f89 : Option (List Lab)) (f87 : Option (List Lab)) (f85 : Option (List Lab)) (H77 : Heap) (l77 : List Lab) (f77 : Option (List Lab)) (f76 : Option (List Lab)) (f66 : Option (List Lab)) (f53 : Option (List Lab)) (f39 : Option (List Lab)) (v7_4 : AV) (w0 : List AV) (c : Nat) (_ : Unit) : Prop :=
  vFA 3 (.ptr (c :: p) w0.length 0 0) fun v49_97 =>
  vLoad 7 true v49_97 H77 fun v50_98 f98 =>
  vFA 0 (.ptr (c :: p) w0.length 0 0) fun v51_99 =>
  vLoad 1 false v51_99 H77 fun v52_100 f100 =>
  vCall P 53 [v50_98, v52_100, v7_4] H77 ((c + 52) :: p) (k27_13 P p Q f100 f98 f91 f89 f87 f85 l77 f77 f76 f66 f53 f39 v7_4 w0 c)
def k27_15 (P : Program) (p : Lab) (Q : VPost) (H77 : Heap) (l77 : List Lab) (f77 : Option (List Lab)) (f76 : Option (List Lab)) (f66 : Option (List Lab)) (f53 : Option (List Lab)) (f39 : Option (List Lab)) (v7_4 : AV) (w0 : List AV) (c : Nat) (_ : Unit) : Prop :=
  vFA 2 (.ptr (c :: p) w0.length 0 0) fun v37_84 =>
  vLoad 1 false v37_84 H77 fun v38_85 f85 =>
  vFA 0 (.ptr (c :: p) w0.length 0 0) fun v39_86 =>
  vLoad 1 false v39_86 H77 fun v40_87 f87 =>
  vIx 1 v38_85 v40_87 fun v41_88 =>
  vLoad 1 false v41_88 H77 fun v42_89 f89 =>
  vFA 1 (.ptr (c :: p) w0.length 0 0) fun v43_90 =>
  vLoad 1 false v43_90 H77 fun v44_91 f91 =>
  vBin .sub .num v44_91 (.int .i64 1) fun v45_92 =>
  vBin .neq .num v42_89 v45_92 fun v46_93 =>
  vSel v46_93
  (k27_7 P p Q f91 f89 f87 f85 H77 l77 f77 f76 f66 f53 f39 v7_4 w0 c)
  (k27_14 P p Q f91 f89 f87 f85 H77 l77 f77 f76 f66 f53 f39 v7_4 w0 c)
def k27_16 (P : Program) (p : Lab) (Q : VPost) (f76 : Option (List Lab)) (f66 : Option (List Lab)) (f53 : Option (List Lab)) (f39 : Option (List Lab)) (v7_4 : AV) (w0 : List AV) (c : Nat) (v33_77 : AV) (H77 : Heap) (l77 : List Lab) (f77 : Option (List Lab)) : Prop :=
  vNot v33_77 fun v34_78 =>
  vSel v34_78
  (k27_6 P p Q H77 l77 f77 f76 f66 f53 f39 v7_4 w0 c)
  (k27_15 P p Q H77 l77 f77 f76 f66 f53 f39 v7_4 w0 c)
def k27_17 (P : Program) (p : Lab) (Q : VPost) (f66 : Option (List Lab)) (f53 : Option (List Lab)) (f39 : Option (List Lab)) (v7_4 : AV) (H0 : Heap) (w0 : List AV) (c : Nat) (_ : Unit) : Prop :=
  vFA 1 (.ptr (c :: p) w0.length 0 0) fun v31_75 =>
  vLoad 1 false v31_75 H0 fun v32_76 f76 =>
  vCall P 52 [v32_76] H0 ((c + 31) :: p) (k27_16 P p Q f76 f66 f53 f39 v7_4 w0 c)
def k27_18 (P : Program) (p : Lab) (Q : VPost) (f53 : Option (List Lab)) (f39 : Option (List Lab)) (v7_4 : AV) (H0 : Heap) (w0 : List AV) (c : Nat) (_ : Unit) : Prop :=
  vFA 1 (.ptr (c :: p) w0.length 0 0) fun v26_65 =>
  vLoad 1 false v26_65 H0 fun v27_66 f66 =>
  vBin .lss .num v27_66 (.int .i64 1) fun v28_67 =>
  vSel v28_67
  (k27_5 P p Q f66 f53 f39 v7_4 H0 w0 c)
  (k27_17 P p Q f66 f53 f39 v7_4 H0 w0 c)
def k27_19 (P : Program) (p : Lab) (Q : VPost) (f39 : Option (List Lab)) (v7_4 : AV) (H0 : Heap) (w0 : List AV) (c : Nat) (_ : Unit) : Prop :=
  vFA 0 (.ptr (c :: p) w0.length 0 0) fun v20_52 =>
  vLoad 1 false v20_52 H0 fun v21_53 f53 =>
  vBin .geq .num v21_53 v7_4 fun v23_55 =>
  vSel v23_55
  (k27_4 P p Q f53 f39 v7_4 H0 w0 c)
  (k27_18 P p Q f53 f39 v7_4 H0 w0 c)
def k27_20 (P : Program) (p : Lab) (Q : VPost) (v7_4 : AV) (H0 : Heap) (w0 : List AV) (c : Nat) (_ : Unit) : Prop :=
  vFA 0 (.ptr (c :: p) w0.length 0 0) fun v15_38 =>
  vLoad 1 false v15_38 H0 fun v16_39 f39 =>
  vBin .lss .num v16_39 (.int .i64 0) fun v17_40 =>
  vSel v17_40
  (k27_3 P p Q f39 v7_4 H0 w0 c)
  (k27_19 P p Q f39 v7_4 H0 w0 c)
def k27_21 (P : Program) (p : Lab) (Q : VPost) (v7_4 : AV) (H0 : Heap) (w0 : List AV) (c : Nat) (_ : Unit) : Prop :=
  vBin .gtr .num v7_4 (.int .i64 16) fun v12_24 =>
  vSel v12_24
  (k27_2 P p Q v7_4 H0 w0 c)
  (k27_20 P p Q v7_4 H0 w0 c)
def V27 (P : Program) (p : Lab) (Q : VPost) (x0 : AV) (H : Heap) (c : Nat) : Prop :=
  vBox x0 fun w0 =>
  (fun (H0 : Heap) =>
  vFA 2 (.ptr (c :: p) w0.length 0 0) fun v5_2 =>
  vLoad 1 false v5_2 H0 fun v6_3 _ =>
  vLen v6_3 fun v7_4 =>
  vBin .lss .num v7_4 (.int .i64 1) fun v9_7 =>
  vSel v9_7
  (k27_1 P p Q v7_4 H0 w0 c)
  (k27_21 P p Q v7_4 H0 w0 c)) (upd [((c :: p), some (.rows w0.length [w0]))] H)
theorem vt27 (P : Program) (p : Lab) (Q : VPost) (x0 : AV) (H : Heap) (c : Nat) : vc P p c27.body Q [(0, x0)] H c = V27 P p Q x0 H c := by kernel_rfl
def k27_23 (P : Program) (p : Lab) (Q : VPost)  (H : Heap) (c : Nat) : Prop :=
  Q .ret [(2, (.int .i64 1))] H c
def k27_24 (P : Program) (p : Lab) (Q : VPost) (H115 : Heap) (c : Nat) (_ : Unit) : Prop :=
  (k27_23 P p Q  H115 (c + 8))
def k27_25 (P : Program) (p : Lab) (Q : VPost) (y1 : AV) (y3 : AV) (y4 : AV) (y68 : AV) (H : Heap) (c : Nat) : Prop :=
  vBin .add .num y4 (.int .i64 1) fun v61_119 =>
  Q .normal [(1, y1), (3, y3), (4, v61_119)] H (c + 3)
def k27_26 (P : Program) (p : Lab) (Q : VPost) (v68_116 : AV) (H115 : Heap) (y1 : AV) (y3 : AV) (y4 : AV) (c : Nat) (_ : Unit) : Prop :=
  (k27_25 P p Q y1 y3 y4 v68_116 H115 (c + 7))
def k27_27 (P : Program) (p : Lab) (Q : VPost) (y1 : AV) (y3 : AV) (y4 : AV) (c : Nat) (v67_115 : AV) (H115 : Heap) (l115 : List Lab) (f115 : Option (List Lab)) : Prop :=
  vNot v67_115 fun v68_116 =>
  vSel v68_116
  (k27_24 P p Q H115 c)
  (k27_26 P p Q v68_116 H115 y1 y3 y4 c)
def k27_22 (P : Program) (p : Lab) (Q : VPost) (y1 : AV) (y3 : AV) (y4 : AV) (y59 : AV) (H : Heap) (c : Nat) : Prop :=
  vFA 2 y1 fun v62_110 =>
  vLoad 1 false v62_110 H fun v63_111 _ =>
  vIx 1 v63_111 y4 fun v65_113 =>
  vLoad 1 false v65_113 H fun v66_114 _ =>
  vCall P 52 [v66_114] H ((c + 5) :: p) (k27_27 P p Q y1 y3 y4 c)
def k27_28 (P : Program) (p : Lab) (Q : VPost) (v59_109 : AV) (x1 : AV) (x3 : AV) (x4 : AV) (H : Heap) (c : Nat) (_ : Unit) : Prop :=
  (k27_22 P p Q x1 x3 x4 v59_109 H (c + 3))
def V27_1 (P : Program) (p : Lab) (Q : VPost) (x1 x3 x4 : AV) (H : Heap) (c : Nat) : Prop :=
  vBin .lss .num x4 x3 fun v59_109 =>
  vSel v59_109
  (k27_28 P p Q v59_109 x1 x3 x4 H c)
  (fun _ =>
  Q (.exit 0) [(1, x1), (3, x3), (4, x4), (59, v59_109)] H (c + 3))
theorem vt27_1 (P : Program) (p : Lab) (Q : VPost) (x1 x3 x4 : AV) (H : Heap) (c : Nat) : vc P p b27_1 Q [(1, x1), (3, x3), (4, x4)] H c = V27_1 P p Q x1 x3 x4 H c := by kernel_rfl
theorem q27_0_e0 (P : Program) (p : Lab) (Q : VPost) (r : RL) (H : Heap) (c : Nat) : q27_0 P p Q (.exit 0) r H c = (vc P p r27_2 Q r H c) := rfl
def V27_2 (P : Program) (p : Lab) (Q : VPost) (x1 x3 x4 x59 : AV) (H : Heap) (c : Nat) : Prop :=
  Q .ret [(2, (.int .i64 0))] H (c + 1)
theorem vt27_2 (P : Program) (p : Lab) (Q : VPost) (x1 x3 x4 x59 : AV) (H : Heap) (c : Nat) : vc P p r27_2 Q [(1, x1), (3, x3), (4, x4), (59, x59)] H c = V27_2 P p Q x1 x3 x4 x59 H c := by kernel_rfl


/-- duet/duetref04.clock -/
def c52 : AFun := ⟨1, 9, [.tmp 2],
  (.seq (.region [⟨(some 2), none, .move, [.c (.bool false)]⟩] none [0])
  (.seq (.region [⟨(some 3), none, .move, [.t 0]⟩, ⟨(some 4), none, (.bin .geq .num), [.t 3, .c (.int .i64 0)]⟩, ⟨(some 5), none, .move, [.t 4]⟩, ⟨(some 6), (some (5, true)), .move, [.t 0]⟩, ⟨(some 7), (some (5, true)), (.bin .leq .num), [.t 6, .c (.int .i64 4294967295)]⟩, ⟨(some 8), none, .pick, [.t 5, .t 7, .c (.bool false)]⟩, ⟨(some 2), none, .move, [.t 8]⟩] none [2])
  .ret))⟩
theorem ok52 : FunOk Try.prog 52 c52 := ⟨⟨Try.f52, _, Try.func52, rfl, by kernel_rfl, by kernel_rfl, by kernel_rfl, by kernel_rfl⟩, by decide⟩
theorem res52 : c52.res = [.tmp 2] := rfl
def k52_0 (P : Program) (p : Lab) (Q : VPost) (y2 : AV) (H : Heap) (c : Nat) : Prop :=
  Q .ret [(2, y2)] H c
def k52_1 (P : Program) (p : Lab) (Q : VPost) (x0 : AV) (H : Heap) (c : Nat) (_ : Unit) : Prop :=
  vBin .leq .num x0 (.int .i64 4294967295) fun v7_5 =>
  (k52_0 P p Q v7_5 H (c + 8))
def k52_2 (P : Program) (p : Lab) (Q : VPost)  (H : Heap) (c : Nat) : Prop :=
  Q .ret [(2, (.bool false))] H c
def k52_3 (P : Program) (p : Lab) (Q : VPost) (H : Heap) (c : Nat) (_ : Unit) : Prop :=
  (k52_2 P p Q  H (c + 8))
def V52 (P : Program) (p : Lab) (Q : VPost) (x0 : AV) (H : Heap) (c : Nat) : Prop :=
  vBin .geq .num x0 (.int .i64 0) fun v4_2 =>
  vSel v4_2
  (k52_1 P p Q x0 H c)
  (k52_3 P p Q H c)
theorem vt52 (P : Program) (p : Lab) (Q : VPost) (x0 : AV) (H : Heap) (c : Nat) : vc P p c52.body Q [(0, x0)] H c = V52 P p Q x0 H c := by kernel_rfl


/-- duet/duetref04.op -/
def c53 : AFun := ⟨3, 122, [.tmp 6],
  (.seq (.region [⟨(some 3), none, .box, [.t 0]⟩, ⟨(some 6), none, .move, [.c (.bool false)]⟩] none [1, 2, 3])
  (.seq (.region [⟨(some 8), none, (.build [(.int .i64 0), (.int .i64 0)] []), []⟩, ⟨(some 7), none, (.alloc [(.int .i64 0), (.int .i64 0)]), []⟩, ⟨none, none, (.store 2), [.t 7, .t 8]⟩] none [1, 2, 3, 7])
  (.seq (.seq (.region [⟨(some 9), none, (.fieldAddr 1), [.t 3]⟩, ⟨(some 10), none, (.load 1 false), [.t 9]⟩, ⟨(some 11), none, .call, [.c (.fn (.func 52) [] []), .t 10]⟩, ⟨(some 12), none, (.un .not), [.t 11]⟩] none [1, 2, 3, 7, 12])
  (.cond (.t 12) (.seq (.region [⟨(some 6), none, .move, [.c (.bool false)]⟩] none [6])
  .ret)
  .skip))
  (.seq (.seq (.region [⟨(some 13), none, (.fieldAddr 0), [.t 3]⟩, ⟨(some 14), none, (.load 1 false), [.t 13]⟩] none [1, 2, 3, 7, 14])
  (.block 0 (.seq (.region [⟨(some 16), none, (.bin .eql .num), [.t 14, .c (.int .i64 1)]⟩, ⟨(some 15), none, .move, [.t 16]⟩] none [1, 2, 3, 7, 14, 15])
  (.cond (.t 15) (.seq (.region [⟨(some 17), none, (.fieldAddr 2), [.t 3]⟩, ⟨(some 18), none, (.load 2 true), [.t 17]⟩, ⟨(some 19), none, .move, [.t 2]⟩, ⟨(some 20), none, .call, [.c (.fn (.func 77) [] []), .t 18, .t 19]⟩, ⟨(some 21), none, .move, [.t 20]⟩, ⟨(some 22), (some (21, true)), (.fieldAddr 2), [.t 3]⟩, ⟨(some 23), (some (21, true)), (.fieldAddr 1), [.t 22]⟩, ⟨(some 24), (some (21, true)), (.load 1 false), [.t 23]⟩, ⟨(some 25), (some (21, true)), .move, [.t 1]⟩, ⟨(some 26), (some (21, true)), (.bin .eql .num), [.t 24, .t 25]⟩, ⟨(some 27), none, .pick, [.t 21, .t 26, .c (.bool false)]⟩, ⟨(some 28), none, .move, [.t 27]⟩, ⟨(some 29), (some (28, true)), (.fieldAddr 4), [.t 3]⟩, ⟨(some 30), (some (28, true)), (.load 2 true), [.t 29]⟩, ⟨(some 31), (some (28, true)), (.load 2 true), [.t 7]⟩, ⟨(some 32), (some (28, true)), (.eqs .eql [.int, .int]), [.t 30, .t 31]⟩, ⟨(some 33), (some (28, true)), .move, [.t 32]⟩, ⟨(some 34), (some (33, false)), (.fieldAddr 4), [.t 3]⟩, ⟨(some 35), (some (33, false)), (.load 2 true), [.t 34]⟩, ⟨(some 36), (some (33, false)), .move, [.t 2]⟩, ⟨(some 37), (some (33, false)), .call, [.c (.fn (.func 77) [] []), .t 35, .t 36]⟩, ⟨(some 38), (some (33, false)), .move, [.t 37]⟩, ⟨(some 39), (some (38, true)), (.fieldAddr 4), [.t 3]⟩, ⟨(some 40), (some (38, true)), (.fieldAddr 0), [.t 39]⟩, ⟨(some 41), (some (38, true)), (.load 1 false), [.t 40]⟩, ⟨(some 42), (some (38, true)), (.fieldAddr 2), [.t 3]⟩, ⟨(some 43), (some (38, true)), (.fieldAddr 0), [.t 42]⟩, ⟨(some 44), (some (38, true)), (.load 1 false), [.t 43]⟩, ⟨(some 45), (some (38, true)), (.bin .lss .num), [.t 41, .t 44]⟩, ⟨(some 46), (some (33, false)), .pick, [.t 38, .t 45, .c (.bool false)]⟩, ⟨(some 47), (some (28, true)), .pick, [.t 33, .c (.bool true), .t 46]⟩, ⟨(some 48), none, .pick, [.t 28, .t 47, .c (.bool false)]⟩, ⟨(some 49), none, .move, [.t 48]⟩, ⟨(some 50), (some (49, true)), (.fieldAddr 6), [.t 3]⟩, ⟨(some 51), (some (49, true)), (.load 1 false), [.t 50]⟩, ⟨(some 52), (some (49, true)), .call, [.c (.fn (.func 78) [] []), .t 51]⟩, ⟨(some 53), none, .pick, [.t 49, .t 52, .c (.bool false)]⟩, ⟨(some 6), none, .move, [.t 53]⟩] none [6])
  .ret)
  (.seq (.seq (.region [⟨(some 55), none, (.bin .eql .num), [.t 14, .c (.int .i64 2)]⟩, ⟨(some 54), none, .move, [.t 55]⟩] none [1, 2, 3, 7, 14, 54])
  (.cond (.t 54) .skip
  (.seq (.region [⟨(some 56), none, (.bin .eql .num), [.t 14, .c (.int .i64 3)]⟩, ⟨(some 54), none, .move, [.t 56]⟩] none [1, 2, 3, 7, 14, 54])
  (.cond (.t 54) .skip
  (.seq (.region [⟨(some 57), none, (.bin .eql .num), [.t 14, .c (.int .i64 4)]⟩, ⟨(some 54), none, .move, [.t 57]⟩] none [1, 2, 3, 7, 14, 54])
  (.cond (.t 54) .skip
  (.seq (.region [⟨(some 58), none, (.bin .eql .num), [.t 14, .c (.int .i64 7)]⟩, ⟨(some 54), none, .move, [.t 58]⟩] none [1, 2, 3, 7, 14, 54])
  (.cond (.t 54) .skip
  (.region [⟨(some 59), none, (.bin .eql .num), [.t 14, .c (.int .i64 8)]⟩, ⟨(some 54), none, .move, [.t 59]⟩] none [1, 2, 3, 7, 14, 54])))))))))
  (.cond (.t 54) (.seq (.region [⟨(some 60), none, (.fieldAddr 4), [.t 3]⟩, ⟨(some 61), none, (.load 2 true), [.t 60]⟩, ⟨(some 62), none, .move, [.t 2]⟩, ⟨(some 63), none, .call, [.c (.fn (.func 77) [] []), .t 61, .t 62]⟩, ⟨(some 64), none, .move, [.t 63]⟩, ⟨(some 65), (some (64, true)), (.fieldAddr 2), [.t 3]⟩, ⟨(some 66), (some (64, true)), (.load 2 true), [.t 65]⟩, ⟨(some 67), (some (64, true)), (.load 2 true), [.t 7]⟩, ⟨(some 68), (some (64, true)), (.eqs .eql [.int, .int]), [.t 66, .t 67]⟩, ⟨(some 69), none, .pick, [.t 64, .t 68, .c (.bool false)]⟩, ⟨(some 70), none, .move, [.t 69]⟩, ⟨(some 71), (some (70, true)), (.fieldAddr 6), [.t 3]⟩, ⟨(some 72), (some (70, true)), (.load 1 false), [.t 71]⟩, ⟨(some 73), (some (70, true)), (.bin .eql .num), [.t 72, .c (.int .i64 0)]⟩, ⟨(some 74), none, .pick, [.t 70, .t 73, .c (.bool false)]⟩, ⟨(some 6), none, .move, [.t 74]⟩] none [6])
  .ret)
  (.seq (.region [⟨(some 76), none, (.bin .eql .num), [.t 14, .c (.int .i64 5)]⟩, ⟨(some 75), none, .move, [.t 76]⟩] none [1, 2, 3, 7, 14, 75])
  (.cond (.t 75) (.seq (.region [⟨(some 77), none, (.fieldAddr 4), [.t 3]⟩, ⟨(some 78), none, (.load 2 true), [.t 77]⟩, ⟨(some 79), none, (.load 2 true), [.t 7]⟩, ⟨(some 80), none, (.eqs .eql [.int, .int]), [.t 78, .t 79]⟩, ⟨(some 81), none, .move, [.t 80]⟩, ⟨(some 82), (some (81, false)), (.fieldAddr 4), [.t 3]⟩, ⟨(some 83), (some (81, false)), (.load 2 true), [.t 82]⟩, ⟨(some 84), (some (81, false)), .move, [.t 2]⟩, ⟨(some 85), (some (81, false)), .call, [.c (.fn (.func 77) [] []), .t 83, .t 84]⟩, ⟨(some 86), none, .pick, [.t 81, .c (.bool true), .t 85]⟩, ⟨(some 87), none, .move, [.t 86]⟩, ⟨(some 88), (some (87, true)), (.fieldAddr 2), [.t 3]⟩, ⟨(some 89), (some (87, true)), (.load 2 true), [.t 88]⟩, ⟨(some 90), (some (87, true)), (.load 2 true), [.t 7]⟩, ⟨(some 91), (some (87, true)), (.eqs .eql [.int, .int]), [.t 89, .t 90]⟩, ⟨(some 92), none, .pick, [.t 87, .t 91, .c (.bool false)]⟩, ⟨(some 93), none, .move, [.t 92]⟩, ⟨(some 94), (some (93, true)), (.fieldAddr 6), [.t 3]⟩, ⟨(some 95), (some (93, true)), (.load 1 false), [.t 94]⟩, ⟨(some 96), (some (93, true)), (.bin .eql .num), [.t 95, .c (.int .i64 0)]⟩, ⟨(some 97), none, .pick, [.t 93, .t 96, .c (.bool false)]⟩, ⟨(some 6), none, .move, [.t 97]⟩] none [6])
  .ret)
  (.seq (.region [⟨(some 99), none, (.bin .eql .num), [.t 14, .c (.int .i64 6)]⟩, ⟨(some 98), none, .move, [.t 99]⟩] none [1, 2, 3, 7, 98])
  (.cond (.t 98) (.seq (.region [⟨(some 100), none, (.fieldAddr 2), [.t 3]⟩, ⟨(some 101), none, (.load 2 true), [.t 100]⟩, ⟨(some 102), none, .move, [.t 2]⟩, ⟨(some 103), none, .call, [.c (.fn (.func 77) [] []), .t 101, .t 102]⟩, ⟨(some 104), none, .move, [.t 103]⟩, ⟨(some 105), (some (104, true)), (.fieldAddr 2), [.t 3]⟩, ⟨(some 106), (some (104, true)), (.fieldAddr 1), [.t 105]⟩, ⟨(some 107), (some (104, true)), (.load 1 false), [.t 106]⟩, ⟨(some 108), (some (104, true)), .move, [.t 1]⟩, ⟨(some 109), (some (104, true)), (.bin .eql .num), [.t 107, .t 108]⟩, ⟨(some 110), none, .pick, [.t 104, .t 109, .c (.bool false)]⟩, ⟨(some 111), none, .move, [.t 110]⟩, ⟨(some 112), (some (111, true)), (.fieldAddr 4), [.t 3]⟩, ⟨(some 113), (some (111, true)), (.load 2 true), [.t 112]⟩, ⟨(some 114), (some (111, true)), (.load 2 true), [.t 7]⟩, ⟨(some 115), (some (111, true)), (.eqs .eql [.int, .int]), [.t 113, .t 114]⟩, ⟨(some 116), none, .pick, [.t 111, .t 115, .c (.bool false)]⟩, ⟨(some 117), none, .move, [.t 116]⟩, ⟨(some 118), (some (117, true)), (.fieldAddr 6), [.t 3]⟩, ⟨(some 119), (some (117, true)), (.load 1 false), [.t 118]⟩, ⟨(some 120), (some (117, true)), (.bin .eql .num), [.t 119, .c (.int .i64 0)]⟩, ⟨(some 121), none, .pick, [.t 117, .t 120, .c (.bool false)]⟩, ⟨(some 6), none, .move, [.t 121]⟩] none [6])
  .ret)
  .skip))))))))))
  (.seq (.region [⟨(some 6), none, .move, [.c (.bool false)]⟩] none [6])
  .ret)))))⟩
theorem ok53 : FunOk Try.prog 53 c53 := ⟨⟨Try.f53, _, Try.func53, rfl, by kernel_rfl, by kernel_rfl, by kernel_rfl, by kernel_rfl⟩, by decide⟩
theorem res53 : c53.res = [.tmp 6] := rfl
def k53_0 (P : Program) (p : Lab) (Q : VPost)  (H : Heap) (c : Nat) : Prop :=
  Q .ret [(6, (.bool false))] H c
def k53_1 (P : Program) (p : Lab) (Q : VPost) (H7 : Heap) (c : Nat) (_ : Unit) : Prop :=
  (k53_0 P p Q  H7 (c + 10))
def k53_6 (P : Program) (p : Lab) (Q : VPost) (y6 : AV) (H : Heap) (c : Nat) : Prop :=
  Q .ret [(6, y6)] H c
def k53_7 (P : Program) (p : Lab) (Q : VPost) (c : Nat) (v52_36 : AV) (H36 : Heap) (l36 : List Lab) (f36 : Option (List Lab)) : Prop :=
  (k53_6 P p Q v52_36 H36 (c + 7))
def k53_5 (P : Program) (p : Lab) (Q : VPost) (y3 : AV) (H : Heap) (c : Nat) : Prop :=
  vFA 6 y3 fun v50_34 =>
  vLoad 1 false v50_34 H fun v51_35 _ =>
  vCall P 78 [v51_35] H ((c + 4) :: p) (k53_7 P p Q c)
def k53_8 (P : Program) (p : Lab) (Q : VPost) (H29 : Heap) (y3 : AV) (c : Nat) (_ : Unit) : Prop :=
  (k53_5 P p Q y3 H29 (c + 21))
def k53_10 (P : Program) (p : Lab) (Q : VPost) (c : Nat) (v52_57 : AV) (H57 : Heap) (l57 : List Lab) (f57 : Option (List Lab)) : Prop :=
  (k53_6 P p Q v52_57 H57 (c + 7))
def k53_11 (P : Program) (p : Lab) (Q : VPost) (y3 : AV) (H : Heap) (c : Nat) (_ : Unit) : Prop :=
  vFA 6 y3 fun v50_55 =>
  vLoad 1 false v50_55 H fun v51_56 _ =>
  vCall P 78 [v51_56] H ((c + 4) :: p) (k53_10 P p Q c)
def k53_12 (P : Program) (p : Lab) (Q : VPost)  (H : Heap) (c : Nat) : Prop :=
  Q .ret [(6, (.bool false))] H c
def k53_13 (P : Program) (p : Lab) (Q : VPost) (H : Heap) (c : Nat) (_ : Unit) : Prop :=
  (k53_12 P p Q  H (c + 7))
def k53_9 (P : Program) (p : Lab) (Q : VPost) (y3 : AV) (y47 : AV) (H : Heap) (c : Nat) : Prop :=
  vSel y47
  (k53_11 P p Q y3 H c)
  (k53_13 P p Q H c)
def k53_14 (P : Program) (p : Lab) (Q : VPost) (H42 : Heap) (y3 : AV) (c : Nat) (_ : Unit) : Prop :=
  vFA 4 y3 fun v39_44 =>
  vFA 0 v39_44 fun v40_45 =>
  vLoad 1 false v40_45 H42 fun v41_46 _ =>
  vFA 2 y3 fun v42_47 =>
  vFA 0 v42_47 fun v43_48 =>
  vLoad 1 false v43_48 H42 fun v44_49 _ =>
  vBin .lss .num v41_46 v44_49 fun v45_50 =>
  (k53_9 P p Q y3 v45_50 H42 (c + 21))
def k53_15 (P : Program) (p : Lab) (Q : VPost) (y3 : AV) (H : Heap) (c : Nat) : Prop :=
  (k53_12 P p Q  H (c + 7))
def k53_16 (P : Program) (p : Lab) (Q : VPost) (H42 : Heap) (y3 : AV) (c : Nat) (_ : Unit) : Prop :=
  (k53_15 P p Q y3 H42 (c + 21))
def k53_17 (P : Program) (p : Lab) (Q : VPost) (y3 : AV) (c : Nat) (v37_42 : AV) (H42 : Heap) (l42 : List Lab) (f42 : Option (List Lab)) : Prop :=
  vSel v37_42
  (k53_14 P p Q H42 y3 c)
  (k53_16 P p Q H42 y3 c)
def k53_18 (P : Program) (p : Lab) (Q : VPost) (H29 : Heap) (y2 : AV) (y3 : AV) (c : Nat) (_ : Unit) : Prop :=
  vFA 4 y3 fun v34_39 =>
  vLoad 2 true v34_39 H29 fun v35_40 _ =>
  vCall P 77 [v35_40, y2] H29 ((c + 10) :: p) (k53_17 P p Q y3 c)
def k53_19 (P : Program) (p : Lab) (Q : VPost) (y2 : AV) (y3 : AV) (c : Nat) (v32_29 : AV) (H29 : Heap) (l29 : List Lab) (f29 : Option (List Lab)) : Prop :=
  vSel v32_29
  (k53_8 P p Q H29 y3 c)
  (k53_18 P p Q H29 y2 y3 c)
def k53_20 (P : Program) (p : Lab) (Q : VPost) (y2 : AV) (y3 : AV) (y7 : AV) (H : Heap) (c : Nat) (_ : Unit) : Prop :=
  vFA 4 y3 fun v29_26 =>
  vLoad 2 true v29_26 H fun v30_27 _ =>
  vLoad 2 true y7 H fun v31_28 _ =>
  vGen (.eqs .eql [.int, .int]) [v30_27, v31_28] H ((c + 5) :: p) (k53_19 P p Q y2 y3 c)
def k53_21 (P : Program) (p : Lab) (Q : VPost) (y3 : AV) (H : Heap) (c : Nat) : Prop :=
  (k53_12 P p Q  H (c + 7))
def k53_22 (P : Program) (p : Lab) (Q : VPost) (y3 : AV) (H : Heap) (c : Nat) (_ : Unit) : Prop :=
  (k53_21 P p Q y3 H (c + 21))
def k53_4 (P : Program) (p : Lab) (Q : VPost) (y2 : AV) (y3 : AV) (y7 : AV) (y26 : AV) (H : Heap) (c : Nat) : Prop :=
  vSel y26
  (k53_20 P p Q y2 y3 y7 H c)
  (k53_22 P p Q y3 H c)
def k53_23 (P : Program) (p : Lab) (Q : VPost) (H17 : Heap) (y1 : AV) (y2 : AV) (y3 : AV) (y7 : AV) (c : Nat) (_ : Unit) : Prop :=
  vFA 2 y3 fun v22_19 =>
  vFA 1 v22_19 fun v23_20 =>
  vLoad 1 false v23_20 H17 fun v24_21 _ =>
  vBin .eql .num v24_21 y1 fun v26_23 =>
  (k53_4 P p Q y2 y3 y7 v26_23 H17 (c + 10))
def k53_25 (P : Program) (p : Lab) (Q : VPost) (y3 : AV) (H : Heap) (c : Nat) : Prop :=
  (k53_12 P p Q  H (c + 7))
def k53_24 (P : Program) (p : Lab) (Q : VPost) (y2 : AV) (y3 : AV) (y7 : AV) (H : Heap) (c : Nat) : Prop :=
  (k53_25 P p Q y3 H (c + 21))
def k53_26 (P : Program) (p : Lab) (Q : VPost) (H17 : Heap) (y2 : AV) (y3 : AV) (y7 : AV) (c : Nat) (_ : Unit) : Prop :=
  (k53_24 P p Q y2 y3 y7 H17 (c + 10))
def k53_27 (P : Program) (p : Lab) (Q : VPost) (y1 : AV) (y2 : AV) (y3 : AV) (y7 : AV) (c : Nat) (v20_17 : AV) (H17 : Heap) (l17 : List Lab) (f17 : Option (List Lab)) : Prop :=
  vSel v20_17
  (k53_23 P p Q H17 y1 y2 y3 y7 c)
  (k53_26 P p Q H17 y2 y3 y7 c)
def k53_3 (P : Program) (p : Lab) (Q : VPost) (y1 : AV) (y2 : AV) (y3 : AV) (y7 : AV) (H : Heap) (c : Nat) : Prop :=
  vFA 2 y3 fun v17_14 =>
  vLoad 2 true v17_14 H fun v18_15 _ =>
  vCall P 77 [v18_15, y2] H ((c + 3) :: p) (k53_27 P p Q y1 y2 y3 y7 c)
def k53_28 (P : Program) (p : Lab) (Q : VPost) (y1 : AV) (y2 : AV) (y3 : AV) (y7 : AV) (H : Heap) (c : Nat) (_ : Unit) : Prop :=
  (k53_3 P p Q y1 y2 y3 y7 H (c + 4))
def k53_33 (P : Program) (p : Lab) (Q : VPost) (y3 : AV) (H : Heap) (c : Nat) (_ : Unit) : Prop :=
  vFA 6 y3 fun v71_91 =>
  vLoad 1 false v71_91 H fun v72_92 _ =>
  vBin .eql .num v72_92 (.int .i64 0) fun v73_93 =>
  (k53_6 P p Q v73_93 H (c + 7))
def k53_34 (P : Program) (p : Lab) (Q : VPost) (H : Heap) (c : Nat) (_ : Unit) : Prop :=
  (k53_12 P p Q  H (c + 7))
def k53_32 (P : Program) (p : Lab) (Q : VPost) (y3 : AV) (y68 : AV) (H : Heap) (c : Nat) : Prop :=
  vSel y68
  (k53_33 P p Q y3 H c)
  (k53_34 P p Q H c)
def k53_35 (P : Program) (p : Lab) (Q : VPost) (y3 : AV) (c : Nat) (v68_88 : AV) (H88 : Heap) (l88 : List Lab) (f88 : Option (List Lab)) : Prop :=
  (k53_32 P p Q y3 v68_88 H88 (c + 9))
def k53_36 (P : Program) (p : Lab) (Q : VPost) (H83 : Heap) (y3 : AV) (y7 : AV) (c : Nat) (_ : Unit) : Prop :=
  vFA 2 y3 fun v65_85 =>
  vLoad 2 true v65_85 H83 fun v66_86 _ =>
  vLoad 2 true y7 H83 fun v67_87 _ =>
  vGen (.eqs .eql [.int, .int]) [v66_86, v67_87] H83 ((c + 8) :: p) (k53_35 P p Q y3 c)
def k53_37 (P : Program) (p : Lab) (Q : VPost) (y3 : AV) (H : Heap) (c : Nat) : Prop :=
  (k53_12 P p Q  H (c + 7))
def k53_38 (P : Program) (p : Lab) (Q : VPost) (H83 : Heap) (y3 : AV) (c : Nat) (_ : Unit) : Prop :=
  (k53_37 P p Q y3 H83 (c + 9))
def k53_39 (P : Program) (p : Lab) (Q : VPost) (y3 : AV) (y7 : AV) (c : Nat) (v63_83 : AV) (H83 : Heap) (l83 : List Lab) (f83 : Option (List Lab)) : Prop :=
  vSel v63_83
  (k53_36 P p Q H83 y3 y7 c)
  (k53_38 P p Q H83 y3 c)
def k53_31 (P : Program) (p : Lab) (Q : VPost) (y2 : AV) (y3 : AV) (y7 : AV) (H : Heap) (c : Nat) : Prop :=
  vFA 4 y3 fun v60_80 =>
  vLoad 2 true v60_80 H fun v61_81 _ =>
  vCall P 77 [v61_81, y2] H ((c + 3) :: p) (k53_39 P p Q y3 y7 c)
def k53_40 (P : Program) (p : Lab) (Q : VPost) (y2 : AV) (y3 : AV) (y7 : AV) (H : Heap) (c : Nat) (_ : Unit) : Prop :=
  (k53_31 P p Q y2 y3 y7 H c)
def k53_45 (P : Program) (p : Lab) (Q : VPost) (y3 : AV) (H : Heap) (c : Nat) (_ : Unit) : Prop :=
  vFA 6 y3 fun v94_117 =>
  vLoad 1 false v94_117 H fun v95_118 _ =>
  vBin .eql .num v95_118 (.int .i64 0) fun v96_119 =>
  (k53_6 P p Q v96_119 H (c + 7))
def k53_46 (P : Program) (p : Lab) (Q : VPost) (H : Heap) (c : Nat) (_ : Unit) : Prop :=
  (k53_12 P p Q  H (c + 7))
def k53_44 (P : Program) (p : Lab) (Q : VPost) (y3 : AV) (y91 : AV) (H : Heap) (c : Nat) : Prop :=
  vSel y91
  (k53_45 P p Q y3 H c)
  (k53_46 P p Q H c)
def k53_47 (P : Program) (p : Lab) (Q : VPost) (y3 : AV) (c : Nat) (v91_114 : AV) (H114 : Heap) (l114 : List Lab) (f114 : Option (List Lab)) : Prop :=
  (k53_44 P p Q y3 v91_114 H114 (c + 6))
def k53_43 (P : Program) (p : Lab) (Q : VPost) (y3 : AV) (y7 : AV) (H : Heap) (c : Nat) : Prop :=
  vFA 2 y3 fun v88_111 =>
  vLoad 2 true v88_111 H fun v89_112 _ =>
  vLoad 2 true y7 H fun v90_113 _ =>
  vGen (.eqs .eql [.int, .int]) [v89_112, v90_113] H ((c + 5) :: p) (k53_47 P p Q y3 c)
def k53_48 (P : Program) (p : Lab) (Q : VPost) (H107 : Heap) (y3 : AV) (y7 : AV) (c : Nat) (_ : Unit) : Prop :=
  (k53_43 P p Q y3 y7 H107 (c + 9))
def k53_51 (P : Program) (p : Lab) (Q : VPost) (y3 : AV) (H : Heap) (c : Nat) (_ : Unit) : Prop :=
  vFA 6 y3 fun v94_136 =>
  vLoad 1 false v94_136 H fun v95_137 _ =>
  vBin .eql .num v95_137 (.int .i64 0) fun v96_138 =>
  (k53_6 P p Q v96_138 H (c + 7))
def k53_52 (P : Program) (p : Lab) (Q : VPost) (H : Heap) (c : Nat) (_ : Unit) : Prop :=
  (k53_12 P p Q  H (c + 7))
def k53_50 (P : Program) (p : Lab) (Q : VPost) (y3 : AV) (y91 : AV) (H : Heap) (c : Nat) : Prop :=
  vSel y91
  (k53_51 P p Q y3 H c)
  (k53_52 P p Q H c)
def k53_53 (P : Program) (p : Lab) (Q : VPost) (y3 : AV) (c : Nat) (v91_133 : AV) (H133 : Heap) (l133 : List Lab) (f133 : Option (List Lab)) : Prop :=
  (k53_50 P p Q y3 v91_133 H133 (c + 6))
def k53_54 (P : Program) (p : Lab) (Q : VPost) (y3 : AV) (y7 : AV) (H : Heap) (c : Nat) (_ : Unit) : Prop :=
  vFA 2 y3 fun v88_130 =>
  vLoad 2 true v88_130 H fun v89_131 _ =>
  vLoad 2 true y7 H fun v90_132 _ =>
  vGen (.eqs .eql [.int, .int]) [v89_131, v90_132] H ((c + 5) :: p) (k53_53 P p Q y3 c)
def k53_55 (P : Program) (p : Lab) (Q : VPost) (y3 : AV) (H : Heap) (c : Nat) : Prop :=
  (k53_12 P p Q  H (c + 7))
def k53_56 (P : Program) (p : Lab) (Q : VPost) (y3 : AV) (H : Heap) (c : Nat) (_ : Unit) : Prop :=
  (k53_55 P p Q y3 H (c + 6))
def k53_49 (P : Program) (p : Lab) (Q : VPost) (y3 : AV) (y7 : AV) (y85 : AV) (H : Heap) (c : Nat) : Prop :=
  vSel y85
  (k53_54 P p Q y3 y7 H c)
  (k53_56 P p Q y3 H c)
def k53_57 (P : Program) (p : Lab) (Q : VPost) (y3 : AV) (y7 : AV) (c : Nat) (v85_127 : AV) (H127 : Heap) (l127 : List Lab) (f127 : Option (List Lab)) : Prop :=
  (k53_49 P p Q y3 y7 v85_127 H127 (c + 9))
def k53_58 (P : Program) (p : Lab) (Q : VPost) (H107 : Heap) (y2 : AV) (y3 : AV) (y7 : AV) (c : Nat) (_ : Unit) : Prop :=
  vFA 4 y3 fun v82_124 =>
  vLoad 2 true v82_124 H107 fun v83_125 _ =>
  vCall P 77 [v83_125, y2] H107 ((c + 8) :: p) (k53_57 P p Q y3 y7 c)
def k53_59 (P : Program) (p : Lab) (Q : VPost) (y2 : AV) (y3 : AV) (y7 : AV) (c : Nat) (v80_107 : AV) (H107 : Heap) (l107 : List Lab) (f107 : Option (List Lab)) : Prop :=
  vSel v80_107
  (k53_48 P p Q H107 y3 y7 c)
  (k53_58 P p Q H107 y2 y3 y7 c)
def k53_42 (P : Program) (p : Lab) (Q : VPost) (y2 : AV) (y3 : AV) (y7 : AV) (H : Heap) (c : Nat) : Prop :=
  vFA 4 y3 fun v77_104 =>
  vLoad 2 true v77_104 H fun v78_105 _ =>
  vLoad 2 true y7 H fun v79_106 _ =>
  vGen (.eqs .eql [.int, .int]) [v78_105, v79_106] H ((c + 3) :: p) (k53_59 P p Q y2 y3 y7 c)
def k53_60 (P : Program) (p : Lab) (Q : VPost) (y2 : AV) (y3 : AV) (y7 : AV) (H : Heap) (c : Nat) (_ : Unit) : Prop :=
  (k53_42 P p Q y2 y3 y7 H c)
def k53_65 (P : Program) (p : Lab) (Q : VPost) (y3 : AV) (H : Heap) (c : Nat) (_ : Unit) : Prop :=
  vFA 6 y3 fun v118_167 =>
  vLoad 1 false v118_167 H fun v119_168 _ =>
  vBin .eql .num v119_168 (.int .i64 0) fun v120_169 =>
  (k53_6 P p Q v120_169 H (c + 7))
def k53_66 (P : Program) (p : Lab) (Q : VPost) (H : Heap) (c : Nat) (_ : Unit) : Prop :=
  (k53_12 P p Q  H (c + 7))
def k53_64 (P : Program) (p : Lab) (Q : VPost) (y3 : AV) (y115 : AV) (H : Heap) (c : Nat) : Prop :=
  vSel y115
  (k53_65 P p Q y3 H c)
  (k53_66 P p Q H c)
def k53_67 (P : Program) (p : Lab) (Q : VPost) (y3 : AV) (c : Nat) (v115_164 : AV) (H164 : Heap) (l164 : List Lab) (f164 : Option (List Lab)) : Prop :=
  (k53_64 P p Q y3 v115_164 H164 (c + 6))
def k53_68 (P : Program) (p : Lab) (Q : VPost) (y3 : AV) (y7 : AV) (H : Heap) (c : Nat) (_ : Unit) : Prop :=
  vFA 4 y3 fun v112_161 =>
  vLoad 2 true v112_161 H fun v113_162 _ =>
  vLoad 2 true y7 H fun v114_163 _ =>
  vGen (.eqs .eql [.int, .int]) [v113_162, v114_163] H ((c + 5) :: p) (k53_67 P p Q y3 c)
def k53_69 (P : Program) (p : Lab) (Q : VPost) (y3 : AV) (H : Heap) (c : Nat) : Prop :=
  (k53_12 P p Q  H (c + 7))
def k53_70 (P : Program) (p : Lab) (Q : VPost) (y3 : AV) (H : Heap) (c : Nat) (_ : Unit) : Prop :=
  (k53_69 P p Q y3 H (c + 6))
def k53_63 (P : Program) (p : Lab) (Q : VPost) (y3 : AV) (y7 : AV) (y109 : AV) (H : Heap) (c : Nat) : Prop :=
  vSel y109
  (k53_68 P p Q y3 y7 H c)
  (k53_70 P p Q y3 H c)
def k53_71 (P : Program) (p : Lab) (Q : VPost) (H152 : Heap) (y1 : AV) (y3 : AV) (y7 : AV) (c : Nat) (_ : Unit) : Prop :=
  vFA 2 y3 fun v105_154 =>
  vFA 1 v105_154 fun v106_155 =>
  vLoad 1 false v106_155 H152 fun v107_156 _ =>
  vBin .eql .num v107_156 y1 fun v109_158 =>
  (k53_63 P p Q y3 y7 v109_158 H152 (c + 10))
def k53_73 (P : Program) (p : Lab) (Q : VPost) (y3 : AV) (H : Heap) (c : Nat) : Prop :=
  (k53_12 P p Q  H (c + 7))
def k53_72 (P : Program) (p : Lab) (Q : VPost) (y3 : AV) (y7 : AV) (H : Heap) (c : Nat) : Prop :=
  (k53_73 P p Q y3 H (c + 6))
def k53_74 (P : Program) (p : Lab) (Q : VPost) (H152 : Heap) (y3 : AV) (y7 : AV) (c : Nat) (_ : Unit) : Prop :=
  (k53_72 P p Q y3 y7 H152 (c + 10))
def k53_75 (P : Program) (p : Lab) (Q : VPost) (y1 : AV) (y3 : AV) (y7 : AV) (c : Nat) (v103_152 : AV) (H152 : Heap) (l152 : List Lab) (f152 : Option (List Lab)) : Prop :=
  vSel v103_152
  (k53_71 P p Q H152 y1 y3 y7 c)
  (k53_74 P p Q H152 y3 y7 c)
def k53_62 (P : Program) (p : Lab) (Q : VPost) (y1 : AV) (y2 : AV) (y3 : AV) (y7 : AV) (H : Heap) (c : Nat) : Prop :=
  vFA 2 y3 fun v100_149 =>
  vLoad 2 true v100_149 H fun v101_150 _ =>
  vCall P 77 [v101_150, y2] H ((c + 3) :: p) (k53_75 P p Q y1 y3 y7 c)
def k53_76 (P : Program) (p : Lab) (Q : VPost) (y1 : AV) (y2 : AV) (y3 : AV) (y7 : AV) (H : Heap) (c : Nat) (_ : Unit) : Prop :=
  (k53_62 P p Q y1 y2 y3 y7 H c)
def k53_77 (P : Program) (p : Lab) (Q : VPost) (y1 : AV) (y2 : AV) (y3 : AV) (y7 : AV) (y98 : AV) (H : Heap) (c : Nat) : Prop :=
  Q .ret [(6, (.bool false))] H (c + 1)
def k53_78 (P : Program) (p : Lab) (Q : VPost) (y1 : AV) (y2 : AV) (y3 : AV) (y7 : AV) (y98 : AV) (H : Heap) (c : Nat) (_ : Unit) : Prop :=
  (k53_77 P p Q y1 y2 y3 y7 y98 H c)
def k53_61 (P : Program) (p : Lab) (Q : VPost) (y1 : AV) (y2 : AV) (y3 : AV) (y7 : AV) (y98 : AV) (H : Heap) (c : Nat) : Prop :=
  vSel y98
  (k53_76 P p Q y1 y2 y3 y7 H c)
  (k53_78 P p Q y1 y2 y3 y7 y98 H c)
def k53_79 (P : Program) (p : Lab) (Q : VPost) (y1 : AV) (y2 : AV) (y3 : AV) (y7 : AV) (y14 : AV) (H : Heap) (c : Nat) (_ : Unit) : Prop :=
  vBin .eql .num y14 (.int .i64 6) fun v99_147 =>
  (k53_61 P p Q y1 y2 y3 y7 v99_147 H (c + 2))
def k53_41 (P : Program) (p : Lab) (Q : VPost) (y1 : AV) (y2 : AV) (y3 : AV) (y7 : AV) (y14 : AV) (y75 : AV) (H : Heap) (c : Nat) : Prop :=
  vSel y75
  (k53_60 P p Q y2 y3 y7 H c)
  (k53_79 P p Q y1 y2 y3 y7 y14 H c)
def k53_80 (P : Program) (p : Lab) (Q : VPost) (y1 : AV) (y2 : AV) (y3 : AV) (y7 : AV) (y14 : AV) (H : Heap) (c : Nat) (_ : Unit) : Prop :=
  vBin .eql .num y14 (.int .i64 5) fun v76_102 =>
  (k53_41 P p Q y1 y2 y3 y7 y14 v76_102 H (c + 2))
def k53_30 (P : Program) (p : Lab) (Q : VPost) (y1 : AV) (y2 : AV) (y3 : AV) (y7 : AV) (y14 : AV) (y54 : AV) (H : Heap) (c : Nat) : Prop :=
  vSel y54
  (k53_40 P p Q y2 y3 y7 H c)
  (k53_80 P p Q y1 y2 y3 y7 y14 H c)
def k53_81 (P : Program) (p : Lab) (Q : VPost) (y1 : AV) (y2 : AV) (y3 : AV) (y7 : AV) (y14 : AV) (y54 : AV) (H : Heap) (c : Nat) (_ : Unit) : Prop :=
  (k53_30 P p Q y1 y2 y3 y7 y14 y54 H c)
def k53_83 (P : Program) (p : Lab) (Q : VPost) (y1 : AV) (y2 : AV) (y3 : AV) (y7 : AV) (y14 : AV) (y54 : AV) (H : Heap) (c : Nat) (_ : Unit) : Prop :=
  (k53_30 P p Q y1 y2 y3 y7 y14 y54 H c)
def k53_85 (P : Program) (p : Lab) (Q : VPost) (y1 : AV) (y2 : AV) (y3 : AV) (y7 : AV) (y14 : AV) (y54 : AV) (H : Heap) (c : Nat) (_ : Unit) : Prop :=
  (k53_30 P p Q y1 y2 y3 y7 y14 y54 H c)
def k53_87 (P : Program) (p : Lab) (Q : VPost) (y1 : AV) (y2 : AV) (y3 : AV) (y7 : AV) (y14 : AV) (y54 : AV) (H : Heap) (c : Nat) (_ : Unit) : Prop :=
  (k53_30 P p Q y1 y2 y3 y7 y14 y54 H c)
def k53_88 (P : Program) (p : Lab) (Q : VPost) (y1 : AV) (y2 : AV) (y3 : AV) (y7 : AV) (y14 : AV) (H : Heap) (c : Nat) (_ : Unit) : Prop :=
  vBin .eql .num y14 (.int .i64 8) fun v59_191 =>
  (k53_30 P p Q y1 y2 y3 y7 y14 v59_191 H (c + 2))
def k53_86 (P : Program) (p : Lab) (Q : VPost) (y1 : AV) (y2 : AV) (y3 : AV) (y7 : AV) (y14 : AV) (y54 : AV) (H : Heap) (c : Nat) : Prop :=
  vSel y54
  (k53_87 P p Q y1 y2 y3 y7 y14 y54 H c)
  (k53_88 P p Q y1 y2 y3 y7 y14 H c)
def k53_89 (P : Program) (p : Lab) (Q : VPost) (y1 : AV) (y2 : AV) (y3 : AV) (y7 : AV) (y14 : AV) (H : Heap) (c : Nat) (_ : Unit) : Prop :=
  vBin .eql .num y14 (.int .i64 7) fun v58_189 =>
  (k53_86 P p Q y1 y2 y3 y7 y14 v58_189 H (c + 2))
def k53_84 (P : Program) (p : Lab) (Q : VPost) (y1 : AV) (y2 : AV) (y3 : AV) (y7 : AV) (y14 : AV) (y54 : AV) (H : Heap) (c : Nat) : Prop :=
  vSel y54
  (k53_85 P p Q y1 y2 y3 y7 y14 y54 H c)
  (k53_89 P p Q y1 y2 y3 y7 y14 H c)
def k53_90 (P : Program) (p : Lab) (Q : VPost) (y1 : AV) (y2 : AV) (y3 : AV) (y7 : AV) (y14 : AV) (H : Heap) (c : Nat) (_ : Unit) : Prop :=
  vBin .eql .num y14 (.int .i64 4) fun v57_187 =>
  (k53_84 P p Q y1 y2 y3 y7 y14 v57_187 H (c + 2))
def k53_82 (P : Program) (p : Lab) (Q : VPost) (y1 : AV) (y2 : AV) (y3 : AV) (y7 : AV) (y14 : AV) (y54 : AV) (H : Heap) (c : Nat) : Prop :=
  vSel y54
  (k53_83 P p Q y1 y2 y3 y7 y14 y54 H c)
  (k53_90 P p Q y1 y2 y3 y7 y14 H c)
def k53_91 (P : Program) (p : Lab) (Q : VPost) (y1 : AV) (y2 : AV) (y3 : AV) (y7 : AV) (y14 : AV) (H : Heap) (c : Nat) (_ : Unit) : Prop :=
  vBin .eql .num y14 (.int .i64 3) fun v56_185 =>
  (k53_82 P p Q y1 y2 y3 y7 y14 v56_185 H (c + 2))
def k53_29 (P : Program) (p : Lab) (Q : VPost) (y1 : AV) (y2 : AV) (y3 : AV) (y7 : AV) (y14 : AV) (y54 : AV) (H : Heap) (c : Nat) : Prop :=
  vSel y54
  (k53_81 P p Q y1 y2 y3 y7 y14 y54 H c)
  (k53_91 P p Q y1 y2 y3 y7 y14 H c)
def k53_92 (P : Program) (p : Lab) (Q : VPost) (v14_11 : AV) (y1 : AV) (y2 : AV) (y3 : AV) (y7 : AV) (H : Heap) (c : Nat) (_ : Unit) : Prop :=
  vBin .eql .num v14_11 (.int .i64 2) fun v55_78 =>
  (k53_29 P p Q y1 y2 y3 y7 v14_11 v55_78 H (c + 6))
def k53_2 (P : Program) (p : Lab) (Q : VPost) (y1 : AV) (y2 : AV) (y3 : AV) (y7 : AV) (y12 : AV) (H : Heap) (c : Nat) : Prop :=
  vFA 0 y3 fun v13_10 =>
  vLoad 1 false v13_10 H fun v14_11 _ =>
  vBin .eql .num v14_11 (.int .i64 1) fun v16_12 =>
  vSel v16_12
  (k53_28 P p Q y1 y2 y3 y7 H c)
  (k53_92 P p Q v14_11 y1 y2 y3 y7 H c)
def k53_93 (P : Program) (p : Lab) (Q : VPost) (v12_8 : AV) (H7 : Heap) (w0 : List AV) (x1 : AV) (x2 : AV) (c : Nat) (_ : Unit) : Prop :=
  (k53_2 P p Q x1 x2 (.ptr (c :: p) w0.length 0 0) (.ptr ((c + 3) :: p) 2 0 0) v12_8 H7 (c + 9))
def k53_94 (P : Program) (p : Lab) (Q : VPost) (w0 : List AV) (x1 : AV) (x2 : AV) (c : Nat) (v11_7 : AV) (H7 : Heap) (l7 : List Lab) (f7 : Option (List Lab)) : Prop :=
  vNot v11_7 fun v12_8 =>
  vSel v12_8
  (k53_1 P p Q H7 c)
  (k53_93 P p Q v12_8 H7 w0 x1 x2 c)
def k53_95 (P : Program) (p : Lab) (Q : VPost) (w0 : List AV) (x1 : AV) (x2 : AV) (c : Nat) (v_4 : AV) (H4 : Heap) (l4 : List Lab) (f4 : Option (List Lab)) : Prop :=
  vFA 1 (.ptr (c :: p) w0.length 0 0) fun v9_5 =>
  vLoad 1 false v9_5 H4 fun v10_6 _ =>
  vCall P 52 [v10_6] H4 ((c + 7) :: p) (k53_94 P p Q w0 x1 x2 c)
def V53 (P : Program) (p : Lab) (Q : VPost) (x0 x1 x2 : AV) (H : Heap) (c : Nat) : Prop :=
  vBox x0 fun w0 =>
  (fun (H0 : Heap) =>
  vBuild [(.int .i64 0), (.int .i64 0)] [] [] fun v8_2 =>
  (fun (H3 : Heap) =>
  vGen (.store 2) [(.ptr ((c + 3) :: p) 2 0 0), v8_2] H3 ((c + 4) :: p) (k53_95 P p Q w0 x1 x2 c)) (upd [(((c + 3) :: p), some (.rows 2 [[(.int .i64 0), (.int .i64 0)]]))] H0)) (upd [((c :: p), some (.rows w0.length [w0]))] H)
theorem vt53 (P : Program) (p : Lab) (Q : VPost) (x0 x1 x2 : AV) (H : Heap) (c : Nat) : vc P p c53.body Q [(0, x0), (1, x1), (2, x2)] H c = V53 P p Q x0 x1 x2 H c := by kernel_rfl


/-- duet/duetref04.May -/
def c77 : AFun := ⟨2, 24, [.tmp 4],
  (.seq (.region [⟨(some 2), none, .box, [.t 0]⟩, ⟨(some 4), none, .move, [.c (.bool false)]⟩] none [1, 2])
  (.seq (.region [⟨(some 5), none, (.fieldAddr 0), [.t 2]⟩, ⟨(some 6), none, (.load 1 false), [.t 5]⟩, ⟨(some 7), none, (.bin .geq .num), [.t 6, .c (.int .i64 1)]⟩, ⟨(some 8), none, .move, [.t 7]⟩, ⟨(some 9), (some (8, true)), (.fieldAddr 0), [.t 2]⟩, ⟨(some 10), (some (8, true)), (.load 1 false), [.t 9]⟩, ⟨(some 11), (some (8, true)), .call, [.c (.fn (.func 52) [] []), .t 10]⟩, ⟨(some 12), none, .pick, [.t 8, .t 11, .c (.bool false)]⟩, ⟨(some 13), none, .move, [.t 12]⟩, ⟨(some 14), (some (13, true)), (.fieldAddr 1), [.t 2]⟩, ⟨(some 15), (some (13, true)), (.load 1 false), [.t 14]⟩, ⟨(some 16), (some (13, true)), (.bin .geq .num), [.t 15, .c (.int .i64 0)]⟩, ⟨(some 17), none, .pick, [.t 13, .t 16, .c (.bool false)]⟩, ⟨(some 18), none, .move, [.t 17]⟩, ⟨(some 19), (some (18, true)), (.fieldAddr 1), [.t 2]⟩, ⟨(some 20), (some (18, true)), (.load 1 false), [.t 19]⟩, ⟨(some 21), (some (18, true)), .move, [.t 1]⟩, ⟨(some 22), (some (18, true)), (.bin .lss .num), [.t 20, .t 21]⟩, ⟨(some 23), none, .pick, [.t 18, .t 22, .c (.bool false)]⟩, ⟨(some 4), none, .move, [.t 23]⟩] none [4])
  .ret))⟩
theorem ok77 : FunOk Try.prog 77 c77 := ⟨⟨Try.f77, _, Try.func77, rfl, by kernel_rfl, by kernel_rfl, by kernel_rfl, by kernel_rfl⟩, by decide⟩
theorem res77 : c77.res = [.tmp 4] := rfl
def k77_2 (P : Program) (p : Lab) (Q : VPost) (y4 : AV) (H : Heap) (c : Nat) : Prop :=
  Q .ret [(4, y4)] H c
def k77_3 (P : Program) (p : Lab) (Q : VPost) (y1 : AV) (y2 : AV) (H : Heap) (c : Nat) (_ : Unit) : Prop :=
  vFA 1 y2 fun v19_16 =>
  vLoad 1 false v19_16 H fun v20_17 _ =>
  vBin .lss .num v20_17 y1 fun v22_19 =>
  (k77_2 P p Q v22_19 H (c + 8))
def k77_4 (P : Program) (p : Lab) (Q : VPost)  (H : Heap) (c : Nat) : Prop :=
  Q .ret [(4, (.bool false))] H c
def k77_5 (P : Program) (p : Lab) (Q : VPost) (H : Heap) (c : Nat) (_ : Unit) : Prop :=
  (k77_4 P p Q  H (c + 8))
def k77_1 (P : Program) (p : Lab) (Q : VPost) (y1 : AV) (y2 : AV) (y16 : AV) (H : Heap) (c : Nat) : Prop :=
  vSel y16
  (k77_3 P p Q y1 y2 H c)
  (k77_5 P p Q H c)
def k77_6 (P : Program) (p : Lab) (Q : VPost) (y1 : AV) (y2 : AV) (H : Heap) (c : Nat) (_ : Unit) : Prop :=
  vFA 1 y2 fun v14_11 =>
  vLoad 1 false v14_11 H fun v15_12 _ =>
  vBin .geq .num v15_12 (.int .i64 0) fun v16_13 =>
  (k77_1 P p Q y1 y2 v16_13 H (c + 5))
def k77_7 (P : Program) (p : Lab) (Q : VPost) (y1 : AV) (y2 : AV) (H : Heap) (c : Nat) : Prop :=
  (k77_4 P p Q  H (c + 8))
def k77_8 (P : Program) (p : Lab) (Q : VPost) (y1 : AV) (y2 : AV) (H : Heap) (c : Nat) (_ : Unit) : Prop :=
  (k77_7 P p Q y1 y2 H (c + 5))
def k77_0 (P : Program) (p : Lab) (Q : VPost) (y1 : AV) (y2 : AV) (y11 : AV) (H : Heap) (c : Nat) : Prop :=
  vSel y11
  (k77_6 P p Q y1 y2 H c)
  (k77_8 P p Q y1 y2 H c)
def k77_9 (P : Program) (p : Lab) (Q : VPost) (w0 : List AV) (x1 : AV) (c : Nat) (v11_8 : AV) (H8 : Heap) (l8 : List Lab) (f8 : Option (List Lab)) : Prop :=
  (k77_0 P p Q x1 (.ptr (c :: p) w0.length 0 0) v11_8 H8 (c + 9))
def k77_10 (P : Program) (p : Lab) (Q : VPost) (H0 : Heap) (w0 : List AV) (x1 : AV) (c : Nat) (_ : Unit) : Prop :=
  vFA 0 (.ptr (c :: p) w0.length 0 0) fun v9_6 =>
  vLoad 1 false v9_6 H0 fun v10_7 _ =>
  vCall P 52 [v10_7] H0 ((c + 8) :: p) (k77_9 P p Q w0 x1 c)
def k77_12 (P : Program) (p : Lab) (Q : VPost) (y1 : AV) (y2 : AV) (H : Heap) (c : Nat) : Prop :=
  (k77_4 P p Q  H (c + 8))
def k77_11 (P : Program) (p : Lab) (Q : VPost) (y1 : AV) (y2 : AV) (H : Heap) (c : Nat) : Prop :=
  (k77_12 P p Q y1 y2 H (c + 5))
def k77_13 (P : Program) (p : Lab) (Q : VPost) (H0 : Heap) (w0 : List AV) (x1 : AV) (c : Nat) (_ : Unit) : Prop :=
  (k77_11 P p Q x1 (.ptr (c :: p) w0.length 0 0) H0 (c + 9))
def V77 (P : Program) (p : Lab) (Q : VPost) (x0 x1 : AV) (H : Heap) (c : Nat) : Prop :=
  vBox x0 fun w0 =>
  (fun (H0 : Heap) =>
  vFA 0 (.ptr (c :: p) w0.length 0 0) fun v5_2 =>
  vLoad 1 false v5_2 H0 fun v6_3 _ =>
  vBin .geq .num v6_3 (.int .i64 1) fun v7_4 =>
  vSel v7_4
  (k77_10 P p Q H0 w0 x1 c)
  (k77_13 P p Q H0 w0 x1 c)) (upd [((c :: p), some (.rows w0.length [w0]))] H)
theorem vt77 (P : Program) (p : Lab) (Q : VPost) (x0 x1 : AV) (H : Heap) (c : Nat) : vc P p c77.body Q [(0, x0), (1, x1)] H c = V77 P p Q x0 x1 H c := by kernel_rfl


/-- duet/duetref04.Rune -/
def c78 : AFun := ⟨1, 27, [.tmp 2],
  (.seq (.region [⟨(some 2), none, .move, [.c (.bool false)]⟩] none [0])
  (.seq (.region [⟨(some 3), none, .move, [.t 0]⟩, ⟨(some 4), none, (.bin .geq .num), [.t 3, .c (.int .i64 32)]⟩, ⟨(some 5), none, .move, [.t 4]⟩, ⟨(some 6), (some (5, true)), .move, [.t 0]⟩, ⟨(some 7), (some (5, true)), (.bin .leq .num), [.t 6, .c (.int .i64 1114111)]⟩, ⟨(some 8), none, .pick, [.t 5, .t 7, .c (.bool false)]⟩, ⟨(some 9), none, .move, [.t 8]⟩, ⟨(some 10), (some (9, true)), .move, [.t 0]⟩, ⟨(some 11), (some (9, true)), (.bin .geq .num), [.t 10, .c (.int .i64 127)]⟩, ⟨(some 12), (some (9, true)), .move, [.t 11]⟩, ⟨(some 13), (some (12, true)), .move, [.t 0]⟩, ⟨(some 14), (some (12, true)), (.bin .leq .num), [.t 13, .c (.int .i64 159)]⟩, ⟨(some 15), (some (9, true)), .pick, [.t 12, .t 14, .c (.bool false)]⟩, ⟨(some 16), (some (9, true)), (.un .not), [.t 15]⟩, ⟨(some 17), none, .pick, [.t 9, .t 16, .c (.bool false)]⟩, ⟨(some 18), none, .move, [.t 17]⟩, ⟨(some 19), (some (18, true)), .move, [.t 0]⟩, ⟨(some 20), (some (18, true)), (.bin .geq .num), [.t 19, .c (.int .i64 55296)]⟩, ⟨(some 21), (some (18, true)), .move, [.t 20]⟩, ⟨(some 22), (some (21, true)), .move, [.t 0]⟩, ⟨(some 23), (some (21, true)), (.bin .leq .num), [.t 22, .c (.int .i64 57343)]⟩, ⟨(some 24), (some (18, true)), .pick, [.t 21, .t 23, .c (.bool false)]⟩, ⟨(some 25), (some (18, true)), (.un .not), [.t 24]⟩, ⟨(some 26), none, .pick, [.t 18, .t 25, .c (.bool false)]⟩, ⟨(some 2), none, .move, [.t 26]⟩] none [2])
  .ret))⟩
theorem ok78 : FunOk Try.prog 78 c78 := ⟨⟨Try.f78, _, Try.func78, rfl, by kernel_rfl, by kernel_rfl, by kernel_rfl, by kernel_rfl⟩, by decide⟩
theorem res78 : c78.res = [.tmp 2] := rfl
def k78_2 (P : Program) (p : Lab) (Q : VPost) (y2 : AV) (H : Heap) (c : Nat) : Prop :=
  Q .ret [(2, y2)] H c
def k78_3 (P : Program) (p : Lab) (Q : VPost) (y0 : AV) (H : Heap) (c : Nat) (_ : Unit) : Prop :=
  vBin .leq .num y0 (.int .i64 57343) fun v23_21 =>
  vNot v23_21 fun v25_23 =>
  (k78_2 P p Q v25_23 H (c + 11))
def k78_4 (P : Program) (p : Lab) (Q : VPost) (H : Heap) (c : Nat) (_ : Unit) : Prop :=
  vNot (.bool false) fun v25_27 =>
  (k78_2 P p Q v25_27 H (c + 11))
def k78_5 (P : Program) (p : Lab) (Q : VPost) (y0 : AV) (H : Heap) (c : Nat) (_ : Unit) : Prop :=
  vBin .geq .num y0 (.int .i64 55296) fun v20_18 =>
  vSel v20_18
  (k78_3 P p Q y0 H c)
  (k78_4 P p Q H c)
def k78_6 (P : Program) (p : Lab) (Q : VPost)  (H : Heap) (c : Nat) : Prop :=
  Q .ret [(2, (.bool false))] H c
def k78_7 (P : Program) (p : Lab) (Q : VPost) (H : Heap) (c : Nat) (_ : Unit) : Prop :=
  (k78_6 P p Q  H (c + 11))
def k78_1 (P : Program) (p : Lab) (Q : VPost) (y0 : AV) (y16 : AV) (H : Heap) (c : Nat) : Prop :=
  vSel y16
  (k78_5 P p Q y0 H c)
  (k78_7 P p Q H c)
def k78_8 (P : Program) (p : Lab) (Q : VPost) (y0 : AV) (H : Heap) (c : Nat) (_ : Unit) : Prop :=
  vBin .leq .num y0 (.int .i64 159) fun v14_12 =>
  vNot v14_12 fun v16_14 =>
  (k78_1 P p Q y0 v16_14 H (c + 9))
def k78_10 (P : Program) (p : Lab) (Q : VPost) (y0 : AV) (H : Heap) (c : Nat) (_ : Unit) : Prop :=
  vBin .leq .num y0 (.int .i64 57343) fun v23_40 =>
  vNot v23_40 fun v25_42 =>
  (k78_2 P p Q v25_42 H (c + 11))
def k78_11 (P : Program) (p : Lab) (Q : VPost) (H : Heap) (c : Nat) (_ : Unit) : Prop :=
  vNot (.bool false) fun v25_46 =>
  (k78_2 P p Q v25_46 H (c + 11))
def k78_12 (P : Program) (p : Lab) (Q : VPost) (y0 : AV) (H : Heap) (c : Nat) (_ : Unit) : Prop :=
  vBin .geq .num y0 (.int .i64 55296) fun v20_37 =>
  vSel v20_37
  (k78_10 P p Q y0 H c)
  (k78_11 P p Q H c)
def k78_13 (P : Program) (p : Lab) (Q : VPost) (H : Heap) (c : Nat) (_ : Unit) : Prop :=
  (k78_6 P p Q  H (c + 11))
def k78_9 (P : Program) (p : Lab) (Q : VPost) (y0 : AV) (y16 : AV) (H : Heap) (c : Nat) : Prop :=
  vSel y16
  (k78_12 P p Q y0 H c)
  (k78_13 P p Q H c)
def k78_14 (P : Program) (p : Lab) (Q : VPost) (y0 : AV) (H : Heap) (c : Nat) (_ : Unit) : Prop :=
  vNot (.bool false) fun v16_33 =>
  (k78_9 P p Q y0 v16_33 H (c + 9))
def k78_15 (P : Program) (p : Lab) (Q : VPost) (y0 : AV) (H : Heap) (c : Nat) (_ : Unit) : Prop :=
  vBin .geq .num y0 (.int .i64 127) fun v11_9 =>
  vSel v11_9
  (k78_8 P p Q y0 H c)
  (k78_14 P p Q y0 H c)
def k78_16 (P : Program) (p : Lab) (Q : VPost) (y0 : AV) (H : Heap) (c : Nat) : Prop :=
  (k78_6 P p Q  H (c + 11))
def k78_17 (P : Program) (p : Lab) (Q : VPost) (y0 : AV) (H : Heap) (c : Nat) (_ : Unit) : Prop :=
  (k78_16 P p Q y0 H (c + 9))
def k78_0 (P : Program) (p : Lab) (Q : VPost) (y0 : AV) (y7 : AV) (H : Heap) (c : Nat) : Prop :=
  vSel y7
  (k78_15 P p Q y0 H c)
  (k78_17 P p Q y0 H c)
def k78_18 (P : Program) (p : Lab) (Q : VPost) (x0 : AV) (H : Heap) (c : Nat) (_ : Unit) : Prop :=
  vBin .leq .num x0 (.int .i64 1114111) fun v7_5 =>
  (k78_0 P p Q x0 v7_5 H (c + 6))
def k78_20 (P : Program) (p : Lab) (Q : VPost) (y0 : AV) (H : Heap) (c : Nat) : Prop :=
  (k78_6 P p Q  H (c + 11))
def k78_19 (P : Program) (p : Lab) (Q : VPost) (y0 : AV) (H : Heap) (c : Nat) : Prop :=
  (k78_20 P p Q y0 H (c + 9))
def k78_21 (P : Program) (p : Lab) (Q : VPost) (x0 : AV) (H : Heap) (c : Nat) (_ : Unit) : Prop :=
  (k78_19 P p Q x0 H (c + 6))
def V78 (P : Program) (p : Lab) (Q : VPost) (x0 : AV) (H : Heap) (c : Nat) : Prop :=
  vBin .geq .num x0 (.int .i64 32) fun v4_2 =>
  vSel v4_2
  (k78_18 P p Q x0 H c)
  (k78_21 P p Q x0 H c)
theorem vt78 (P : Program) (p : Lab) (Q : VPost) (x0 : AV) (H : Heap) (c : Nat) : vc P p c78.body Q [(0, x0)] H c = V78 P p Q x0 H c := by kernel_rfl


/-- duet/mesg.Check -/
def c43 : AFun := ⟨1, 166, [.tmp 2],
  (.seq (.region [⟨(some 1), none, .box, [.t 0]⟩, ⟨(some 2), none, .move, [.c (.int .i64 0)]⟩] none [1])
  (.seq (.region [⟨(some 10), none, (.fieldAddr 2), [.t 1]⟩, ⟨(some 11), none, (.load 1 false), [.t 10]⟩, ⟨(some 12), none, (.len .slice), [.t 11]⟩, ⟨(some 13), none, (.fieldAddr 3), [.t 1]⟩, ⟨(some 14), none, (.load 7 true), [.t 13]⟩, ⟨(some 3), none, (.alloc [(.int .i64 0)]), []⟩, ⟨(some 4), none, (.alloc [(.int .i64 0), (.int .i64 0), (.int .i64 0), (.int .i64 0), (.int .i64 0), (.int .i64 0), (.int .i64 0)]), []⟩, ⟨none, none, (.store 1), [.t 3, .t 12]⟩, ⟨none, none, (.store 7), [.t 4, .t 14]⟩] (some [0, 1, 3, 0, 8, 0, 0, 103, 255]) [1, 3, 4])
  (.seq (.region [⟨(some 15), none, (.mkfn (.func 66) 0), [.t 3]⟩, ⟨(some 5), none, .move, [.t 15]⟩] none [1, 3, 4, 5])
  (.seq (.region [⟨(some 16), none, (.build [(.int .i64 0), (.int .i64 0)] []), []⟩, ⟨(some 6), none, (.alloc [(.int .i64 0), (.int .i64 0)]), []⟩, ⟨none, none, (.store 2), [.t 6, .t 16]⟩] none [1, 3, 4, 5, 6])
  (.seq (.region [⟨(some 18), none, (.fieldAddr 0), [.t 4]⟩, ⟨(some 19), none, (.load 1 false), [.t 18]⟩, ⟨(some 20), none, .call, [.c (.fn (.func 68) [] []), .t 19]⟩, ⟨(some 17), none, .move, [.t 20]⟩, ⟨(some 21), none, (.extract 0), [.t 17]⟩, ⟨(some 22), none, (.extract 1), [.t 17]⟩, ⟨(some 23), none, (.extract 2), [.t 17]⟩, ⟨(some 7), none, .move, [.t 21]⟩, ⟨(some 8), none, .move, [.t 22]⟩, ⟨(some 9), none, .move, [.t 23]⟩] none [1, 3, 4, 5, 6, 7, 8, 9])
  (.seq (.block 0 (.seq (.seq (.region [⟨(some 25), none, (.load 1 false), [.t 3]⟩, ⟨(some 26), none, (.bin .lss .num), [.t 25, .c (.int .i64 1)]⟩, ⟨(some 27), none, .move, [.t 26]⟩, ⟨(some 28), (some (27, false)), (.load 1 false), [.t 3]⟩, ⟨(some 29), (some (27, false)), (.bin .gtr .num), [.t 28, .c (.int .i64 16)]⟩, ⟨(some 30), none, .pick, [.t 27, .c (.bool true), .t 29]⟩, ⟨(some 31), none, .move, [.t 30]⟩, ⟨(some 32), (some (31, false)), (.fieldAddr 0), [.t 1]⟩, ⟨(some 33), (some (31, false)), (.load 1 false), [.t 32]⟩, ⟨(some 34), (some (31, false)), (.bin .lss .num), [.t 33, .c (.int .i64 0)]⟩, ⟨(some 35), none, .pick, [.t 31, .c (.bool true), .t 34]⟩, ⟨(some 36), none, .move, [.t 35]⟩, ⟨(some 37), (some (36, false)), (.fieldAddr 0), [.t 1]⟩, ⟨(some 38), (some (36, false)), (.load 1 false), [.t 37]⟩, ⟨(some 39), (some (36, false)), (.load 1 false), [.t 3]⟩, ⟨(some 40), (some (36, false)), (.bin .geq .num), [.t 38, .t 39]⟩, ⟨(some 41), none, .pick, [.t 36, .c (.bool true), .t 40]⟩, ⟨(some 24), none, .move, [.t 41]⟩] none [1, 4, 5, 6, 7, 8, 9, 24])
  (.cond (.t 24) .skip
  (.seq (.region [⟨(some 42), none, (.fieldAddr 1), [.t 1]⟩, ⟨(some 43), none, (.load 1 false), [.t 42]⟩, ⟨(some 44), none, (.bin .lss .num), [.t 43, .c (.int .i64 1)]⟩, ⟨(some 45), none, .move, [.t 44]⟩, ⟨(some 46), (some (45, false)), (.fieldAddr 1), [.t 1]⟩, ⟨(some 47), (some (45, false)), (.load 1 false), [.t 46]⟩, ⟨(some 48), (some (45, false)), .call, [.c (.fn (.func 67) [] []), .t 47]⟩, ⟨(some 49), (some (45, false)), (.un .not), [.t 48]⟩, ⟨(some 50), none, .pick, [.t 45, .c (.bool true), .t 49]⟩, ⟨(some 51), none, .move, [.t 50]⟩, ⟨(some 52), (some (51, false)), (.fieldAddr 2), [.t 1]⟩, ⟨(some 53), (some (51, false)), (.load 1 false), [.t 52]⟩, ⟨(some 54), (some (51, false)), (.fieldAddr 0), [.t 1]⟩, ⟨(some 55), (some (51, false)), (.load 1 false), [.t 54]⟩, ⟨(some 56), (some (51, false)), (.indexAddr 1), [.t 53, .t 55]⟩, ⟨(some 57), (some (51, false)), (.load 1 false), [.t 56]⟩, ⟨(some 58), (some (51, false)), (.fieldAddr 1), [.t 1]⟩, ⟨(some 59), (some (51, false)), (.load 1 false), [.t 58]⟩, ⟨(some 60), (some (51, false)), (.bin .sub .num), [.t 59, .c (.int .i64 1)]⟩, ⟨(some 61), (some (51, false)), (.bin .neq .num), [.t 57, .t 60]⟩, ⟨(some 62), none, .pick, [.t 51, .c (.bool true), .t 61]⟩, ⟨(some 24), none, .move, [.t 62]⟩] (some [0, 1, 3, 7, 15, 31, 63, 127, 255, 511, 1023, 2047, 1023, 5119, 16383, 32767, 1023, 66559, 197631, 524287, 1048575, 2097151]) [1, 4, 5, 6, 7, 8, 9, 24])
  (.cond (.t 24) .skip
  (.seq (.region [⟨(some 63), none, (.fieldAddr 2), [.t 1]⟩, ⟨(some 64), none, (.load 1 false), [.t 63]⟩, ⟨(some 65), none, .call, [.c (.fn (.func 69) [] []), .t 64, .c (.fn (.func 70) [] [])]⟩, ⟨(some 24), none, .move, [.t 65]⟩] none [1, 4, 5, 6, 7, 8, 9, 24])
  (.cond (.t 24) .skip
  (.seq (.region [⟨(some 66), none, (.fieldAddr 0), [.t 4]⟩, ⟨(some 67), none, (.load 1 false), [.t 66]⟩, ⟨(some 68), none, (.bin .lss .num), [.t 67, .c (.int .i64 1)]⟩, ⟨(some 69), none, .move, [.t 68]⟩, ⟨(some 70), (some (69, false)), (.fieldAddr 0), [.t 4]⟩, ⟨(some 71), (some (69, false)), (.load 1 false), [.t 70]⟩, ⟨(some 72), (some (69, false)), (.bin .gtr .num), [.t 71, .c (.int .i64 8)]⟩, ⟨(some 73), none, .pick, [.t 69, .c (.bool true), .t 72]⟩, ⟨(some 74), none, .move, [.t 73]⟩, ⟨(some 75), (some (74, false)), (.fieldAddr 1), [.t 4]⟩, ⟨(some 76), (some (74, false)), (.load 1 false), [.t 75]⟩, ⟨(some 77), (some (74, false)), .call, [.c (.fn (.func 67) [] []), .t 76]⟩, ⟨(some 78), (some (74, false)), (.un .not), [.t 77]⟩, ⟨(some 79), none, .pick, [.t 74, .c (.bool true), .t 78]⟩, ⟨(some 24), none, .move, [.t 79]⟩] none [1, 4, 5, 6, 7, 8, 9, 24])
  (.cond (.t 24) .skip
  (.seq (.region [⟨(some 80), none, .move, [.t 7]⟩, ⟨(some 81), none, .move, [.t 80]⟩, ⟨(some 82), (some (81, true)), .move, [.t 5]⟩, ⟨(some 83), (some (81, true)), (.fieldAddr 2), [.t 4]⟩, ⟨(some 84), (some (81, true)), (.load 2 true), [.t 83]⟩, ⟨(some 85), (some (81, true)), .call, [.t 82, .t 84]⟩, ⟨(some 86), (some (81, true)), (.un .not), [.t 85]⟩, ⟨(some 87), (some (81, true)), .move, [.t 86]⟩, ⟨(some 88), (some (87, false)), (.fieldAddr 2), [.t 4]⟩, ⟨(some 89), (some (87, false)), (.fieldAddr 1), [.t 88]⟩, ⟨(some 90), (some (87, false)), (.load 1 false), [.t 89]⟩, ⟨(some 91), (some (87, false)), (.fieldAddr 0), [.t 1]⟩, ⟨(some 92), (some (87, false)), (.load 1 false), [.t 91]⟩, ⟨(some 93), (some (87, false)), (.bin .neq .num), [.t 90, .t 92]⟩, ⟨(some 94), (some (81, true)), .pick, [.t 87, .c (.bool true), .t 93]⟩, ⟨(some 95), none, .pick, [.t 81, .t 94, .c (.bool false)]⟩, ⟨(some 96), none, .move, [.t 95]⟩, ⟨(some 97), (some (96, false)), .move, [.t 7]⟩, ⟨(some 98), (some (96, false)), (.un .not), [.t 97]⟩, ⟨(some 99), (some (96, false)), .move, [.t 98]⟩, ⟨(some 100), (some (99, true)), (.fieldAddr 2), [.t 4]⟩, ⟨(some 101), (some (99, true)), (.load 2 true), [.t 100]⟩, ⟨(some 102), (some (99, true)), (.load 2 true), [.t 6]⟩, ⟨(some 103), (some (99, true)), (.eqs .neq [.int, .int]), [.t 101, .t 102]⟩, ⟨(some 104), (some (96, false)), .pick, [.t 99, .t 103, .c (.bool false)]⟩, ⟨(some 105), none, .pick, [.t 96, .c (.bool true), .t 104]⟩, ⟨(some 24), none, .move, [.t 105]⟩] none [4, 5, 6, 8, 9, 24])
  (.cond (.t 24) .skip
  (.seq (.region [⟨(some 106), none, .move, [.t 9]⟩, ⟨(some 107), none, .move, [.t 106]⟩, ⟨(some 108), (some (107, true)), (.fieldAddr 6), [.t 4]⟩, ⟨(some 109), (some (107, true)), (.load 1 false), [.t 108]⟩, ⟨(some 110), (some (107, true)), .call, [.c (.fn (.func 71) [] []), .t 109]⟩, ⟨(some 111), (some (107, true)), (.un .not), [.t 110]⟩, ⟨(some 112), none, .pick, [.t 107, .t 111, .c (.bool false)]⟩, ⟨(some 113), none, .move, [.t 112]⟩, ⟨(some 114), (some (113, false)), .move, [.t 9]⟩, ⟨(some 115), (some (113, false)), (.un .not), [.t 114]⟩, ⟨(some 116), (some (113, false)), .move, [.t 115]⟩, ⟨(some 117), (some (116, true)), (.fieldAddr 6), [.t 4]⟩, ⟨(some 118), (some (116, true)), (.load 1 false), [.t 117]⟩, ⟨(some 119), (some (116, true)), (.bin .neq .num), [.t 118, .c (.int .i64 0)]⟩, ⟨(some 120), (some (113, false)), .pick, [.t 116, .t 119, .c (.bool false)]⟩, ⟨(some 121), none, .pick, [.t 113, .c (.bool true), .t 120]⟩, ⟨(some 24), none, .move, [.t 121]⟩] none [4, 5, 6, 8, 24])
  (.cond (.t 24) .skip
  (.region [⟨(some 122), none, .move, [.t 8]⟩, ⟨(some 123), none, (.un .not), [.t 122]⟩, ⟨(some 124), none, .move, [.t 123]⟩, ⟨(some 125), (some (124, true)), (.fieldAddr 4), [.t 4]⟩, ⟨(some 126), (some (124, true)), (.load 2 true), [.t 125]⟩, ⟨(some 127), (some (124, true)), (.load 2 true), [.t 6]⟩, ⟨(some 128), (some (124, true)), (.eqs .neq [.int, .int]), [.t 126, .t 127]⟩, ⟨(some 129), none, .pick, [.t 124, .t 128, .c (.bool false)]⟩, ⟨(some 24), none, .move, [.t 129]⟩] none [4, 5, 6, 8, 24])))))))))))))
  (.cond (.t 24) (.seq (.region [⟨(some 2), none, .move, [.c (.int .i64 1)]⟩] none [2])
  .ret)
  (.seq (.region [⟨(some 131), none, (.fieldAddr 4), [.t 4]⟩, ⟨(some 132), none, (.load 2 true), [.t 131]⟩, ⟨(some 133), none, (.load 2 true), [.t 6]⟩, ⟨(some 134), none, (.eqs .eql [.int, .int]), [.t 132, .t 133]⟩, ⟨(some 130), none, .move, [.t 134]⟩] none [4, 5, 8, 130])
  (.cond (.t 130) (.seq (.region [⟨(some 135), none, (.fieldAddr 0), [.t 4]⟩, ⟨(some 136), none, (.load 1 false), [.t 135]⟩, ⟨(some 137), none, (.bin .neq .num), [.t 136, .c (.int .i64 1)]⟩, ⟨(some 138), none, .move, [.t 137]⟩, ⟨(some 139), (some (138, true)), (.fieldAddr 0), [.t 4]⟩, ⟨(some 140), (some (138, true)), (.load 1 false), [.t 139]⟩, ⟨(some 141), (some (138, true)), (.bin .neq .num), [.t 140, .c (.int .i64 5)]⟩, ⟨(some 142), none, .pick, [.t 138, .t 141, .c (.bool false)]⟩, ⟨(some 143), none, .move, [.t 142]⟩, ⟨(some 144), (some (143, true)), .move, [.t 8]⟩, ⟨(some 145), none, .pick, [.t 143, .t 144, .c (.bool false)]⟩] none [145])
  (.cond (.t 145) (.seq (.region [⟨(some 2), none, .move, [.c (.int .i64 1)]⟩] none [2])
  .ret)
  .skip))
  (.seq (.region [⟨(some 147), none, .move, [.t 5]⟩, ⟨(some 148), none, (.fieldAddr 4), [.t 4]⟩, ⟨(some 149), none, (.load 2 true), [.t 148]⟩, ⟨(some 150), none, .call, [.t 147, .t 149]⟩, ⟨(some 151), none, (.un .not), [.t 150]⟩, ⟨(some 152), none, .move, [.t 151]⟩, ⟨(some 153), (some (152, false)), (.fieldAddr 0), [.t 4]⟩, ⟨(some 154), (some (152, false)), (.load 1 false), [.t 153]⟩, ⟨(some 155), (some (152, false)), (.bin .eql .num), [.t 154, .c (.int .i64 1)]⟩, ⟨(some 156), (some (152, false)), .move, [.t 155]⟩, ⟨(some 157), (some (156, true)), (.fieldAddr 4), [.t 4]⟩, ⟨(some 158), (some (156, true)), (.fieldAddr 0), [.t 157]⟩, ⟨(some 159), (some (156, true)), (.load 1 false), [.t 158]⟩, ⟨(some 160), (some (156, true)), (.fieldAddr 2), [.t 4]⟩, ⟨(some 161), (some (156, true)), (.fieldAddr 0), [.t 160]⟩, ⟨(some 162), (some (156, true)), (.load 1 false), [.t 161]⟩, ⟨(some 163), (some (156, true)), (.bin .geq .num), [.t 159, .t 162]⟩, ⟨(some 164), (some (152, false)), .pick, [.t 156, .t 163, .c (.bool false)]⟩, ⟨(some 165), none, .pick, [.t 152, .c (.bool true), .t 164]⟩, ⟨(some 146), none, .move, [.t 165]⟩] none [146])
  (.cond (.t 146) (.seq (.region [⟨(some 2), none, .move, [.c (.int .i64 1)]⟩] none [2])
  .ret)
  .skip)))))))
  (.seq (.region [⟨(some 2), none, .move, [.c (.int .i64 0)]⟩] none [2])
  .ret)))))))⟩
theorem ok43 : FunOk Try.prog 43 c43 := ⟨⟨Try.f43, _, Try.func43, rfl, by kernel_rfl, by kernel_rfl, by kernel_rfl, by kernel_rfl⟩, by decide⟩
theorem res43 : c43.res = [.tmp 2] := rfl
def k43_2 (P : Program) (p : Lab) (Q : VPost) (y1 : AV) (y4 : AV) (y5 : AV) (y6 : AV) (y7 : AV) (y8 : AV) (y9 : AV) (H : Heap) (c : Nat) : Prop :=
  Q .ret [(2, (.int .i64 1))] H (c + 1)
def k43_1 (P : Program) (p : Lab) (Q : VPost) (y1 : AV) (y3 : AV) (y4 : AV) (y5 : AV) (y6 : AV) (y7 : AV) (y8 : AV) (y9 : AV) (H : Heap) (c : Nat) : Prop :=
  (k43_2 P p Q y1 y4 y5 y6 y7 y8 y9 H (c + 8))
def k43_0 (P : Program) (p : Lab) (Q : VPost) (y1 : AV) (y3 : AV) (y4 : AV) (y5 : AV) (y6 : AV) (y7 : AV) (y8 : AV) (y9 : AV) (H : Heap) (c : Nat) : Prop :=
  (k43_1 P p Q y1 y3 y4 y5 y6 y7 y8 y9 H (c + 5))
def k43_3 (P : Program) (p : Lab) (Q : VPost) (v23_22 : AV) (v22_21 : AV) (v21_20 : AV) (H18 : Heap) (w0 : List AV) (c : Nat) (_ : Unit) : Prop :=
  (k43_0 P p Q (.ptr (c :: p) w0.length 0 0) (.ptr ((c + 7) :: p) 1 0 0) (.ptr ((c + 8) :: p) 7 0 0) (.fn (.func 66) [] [(.ptr ((c + 7) :: p) 1 0 0)]) (.ptr ((c + 14) :: p) 2 0 0) v21_20 v22_21 v23_22 H18 (c + 31))
def k43_5 (P : Program) (p : Lab) (Q : VPost) (y1 : AV) (y3 : AV) (y4 : AV) (y5 : AV) (y6 : AV) (y7 : AV) (y8 : AV) (y9 : AV) (H : Heap) (c : Nat) : Prop :=
  (k43_2 P p Q y1 y4 y5 y6 y7 y8 y9 H (c + 8))
def k43_6 (P : Program) (p : Lab) (Q : VPost) (y1 : AV) (y3 : AV) (y4 : AV) (y5 : AV) (y6 : AV) (y7 : AV) (y8 : AV) (y9 : AV) (H : Heap) (c : Nat) (_ : Unit) : Prop :=
  (k43_5 P p Q y1 y3 y4 y5 y6 y7 y8 y9 H (c + 5))
def k43_8 (P : Program) (p : Lab) (Q : VPost) (y1 : AV) (y4 : AV) (y5 : AV) (y6 : AV) (y7 : AV) (y8 : AV) (y9 : AV) (H : Heap) (c : Nat) (_ : Unit) : Prop :=
  (k43_2 P p Q y1 y4 y5 y6 y7 y8 y9 H (c + 8))
def k43_11 (P : Program) (p : Lab) (Q : VPost)  (H : Heap) (c : Nat) : Prop :=
  Q .ret [(2, (.int .i64 1))] H c
def k43_12 (P : Program) (p : Lab) (Q : VPost) (H : Heap) (c : Nat) (_ : Unit) : Prop :=
  (k43_11 P p Q  H (c + 1))
def k43_17 (P : Program) (p : Lab) (Q : VPost) (H : Heap) (c : Nat) (_ : Unit) : Prop :=
  (k43_11 P p Q  H (c + 1))
def k43_18 (P : Program) (p : Lab) (Q : VPost) (y145 : AV) (H : Heap) (c : Nat) : Prop :=
  Q .ret [(2, (.int .i64 0))] H (c + 1)
def k43_19 (P : Program) (p : Lab) (Q : VPost) (y145 : AV) (H : Heap) (c : Nat) (_ : Unit) : Prop :=
  (k43_18 P p Q y145 H c)
def k43_16 (P : Program) (p : Lab) (Q : VPost) (y145 : AV) (H : Heap) (c : Nat) : Prop :=
  vSel y145
  (k43_17 P p Q H c)
  (k43_19 P p Q y145 H c)
def k43_20 (P : Program) (p : Lab) (Q : VPost) (y8 : AV) (H : Heap) (c : Nat) (_ : Unit) : Prop :=
  (k43_16 P p Q y8 H (c + 4))
def k43_21 (P : Program) (p : Lab) (Q : VPost)  (H : Heap) (c : Nat) : Prop :=
  Q .ret [(2, (.int .i64 0))] H (c + 1)
def k43_22 (P : Program) (p : Lab) (Q : VPost) (H : Heap) (c : Nat) (_ : Unit) : Prop :=
  (k43_21 P p Q  H (c + 4))
def k43_15 (P : Program) (p : Lab) (Q : VPost) (y8 : AV) (y141 : AV) (H : Heap) (c : Nat) : Prop :=
  vSel y141
  (k43_20 P p Q y8 H c)
  (k43_22 P p Q H c)
def k43_23 (P : Program) (p : Lab) (Q : VPost) (y4 : AV) (y8 : AV) (H : Heap) (c : Nat) (_ : Unit) : Prop :=
  vFA 0 y4 fun v139_67 =>
  vLoad 1 false v139_67 H fun v140_68 _ =>
  vBin .neq .num v140_68 (.int .i64 5) fun v141_69 =>
  (k43_15 P p Q y8 v141_69 H (c + 7))
def k43_24 (P : Program) (p : Lab) (Q : VPost) (y8 : AV) (H : Heap) (c : Nat) : Prop :=
  (k43_21 P p Q  H (c + 4))
def k43_25 (P : Program) (p : Lab) (Q : VPost) (y8 : AV) (H : Heap) (c : Nat) (_ : Unit) : Prop :=
  (k43_24 P p Q y8 H (c + 7))
def k43_14 (P : Program) (p : Lab) (Q : VPost) (y4 : AV) (y8 : AV) (H : Heap) (c : Nat) : Prop :=
  vFA 0 y4 fun v135_63 =>
  vLoad 1 false v135_63 H fun v136_64 _ =>
  vBin .neq .num v136_64 (.int .i64 1) fun v137_65 =>
  vSel v137_65
  (k43_23 P p Q y4 y8 H c)
  (k43_25 P p Q y8 H c)
def k43_26 (P : Program) (p : Lab) (Q : VPost) (H61 : Heap) (y4 : AV) (y8 : AV) (c : Nat) (_ : Unit) : Prop :=
  (k43_14 P p Q y4 y8 H61 (c + 5))
def k43_28 (P : Program) (p : Lab) (Q : VPost)  (H : Heap) (c : Nat) : Prop :=
  Q .ret [(2, (.int .i64 1))] H (c + 1)
def k43_29 (P : Program) (p : Lab) (Q : VPost) (H84 : Heap) (c : Nat) (_ : Unit) : Prop :=
  (k43_28 P p Q  H84 (c + 20))
def k43_31 (P : Program) (p : Lab) (Q : VPost) (H : Heap) (c : Nat) (_ : Unit) : Prop :=
  (k43_11 P p Q  H (c + 1))
def k43_32 (P : Program) (p : Lab) (Q : VPost) (y146 : AV) (H : Heap) (c : Nat) : Prop :=
  Q .ret [(2, (.int .i64 0))] H (c + 1)
def k43_33 (P : Program) (p : Lab) (Q : VPost) (y146 : AV) (H : Heap) (c : Nat) (_ : Unit) : Prop :=
  (k43_32 P p Q y146 H c)
def k43_30 (P : Program) (p : Lab) (Q : VPost) (y146 : AV) (H : Heap) (c : Nat) : Prop :=
  vSel y146
  (k43_31 P p Q H c)
  (k43_33 P p Q y146 H c)
def k43_34 (P : Program) (p : Lab) (Q : VPost) (H84 : Heap) (y4 : AV) (c : Nat) (_ : Unit) : Prop :=
  vFA 4 y4 fun v157_94 =>
  vFA 0 v157_94 fun v158_95 =>
  vLoad 1 false v158_95 H84 fun v159_96 _ =>
  vFA 2 y4 fun v160_97 =>
  vFA 0 v160_97 fun v161_98 =>
  vLoad 1 false v161_98 H84 fun v162_99 _ =>
  vBin .geq .num v159_96 v162_99 fun v163_100 =>
  (k43_30 P p Q v163_100 H84 (c + 20))
def k43_35 (P : Program) (p : Lab) (Q : VPost)  (H : Heap) (c : Nat) : Prop :=
  Q .ret [(2, (.int .i64 0))] H (c + 1)
def k43_36 (P : Program) (p : Lab) (Q : VPost) (H84 : Heap) (c : Nat) (_ : Unit) : Prop :=
  (k43_35 P p Q  H84 (c + 20))
def k43_37 (P : Program) (p : Lab) (Q : VPost) (H84 : Heap) (y4 : AV) (c : Nat) (_ : Unit) : Prop :=
  vFA 0 y4 fun v153_90 =>
  vLoad 1 false v153_90 H84 fun v154_91 _ =>
  vBin .eql .num v154_91 (.int .i64 1) fun v155_92 =>
  vSel v155_92
  (k43_34 P p Q H84 y4 c)
  (k43_36 P p Q H84 c)
def k43_38 (P : Program) (p : Lab) (Q : VPost) (y4 : AV) (c : Nat) (v150_84 : AV) (H84 : Heap) (l84 : List Lab) (f84 : Option (List Lab)) : Prop :=
  vNot v150_84 fun v151_85 =>
  vSel v151_85
  (k43_29 P p Q H84 c)
  (k43_37 P p Q H84 y4 c)
def k43_27 (P : Program) (p : Lab) (Q : VPost) (y4 : AV) (y5 : AV) (H : Heap) (c : Nat) : Prop :=
  vFA 4 y4 fun v148_82 =>
  vLoad 2 true v148_82 H fun v149_83 _ =>
  vop P .call [y5, v149_83] H ((c + 3) :: p) (k43_38 P p Q y4 c)
def k43_39 (P : Program) (p : Lab) (Q : VPost) (H61 : Heap) (y4 : AV) (y5 : AV) (c : Nat) (_ : Unit) : Prop :=
  (k43_27 P p Q y4 y5 H61 (c + 5))
def k43_40 (P : Program) (p : Lab) (Q : VPost) (y4 : AV) (y5 : AV) (y8 : AV) (c : Nat) (v134_61 : AV) (H61 : Heap) (l61 : List Lab) (f61 : Option (List Lab)) : Prop :=
  vSel v134_61
  (k43_26 P p Q H61 y4 y8 c)
  (k43_39 P p Q H61 y4 y5 c)
def k43_13 (P : Program) (p : Lab) (Q : VPost) (y4 : AV) (y5 : AV) (y6 : AV) (y8 : AV) (H : Heap) (c : Nat) : Prop :=
  vFA 4 y4 fun v131_58 =>
  vLoad 2 true v131_58 H fun v132_59 _ =>
  vLoad 2 true y6 H fun v133_60 _ =>
  vGen (.eqs .eql [.int, .int]) [v132_59, v133_60] H ((c + 3) :: p) (k43_40 P p Q y4 y5 y8 c)
def k43_41 (P : Program) (p : Lab) (Q : VPost) (y4 : AV) (y5 : AV) (y6 : AV) (y8 : AV) (H : Heap) (c : Nat) (_ : Unit) : Prop :=
  (k43_13 P p Q y4 y5 y6 y8 H c)
def k43_10 (P : Program) (p : Lab) (Q : VPost) (y1 : AV) (y4 : AV) (y5 : AV) (y6 : AV) (y7 : AV) (y8 : AV) (y9 : AV) (y24 : AV) (H : Heap) (c : Nat) : Prop :=
  vSel y24
  (k43_12 P p Q H c)
  (k43_41 P p Q y4 y5 y6 y8 H c)
def k43_42 (P : Program) (p : Lab) (Q : VPost) (y1 : AV) (y4 : AV) (y5 : AV) (y6 : AV) (y7 : AV) (y8 : AV) (y9 : AV) (y24 : AV) (H : Heap) (c : Nat) (_ : Unit) : Prop :=
  (k43_10 P p Q y1 y4 y5 y6 y7 y8 y9 y24 H c)
def k43_43 (P : Program) (p : Lab) (Q : VPost) (y1 : AV) (y4 : AV) (y5 : AV) (y6 : AV) (y7 : AV) (y8 : AV) (y9 : AV) (H : Heap) (c : Nat) : Prop :=
  Q .ret [(2, (.int .i64 1))] H (c + 1)
def k43_44 (P : Program) (p : Lab) (Q : VPost) (f111 : Option (List Lab)) (y1 : AV) (y4 : AV) (y5 : AV) (y6 : AV) (y7 : AV) (y8 : AV) (y9 : AV) (H : Heap) (c : Nat) (_ : Unit) : Prop :=
  clashFree [0, 1, 3, 7, 15, 31, 63, 127, 255, 511, 1023, 2047, 1023, 5119, 16383, 32767, 1023, 66559, 197631, 524287, 1048575, 2097151] (addTr 1 [] ((c + 1) :: p) f111 []) ∧
  (k43_43 P p Q y1 y4 y5 y6 y7 y8 y9 H (c + 22))
def k43_45 (P : Program) (p : Lab) (Q : VPost) (H121 : Heap) (l121 : List Lab) (f121 : Option (List Lab)) (f120 : Option (List Lab)) (f111 : Option (List Lab)) (y1 : AV) (y4 : AV) (y5 : AV) (y6 : AV) (y7 : AV) (y8 : AV) (y9 : AV) (c : Nat) (_ : Unit) : Prop :=
  clashFree [0, 1, 3, 7, 15, 31, 63, 127, 255, 511, 1023, 2047, 1023, 5119, 16383, 32767, 1023, 66559, 197631, 524287, 1048575, 2097151] (addTr 1 [] ((c + 1) :: p) f111 (addTr 5 [] ((c + 5) :: p) f120 (addTr 6 l121 ((c + 6) :: p) f121 []))) ∧
  (k43_43 P p Q y1 y4 y5 y6 y7 y8 y9 H121 (c + 22))
def k43_47 (P : Program) (p : Lab) (Q : VPost) (y1 : AV) (y4 : AV) (y5 : AV) (y6 : AV) (y7 : AV) (y8 : AV) (y9 : AV) (y24 : AV) (H : Heap) (c : Nat) (_ : Unit) : Prop :=
  (k43_10 P p Q y1 y4 y5 y6 y7 y8 y9 y24 H c)
def k43_49 (P : Program) (p : Lab) (Q : VPost) (v65_141 : AV) (H141 : Heap) (y1 : AV) (y4 : AV) (y5 : AV) (y6 : AV) (y7 : AV) (y8 : AV) (y9 : AV) (c : Nat) (_ : Unit) : Prop :=
  (k43_10 P p Q y1 y4 y5 y6 y7 y8 y9 v65_141 H141 (c + 4))
def k43_52 (P : Program) (p : Lab) (Q : VPost) (y1 : AV) (y4 : AV) (y5 : AV) (y6 : AV) (y7 : AV) (y8 : AV) (y9 : AV) (H : Heap) (c : Nat) : Prop :=
  Q .ret [(2, (.int .i64 1))] H (c + 1)
def k43_51 (P : Program) (p : Lab) (Q : VPost) (y1 : AV) (y4 : AV) (y5 : AV) (y6 : AV) (y7 : AV) (y8 : AV) (y9 : AV) (y24 : AV) (H : Heap) (c : Nat) : Prop :=
  (k43_52 P p Q y1 y4 y5 y6 y7 y8 y9 H (c + 8))
def k43_53 (P : Program) (p : Lab) (Q : VPost) (y1 : AV) (y4 : AV) (y5 : AV) (y6 : AV) (y7 : AV) (y8 : AV) (y9 : AV) (y24 : AV) (H : Heap) (c : Nat) (_ : Unit) : Prop :=
  (k43_51 P p Q y1 y4 y5 y6 y7 y8 y9 y24 H (c + 7))
def k43_55 (P : Program) (p : Lab) (Q : VPost) (y1 : AV) (y4 : AV) (y5 : AV) (y6 : AV) (y7 : AV) (y8 : AV) (y9 : AV) (H : Heap) (c : Nat) (_ : Unit) : Prop :=
  (k43_52 P p Q y1 y4 y5 y6 y7 y8 y9 H (c + 8))
def k43_57 (P : Program) (p : Lab) (Q : VPost) (y1 : AV) (y4 : AV) (y5 : AV) (y6 : AV) (y7 : AV) (y8 : AV) (y9 : AV) (y24 : AV) (H : Heap) (c : Nat) (_ : Unit) : Prop :=
  (k43_10 P p Q y1 y4 y5 y6 y7 y8 y9 y24 H c)
def k43_60 (P : Program) (p : Lab) (Q : VPost) (y4 : AV) (y5 : AV) (y6 : AV) (y8 : AV) (y9 : AV) (H : Heap) (c : Nat) : Prop :=
  Q .ret [(2, (.int .i64 1))] H (c + 1)
def k43_59 (P : Program) (p : Lab) (Q : VPost) (y4 : AV) (y5 : AV) (y6 : AV) (y7 : AV) (y8 : AV) (y9 : AV) (y24 : AV) (H : Heap) (c : Nat) : Prop :=
  (k43_60 P p Q y4 y5 y6 y8 y9 H (c + 12))
def k43_61 (P : Program) (p : Lab) (Q : VPost) (H170 : Heap) (y4 : AV) (y5 : AV) (y6 : AV) (y7 : AV) (y8 : AV) (y9 : AV) (y24 : AV) (c : Nat) (_ : Unit) : Prop :=
  (k43_59 P p Q y4 y5 y6 y7 y8 y9 y24 H170 (c + 15))
def k43_63 (P : Program) (p : Lab) (Q : VPost) (y4 : AV) (y5 : AV) (y6 : AV) (y8 : AV) (y9 : AV) (H : Heap) (c : Nat) (_ : Unit) : Prop :=
  (k43_60 P p Q y4 y5 y6 y8 y9 H (c + 12))
def k43_66 (P : Program) (p : Lab) (Q : VPost) (H : Heap) (c : Nat) (_ : Unit) : Prop :=
  (k43_11 P p Q  H (c + 1))
def k43_67 (P : Program) (p : Lab) (Q : VPost) (y4 : AV) (y5 : AV) (y6 : AV) (y8 : AV) (H : Heap) (c : Nat) (_ : Unit) : Prop :=
  (k43_13 P p Q y4 y5 y6 y8 H c)
def k43_65 (P : Program) (p : Lab) (Q : VPost) (y4 : AV) (y5 : AV) (y6 : AV) (y8 : AV) (y9 : AV) (y24 : AV) (H : Heap) (c : Nat) : Prop :=
  vSel y24
  (k43_66 P p Q H c)
  (k43_67 P p Q y4 y5 y6 y8 H c)
def k43_68 (P : Program) (p : Lab) (Q : VPost) (y4 : AV) (y5 : AV) (y6 : AV) (y8 : AV) (y9 : AV) (y24 : AV) (H : Heap) (c : Nat) (_ : Unit) : Prop :=
  (k43_65 P p Q y4 y5 y6 y8 y9 y24 H c)
def k43_71 (P : Program) (p : Lab) (Q : VPost) (y4 : AV) (y5 : AV) (y6 : AV) (y8 : AV) (H : Heap) (c : Nat) : Prop :=
  Q .ret [(2, (.int .i64 1))] H (c + 1)
def k43_72 (P : Program) (p : Lab) (Q : VPost) (y4 : AV) (y5 : AV) (y6 : AV) (y8 : AV) (H : Heap) (c : Nat) (_ : Unit) : Prop :=
  (k43_71 P p Q y4 y5 y6 y8 H (c + 11))
def k43_75 (P : Program) (p : Lab) (Q : VPost) (H : Heap) (c : Nat) (_ : Unit) : Prop :=
  (k43_11 P p Q  H (c + 1))
def k43_76 (P : Program) (p : Lab) (Q : VPost) (y4 : AV) (y5 : AV) (y6 : AV) (y8 : AV) (H : Heap) (c : Nat) (_ : Unit) : Prop :=
  (k43_13 P p Q y4 y5 y6 y8 H c)
def k43_74 (P : Program) (p : Lab) (Q : VPost) (y4 : AV) (y5 : AV) (y6 : AV) (y8 : AV) (y24 : AV) (H : Heap) (c : Nat) : Prop :=
  vSel y24
  (k43_75 P p Q H c)
  (k43_76 P p Q y4 y5 y6 y8 H c)
def k43_77 (P : Program) (p : Lab) (Q : VPost) (y4 : AV) (y5 : AV) (y6 : AV) (y8 : AV) (y24 : AV) (H : Heap) (c : Nat) (_ : Unit) : Prop :=
  (k43_74 P p Q y4 y5 y6 y8 y24 H c)
def k43_79 (P : Program) (p : Lab) (Q : VPost) (y4 : AV) (y5 : AV) (y6 : AV) (y8 : AV) (c : Nat) (v128_228 : AV) (H228 : Heap) (l228 : List Lab) (f228 : Option (List Lab)) : Prop :=
  (k43_74 P p Q y4 y5 y6 y8 v128_228 H228 (c + 9))
def k43_80 (P : Program) (p : Lab) (Q : VPost) (y4 : AV) (y5 : AV) (y6 : AV) (y8 : AV) (H : Heap) (c : Nat) (_ : Unit) : Prop :=
  vFA 4 y4 fun v125_225 =>
  vLoad 2 true v125_225 H fun v126_226 _ =>
  vLoad 2 true y6 H fun v127_227 _ =>
  vGen (.eqs .neq [.int, .int]) [v126_226, v127_227] H ((c + 6) :: p) (k43_79 P p Q y4 y5 y6 y8 c)
def k43_82 (P : Program) (p : Lab) (Q : VPost) (H236 : Heap) (y4 : AV) (y8 : AV) (c : Nat) (_ : Unit) : Prop :=
  (k43_14 P p Q y4 y8 H236 (c + 5))
def k43_83 (P : Program) (p : Lab) (Q : VPost) (H236 : Heap) (y4 : AV) (y5 : AV) (c : Nat) (_ : Unit) : Prop :=
  (k43_27 P p Q y4 y5 H236 (c + 5))
def k43_84 (P : Program) (p : Lab) (Q : VPost) (y4 : AV) (y5 : AV) (y8 : AV) (c : Nat) (v134_236 : AV) (H236 : Heap) (l236 : List Lab) (f236 : Option (List Lab)) : Prop :=
  vSel v134_236
  (k43_82 P p Q H236 y4 y8 c)
  (k43_83 P p Q H236 y4 y5 c)
def k43_81 (P : Program) (p : Lab) (Q : VPost) (y4 : AV) (y5 : AV) (y6 : AV) (y8 : AV) (H : Heap) (c : Nat) : Prop :=
  vFA 4 y4 fun v131_233 =>
  vLoad 2 true v131_233 H fun v132_234 _ =>
  vLoad 2 true y6 H fun v133_235 _ =>
  vGen (.eqs .eql [.int, .int]) [v132_234, v133_235] H ((c + 3) :: p) (k43_84 P p Q y4 y5 y8 c)
def k43_85 (P : Program) (p : Lab) (Q : VPost) (y4 : AV) (y5 : AV) (y6 : AV) (y8 : AV) (H : Heap) (c : Nat) (_ : Unit) : Prop :=
  (k43_81 P p Q y4 y5 y6 y8 H (c + 9))
def k43_78 (P : Program) (p : Lab) (Q : VPost) (y4 : AV) (y5 : AV) (y6 : AV) (y8 : AV) (y24 : AV) (H : Heap) (c : Nat) : Prop :=
  vNot y8 fun v123_223 =>
  vSel v123_223
  (k43_80 P p Q y4 y5 y6 y8 H c)
  (k43_85 P p Q y4 y5 y6 y8 H c)
def k43_86 (P : Program) (p : Lab) (Q : VPost) (y4 : AV) (y5 : AV) (y6 : AV) (y8 : AV) (y24 : AV) (H : Heap) (c : Nat) (_ : Unit) : Prop :=
  (k43_78 P p Q y4 y5 y6 y8 y24 H c)
def k43_73 (P : Program) (p : Lab) (Q : VPost) (y4 : AV) (y5 : AV) (y6 : AV) (y8 : AV) (y24 : AV) (H : Heap) (c : Nat) : Prop :=
  vSel y24
  (k43_77 P p Q y4 y5 y6 y8 y24 H c)
  (k43_86 P p Q y4 y5 y6 y8 y24 H c)
def k43_87 (P : Program) (p : Lab) (Q : VPost) (y4 : AV) (y5 : AV) (y6 : AV) (y8 : AV) (H : Heap) (c : Nat) (_ : Unit) : Prop :=
  vFA 6 y4 fun v117_215 =>
  vLoad 1 false v117_215 H fun v118_216 _ =>
  vBin .neq .num v118_216 (.int .i64 0) fun v119_217 =>
  (k43_73 P p Q y4 y5 y6 y8 v119_217 H (c + 11))
def k43_89 (P : Program) (p : Lab) (Q : VPost) (y4 : AV) (y5 : AV) (y6 : AV) (y8 : AV) (c : Nat) (v128_247 : AV) (H247 : Heap) (l247 : List Lab) (f247 : Option (List Lab)) : Prop :=
  (k43_74 P p Q y4 y5 y6 y8 v128_247 H247 (c + 9))
def k43_90 (P : Program) (p : Lab) (Q : VPost) (y4 : AV) (y5 : AV) (y6 : AV) (y8 : AV) (H : Heap) (c : Nat) (_ : Unit) : Prop :=
  vFA 4 y4 fun v125_244 =>
  vLoad 2 true v125_244 H fun v126_245 _ =>
  vLoad 2 true y6 H fun v127_246 _ =>
  vGen (.eqs .neq [.int, .int]) [v126_245, v127_246] H ((c + 6) :: p) (k43_89 P p Q y4 y5 y6 y8 c)
def k43_91 (P : Program) (p : Lab) (Q : VPost) (y4 : AV) (y5 : AV) (y6 : AV) (y8 : AV) (H : Heap) (c : Nat) (_ : Unit) : Prop :=
  (k43_81 P p Q y4 y5 y6 y8 H (c + 9))
def k43_88 (P : Program) (p : Lab) (Q : VPost) (y4 : AV) (y5 : AV) (y6 : AV) (y8 : AV) (H : Heap) (c : Nat) : Prop :=
  vNot y8 fun v123_242 =>
  vSel v123_242
  (k43_90 P p Q y4 y5 y6 y8 H c)
  (k43_91 P p Q y4 y5 y6 y8 H c)
def k43_92 (P : Program) (p : Lab) (Q : VPost) (y4 : AV) (y5 : AV) (y6 : AV) (y8 : AV) (H : Heap) (c : Nat) (_ : Unit) : Prop :=
  (k43_88 P p Q y4 y5 y6 y8 H (c + 11))
def k43_93 (P : Program) (p : Lab) (Q : VPost) (y4 : AV) (y5 : AV) (y6 : AV) (y8 : AV) (y9 : AV) (H : Heap) (c : Nat) (_ : Unit) : Prop :=
  vNot y9 fun v115_213 =>
  vSel v115_213
  (k43_87 P p Q y4 y5 y6 y8 H c)
  (k43_92 P p Q y4 y5 y6 y8 H c)
def k43_70 (P : Program) (p : Lab) (Q : VPost) (y4 : AV) (y5 : AV) (y6 : AV) (y8 : AV) (y9 : AV) (y24 : AV) (y111 : AV) (H : Heap) (c : Nat) : Prop :=
  vSel y111
  (k43_72 P p Q y4 y5 y6 y8 H c)
  (k43_93 P p Q y4 y5 y6 y8 y9 H c)
def k43_94 (P : Program) (p : Lab) (Q : VPost) (y4 : AV) (y5 : AV) (y6 : AV) (y8 : AV) (y9 : AV) (y24 : AV) (c : Nat) (v110_205 : AV) (H205 : Heap) (l205 : List Lab) (f205 : Option (List Lab)) : Prop :=
  vNot v110_205 fun v111_206 =>
  (k43_70 P p Q y4 y5 y6 y8 y9 y24 v111_206 H205 (c + 6))
def k43_95 (P : Program) (p : Lab) (Q : VPost) (y4 : AV) (y5 : AV) (y6 : AV) (y8 : AV) (y9 : AV) (y24 : AV) (H : Heap) (c : Nat) (_ : Unit) : Prop :=
  vFA 6 y4 fun v108_203 =>
  vLoad 1 false v108_203 H fun v109_204 _ =>
  vCall P 71 [v109_204] H ((c + 4) :: p) (k43_94 P p Q y4 y5 y6 y8 y9 y24 c)
def k43_97 (P : Program) (p : Lab) (Q : VPost) (y4 : AV) (y5 : AV) (y6 : AV) (y8 : AV) (H : Heap) (c : Nat) (_ : Unit) : Prop :=
  vFA 6 y4 fun v117_257 =>
  vLoad 1 false v117_257 H fun v118_258 _ =>
  vBin .neq .num v118_258 (.int .i64 0) fun v119_259 =>
  (k43_73 P p Q y4 y5 y6 y8 v119_259 H (c + 11))
def k43_98 (P : Program) (p : Lab) (Q : VPost) (y4 : AV) (y5 : AV) (y6 : AV) (y8 : AV) (H : Heap) (c : Nat) (_ : Unit) : Prop :=
  (k43_88 P p Q y4 y5 y6 y8 H (c + 11))
def k43_96 (P : Program) (p : Lab) (Q : VPost) (y4 : AV) (y5 : AV) (y6 : AV) (y8 : AV) (y9 : AV) (y24 : AV) (H : Heap) (c : Nat) : Prop :=
  vNot y9 fun v115_255 =>
  vSel v115_255
  (k43_97 P p Q y4 y5 y6 y8 H c)
  (k43_98 P p Q y4 y5 y6 y8 H c)
def k43_99 (P : Program) (p : Lab) (Q : VPost) (y4 : AV) (y5 : AV) (y6 : AV) (y8 : AV) (y9 : AV) (y24 : AV) (H : Heap) (c : Nat) (_ : Unit) : Prop :=
  (k43_96 P p Q y4 y5 y6 y8 y9 y24 H (c + 6))
def k43_69 (P : Program) (p : Lab) (Q : VPost) (y4 : AV) (y5 : AV) (y6 : AV) (y8 : AV) (y9 : AV) (y24 : AV) (H : Heap) (c : Nat) : Prop :=
  vSel y9
  (k43_95 P p Q y4 y5 y6 y8 y9 y24 H c)
  (k43_99 P p Q y4 y5 y6 y8 y9 y24 H c)
def k43_100 (P : Program) (p : Lab) (Q : VPost) (y4 : AV) (y5 : AV) (y6 : AV) (y8 : AV) (y9 : AV) (y24 : AV) (H : Heap) (c : Nat) (_ : Unit) : Prop :=
  (k43_69 P p Q y4 y5 y6 y8 y9 y24 H c)
def k43_64 (P : Program) (p : Lab) (Q : VPost) (y4 : AV) (y5 : AV) (y6 : AV) (y8 : AV) (y9 : AV) (y24 : AV) (H : Heap) (c : Nat) : Prop :=
  vSel y24
  (k43_68 P p Q y4 y5 y6 y8 y9 y24 H c)
  (k43_100 P p Q y4 y5 y6 y8 y9 y24 H c)
def k43_101 (P : Program) (p : Lab) (Q : VPost) (y4 : AV) (y5 : AV) (y6 : AV) (y8 : AV) (y9 : AV) (c : Nat) (v103_196 : AV) (H196 : Heap) (l196 : List Lab) (f196 : Option (List Lab)) : Prop :=
  (k43_64 P p Q y4 y5 y6 y8 y9 v103_196 H196 (c + 12))
def k43_102 (P : Program) (p : Lab) (Q : VPost) (y4 : AV) (y5 : AV) (y6 : AV) (y8 : AV) (y9 : AV) (H : Heap) (c : Nat) (_ : Unit) : Prop :=
  vFA 2 y4 fun v100_193 =>
  vLoad 2 true v100_193 H fun v101_194 _ =>
  vLoad 2 true y6 H fun v102_195 _ =>
  vGen (.eqs .neq [.int, .int]) [v101_194, v102_195] H ((c + 8) :: p) (k43_101 P p Q y4 y5 y6 y8 y9 c)
def k43_105 (P : Program) (p : Lab) (Q : VPost) (y4 : AV) (y5 : AV) (y6 : AV) (y8 : AV) (H : Heap) (c : Nat) (_ : Unit) : Prop :=
  (k43_71 P p Q y4 y5 y6 y8 H (c + 11))
def k43_106 (P : Program) (p : Lab) (Q : VPost) (y4 : AV) (y5 : AV) (y6 : AV) (y8 : AV) (H : Heap) (c : Nat) (_ : Unit) : Prop :=
  vFA 6 y4 fun v117_282 =>
  vLoad 1 false v117_282 H fun v118_283 _ =>
  vBin .neq .num v118_283 (.int .i64 0) fun v119_284 =>
  (k43_73 P p Q y4 y5 y6 y8 v119_284 H (c + 11))
def k43_107 (P : Program) (p : Lab) (Q : VPost) (y4 : AV) (y5 : AV) (y6 : AV) (y8 : AV) (H : Heap) (c : Nat) (_ : Unit) : Prop :=
  (k43_88 P p Q y4 y5 y6 y8 H (c + 11))
def k43_108 (P : Program) (p : Lab) (Q : VPost) (y4 : AV) (y5 : AV) (y6 : AV) (y8 : AV) (y9 : AV) (H : Heap) (c : Nat) (_ : Unit) : Prop :=
  vNot y9 fun v115_280 =>
  vSel v115_280
  (k43_106 P p Q y4 y5 y6 y8 H c)
  (k43_107 P p Q y4 y5 y6 y8 H c)
def k43_104 (P : Program) (p : Lab) (Q : VPost) (y4 : AV) (y5 : AV) (y6 : AV) (y8 : AV) (y9 : AV) (y111 : AV) (H : Heap) (c : Nat) : Prop :=
  vSel y111
  (k43_105 P p Q y4 y5 y6 y8 H c)
  (k43_108 P p Q y4 y5 y6 y8 y9 H c)
def k43_109 (P : Program) (p : Lab) (Q : VPost) (y4 : AV) (y5 : AV) (y6 : AV) (y8 : AV) (y9 : AV) (c : Nat) (v110_273 : AV) (H273 : Heap) (l273 : List Lab) (f273 : Option (List Lab)) : Prop :=
  vNot v110_273 fun v111_274 =>
  (k43_104 P p Q y4 y5 y6 y8 y9 v111_274 H273 (c + 6))
def k43_110 (P : Program) (p : Lab) (Q : VPost) (y4 : AV) (y5 : AV) (y6 : AV) (y8 : AV) (y9 : AV) (H : Heap) (c : Nat) (_ : Unit) : Prop :=
  vFA 6 y4 fun v108_271 =>
  vLoad 1 false v108_271 H fun v109_272 _ =>
  vCall P 71 [v109_272] H ((c + 4) :: p) (k43_109 P p Q y4 y5 y6 y8 y9 c)
def k43_112 (P : Program) (p : Lab) (Q : VPost) (y4 : AV) (y5 : AV) (y6 : AV) (y8 : AV) (H : Heap) (c : Nat) (_ : Unit) : Prop :=
  vFA 6 y4 fun v117_296 =>
  vLoad 1 false v117_296 H fun v118_297 _ =>
  vBin .neq .num v118_297 (.int .i64 0) fun v119_298 =>
  (k43_73 P p Q y4 y5 y6 y8 v119_298 H (c + 11))
def k43_113 (P : Program) (p : Lab) (Q : VPost) (y4 : AV) (y5 : AV) (y6 : AV) (y8 : AV) (H : Heap) (c : Nat) (_ : Unit) : Prop :=
  (k43_88 P p Q y4 y5 y6 y8 H (c + 11))
def k43_111 (P : Program) (p : Lab) (Q : VPost) (y4 : AV) (y5 : AV) (y6 : AV) (y8 : AV) (y9 : AV) (H : Heap) (c : Nat) : Prop :=
  vNot y9 fun v115_294 =>
  vSel v115_294
  (k43_112 P p Q y4 y5 y6 y8 H c)
  (k43_113 P p Q y4 y5 y6 y8 H c)
def k43_114 (P : Program) (p : Lab) (Q : VPost) (y4 : AV) (y5 : AV) (y6 : AV) (y8 : AV) (y9 : AV) (H : Heap) (c : Nat) (_ : Unit) : Prop :=
  (k43_111 P p Q y4 y5 y6 y8 y9 H (c + 6))
def k43_103 (P : Program) (p : Lab) (Q : VPost) (y4 : AV) (y5 : AV) (y6 : AV) (y8 : AV) (y9 : AV) (H : Heap) (c : Nat) : Prop :=
  vSel y9
  (k43_110 P p Q y4 y5 y6 y8 y9 H c)
  (k43_114 P p Q y4 y5 y6 y8 y9 H c)
def k43_115 (P : Program) (p : Lab) (Q : VPost) (y4 : AV) (y5 : AV) (y6 : AV) (y8 : AV) (y9 : AV) (H : Heap) (c : Nat) (_ : Unit) : Prop :=
  (k43_103 P p Q y4 y5 y6 y8 y9 H (c + 12))
def k43_116 (P : Program) (p : Lab) (Q : VPost) (y4 : AV) (y5 : AV) (y6 : AV) (y7 : AV) (y8 : AV) (y9 : AV) (H : Heap) (c : Nat) (_ : Unit) : Prop :=
  vNot y7 fun v98_191 =>
  vSel v98_191
  (k43_102 P p Q y4 y5 y6 y8 y9 H c)
  (k43_115 P p Q y4 y5 y6 y8 y9 H c)
def k43_62 (P : Program) (p : Lab) (Q : VPost) (y4 : AV) (y5 : AV) (y6 : AV) (y7 : AV) (y8 : AV) (y9 : AV) (y24 : AV) (y94 : AV) (H : Heap) (c : Nat) : Prop :=
  vSel y94
  (k43_63 P p Q y4 y5 y6 y8 y9 H c)
  (k43_116 P p Q y4 y5 y6 y7 y8 y9 H c)
def k43_117 (P : Program) (p : Lab) (Q : VPost) (H170 : Heap) (y1 : AV) (y4 : AV) (y5 : AV) (y6 : AV) (y7 : AV) (y8 : AV) (y9 : AV) (y24 : AV) (c : Nat) (_ : Unit) : Prop :=
  vFA 2 y4 fun v88_179 =>
  vFA 1 v88_179 fun v89_180 =>
  vLoad 1 false v89_180 H170 fun v90_181 _ =>
  vFA 0 y1 fun v91_182 =>
  vLoad 1 false v91_182 H170 fun v92_183 _ =>
  vBin .neq .num v90_181 v92_183 fun v93_184 =>
  (k43_62 P p Q y4 y5 y6 y7 y8 y9 y24 v93_184 H170 (c + 15))
def k43_118 (P : Program) (p : Lab) (Q : VPost) (y1 : AV) (y4 : AV) (y5 : AV) (y6 : AV) (y7 : AV) (y8 : AV) (y9 : AV) (y24 : AV) (c : Nat) (v85_170 : AV) (H170 : Heap) (l170 : List Lab) (f170 : Option (List Lab)) : Prop :=
  vNot v85_170 fun v86_171 =>
  vSel v86_171
  (k43_61 P p Q H170 y4 y5 y6 y7 y8 y9 y24 c)
  (k43_117 P p Q H170 y1 y4 y5 y6 y7 y8 y9 y24 c)
def k43_119 (P : Program) (p : Lab) (Q : VPost) (y1 : AV) (y4 : AV) (y5 : AV) (y6 : AV) (y7 : AV) (y8 : AV) (y9 : AV) (y24 : AV) (H : Heap) (c : Nat) (_ : Unit) : Prop :=
  vFA 2 y4 fun v83_168 =>
  vLoad 2 true v83_168 H fun v84_169 _ =>
  vop P .call [y5, v84_169] H ((c + 5) :: p) (k43_118 P p Q y1 y4 y5 y6 y7 y8 y9 y24 c)
def k43_121 (P : Program) (p : Lab) (Q : VPost) (y4 : AV) (y5 : AV) (y6 : AV) (y8 : AV) (y9 : AV) (c : Nat) (v103_313 : AV) (H313 : Heap) (l313 : List Lab) (f313 : Option (List Lab)) : Prop :=
  (k43_64 P p Q y4 y5 y6 y8 y9 v103_313 H313 (c + 12))
def k43_122 (P : Program) (p : Lab) (Q : VPost) (y4 : AV) (y5 : AV) (y6 : AV) (y8 : AV) (y9 : AV) (H : Heap) (c : Nat) (_ : Unit) : Prop :=
  vFA 2 y4 fun v100_310 =>
  vLoad 2 true v100_310 H fun v101_311 _ =>
  vLoad 2 true y6 H fun v102_312 _ =>
  vGen (.eqs .neq [.int, .int]) [v101_311, v102_312] H ((c + 8) :: p) (k43_121 P p Q y4 y5 y6 y8 y9 c)
def k43_123 (P : Program) (p : Lab) (Q : VPost) (y4 : AV) (y5 : AV) (y6 : AV) (y8 : AV) (y9 : AV) (H : Heap) (c : Nat) (_ : Unit) : Prop :=
  (k43_103 P p Q y4 y5 y6 y8 y9 H (c + 12))
def k43_120 (P : Program) (p : Lab) (Q : VPost) (y4 : AV) (y5 : AV) (y6 : AV) (y7 : AV) (y8 : AV) (y9 : AV) (y24 : AV) (H : Heap) (c : Nat) : Prop :=
  vNot y7 fun v98_308 =>
  vSel v98_308
  (k43_122 P p Q y4 y5 y6 y8 y9 H c)
  (k43_123 P p Q y4 y5 y6 y8 y9 H c)
def k43_124 (P : Program) (p : Lab) (Q : VPost) (y4 : AV) (y5 : AV) (y6 : AV) (y7 : AV) (y8 : AV) (y9 : AV) (y24 : AV) (H : Heap) (c : Nat) (_ : Unit) : Prop :=
  (k43_120 P p Q y4 y5 y6 y7 y8 y9 y24 H (c + 15))
def k43_58 (P : Program) (p : Lab) (Q : VPost) (y1 : AV) (y4 : AV) (y5 : AV) (y6 : AV) (y7 : AV) (y8 : AV) (y9 : AV) (y24 : AV) (H : Heap) (c : Nat) : Prop :=
  vSel y7
  (k43_119 P p Q y1 y4 y5 y6 y7 y8 y9 y24 H c)
  (k43_124 P p Q y4 y5 y6 y7 y8 y9 y24 H c)
def k43_125 (P : Program) (p : Lab) (Q : VPost) (y1 : AV) (y4 : AV) (y5 : AV) (y6 : AV) (y7 : AV) (y8 : AV) (y9 : AV) (y24 : AV) (H : Heap) (c : Nat) (_ : Unit) : Prop :=
  (k43_58 P p Q y1 y4 y5 y6 y7 y8 y9 y24 H c)
def k43_56 (P : Program) (p : Lab) (Q : VPost) (y1 : AV) (y4 : AV) (y5 : AV) (y6 : AV) (y7 : AV) (y8 : AV) (y9 : AV) (y24 : AV) (H : Heap) (c : Nat) : Prop :=
  vSel y24
  (k43_57 P p Q y1 y4 y5 y6 y7 y8 y9 y24 H c)
  (k43_125 P p Q y1 y4 y5 y6 y7 y8 y9 y24 H c)
def k43_126 (P : Program) (p : Lab) (Q : VPost) (y1 : AV) (y4 : AV) (y5 : AV) (y6 : AV) (y7 : AV) (y8 : AV) (y9 : AV) (c : Nat) (v77_161 : AV) (H161 : Heap) (l161 : List Lab) (f161 : Option (List Lab)) : Prop :=
  vNot v77_161 fun v78_162 =>
  (k43_56 P p Q y1 y4 y5 y6 y7 y8 y9 v78_162 H161 (c + 8))
def k43_127 (P : Program) (p : Lab) (Q : VPost) (y1 : AV) (y4 : AV) (y5 : AV) (y6 : AV) (y7 : AV) (y8 : AV) (y9 : AV) (H : Heap) (c : Nat) (_ : Unit) : Prop :=
  vFA 1 y4 fun v75_159 =>
  vLoad 1 false v75_159 H fun v76_160 _ =>
  vCall P 67 [v76_160] H ((c + 4) :: p) (k43_126 P p Q y1 y4 y5 y6 y7 y8 y9 c)
def k43_54 (P : Program) (p : Lab) (Q : VPost) (y1 : AV) (y4 : AV) (y5 : AV) (y6 : AV) (y7 : AV) (y8 : AV) (y9 : AV) (y24 : AV) (y72 : AV) (H : Heap) (c : Nat) : Prop :=
  vSel y72
  (k43_55 P p Q y1 y4 y5 y6 y7 y8 y9 H c)
  (k43_127 P p Q y1 y4 y5 y6 y7 y8 y9 H c)
def k43_128 (P : Program) (p : Lab) (Q : VPost) (y1 : AV) (y4 : AV) (y5 : AV) (y6 : AV) (y7 : AV) (y8 : AV) (y9 : AV) (y24 : AV) (H : Heap) (c : Nat) (_ : Unit) : Prop :=
  vFA 0 y4 fun v70_152 =>
  vLoad 1 false v70_152 H fun v71_153 _ =>
  vBin .gtr .num v71_153 (.int .i64 8) fun v72_154 =>
  (k43_54 P p Q y1 y4 y5 y6 y7 y8 y9 y24 v72_154 H (c + 7))
def k43_50 (P : Program) (p : Lab) (Q : VPost) (y1 : AV) (y4 : AV) (y5 : AV) (y6 : AV) (y7 : AV) (y8 : AV) (y9 : AV) (y24 : AV) (H : Heap) (c : Nat) : Prop :=
  vFA 0 y4 fun v66_143 =>
  vLoad 1 false v66_143 H fun v67_144 _ =>
  vBin .lss .num v67_144 (.int .i64 1) fun v68_145 =>
  vSel v68_145
  (k43_53 P p Q y1 y4 y5 y6 y7 y8 y9 y24 H c)
  (k43_128 P p Q y1 y4 y5 y6 y7 y8 y9 y24 H c)
def k43_129 (P : Program) (p : Lab) (Q : VPost) (v65_141 : AV) (H141 : Heap) (y1 : AV) (y4 : AV) (y5 : AV) (y6 : AV) (y7 : AV) (y8 : AV) (y9 : AV) (c : Nat) (_ : Unit) : Prop :=
  (k43_50 P p Q y1 y4 y5 y6 y7 y8 y9 v65_141 H141 (c + 4))
def k43_130 (P : Program) (p : Lab) (Q : VPost) (y1 : AV) (y4 : AV) (y5 : AV) (y6 : AV) (y7 : AV) (y8 : AV) (y9 : AV) (c : Nat) (v65_141 : AV) (H141 : Heap) (l141 : List Lab) (f141 : Option (List Lab)) : Prop :=
  vSel v65_141
  (k43_49 P p Q v65_141 H141 y1 y4 y5 y6 y7 y8 y9 c)
  (k43_129 P p Q v65_141 H141 y1 y4 y5 y6 y7 y8 y9 c)
def k43_48 (P : Program) (p : Lab) (Q : VPost) (y1 : AV) (y4 : AV) (y5 : AV) (y6 : AV) (y7 : AV) (y8 : AV) (y9 : AV) (y24 : AV) (H : Heap) (c : Nat) : Prop :=
  vFA 2 y1 fun v63_139 =>
  vLoad 1 false v63_139 H fun v64_140 _ =>
  vCall P 69 [v64_140, (.fn (.func 70) [] [])] H ((c + 2) :: p) (k43_130 P p Q y1 y4 y5 y6 y7 y8 y9 c)
def k43_131 (P : Program) (p : Lab) (Q : VPost) (y1 : AV) (y4 : AV) (y5 : AV) (y6 : AV) (y7 : AV) (y8 : AV) (y9 : AV) (y24 : AV) (H : Heap) (c : Nat) (_ : Unit) : Prop :=
  (k43_48 P p Q y1 y4 y5 y6 y7 y8 y9 y24 H c)
def k43_46 (P : Program) (p : Lab) (Q : VPost) (y1 : AV) (y4 : AV) (y5 : AV) (y6 : AV) (y7 : AV) (y8 : AV) (y9 : AV) (y24 : AV) (H : Heap) (c : Nat) : Prop :=
  vSel y24
  (k43_47 P p Q y1 y4 y5 y6 y7 y8 y9 y24 H c)
  (k43_131 P p Q y1 y4 y5 y6 y7 y8 y9 y24 H c)
def k43_132 (P : Program) (p : Lab) (Q : VPost) (H121 : Heap) (l121 : List Lab) (f121 : Option (List Lab)) (f120 : Option (List Lab)) (f111 : Option (List Lab)) (y1 : AV) (y4 : AV) (y5 : AV) (y6 : AV) (y7 : AV) (y8 : AV) (y9 : AV) (c : Nat) (_ : Unit) : Prop :=
  vFA 2 y1 fun v52_127 =>
  vLoad 1 false v52_127 H121 fun v53_128 f128 =>
  vFA 0 y1 fun v54_129 =>
  vLoad 1 false v54_129 H121 fun v55_130 f130 =>
  vIx 1 v53_128 v55_130 fun v56_131 =>
  vLoad 1 false v56_131 H121 fun v57_132 f132 =>
  vFA 1 y1 fun v58_133 =>
  vLoad 1 false v58_133 H121 fun v59_134 f134 =>
  vBin .sub .num v59_134 (.int .i64 1) fun v60_135 =>
  vBin .neq .num v57_132 v60_135 fun v61_136 =>
  clashFree [0, 1, 3, 7, 15, 31, 63, 127, 255, 511, 1023, 2047, 1023, 5119, 16383, 32767, 1023, 66559, 197631, 524287, 1048575, 2097151] (addTr 1 [] ((c + 1) :: p) f111 (addTr 5 [] ((c + 5) :: p) f120 (addTr 6 l121 ((c + 6) :: p) f121 (addTr 11 [] ((c + 11) :: p) f128 (addTr 13 [] ((c + 13) :: p) f130 (addTr 15 [] ((c + 15) :: p) f132 (addTr 17 [] ((c + 17) :: p) f134 []))))))) ∧
  (k43_46 P p Q y1 y4 y5 y6 y7 y8 y9 v61_136 H121 (c + 22))
def k43_133 (P : Program) (p : Lab) (Q : VPost) (f120 : Option (List Lab)) (f111 : Option (List Lab)) (y1 : AV) (y4 : AV) (y5 : AV) (y6 : AV) (y7 : AV) (y8 : AV) (y9 : AV) (c : Nat) (v48_121 : AV) (H121 : Heap) (l121 : List Lab) (f121 : Option (List Lab)) : Prop :=
  vNot v48_121 fun v49_122 =>
  vSel v49_122
  (k43_45 P p Q H121 l121 f121 f120 f111 y1 y4 y5 y6 y7 y8 y9 c)
  (k43_132 P p Q H121 l121 f121 f120 f111 y1 y4 y5 y6 y7 y8 y9 c)
def k43_134 (P : Program) (p : Lab) (Q : VPost) (f111 : Option (List Lab)) (y1 : AV) (y4 : AV) (y5 : AV) (y6 : AV) (y7 : AV) (y8 : AV) (y9 : AV) (H : Heap) (c : Nat) (_ : Unit) : Prop :=
  vFA 1 y1 fun v46_119 =>
  vLoad 1 false v46_119 H fun v47_120 f120 =>
  vCall P 67 [v47_120] H ((c + 6) :: p) (k43_133 P p Q f120 f111 y1 y4 y5 y6 y7 y8 y9 c)
def k43_135 (P : Program) (p : Lab) (Q : VPost) (y1 : AV) (y4 : AV) (y5 : AV) (y6 : AV) (y7 : AV) (y8 : AV) (y9 : AV) (H : Heap) (c : Nat) (_ : Unit) : Prop :=
  vFA 1 y1 fun v42_110 =>
  vLoad 1 false v42_110 H fun v43_111 f111 =>
  vBin .lss .num v43_111 (.int .i64 1) fun v44_112 =>
  vSel v44_112
  (k43_44 P p Q f111 y1 y4 y5 y6 y7 y8 y9 H c)
  (k43_134 P p Q f111 y1 y4 y5 y6 y7 y8 y9 H c)
def k43_9 (P : Program) (p : Lab) (Q : VPost) (y1 : AV) (y4 : AV) (y5 : AV) (y6 : AV) (y7 : AV) (y8 : AV) (y9 : AV) (y24 : AV) (H : Heap) (c : Nat) : Prop :=
  vSel y24
  (k43_42 P p Q y1 y4 y5 y6 y7 y8 y9 y24 H c)
  (k43_135 P p Q y1 y4 y5 y6 y7 y8 y9 H c)
def k43_136 (P : Program) (p : Lab) (Q : VPost) (y1 : AV) (y3 : AV) (y4 : AV) (y5 : AV) (y6 : AV) (y7 : AV) (y8 : AV) (y9 : AV) (H : Heap) (c : Nat) (_ : Unit) : Prop :=
  vFA 0 y1 fun v37_51 =>
  vLoad 1 false v37_51 H fun v38_52 _ =>
  vLoad 1 false y3 H fun v39_53 _ =>
  vBin .geq .num v38_52 v39_53 fun v40_54 =>
  (k43_9 P p Q y1 y4 y5 y6 y7 y8 y9 v40_54 H (c + 8))
def k43_7 (P : Program) (p : Lab) (Q : VPost) (y1 : AV) (y3 : AV) (y4 : AV) (y5 : AV) (y6 : AV) (y7 : AV) (y8 : AV) (y9 : AV) (y34 : AV) (H : Heap) (c : Nat) : Prop :=
  vSel y34
  (k43_8 P p Q y1 y4 y5 y6 y7 y8 y9 H c)
  (k43_136 P p Q y1 y3 y4 y5 y6 y7 y8 y9 H c)
def k43_137 (P : Program) (p : Lab) (Q : VPost) (y1 : AV) (y3 : AV) (y4 : AV) (y5 : AV) (y6 : AV) (y7 : AV) (y8 : AV) (y9 : AV) (H : Heap) (c : Nat) (_ : Unit) : Prop :=
  vFA 0 y1 fun v32_44 =>
  vLoad 1 false v32_44 H fun v33_45 _ =>
  vBin .lss .num v33_45 (.int .i64 0) fun v34_46 =>
  (k43_7 P p Q y1 y3 y4 y5 y6 y7 y8 y9 v34_46 H (c + 5))
def k43_4 (P : Program) (p : Lab) (Q : VPost) (y1 : AV) (y3 : AV) (y4 : AV) (y5 : AV) (y6 : AV) (y7 : AV) (y8 : AV) (y9 : AV) (y29 : AV) (H : Heap) (c : Nat) : Prop :=
  vSel y29
  (k43_6 P p Q y1 y3 y4 y5 y6 y7 y8 y9 H c)
  (k43_137 P p Q y1 y3 y4 y5 y6 y7 y8 y9 H c)
def k43_138 (P : Program) (p : Lab) (Q : VPost) (v23_22 : AV) (v22_21 : AV) (v21_20 : AV) (H18 : Heap) (w0 : List AV) (c : Nat) (_ : Unit) : Prop :=
  vLoad 1 false (.ptr ((c + 7) :: p) 1 0 0) H18 fun v28_36 _ =>
  vBin .gtr .num v28_36 (.int .i64 16) fun v29_37 =>
  (k43_4 P p Q (.ptr (c :: p) w0.length 0 0) (.ptr ((c + 7) :: p) 1 0 0) (.ptr ((c + 8) :: p) 7 0 0) (.fn (.func 66) [] [(.ptr ((c + 7) :: p) 1 0 0)]) (.ptr ((c + 14) :: p) 2 0 0) v21_20 v22_21 v23_22 v29_37 H18 (c + 31))
def k43_139 (P : Program) (p : Lab) (Q : VPost) (w0 : List AV) (c : Nat) (v20_18 : AV) (H18 : Heap) (l18 : List Lab) (f18 : Option (List Lab)) : Prop :=
  vExt 0 v20_18 fun v21_20 =>
  vExt 1 v20_18 fun v22_21 =>
  vExt 2 v20_18 fun v23_22 =>
  vLoad 1 false (.ptr ((c + 7) :: p) 1 0 0) H18 fun v25_26 _ =>
  vBin .lss .num v25_26 (.int .i64 1) fun v26_27 =>
  vSel v26_27
  (k43_3 P p Q v23_22 v22_21 v21_20 H18 w0 c)
  (k43_138 P p Q v23_22 v22_21 v21_20 H18 w0 c)
def k43_140 (P : Program) (p : Lab) (Q : VPost) (w0 : List AV) (c : Nat) (v_15 : AV) (H15 : Heap) (l15 : List Lab) (f15 : Option (List Lab)) : Prop :=
  vFA 0 (.ptr ((c + 8) :: p) 7 0 0) fun v18_16 =>
  vLoad 1 false v18_16 H15 fun v19_17 _ =>
  vCall P 68 [v19_17] H15 ((c + 18) :: p) (k43_139 P p Q w0 c)
def k43_141 (P : Program) (p : Lab) (Q : VPost) (l9 : List Lab) (f9 : Option (List Lab)) (f6 : Option (List Lab)) (f3 : Option (List Lab)) (w0 : List AV) (c : Nat) (v_10 : AV) (H10 : Heap) (l10 : List Lab) (f10 : Option (List Lab)) : Prop :=
  clashFree [0, 1, 3, 0, 8, 0, 0, 103, 255] (addTr 1 [] ((c + 3) :: p) f3 (addTr 4 [] ((c + 6) :: p) f6 (addTr 5 [((c + 7) :: p)] ((c + 7) :: p) (some []) (addTr 6 [((c + 8) :: p)] ((c + 8) :: p) (some []) (addTr 7 l9 ((c + 9) :: p) f9 (addTr 8 l10 ((c + 10) :: p) f10 [])))))) ∧
  vBuild [(.int .i64 0), (.int .i64 0)] [] [] fun v16_13 =>
  (fun (H14 : Heap) =>
  vGen (.store 2) [(.ptr ((c + 14) :: p) 2 0 0), v16_13] H14 ((c + 15) :: p) (k43_140 P p Q w0 c)) (upd [(((c + 14) :: p), some (.rows 2 [[(.int .i64 0), (.int .i64 0)]]))] H10)
def k43_142 (P : Program) (p : Lab) (Q : VPost) (v14_6 : AV) (f6 : Option (List Lab)) (f3 : Option (List Lab)) (w0 : List AV) (c : Nat) (v_9 : AV) (H9 : Heap) (l9 : List Lab) (f9 : Option (List Lab)) : Prop :=
  vGen (.store 7) [(.ptr ((c + 8) :: p) 7 0 0), v14_6] H9 ((c + 10) :: p) (k43_141 P p Q l9 f9 f6 f3 w0 c)
def V43 (P : Program) (p : Lab) (Q : VPost) (x0 : AV) (H : Heap) (c : Nat) : Prop :=
  vBox x0 fun w0 =>
  (fun (H0 : Heap) =>
  vFA 2 (.ptr (c :: p) w0.length 0 0) fun v10_2 =>
  vLoad 1 false v10_2 H0 fun v11_3 f3 =>
  vLen v11_3 fun v12_4 =>
  vFA 3 (.ptr (c :: p) w0.length 0 0) fun v13_5 =>
  vLoad 7 true v13_5 H0 fun v14_6 f6 =>
  (fun (H7 : Heap) =>
  (fun (H8 : Heap) =>
  vGen (.store 1) [(.ptr ((c + 7) :: p) 1 0 0), v12_4] H8 ((c + 9) :: p) (k43_142 P p Q v14_6 f6 f3 w0 c)) (upd [(((c + 8) :: p), some (.rows 7 [[(.int .i64 0), (.int .i64 0), (.int .i64 0), (.int .i64 0), (.int .i64 0), (.int .i64 0), (.int .i64 0)]]))] H7)) (upd [(((c + 7) :: p), some (.rows 1 [[(.int .i64 0)]]))] H0)) (upd [((c :: p), some (.rows w0.length [w0]))] H)
theorem vt43 (P : Program) (p : Lab) (Q : VPost) (x0 : AV) (H : Heap) (c : Nat) : vc P p c43.body Q [(0, x0)] H c = V43 P p Q x0 H c := by kernel_rfl


/-- duet/mesg.Check$1 -/
def c66 : AFun := ⟨2, 23, [.tmp 3],
  (.seq (.region [⟨(some 2), none, .box, [.t 0]⟩, ⟨(some 3), none, .move, [.c (.bool false)]⟩] none [1, 2])
  (.seq (.region [⟨(some 4), none, (.fieldAddr 0), [.t 2]⟩, ⟨(some 5), none, (.load 1 false), [.t 4]⟩, ⟨(some 6), none, (.bin .gtr .num), [.t 5, .c (.int .i64 0)]⟩, ⟨(some 7), none, .move, [.t 6]⟩, ⟨(some 8), (some (7, true)), (.fieldAddr 0), [.t 2]⟩, ⟨(some 9), (some (7, true)), (.load 1 false), [.t 8]⟩, ⟨(some 10), (some (7, true)), .call, [.c (.fn (.func 67) [] []), .t 9]⟩, ⟨(some 11), none, .pick, [.t 7, .t 10, .c (.bool false)]⟩, ⟨(some 12), none, .move, [.t 11]⟩, ⟨(some 13), (some (12, true)), (.fieldAddr 1), [.t 2]⟩, ⟨(some 14), (some (12, true)), (.load 1 false), [.t 13]⟩, ⟨(some 15), (some (12, true)), (.bin .geq .num), [.t 14, .c (.int .i64 0)]⟩, ⟨(some 16), none, .pick, [.t 12, .t 15, .c (.bool false)]⟩, ⟨(some 17), none, .move, [.t 16]⟩, ⟨(some 18), (some (17, true)), (.fieldAddr 1), [.t 2]⟩, ⟨(some 19), (some (17, true)), (.load 1 false), [.t 18]⟩, ⟨(some 20), (some (17, true)), (.load 1 false), [.t 1]⟩, ⟨(some 21), (some (17, true)), (.bin .lss .num), [.t 19, .t 20]⟩, ⟨(some 22), none, .pick, [.t 17, .t 21, .c (.bool false)]⟩, ⟨(some 3), none, .move, [.t 22]⟩] none [3])
  .ret))⟩
theorem ok66 : FunOk Try.prog 66 c66 := ⟨⟨Try.f66, _, Try.func66, rfl, by kernel_rfl, by kernel_rfl, by kernel_rfl, by kernel_rfl⟩, by decide⟩
theorem res66 : c66.res = [.tmp 3] := rfl
def k66_2 (P : Program) (p : Lab) (Q : VPost) (y3 : AV) (H : Heap) (c : Nat) : Prop :=
  Q .ret [(3, y3)] H c
def k66_3 (P : Program) (p : Lab) (Q : VPost) (y1 : AV) (y2 : AV) (H : Heap) (c : Nat) (_ : Unit) : Prop :=
  vFA 1 y2 fun v18_16 =>
  vLoad 1 false v18_16 H fun v19_17 _ =>
  vLoad 1 false y1 H fun v20_18 _ =>
  vBin .lss .num v19_17 v20_18 fun v21_19 =>
  (k66_2 P p Q v21_19 H (c + 8))
def k66_4 (P : Program) (p : Lab) (Q : VPost)  (H : Heap) (c : Nat) : Prop :=
  Q .ret [(3, (.bool false))] H c
def k66_5 (P : Program) (p : Lab) (Q : VPost) (H : Heap) (c : Nat) (_ : Unit) : Prop :=
  (k66_4 P p Q  H (c + 8))
def k66_1 (P : Program) (p : Lab) (Q : VPost) (y1 : AV) (y2 : AV) (y15 : AV) (H : Heap) (c : Nat) : Prop :=
  vSel y15
  (k66_3 P p Q y1 y2 H c)
  (k66_5 P p Q H c)
def k66_6 (P : Program) (p : Lab) (Q : VPost) (y1 : AV) (y2 : AV) (H : Heap) (c : Nat) (_ : Unit) : Prop :=
  vFA 1 y2 fun v13_11 =>
  vLoad 1 false v13_11 H fun v14_12 _ =>
  vBin .geq .num v14_12 (.int .i64 0) fun v15_13 =>
  (k66_1 P p Q y1 y2 v15_13 H (c + 5))
def k66_7 (P : Program) (p : Lab) (Q : VPost) (y1 : AV) (y2 : AV) (H : Heap) (c : Nat) : Prop :=
  (k66_4 P p Q  H (c + 8))
def k66_8 (P : Program) (p : Lab) (Q : VPost) (y1 : AV) (y2 : AV) (H : Heap) (c : Nat) (_ : Unit) : Prop :=
  (k66_7 P p Q y1 y2 H (c + 5))
def k66_0 (P : Program) (p : Lab) (Q : VPost) (y1 : AV) (y2 : AV) (y10 : AV) (H : Heap) (c : Nat) : Prop :=
  vSel y10
  (k66_6 P p Q y1 y2 H c)
  (k66_8 P p Q y1 y2 H c)
def k66_9 (P : Program) (p : Lab) (Q : VPost) (w0 : List AV) (x1 : AV) (c : Nat) (v10_8 : AV) (H8 : Heap) (l8 : List Lab) (f8 : Option (List Lab)) : Prop :=
  (k66_0 P p Q x1 (.ptr (c :: p) w0.length 0 0) v10_8 H8 (c + 9))
def k66_10 (P : Program) (p : Lab) (Q : VPost) (H0 : Heap) (w0 : List AV) (x1 : AV) (c : Nat) (_ : Unit) : Prop :=
  vFA 0 (.ptr (c :: p) w0.length 0 0) fun v8_6 =>
  vLoad 1 false v8_6 H0 fun v9_7 _ =>
  vCall P 67 [v9_7] H0 ((c + 8) :: p) (k66_9 P p Q w0 x1 c)
def k66_12 (P : Program) (p : Lab) (Q : VPost) (y1 : AV) (y2 : AV) (H : Heap) (c : Nat) : Prop :=
  (k66_4 P p Q  H (c + 8))
def k66_11 (P : Program) (p : Lab) (Q : VPost) (y1 : AV) (y2 : AV) (H : Heap) (c : Nat) : Prop :=
  (k66_12 P p Q y1 y2 H (c + 5))
def k66_13 (P : Program) (p : Lab) (Q : VPost) (H0 : Heap) (w0 : List AV) (x1 : AV) (c : Nat) (_ : Unit) : Prop :=
  (k66_11 P p Q x1 (.ptr (c :: p) w0.length 0 0) H0 (c + 9))
def V66 (P : Program) (p : Lab) (Q : VPost) (x0 x1 : AV) (H : Heap) (c : Nat) : Prop :=
  vBox x0 fun w0 =>
  (fun (H0 : Heap) =>
  vFA 0 (.ptr (c :: p) w0.length 0 0) fun v4_2 =>
  vLoad 1 false v4_2 H0 fun v5_3 _ =>
  vBin .gtr .num v5_3 (.int .i64 0) fun v6_4 =>
  vSel v6_4
  (k66_10 P p Q H0 w0 x1 c)
  (k66_13 P p Q H0 w0 x1 c)) (upd [((c :: p), some (.rows w0.length [w0]))] H)
theorem vt66 (P : Program) (p : Lab) (Q : VPost) (x0 x1 : AV) (H : Heap) (c : Nat) : vc P p c66.body Q [(0, x0), (1, x1)] H c = V66 P p Q x0 x1 H c := by kernel_rfl


/-- duet/mesg.isClock -/
def c67 : AFun := ⟨1, 9, [.tmp 2],
  (.seq (.region [⟨(some 2), none, .move, [.c (.bool false)]⟩] none [0])
  (.seq (.region [⟨(some 3), none, .move, [.t 0]⟩, ⟨(some 4), none, (.bin .geq .num), [.t 3, .c (.int .i64 0)]⟩, ⟨(some 5), none, .move, [.t 4]⟩, ⟨(some 6), (some (5, true)), .move, [.t 0]⟩, ⟨(some 7), (some (5, true)), (.bin .leq .num), [.t 6, .c (.int .i64 4294967295)]⟩, ⟨(some 8), none, .pick, [.t 5, .t 7, .c (.bool false)]⟩, ⟨(some 2), none, .move, [.t 8]⟩] none [2])
  .ret))⟩
theorem ok67 : FunOk Try.prog 67 c67 := ⟨⟨Try.f67, _, Try.func67, rfl, by kernel_rfl, by kernel_rfl, by kernel_rfl, by kernel_rfl⟩, by decide⟩
theorem res67 : c67.res = [.tmp 2] := rfl
def k67_0 (P : Program) (p : Lab) (Q : VPost) (y2 : AV) (H : Heap) (c : Nat) : Prop :=
  Q .ret [(2, y2)] H c
def k67_1 (P : Program) (p : Lab) (Q : VPost) (x0 : AV) (H : Heap) (c : Nat) (_ : Unit) : Prop :=
  vBin .leq .num x0 (.int .i64 4294967295) fun v7_5 =>
  (k67_0 P p Q v7_5 H (c + 8))
def k67_2 (P : Program) (p : Lab) (Q : VPost)  (H : Heap) (c : Nat) : Prop :=
  Q .ret [(2, (.bool false))] H c
def k67_3 (P : Program) (p : Lab) (Q : VPost) (H : Heap) (c : Nat) (_ : Unit) : Prop :=
  (k67_2 P p Q  H (c + 8))
def V67 (P : Program) (p : Lab) (Q : VPost) (x0 : AV) (H : Heap) (c : Nat) : Prop :=
  vBin .geq .num x0 (.int .i64 0) fun v4_2 =>
  vSel v4_2
  (k67_1 P p Q x0 H c)
  (k67_3 P p Q H c)
theorem vt67 (P : Program) (p : Lab) (Q : VPost) (x0 : AV) (H : Heap) (c : Nat) : vc P p c67.body Q [(0, x0)] H c = V67 P p Q x0 H c := by kernel_rfl


/-- duet/mesg.has -/
def c68 : AFun := ⟨1, 15, [.tmp 2, .tmp 3, .tmp 4],
  (.seq (.region [⟨(some 2), none, .move, [.c (.bool false)]⟩, ⟨(some 3), none, .move, [.c (.bool false)]⟩, ⟨(some 4), none, .move, [.c (.bool false)]⟩] none [0])
  (.seq (.region [⟨(some 5), none, .move, [.t 0]⟩, ⟨(some 6), none, (.bin .eql .num), [.t 5, .c (.int .i64 1)]⟩, ⟨(some 7), none, .move, [.t 6]⟩, ⟨(some 8), (some (7, false)), .move, [.t 0]⟩, ⟨(some 9), (some (7, false)), (.bin .eql .num), [.t 8, .c (.int .i64 6)]⟩, ⟨(some 10), none, .pick, [.t 7, .c (.bool true), .t 9]⟩, ⟨(some 11), none, .move, [.t 0]⟩, ⟨(some 12), none, (.bin .neq .num), [.t 11, .c (.int .i64 6)]⟩, ⟨(some 13), none, .move, [.t 0]⟩, ⟨(some 14), none, (.bin .eql .num), [.t 13, .c (.int .i64 1)]⟩, ⟨(some 2), none, .move, [.t 10]⟩, ⟨(some 3), none, .move, [.t 12]⟩, ⟨(some 4), none, .move, [.t 14]⟩] none [2, 3, 4])
  .ret))⟩
theorem ok68 : FunOk Try.prog 68 c68 := ⟨⟨Try.f68, _, Try.func68, rfl, by kernel_rfl, by kernel_rfl, by kernel_rfl, by kernel_rfl⟩, by decide⟩
theorem res68 : c68.res = [.tmp 2, .tmp 3, .tmp 4] := rfl
def k68_0 (P : Program) (p : Lab) (Q : VPost) (y0 : AV) (H : Heap) (c : Nat) : Prop :=
  vBin .neq .num y0 (.int .i64 6) fun v12_8 =>
  vBin .eql .num y0 (.int .i64 1) fun v14_10 =>
  Q .ret [(2, (.bool true)), (3, v12_8), (4, v14_10)] H (c + 8)
def k68_1 (P : Program) (p : Lab) (Q : VPost) (x0 : AV) (H : Heap) (c : Nat) (_ : Unit) : Prop :=
  (k68_0 P p Q x0 H (c + 8))
def k68_2 (P : Program) (p : Lab) (Q : VPost) (y0 : AV) (y9 : AV) (H : Heap) (c : Nat) : Prop :=
  vBin .neq .num y0 (.int .i64 6) fun v12_18 =>
  vBin .eql .num y0 (.int .i64 1) fun v14_20 =>
  Q .ret [(2, y9), (3, v12_18), (4, v14_20)] H (c + 8)
def k68_3 (P : Program) (p : Lab) (Q : VPost) (x0 : AV) (H : Heap) (c : Nat) (_ : Unit) : Prop :=
  vBin .eql .num x0 (.int .i64 6) fun v9_15 =>
  (k68_2 P p Q x0 v9_15 H (c + 8))
def V68 (P : Program) (p : Lab) (Q : VPost) (x0 : AV) (H : Heap) (c : Nat) : Prop :=
  vBin .eql .num x0 (.int .i64 1) fun v6_4 =>
  vSel v6_4
  (k68_1 P p Q x0 H c)
  (k68_3 P p Q x0 H c)
theorem vt68 (P : Program) (p : Lab) (Q : VPost) (x0 : AV) (H : Heap) (c : Nat) : vc P p c68.body Q [(0, x0)] H c = V68 P p Q x0 H c := by kernel_rfl


/-- slices.ContainsFunc[[]int,int] -/
def c69 : AFun := ⟨2, 9, [.tmp 4],
  (.seq (.region [⟨(some 4), none, .move, [.c (.bool false)]⟩] none [0, 1])
  (.seq (.region [⟨(some 5), none, .move, [.t 0]⟩, ⟨(some 6), none, .move, [.t 1]⟩, ⟨(some 7), none, .call, [.c (.fn (.func 84) [] []), .t 5, .t 6]⟩, ⟨(some 8), none, (.bin .geq .num), [.t 7, .c (.int .i64 0)]⟩, ⟨(some 4), none, .move, [.t 8]⟩] none [4])
  .ret))⟩
theorem ok69 : FunOk Try.prog 69 c69 := ⟨⟨Try.f69, _, Try.func69, rfl, by kernel_rfl, by kernel_rfl, by kernel_rfl, by kernel_rfl⟩, by decide⟩
theorem res69 : c69.res = [.tmp 4] := rfl
def V69 (P : Program) (p : Lab) (Q : VPost) (x0 x1 : AV) (H : Heap) (c : Nat) : Prop :=
  vCall P 84 [x0, x1] H ((c + 3) :: p) (fun v7_3 H3 l3 f3 =>
  vBin .geq .num v7_3 (.int .i64 0) fun v8_4 =>
  Q .ret [(4, v8_4)] H3 (c + 6))
theorem vt69 (P : Program) (p : Lab) (Q : VPost) (x0 x1 : AV) (H : Heap) (c : Nat) : vc P p c69.body Q [(0, x0), (1, x1)] H c = V69 P p Q x0 x1 H c := by kernel_rfl


/-- duet/mesg.Check$2 -/
def c70 : AFun := ⟨1, 6, [.tmp 2],
  (.seq (.region [⟨(some 2), none, .move, [.c (.bool false)]⟩] none [0])
  (.seq (.region [⟨(some 3), none, .move, [.t 0]⟩, ⟨(some 4), none, .call, [.c (.fn (.func 67) [] []), .t 3]⟩, ⟨(some 5), none, (.un .not), [.t 4]⟩, ⟨(some 2), none, .move, [.t 5]⟩] none [2])
  .ret))⟩
theorem ok70 : FunOk Try.prog 70 c70 := ⟨⟨Try.f70, _, Try.func70, rfl, by kernel_rfl, by kernel_rfl, by kernel_rfl, by kernel_rfl⟩, by decide⟩
theorem res70 : c70.res = [.tmp 2] := rfl
def V70 (P : Program) (p : Lab) (Q : VPost) (x0 : AV) (H : Heap) (c : Nat) : Prop :=
  vCall P 67 [x0] H ((c + 2) :: p) (fun v4_2 H2 l2 f2 =>
  vNot v4_2 fun v5_3 =>
  Q .ret [(2, v5_3)] H2 (c + 5))
theorem vt70 (P : Program) (p : Lab) (Q : VPost) (x0 : AV) (H : Heap) (c : Nat) : vc P p c70.body Q [(0, x0)] H c = V70 P p Q x0 H c := by kernel_rfl


/-- duet/mesg.Rune -/
def c71 : AFun := ⟨1, 22, [.tmp 2],
  (.seq (.region [⟨(some 2), none, .move, [.c (.bool false)]⟩] none [0])
  (.seq (.block 0 (.seq (.seq (.region [⟨(some 4), none, .move, [.t 0]⟩, ⟨(some 5), none, (.bin .lss .num), [.t 4, .c (.int .i64 32)]⟩, ⟨(some 6), none, .move, [.t 5]⟩, ⟨(some 7), (some (6, false)), .move, [.t 0]⟩, ⟨(some 8), (some (6, false)), (.bin .gtr .num), [.t 7, .c (.int .i64 1114111)]⟩, ⟨(some 9), none, .pick, [.t 6, .c (.bool true), .t 8]⟩, ⟨(some 3), none, .move, [.t 9]⟩] none [0, 3])
  (.cond (.t 3) .skip
  (.seq (.region [⟨(some 10), none, .move, [.t 0]⟩, ⟨(some 11), none, (.bin .geq .num), [.t 10, .c (.int .i64 127)]⟩, ⟨(some 12), none, .move, [.t 11]⟩, ⟨(some 13), (some (12, true)), .move, [.t 0]⟩, ⟨(some 14), (some (12, true)), (.bin .leq .num), [.t 13, .c (.int .i64 159)]⟩, ⟨(some 15), none, .pick, [.t 12, .t 14, .c (.bool false)]⟩, ⟨(some 3), none, .move, [.t 15]⟩] none [0, 3])
  (.cond (.t 3) .skip
  (.region [⟨(some 16), none, .move, [.t 0]⟩, ⟨(some 17), none, (.bin .geq .num), [.t 16, .c (.int .i64 55296)]⟩, ⟨(some 18), none, .move, [.t 17]⟩, ⟨(some 19), (some (18, true)), .move, [.t 0]⟩, ⟨(some 20), (some (18, true)), (.bin .leq .num), [.t 19, .c (.int .i64 57343)]⟩, ⟨(some 21), none, .pick, [.t 18, .t 20, .c (.bool false)]⟩, ⟨(some 3), none, .move, [.t 21]⟩] none [3])))))
  (.cond (.t 3) (.seq (.region [⟨(some 2), none, .move, [.c (.bool false)]⟩] none [2])
  .ret)
  .skip)))
  (.seq (.region [⟨(some 2), none, .move, [.c (.bool true)]⟩] none [2])
  .ret)))⟩
theorem ok71 : FunOk Try.prog 71 c71 := ⟨⟨Try.f71, _, Try.func71, rfl, by kernel_rfl, by kernel_rfl, by kernel_rfl, by kernel_rfl⟩, by decide⟩
theorem res71 : c71.res = [.tmp 2] := rfl
def k71_0 (P : Program) (p : Lab) (Q : VPost) (y0 : AV) (H : Heap) (c : Nat) : Prop :=
  Q .ret [(2, (.bool false))] H (c + 1)
def k71_1 (P : Program) (p : Lab) (Q : VPost) (x0 : AV) (H : Heap) (c : Nat) (_ : Unit) : Prop :=
  (k71_0 P p Q x0 H (c + 8))
def k71_4 (P : Program) (p : Lab) (Q : VPost)  (H : Heap) (c : Nat) : Prop :=
  Q .ret [(2, (.bool false))] H c
def k71_5 (P : Program) (p : Lab) (Q : VPost) (H : Heap) (c : Nat) (_ : Unit) : Prop :=
  (k71_4 P p Q  H (c + 1))
def k71_6 (P : Program) (p : Lab) (Q : VPost) (y0 : AV) (y3 : AV) (H : Heap) (c : Nat) : Prop :=
  Q .ret [(2, (.bool true))] H (c + 1)
def k71_7 (P : Program) (p : Lab) (Q : VPost) (y0 : AV) (y3 : AV) (H : Heap) (c : Nat) (_ : Unit) : Prop :=
  (k71_6 P p Q y0 y3 H c)
def k71_3 (P : Program) (p : Lab) (Q : VPost) (y0 : AV) (y3 : AV) (H : Heap) (c : Nat) : Prop :=
  vSel y3
  (k71_5 P p Q H c)
  (k71_7 P p Q y0 y3 H c)
def k71_8 (P : Program) (p : Lab) (Q : VPost) (y0 : AV) (y3 : AV) (H : Heap) (c : Nat) (_ : Unit) : Prop :=
  (k71_3 P p Q y0 y3 H c)
def k71_11 (P : Program) (p : Lab) (Q : VPost) (y0 : AV) (y3 : AV) (H : Heap) (c : Nat) (_ : Unit) : Prop :=
  (k71_3 P p Q y0 y3 H c)
def k71_14 (P : Program) (p : Lab) (Q : VPost) (H : Heap) (c : Nat) (_ : Unit) : Prop :=
  (k71_4 P p Q  H (c + 1))
def k71_15 (P : Program) (p : Lab) (Q : VPost) (y3 : AV) (H : Heap) (c : Nat) : Prop :=
  Q .ret [(2, (.bool true))] H (c + 1)
def k71_16 (P : Program) (p : Lab) (Q : VPost) (y3 : AV) (H : Heap) (c : Nat) (_ : Unit) : Prop :=
  (k71_15 P p Q y3 H c)
def k71_13 (P : Program) (p : Lab) (Q : VPost) (y3 : AV) (H : Heap) (c : Nat) : Prop :=
  vSel y3
  (k71_14 P p Q H c)
  (k71_16 P p Q y3 H c)
def k71_17 (P : Program) (p : Lab) (Q : VPost) (y0 : AV) (H : Heap) (c : Nat) (_ : Unit) : Prop :=
  vBin .leq .num y0 (.int .i64 57343) fun v20_24 =>
  (k71_13 P p Q v20_24 H (c + 7))
def k71_18 (P : Program) (p : Lab) (Q : VPost)  (H : Heap) (c : Nat) : Prop :=
  Q .ret [(2, (.bool true))] H (c + 1)
def k71_19 (P : Program) (p : Lab) (Q : VPost) (H : Heap) (c : Nat) (_ : Unit) : Prop :=
  (k71_18 P p Q  H (c + 7))
def k71_12 (P : Program) (p : Lab) (Q : VPost) (y0 : AV) (y3 : AV) (H : Heap) (c : Nat) : Prop :=
  vBin .geq .num y0 (.int .i64 55296) fun v17_21 =>
  vSel v17_21
  (k71_17 P p Q y0 H c)
  (k71_19 P p Q H c)
def k71_20 (P : Program) (p : Lab) (Q : VPost) (y0 : AV) (y3 : AV) (H : Heap) (c : Nat) (_ : Unit) : Prop :=
  (k71_12 P p Q y0 y3 H c)
def k71_10 (P : Program) (p : Lab) (Q : VPost) (y0 : AV) (y3 : AV) (H : Heap) (c : Nat) : Prop :=
  vSel y3
  (k71_11 P p Q y0 y3 H c)
  (k71_20 P p Q y0 y3 H c)
def k71_21 (P : Program) (p : Lab) (Q : VPost) (y0 : AV) (H : Heap) (c : Nat) (_ : Unit) : Prop :=
  vBin .leq .num y0 (.int .i64 159) fun v14_17 =>
  (k71_10 P p Q y0 v14_17 H (c + 7))
def k71_23 (P : Program) (p : Lab) (Q : VPost) (y0 : AV) (H : Heap) (c : Nat) (_ : Unit) : Prop :=
  vBin .leq .num y0 (.int .i64 57343) fun v20_38 =>
  (k71_13 P p Q v20_38 H (c + 7))
def k71_24 (P : Program) (p : Lab) (Q : VPost) (H : Heap) (c : Nat) (_ : Unit) : Prop :=
  (k71_18 P p Q  H (c + 7))
def k71_22 (P : Program) (p : Lab) (Q : VPost) (y0 : AV) (H : Heap) (c : Nat) : Prop :=
  vBin .geq .num y0 (.int .i64 55296) fun v17_35 =>
  vSel v17_35
  (k71_23 P p Q y0 H c)
  (k71_24 P p Q H c)
def k71_25 (P : Program) (p : Lab) (Q : VPost) (y0 : AV) (H : Heap) (c : Nat) (_ : Unit) : Prop :=
  (k71_22 P p Q y0 H (c + 7))
def k71_9 (P : Program) (p : Lab) (Q : VPost) (y0 : AV) (y3 : AV) (H : Heap) (c : Nat) : Prop :=
  vBin .geq .num y0 (.int .i64 127) fun v11_14 =>
  vSel v11_14
  (k71_21 P p Q y0 H c)
  (k71_25 P p Q y0 H c)
def k71_26 (P : Program) (p : Lab) (Q : VPost) (y0 : AV) (y3 : AV) (H : Heap) (c : Nat) (_ : Unit) : Prop :=
  (k71_9 P p Q y0 y3 H c)
def k71_2 (P : Program) (p : Lab) (Q : VPost) (y0 : AV) (y3 : AV) (H : Heap) (c : Nat) : Prop :=
  vSel y3
  (k71_8 P p Q y0 y3 H c)
  (k71_26 P p Q y0 y3 H c)
def k71_27 (P : Program) (p : Lab) (Q : VPost) (x0 : AV) (H : Heap) (c : Nat) (_ : Unit) : Prop :=
  vBin .gtr .num x0 (.int .i64 1114111) fun v8_8 =>
  (k71_2 P p Q x0 v8_8 H (c + 8))
def V71 (P : Program) (p : Lab) (Q : VPost) (x0 : AV) (H : Heap) (c : Nat) : Prop :=
  vBin .lss .num x0 (.int .i64 32) fun v5_2 =>
  vSel v5_2
  (k71_1 P p Q x0 H c)
  (k71_27 P p Q x0 H c)
theorem vt71 (P : Program) (p : Lab) (Q : VPost) (x0 : AV) (H : Heap) (c : Nat) : vc P p c71.body Q [(0, x0)] H c = V71 P p Q x0 H c := by kernel_rfl

def b84_1 : ACode := (.seq (.region [⟨(some 9), none, (.bin .lss .num), [.t 8, .t 7]⟩] none [0, 1, 7, 8, 9])
  (.seq (.cond (.t 9) .skip
  (.exit 0))
  (.seq (.block 1 (.seq (.region [⟨(some 10), none, .move, [.t 8]⟩, ⟨(some 5), none, .move, [.t 10]⟩] none [0, 1, 5, 7, 8])
  (.seq (.region [⟨(some 11), none, .move, [.t 1]⟩, ⟨(some 12), none, .move, [.t 0]⟩, ⟨(some 13), none, .move, [.t 5]⟩, ⟨(some 14), none, (.indexAddr 1), [.t 12, .t 13]⟩, ⟨(some 15), none, (.load 1 false), [.t 14]⟩, ⟨(some 16), none, .call, [.t 11, .t 15]⟩] none [0, 1, 5, 7, 8, 16])
  (.cond (.t 16) (.seq (.region [⟨(some 17), none, .move, [.t 5]⟩, ⟨(some 4), none, .move, [.t 17]⟩] none [4])
  .ret)
  .skip))))
  (.region [⟨(some 18), none, (.bin .add .num), [.t 8, .c (.int .i64 1)]⟩, ⟨(some 8), none, .move, [.t 18]⟩] none [0, 1, 7, 8]))))
def l84_1 : ACode := .loop [0, 1, 7, 8] b84_1
def r84_2 : ACode := (.seq (.region [⟨(some 4), none, .move, [.c (.int .i64 (-1))]⟩] none [4])
  .ret)
/-- slices.IndexFunc[[]int,int] -/
def c84 : AFun := ⟨2, 19, [.tmp 4],
  (.seq (.region [⟨(some 4), none, .move, [.c (.int .i64 0)]⟩] none [0, 1])
  (.seq (.seq (.region [⟨(some 6), none, .move, [.t 0]⟩, ⟨(some 7), none, (.len .slice), [.t 6]⟩, ⟨(some 8), none, .move, [.c (.int .i64 0)]⟩] none [0, 1, 7, 8])
  (.block 0 l84_1)) r84_2))⟩
theorem ok84 : FunOk Try.prog 84 c84 := ⟨⟨Try.f84, _, Try.func84, rfl, by kernel_rfl, by kernel_rfl, by kernel_rfl, by kernel_rfl⟩, by decide⟩
theorem res84 : c84.res = [.tmp 4] := rfl
def q84_0 (P : Program) (p : Lab) (Q : VPost) : VPost := (vblockQ 0 (vseqQ (vc P p r84_2 Q) Q))
theorem q84_0_ret (P : Program) (p : Lab) (Q : VPost) (r : RL) (H : Heap) (c : Nat) : q84_0 P p Q .ret r H c = Q .ret r H c := rfl
def V84 (P : Program) (p : Lab) (Q : VPost) (x0 x1 : AV) (H : Heap) (c : Nat) : Prop :=
  vLen x0 fun v7_2 =>
  vc P p l84_1 (q84_0 P p Q) [(0, x0), (1, x1), (7, v7_2), (8, (.int .i64 0))] H (c + 4)
theorem vt84 (P : Program) (p : Lab) (Q : VPost) (x0 x1 : AV) (H : Heap) (c : Nat) : vc P p c84.body Q [(0, x0), (1, x1)] H c = V84 P p Q x0 x1 H c := by kernel_rfl
def k84_1 (P : Program) (p : Lab) (Q : VPost) (y4 : AV) (H : Heap) (c : Nat) : Prop :=
  Q .ret [(4, y4)] H c
def k84_2 (P : Program) (p : Lab) (Q : VPost) (H12 : Heap) (y8 : AV) (c : Nat) (_ : Unit) : Prop :=
  (k84_1 P p Q y8 H12 (c + 10))
def k84_3 (P : Program) (p : Lab) (Q : VPost) (y0 : AV) (y1 : AV) (y5 : AV) (y7 : AV) (y8 : AV) (y16 : AV) (H : Heap) (c : Nat) : Prop :=
  vBin .add .num y8 (.int .i64 1) fun v18_15 =>
  Q .normal [(0, y0), (1, y1), (7, y7), (8, v18_15)] H (c + 2)
def k84_4 (P : Program) (p : Lab) (Q : VPost) (v16_12 : AV) (H12 : Heap) (y0 : AV) (y1 : AV) (y7 : AV) (y8 : AV) (c : Nat) (_ : Unit) : Prop :=
  (k84_3 P p Q y0 y1 y8 y7 y8 v16_12 H12 (c + 8))
def k84_5 (P : Program) (p : Lab) (Q : VPost) (y0 : AV) (y1 : AV) (y7 : AV) (y8 : AV) (c : Nat) (v16_12 : AV) (H12 : Heap) (l12 : List Lab) (f12 : Option (List Lab)) : Prop :=
  vSel v16_12
  (k84_2 P p Q H12 y8 c)
  (k84_4 P p Q v16_12 H12 y0 y1 y7 y8 c)
def k84_0 (P : Program) (p : Lab) (Q : VPost) (y0 : AV) (y1 : AV) (y7 : AV) (y8 : AV) (y9 : AV) (H : Heap) (c : Nat) : Prop :=
  vIx 1 y0 y8 fun v14_10 =>
  vLoad 1 false v14_10 H fun v15_11 _ =>
  vop P .call [y1, v15_11] H ((c + 7) :: p) (k84_5 P p Q y0 y1 y7 y8 c)
def k84_6 (P : Program) (p : Lab) (Q : VPost) (v9_4 : AV) (x0 : AV) (x1 : AV) (x7 : AV) (x8 : AV) (H : Heap) (c : Nat) (_ : Unit) : Prop :=
  (k84_0 P p Q x0 x1 x7 x8 v9_4 H (c + 1))
def V84_1 (P : Program) (p : Lab) (Q : VPost) (x0 x1 x7 x8 : AV) (H : Heap) (c : Nat) : Prop :=
  vBin .lss .num x8 x7 fun v9_4 =>
  vSel v9_4
  (k84_6 P p Q v9_4 x0 x1 x7 x8 H c)
  (fun _ =>
  Q (.exit 0) [(0, x0), (1, x1), (7, x7), (8, x8), (9, v9_4)] H (c + 1))
theorem vt84_1 (P : Program) (p : Lab) (Q : VPost) (x0 x1 x7 x8 : AV) (H : Heap) (c : Nat) : vc P p b84_1 Q [(0, x0), (1, x1), (7, x7), (8, x8)] H c = V84_1 P p Q x0 x1 x7 x8 H c := by kernel_rfl
theorem q84_0_e0 (P : Program) (p : Lab) (Q : VPost) (r : RL) (H : Heap) (c : Nat) : q84_0 P p Q (.exit 0) r H c = (vc P p r84_2 Q r H c) := rfl
def V84_2 (P : Program) (p : Lab) (Q : VPost) (x0 x1 x7 x8 x9 : AV) (H : Heap) (c : Nat) : Prop :=
  Q .ret [(4, (.int .i64 (-1)))] H (c + 1)
theorem vt84_2 (P : Program) (p : Lab) (Q : VPost) (x0 x1 x7 x8 x9 : AV) (H : Heap) (c : Nat) : vc P p r84_2 Q [(0, x0), (1, x1), (7, x7), (8, x8), (9, x9)] H c = V84_2 P p Q x0 x1 x7 x8 x9 H c := by kernel_rfl


/-- slices.Clone[[]int,int] -/
def c72 : AFun := ⟨1, 8, [.tmp 2],
  (.seq (.region [⟨(some 2), none, .move, [.c .nils]⟩] none [0])
  (.seq (.seq (.region [⟨(some 3), none, .move, [.t 0]⟩, ⟨(some 4), none, (.bin .eql .slice), [.t 3, .c .nils]⟩] none [0, 4])
  (.cond (.t 4) (.seq (.region [⟨(some 2), none, .move, [.c .nils]⟩] none [2])
  .ret)
  .skip))
  (.seq (.region [⟨(some 5), none, (.buildSlice 1 [] []), []⟩, ⟨(some 6), none, .move, [.t 0]⟩, ⟨(some 7), none, (.append 1 8), [.t 5, .t 6]⟩, ⟨(some 2), none, .move, [.t 7]⟩] none [2])
  .ret)))⟩
theorem ok72 : FunOk Try.prog 72 c72 := ⟨⟨Try.f72, _, Try.func72, rfl, by kernel_rfl, by kernel_rfl, by kernel_rfl, by kernel_rfl⟩, by decide⟩
theorem res72 : c72.res = [.tmp 2] := rfl
def k72_0 (P : Program) (p : Lab) (Q : VPost)  (H : Heap) (c : Nat) : Prop :=
  Q .ret [(2, .nils)] H c
def k72_1 (P : Program) (p : Lab) (Q : VPost) (H : Heap) (c : Nat) (_ : Unit) : Prop :=
  (k72_0 P p Q  H (c + 4))
def k72_2 (P : Program) (p : Lab) (Q : VPost) (y0 : AV) (y4 : AV) (H : Heap) (c : Nat) : Prop :=
  vBuildS 1 [] [] [] fun w4 n4 =>
  (fun (H4 : Heap) =>
  vGen (.append 1 8) [(.sl (c :: p) 1 0 n4), y0] H4 ((c + 2) :: p) (fun v7_6 H6 l6 f6 =>
  Q .ret [(2, v7_6)] H6 (c + 4))) (upd [((c :: p), some (.rows 1 w4))] H)
def k72_3 (P : Program) (p : Lab) (Q : VPost) (v4_2 : AV) (x0 : AV) (H : Heap) (c : Nat) (_ : Unit) : Prop :=
  (k72_2 P p Q x0 v4_2 H (c + 3))
def V72 (P : Program) (p : Lab) (Q : VPost) (x0 : AV) (H : Heap) (c : Nat) : Prop :=
  vEqS x0 .nils fun v4_2 =>
  vSel v4_2
  (k72_1 P p Q H c)
  (k72_3 P p Q v4_2 x0 H c)
theorem vt72 (P : Program) (p : Lab) (Q : VPost) (x0 : AV) (H : Heap) (c : Nat) : vc P p c72.body Q [(0, x0)] H c = V72 P p Q x0 H c := by kernel_rfl


/-- duet/resend.copied -/
def c44 : AFun := ⟨1, 8, [.cell 2 10 true],
  (.seq (.region [⟨(some 1), none, .box, [.t 0]⟩, ⟨(some 2), none, (.alloc [(.int .i64 0), (.int .i64 0), .nils, (.int .i64 0), (.int .i64 0), (.int .i64 0), (.int .i64 0), (.int .i64 0), (.int .i64 0), (.int .i64 0)]), []⟩] none [1, 2])
  (.seq (.region [⟨(some 3), none, (.fieldAddr 2), [.t 1]⟩, ⟨(some 4), none, (.load 1 false), [.t 3]⟩, ⟨(some 5), none, .call, [.c (.fn (.func 72) [] []), .t 4]⟩, ⟨(some 6), none, (.fieldAddr 2), [.t 1]⟩, ⟨none, none, (.store 1), [.t 6, .t 5]⟩] none [1, 2])
  (.seq (.region [⟨(some 7), none, (.load 10 true), [.t 1]⟩, ⟨none, none, (.store 10), [.t 2, .t 7]⟩] none [2])
  .ret)))⟩
theorem ok44 : FunOk Try.prog 44 c44 := ⟨⟨Try.f44, _, Try.func44, rfl, by kernel_rfl, by kernel_rfl, by kernel_rfl, by kernel_rfl⟩, by decide⟩
theorem res44 : c44.res = [.cell 2 10 true] := rfl
def k44_0 (P : Program) (p : Lab) (Q : VPost) (w0 : List AV) (c : Nat) (v_6 : AV) (H6 : Heap) (l6 : List Lab) (f6 : Option (List Lab)) : Prop :=
  vLoad 10 true (.ptr (c :: p) w0.length 0 0) H6 fun v7_7 _ =>
  vGen (.store 10) [(.ptr ((c + 1) :: p) 10 0 0), v7_7] H6 ((c + 8) :: p) (fun v_8 H8 l8 f8 =>
  Q .ret [(2, (.ptr ((c + 1) :: p) 10 0 0))] H8 (c + 9))
def k44_1 (P : Program) (p : Lab) (Q : VPost) (w0 : List AV) (c : Nat) (v5_4 : AV) (H4 : Heap) (l4 : List Lab) (f4 : Option (List Lab)) : Prop :=
  vFA 2 (.ptr (c :: p) w0.length 0 0) fun v6_5 =>
  vGen (.store 1) [v6_5, v5_4] H4 ((c + 6) :: p) (k44_0 P p Q w0 c)
def V44 (P : Program) (p : Lab) (Q : VPost) (x0 : AV) (H : Heap) (c : Nat) : Prop :=
  vBox x0 fun w0 =>
  (fun (H0 : Heap) =>
  (fun (H1 : Heap) =>
  vFA 2 (.ptr (c :: p) w0.length 0 0) fun v3_2 =>
  vLoad 1 false v3_2 H1 fun v4_3 _ =>
  vCall P 72 [v4_3] H1 ((c + 4) :: p) (k44_1 P p Q w0 c)) (upd [(((c + 1) :: p), some (.rows 10 [[(.int .i64 0), (.int .i64 0), .nils, (.int .i64 0), (.int .i64 0), (.int .i64 0), (.int .i64 0), (.int .i64 0), (.int .i64 0), (.int .i64 0)]]))] H0)) (upd [((c :: p), some (.rows w0.length [w0]))] H)
theorem vt44 (P : Program) (p : Lab) (Q : VPost) (x0 : AV) (H : Heap) (c : Nat) : vc P p c44.body Q [(0, x0)] H c = V44 P p Q x0 H c := by kernel_rfl


/-- duet/duetref04.Copy -/
def c45 : AFun := ⟨1, 10, [.cell 2 10 true],
  (.seq (.region [⟨(some 1), none, .box, [.t 0]⟩, ⟨(some 2), none, (.alloc [(.int .i64 0), (.int .i64 0), .nils, (.int .i64 0), (.int .i64 0), (.int .i64 0), (.int .i64 0), (.int .i64 0), (.int .i64 0), (.int .i64 0)]), []⟩] none [1, 2])
  (.seq (.region [⟨(some 4), none, (.load 10 true), [.t 1]⟩, ⟨(some 3), none, (.alloc [(.int .i64 0), (.int .i64 0), .nils, (.int .i64 0), (.int .i64 0), (.int .i64 0), (.int .i64 0), (.int .i64 0), (.int .i64 0), (.int .i64 0)]), []⟩, ⟨none, none, (.store 10), [.t 3, .t 4]⟩] none [1, 2, 3])
  (.seq (.region [⟨(some 5), none, (.fieldAddr 2), [.t 1]⟩, ⟨(some 6), none, (.load 1 false), [.t 5]⟩, ⟨(some 7), none, (.append 1 8), [.c .nils, .t 6]⟩, ⟨(some 8), none, (.fieldAddr 2), [.t 3]⟩, ⟨none, none, (.store 1), [.t 8, .t 7]⟩] none [2, 3])
  (.seq (.region [⟨(some 9), none, (.load 10 true), [.t 3]⟩, ⟨none, none, (.store 10), [.t 2, .t 9]⟩] none [2])
  .ret))))⟩
theorem ok45 : FunOk Try.prog 45 c45 := ⟨⟨Try.f45, _, Try.func45, rfl, by kernel_rfl, by kernel_rfl, by kernel_rfl, by kernel_rfl⟩, by decide⟩
theorem res45 : c45.res = [.cell 2 10 true] := rfl
def k45_0 (P : Program) (p : Lab) (Q : VPost) (c : Nat) (v_9 : AV) (H9 : Heap) (l9 : List Lab) (f9 : Option (List Lab)) : Prop :=
  vLoad 10 true (.ptr ((c + 3) :: p) 10 0 0) H9 fun v9_10 _ =>
  vGen (.store 10) [(.ptr ((c + 1) :: p) 10 0 0), v9_10] H9 ((c + 11) :: p) (fun v_11 H11 l11 f11 =>
  Q .ret [(2, (.ptr ((c + 1) :: p) 10 0 0))] H11 (c + 12))
def k45_1 (P : Program) (p : Lab) (Q : VPost) (c : Nat) (v7_7 : AV) (H7 : Heap) (l7 : List Lab) (f7 : Option (List Lab)) : Prop :=
  vFA 2 (.ptr ((c + 3) :: p) 10 0 0) fun v8_8 =>
  vGen (.store 1) [v8_8, v7_7] H7 ((c + 9) :: p) (k45_0 P p Q c)
def k45_2 (P : Program) (p : Lab) (Q : VPost) (w0 : List AV) (c : Nat) (v_4 : AV) (H4 : Heap) (l4 : List Lab) (f4 : Option (List Lab)) : Prop :=
  vFA 2 (.ptr (c :: p) w0.length 0 0) fun v5_5 =>
  vLoad 1 false v5_5 H4 fun v6_6 _ =>
  vGen (.append 1 8) [.nils, v6_6] H4 ((c + 7) :: p) (k45_1 P p Q c)
def V45 (P : Program) (p : Lab) (Q : VPost) (x0 : AV) (H : Heap) (c : Nat) : Prop :=
  vBox x0 fun w0 =>
  (fun (H0 : Heap) =>
  (fun (H1 : Heap) =>
  vLoad 10 true (.ptr (c :: p) w0.length 0 0) H1 fun v4_2 _ =>
  (fun (H3 : Heap) =>
  vGen (.store 10) [(.ptr ((c + 3) :: p) 10 0 0), v4_2] H3 ((c + 4) :: p) (k45_2 P p Q w0 c)) (upd [(((c + 3) :: p), some (.rows 10 [[(.int .i64 0), (.int .i64 0), .nils, (.int .i64 0), (.int .i64 0), (.int .i64 0), (.int .i64 0), (.int .i64 0), (.int .i64 0), (.int .i64 0)]]))] H1)) (upd [(((c + 1) :: p), some (.rows 10 [[(.int .i64 0), (.int .i64 0), .nils, (.int .i64 0), (.int .i64 0), (.int .i64 0), (.int .i64 0), (.int .i64 0), (.int .i64 0), (.int .i64 0)]]))] H0)) (upd [((c :: p), some (.rows w0.length [w0]))] H)
theorem vt45 (P : Program) (p : Lab) (Q : VPost) (x0 : AV) (H : Heap) (c : Nat) : vc P p c45.body Q [(0, x0)] H c = V45 P p Q x0 H c := by kernel_rfl


/-- slices.Clone[duet/vec.Vec,int] -/
def c64 : AFun := ⟨1, 8, [.tmp 2],
  (.seq (.region [⟨(some 2), none, .move, [.c .nils]⟩] none [0])
  (.seq (.seq (.region [⟨(some 3), none, .move, [.t 0]⟩, ⟨(some 4), none, (.bin .eql .slice), [.t 3, .c .nils]⟩] none [0, 4])
  (.cond (.t 4) (.seq (.region [⟨(some 2), none, .move, [.c .nils]⟩] none [2])
  .ret)
  .skip))
  (.seq (.region [⟨(some 5), none, (.buildSlice 1 [] []), []⟩, ⟨(some 6), none, .move, [.t 0]⟩, ⟨(some 7), none, (.append 1 8), [.t 5, .t 6]⟩, ⟨(some 2), none, .move, [.t 7]⟩] none [2])
  .ret)))⟩
theorem ok64 : FunOk Try.prog 64 c64 := ⟨⟨Try.f64, _, Try.func64, rfl, by kernel_rfl, by kernel_rfl, by kernel_rfl, by kernel_rfl⟩, by decide⟩
theorem res64 : c64.res = [.tmp 2] := rfl
def k64_0 (P : Program) (p : Lab) (Q : VPost)  (H : Heap) (c : Nat) : Prop :=
  Q .ret [(2, .nils)] H c
def k64_1 (P : Program) (p : Lab) (Q : VPost) (H : Heap) (c : Nat) (_ : Unit) : Prop :=
  (k64_0 P p Q  H (c + 4))
def k64_2 (P : Program) (p : Lab) (Q : VPost) (y0 : AV) (y4 : AV) (H : Heap) (c : Nat) : Prop :=
  vBuildS 1 [] [] [] fun w4 n4 =>
  (fun (H4 : Heap) =>
  vGen (.append 1 8) [(.sl (c :: p) 1 0 n4), y0] H4 ((c + 2) :: p) (fun v7_6 H6 l6 f6 =>
  Q .ret [(2, v7_6)] H6 (c + 4))) (upd [((c :: p), some (.rows 1 w4))] H)
def k64_3 (P : Program) (p : Lab) (Q : VPost) (v4_2 : AV) (x0 : AV) (H : Heap) (c : Nat) (_ : Unit) : Prop :=
  (k64_2 P p Q x0 v4_2 H (c + 3))
def V64 (P : Program) (p : Lab) (Q : VPost) (x0 : AV) (H : Heap) (c : Nat) : Prop :=
  vEqS x0 .nils fun v4_2 =>
  vSel v4_2
  (k64_1 P p Q H c)
  (k64_3 P p Q v4_2 x0 H c)
theorem vt64 (P : Program) (p : Lab) (Q : VPost) (x0 : AV) (H : Heap) (c : Nat) : vc P p c64.body Q [(0, x0)] H c = V64 P p Q x0 H c := by kernel_rfl



end Go.Proofs.Ytoajcigegjhiaaa
