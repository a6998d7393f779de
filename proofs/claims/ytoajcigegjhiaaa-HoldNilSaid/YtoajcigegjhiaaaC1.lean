/- The program's functions in the abstract machine's terms. -/
import Derived.Test.YtoajcigegjhiaaaA22
import Derived.Test.YtoajcigegjhiaaaProg
import Derived.KernelRfl
namespace Go.Proofs.Ytoajcigegjhiaaa
set_option maxRecDepth 100000
/-- duet/duetlaw07.HoldNil -/
def c8 : AFun := ⟨1, 57, [.tmp 2],
  (.seq (.region [⟨(some 1), none, .box, [.t 0]⟩, ⟨(some 2), none, .move, [.c (.bool false)]⟩] none [1])
  (.seq (.seq (.region [⟨(some 7), none, (.fieldAddr 2), [.t 1]⟩, ⟨(some 8), none, (.load 1 false), [.t 7]⟩, ⟨(some 9), none, (.len .slice), [.t 8]⟩, ⟨(some 10), none, (.bin .gtr .num), [.t 9, .c (.int .i64 30)]⟩] none [1, 10])
  (.cond (.t 10) (.seq (.region [⟨(some 11), none, .call, [.c (.fn (.func 30) [] [])]⟩, ⟨(some 2), none, .move, [.t 11]⟩] none [2])
  .ret)
  .skip))
  (.seq (.region [⟨(some 13), none, .call, [.c (.fn (.func 31) [] []), .c (.int .i64 0), .c (.int .i64 5)]⟩, ⟨(some 12), none, .move, [.t 13]⟩, ⟨(some 14), none, (.extract 0), [.t 12]⟩, ⟨(some 15), none, (.extract 1), [.t 12]⟩, ⟨(some 3), none, .move, [.t 14]⟩, ⟨(some 4), none, .move, [.t 15]⟩] none [1, 3, 4])
  (.seq (.region [⟨(some 17), none, .move, [.t 3]⟩, ⟨(some 18), none, (.load 10 true), [.t 1]⟩, ⟨(some 19), none, .call, [.c (.fn (.func 33) [] []), .t 17, .t 18]⟩, ⟨(some 16), none, .move, [.t 19]⟩, ⟨(some 20), none, (.extract 0), [.t 16]⟩, ⟨(some 21), none, (.extract 1), [.t 16]⟩, ⟨(some 5), none, .move, [.t 20]⟩, ⟨(some 6), none, .move, [.t 21]⟩] none [3, 4, 5, 6])
  (.seq (.region [⟨(some 22), none, .move, [.t 3]⟩, ⟨(some 23), none, (.bin .eql .ptr), [.t 22, .c .nilp]⟩, ⟨(some 24), none, .move, [.t 23]⟩, ⟨(some 25), (some (24, true)), .move, [.t 4]⟩, ⟨(some 26), (some (24, true)), (.bin .eql .num), [.t 25, .c (.int .i64 1)]⟩, ⟨(some 27), none, .pick, [.t 24, .t 26, .c (.bool false)]⟩, ⟨(some 28), none, .move, [.t 27]⟩, ⟨(some 29), (some (28, true)), .move, [.t 5]⟩, ⟨(some 30), (some (28, true)), (.len .slice), [.t 29]⟩, ⟨(some 31), (some (28, true)), (.bin .eql .num), [.t 30, .c (.int .i64 0)]⟩, ⟨(some 32), none, .pick, [.t 28, .t 31, .c (.bool false)]⟩, ⟨(some 33), none, .move, [.t 32]⟩, ⟨(some 34), (some (33, true)), .move, [.t 6]⟩, ⟨(some 35), (some (33, true)), (.bin .eql .num), [.t 34, .c (.int .i64 1)]⟩, ⟨(some 36), none, .pick, [.t 33, .t 35, .c (.bool false)]⟩, ⟨(some 37), none, .move, [.t 36]⟩, ⟨(some 38), (some (37, true)), .move, [.t 3]⟩, ⟨(some 39), (some (37, true)), .call, [.c (.fn (.func 38) [] []), .t 38]⟩, ⟨(some 40), (some (37, true)), (.len .slice), [.t 39]⟩, ⟨(some 41), (some (37, true)), (.bin .eql .num), [.t 40, .c (.int .i64 0)]⟩, ⟨(some 42), none, .pick, [.t 37, .t 41, .c (.bool false)]⟩, ⟨(some 43), none, .move, [.t 42]⟩, ⟨(some 44), (some (43, true)), .move, [.t 3]⟩, ⟨(some 45), (some (43, true)), .call, [.c (.fn (.func 39) [] []), .t 44]⟩, ⟨(some 46), (some (43, true)), (.len .slice), [.t 45]⟩, ⟨(some 47), (some (43, true)), (.bin .eql .num), [.t 46, .c (.int .i64 0)]⟩, ⟨(some 48), none, .pick, [.t 43, .t 47, .c (.bool false)]⟩, ⟨(some 49), none, .move, [.t 48]⟩, ⟨(some 50), (some (49, true)), .move, [.t 3]⟩, ⟨(some 51), (some (49, true)), .call, [.c (.fn (.func 36) [] []), .t 50]⟩, ⟨(some 52), (some (49, true)), (.bin .eql .num), [.t 51, .c (.int .i64 0)]⟩, ⟨(some 53), none, .pick, [.t 49, .t 52, .c (.bool false)]⟩, ⟨(some 54), none, .move, [.t 53]⟩, ⟨(some 55), (some (54, true)), .call, [.c (.fn (.func 30) [] [])]⟩, ⟨(some 56), none, .pick, [.t 54, .t 55, .c (.bool false)]⟩, ⟨(some 2), none, .move, [.t 56]⟩] none [2])
  .ret)))))⟩
theorem ok8 : FunOk Try.prog 8 c8 := ⟨⟨Try.f8, _, Try.func8, rfl, by kernel_rfl, by kernel_rfl, by kernel_rfl, by kernel_rfl⟩, by decide⟩
/-- duet/duetlaw07.live -/
def c30 : AFun := ⟨0, 116, [.tmp 0],
  (.seq (.region [⟨(some 0), none, .move, [.c (.bool false)]⟩] none [])
  (.seq (.region [⟨(some 15), none, .call, [.c (.fn (.func 31) [] []), .c (.int .i64 2), .c (.int .i64 2)]⟩, ⟨(some 14), none, .move, [.t 15]⟩, ⟨(some 16), none, (.extract 0), [.t 14]⟩, ⟨(some 17), none, (.extract 1), [.t 14]⟩, ⟨(some 1), none, .move, [.t 16]⟩, ⟨(some 2), none, .move, [.t 17]⟩] none [1, 2])
  (.seq (.region [⟨(some 19), none, .call, [.c (.fn (.func 31) [] []), .c (.int .i64 0), .c (.int .i64 2)]⟩, ⟨(some 18), none, .move, [.t 19]⟩, ⟨(some 20), none, (.extract 0), [.t 18]⟩, ⟨(some 21), none, (.extract 1), [.t 18]⟩, ⟨(some 3), none, .move, [.t 20]⟩, ⟨(some 4), none, .move, [.t 21]⟩] none [1, 2, 4])
  (.seq (.seq (.region [⟨(some 22), none, .move, [.t 1]⟩, ⟨(some 23), none, (.bin .eql .ptr), [.t 22, .c .nilp]⟩, ⟨(some 24), none, .move, [.t 23]⟩, ⟨(some 25), (some (24, false)), .move, [.t 2]⟩, ⟨(some 26), (some (24, false)), (.bin .neq .num), [.t 25, .c (.int .i64 0)]⟩, ⟨(some 27), none, .pick, [.t 24, .c (.bool true), .t 26]⟩, ⟨(some 28), none, .move, [.t 27]⟩, ⟨(some 29), (some (28, false)), .move, [.t 4]⟩, ⟨(some 30), (some (28, false)), (.bin .neq .num), [.t 29, .c (.int .i64 1)]⟩, ⟨(some 31), none, .pick, [.t 28, .c (.bool true), .t 30]⟩] none [1, 31])
  (.cond (.t 31) (.seq (.region [⟨(some 0), none, .move, [.c (.bool false)]⟩] none [0])
  .ret)
  .skip))
  (.seq (.region [⟨(some 33), none, .move, [.t 1]⟩, ⟨(some 34), none, (.buildSlice 1 [(.int .i64 0), (.int .i64 0)] [(0, 1), (1, 1)]), [.c (.int .i64 1), .c (.int .i64 0)]⟩, ⟨(some 35), none, .call, [.c (.fn (.func 42) [] []), .c (.int .i64 1), .c (.int .i64 1), .t 34]⟩, ⟨(some 36), none, .call, [.c (.fn (.func 33) [] []), .t 33, .t 35]⟩, ⟨(some 32), none, .move, [.t 36]⟩, ⟨(some 37), none, (.extract 0), [.t 32]⟩, ⟨(some 38), none, (.extract 1), [.t 32]⟩, ⟨(some 5), none, .move, [.t 37]⟩, ⟨(some 6), none, .move, [.t 38]⟩] none [1, 5, 6])
  (.seq (.region [⟨(some 39), none, .move, [.t 1]⟩, ⟨(some 40), none, .call, [.c (.fn (.func 39) [] []), .t 39]⟩, ⟨(some 7), none, .move, [.t 40]⟩] none [1, 5, 6, 7])
  (.seq (.region [⟨(some 42), none, .move, [.t 1]⟩, ⟨(some 43), none, (.buildSlice 1 [(.int .i64 0), (.int .i64 0)] [(0, 1), (1, 1)]), [.c (.int .i64 1), .c (.int .i64 0)]⟩, ⟨(some 44), none, .call, [.c (.fn (.func 42) [] []), .c (.int .i64 1), .c (.int .i64 1), .t 43]⟩, ⟨(some 45), none, .call, [.c (.fn (.func 33) [] []), .t 42, .t 44]⟩, ⟨(some 41), none, .move, [.t 45]⟩, ⟨(some 46), none, (.extract 0), [.t 41]⟩, ⟨(some 47), none, (.extract 1), [.t 41]⟩, ⟨(some 8), none, .move, [.t 46]⟩, ⟨(some 9), none, .move, [.t 47]⟩] none [1, 5, 6, 7, 9])
  (.seq (.region [⟨(some 49), none, .move, [.t 1]⟩, ⟨(some 50), none, (.buildSlice 1 [(.int .i64 0), (.int .i64 0)] [(0, 1), (1, 1)]), [.c (.int .i64 0), .c (.int .i64 0)]⟩, ⟨(some 51), none, .call, [.c (.fn (.func 42) [] []), .c (.int .i64 0), .c (.int .i64 1), .t 50]⟩, ⟨(some 52), none, .call, [.c (.fn (.func 33) [] []), .t 49, .t 51]⟩, ⟨(some 48), none, .move, [.t 52]⟩, ⟨(some 53), none, (.extract 0), [.t 48]⟩, ⟨(some 54), none, (.extract 1), [.t 48]⟩, ⟨(some 10), none, .move, [.t 53]⟩, ⟨(some 11), none, .move, [.t 54]⟩] none [1, 5, 6, 7, 9, 10, 11])
  (.seq (.region [⟨(some 56), none, .move, [.t 1]⟩, ⟨(some 57), none, (.buildSlice 1 [(.int .i64 0), (.int .i64 0)] [(0, 1), (1, 1)]), [.c (.int .i64 0), .c (.int .i64 0)]⟩, ⟨(some 58), none, .call, [.c (.fn (.func 42) [] []), .c (.int .i64 0), .c (.int .i64 1), .t 57]⟩, ⟨(some 59), none, .call, [.c (.fn (.func 33) [] []), .t 56, .t 58]⟩, ⟨(some 55), none, .move, [.t 59]⟩, ⟨(some 60), none, (.extract 0), [.t 55]⟩, ⟨(some 61), none, (.extract 1), [.t 55]⟩, ⟨(some 12), none, .move, [.t 60]⟩, ⟨(some 13), none, .move, [.t 61]⟩] none [1, 5, 6, 7, 9, 10, 11, 13])
  (.seq (.region [⟨(some 62), none, .move, [.t 5]⟩, ⟨(some 63), none, (.len .slice), [.t 62]⟩, ⟨(some 64), none, (.bin .eql .num), [.t 63, .c (.int .i64 0)]⟩, ⟨(some 65), none, .move, [.t 64]⟩, ⟨(some 66), (some (65, true)), .move, [.t 6]⟩, ⟨(some 67), (some (65, true)), (.bin .eql .num), [.t 66, .c (.int .i64 0)]⟩, ⟨(some 68), none, .pick, [.t 65, .t 67, .c (.bool false)]⟩, ⟨(some 69), none, .move, [.t 68]⟩, ⟨(some 70), (some (69, true)), .move, [.t 7]⟩, ⟨(some 71), (some (69, true)), (.buildSlice 1 [(.int .i64 0), (.int .i64 0)] [(0, 1), (1, 1)]), [.c (.int .i64 1), .c (.int .i64 1)]⟩, ⟨(some 72), (some (69, true)), .call, [.c (.fn (.func 37) [] []), .t 70, .t 71]⟩, ⟨(some 73), none, .pick, [.t 69, .t 72, .c (.bool false)]⟩, ⟨(some 74), none, .move, [.t 73]⟩, ⟨(some 75), (some (74, true)), .move, [.t 9]⟩, ⟨(some 76), (some (74, true)), (.bin .eql .num), [.t 75, .c (.int .i64 7)]⟩, ⟨(some 77), none, .pick, [.t 74, .t 76, .c (.bool false)]⟩, ⟨(some 78), none, .move, [.t 77]⟩, ⟨(some 79), (some (78, true)), .move, [.t 10]⟩, ⟨(some 80), (some (78, true)), (.len .slice), [.t 79]⟩, ⟨(some 81), (some (78, true)), (.bin .eql .num), [.t 80, .c (.int .i64 2)]⟩, ⟨(some 82), none, .pick, [.t 78, .t 81, .c (.bool false)]⟩, ⟨(some 83), none, .move, [.t 82]⟩, ⟨(some 84), (some (83, true)), .move, [.t 10]⟩, ⟨(some 85), (some (83, true)), (.indexAddr 10), [.t 84, .c (.int .i64 0)]⟩, ⟨(some 86), (some (83, true)), (.fieldAddr 0), [.t 85]⟩, ⟨(some 87), (some (83, true)), (.load 1 false), [.t 86]⟩, ⟨(some 88), (some (83, true)), (.bin .eql .num), [.t 87, .c (.int .i64 0)]⟩, ⟨(some 89), none, .pick, [.t 83, .t 88, .c (.bool false)]⟩, ⟨(some 90), none, .move, [.t 89]⟩, ⟨(some 91), (some (90, true)), .move, [.t 10]⟩, ⟨(some 92), (some (90, true)), (.indexAddr 10), [.t 91, .c (.int .i64 1)]⟩, ⟨(some 93), (some (90, true)), (.fieldAddr 0), [.t 92]⟩, ⟨(some 94), (some (90, true)), (.load 1 false), [.t 93]⟩, ⟨(some 95), (some (90, true)), (.bin .eql .num), [.t 94, .c (.int .i64 1)]⟩, ⟨(some 96), none, .pick, [.t 90, .t 95, .c (.bool false)]⟩, ⟨(some 97), none, .move, [.t 96]⟩, ⟨(some 98), (some (97, true)), .move, [.t 11]⟩, ⟨(some 99), (some (97, true)), (.bin .eql .num), [.t 98, .c (.int .i64 0)]⟩, ⟨(some 100), none, .pick, [.t 97, .t 99, .c (.bool false)]⟩, ⟨(some 101), none, .move, [.t 100]⟩, ⟨(some 102), (some (101, true)), .move, [.t 13]⟩, ⟨(some 103), (some (101, true)), (.bin .eql .num), [.t 102, .c (.int .i64 7)]⟩, ⟨(some 104), none, .pick, [.t 101, .t 103, .c (.bool false)]⟩, ⟨(some 105), none, .move, [.t 104]⟩, ⟨(some 106), (some (105, true)), .move, [.t 1]⟩, ⟨(some 107), (some (105, true)), .call, [.c (.fn (.func 38) [] []), .t 106]⟩, ⟨(some 108), (some (105, true)), (.buildSlice 1 [(.int .i64 0), (.int .i64 0)] [(0, 1), (1, 1)]), [.c (.int .i64 1), .c (.int .i64 1)]⟩, ⟨(some 109), (some (105, true)), .call, [.c (.fn (.func 37) [] []), .t 107, .t 108]⟩, ⟨(some 110), none, .pick, [.t 105, .t 109, .c (.bool false)]⟩, ⟨(some 111), none, .move, [.t 110]⟩, ⟨(some 112), (some (111, true)), .move, [.t 1]⟩, ⟨(some 113), (some (111, true)), .call, [.c (.fn (.func 36) [] []), .t 112]⟩, ⟨(some 114), (some (111, true)), (.bin .eql .num), [.t 113, .c (.int .i64 0)]⟩, ⟨(some 115), none, .pick, [.t 111, .t 114, .c (.bool false)]⟩, ⟨(some 0), none, .move, [.t 115]⟩] none [0])
  .ret))))))))))⟩
theorem ok30 : FunOk Try.prog 30 c30 := ⟨⟨Try.f30, _, Try.func30, rfl, by kernel_rfl, by kernel_rfl, by kernel_rfl, by kernel_rfl⟩, by decide⟩
/-- duet/hold.New -/
def c31 : AFun := ⟨2, 29, [.tmp 4, .tmp 5],
  (.seq (.region [⟨(some 4), none, .move, [.c .nilp]⟩, ⟨(some 5), none, .move, [.c (.int .i64 0)]⟩] none [0, 1])
  (.seq (.region [⟨(some 9), none, .move, [.t 0]⟩, ⟨(some 10), none, .call, [.c (.fn (.func 54) [] []), .t 9]⟩, ⟨(some 8), none, .move, [.t 10]⟩, ⟨(some 11), none, (.extract 0), [.t 8]⟩, ⟨(some 12), none, (.extract 1), [.t 8]⟩, ⟨(some 6), none, .move, [.t 11]⟩, ⟨(some 7), none, .move, [.t 12]⟩] none [0, 1, 6, 7])
  (.seq (.seq (.region [⟨(some 13), none, .move, [.t 7]⟩, ⟨(some 14), none, (.bin .neq .num), [.t 13, .c (.int .i64 0)]⟩, ⟨(some 15), none, .move, [.t 14]⟩, ⟨(some 16), (some (15, false)), .move, [.t 1]⟩, ⟨(some 17), (some (15, false)), (.bin .lss .num), [.t 16, .c (.int .i64 0)]⟩, ⟨(some 18), none, .pick, [.t 15, .c (.bool true), .t 17]⟩, ⟨(some 19), none, .move, [.t 18]⟩, ⟨(some 20), (some (19, false)), .move, [.t 1]⟩, ⟨(some 21), (some (19, false)), (.bin .gtr .num), [.t 20, .c (.int .i64 1000)]⟩, ⟨(some 22), none, .pick, [.t 19, .c (.bool true), .t 21]⟩] none [0, 1, 6, 22])
  (.cond (.t 22) (.seq (.region [⟨(some 4), none, .move, [.c .nilp]⟩, ⟨(some 5), none, .move, [.c (.int .i64 1)]⟩] none [4, 5])
  .ret)
  .skip))
  (.seq (.region [⟨(some 23), none, .move, [.t 6]⟩, ⟨(some 24), none, .move, [.t 1]⟩, ⟨(some 25), none, .move, [.t 0]⟩, ⟨(some 26), none, (.mkslice 1 [.nils] 24), [.t 25, .t 25]⟩, ⟨(some 27), none, (.build [.nils, (.int .i64 0), .nils, (.int .i64 0)] [(0, 1), (1, 1), (2, 1)]), [.t 23, .t 24, .t 26]⟩, ⟨(some 28), none, .box, [.t 27]⟩, ⟨(some 4), none, .move, [.t 28]⟩, ⟨(some 5), none, .move, [.c (.int .i64 0)]⟩] none [4, 5])
  .ret))))⟩
theorem ok31 : FunOk Try.prog 31 c31 := ⟨⟨Try.f31, _, Try.func31, rfl, by kernel_rfl, by kernel_rfl, by kernel_rfl, by kernel_rfl⟩, by decide⟩
/-- (*duet/hold.Hold).Put -/
def c33 : AFun := ⟨2, 108, [.tmp 4, .tmp 5],
  (.seq (.region [⟨(some 3), none, .box, [.t 1]⟩, ⟨(some 4), none, .move, [.c .nils]⟩, ⟨(some 5), none, .move, [.c (.int .i64 0)]⟩] none [0, 3])
  (.seq (.seq (.region [⟨(some 9), none, .move, [.t 0]⟩, ⟨(some 10), none, (.bin .eql .ptr), [.t 9, .c .nilp]⟩, ⟨(some 11), none, .move, [.t 10]⟩, ⟨(some 12), (some (11, false)), (.load 10 true), [.t 3]⟩, ⟨(some 13), (some (11, false)), .call, [.c (.fn (.func 43) [] []), .t 12]⟩, ⟨(some 14), (some (11, false)), (.bin .neq .num), [.t 13, .c (.int .i64 0)]⟩, ⟨(some 15), none, .pick, [.t 11, .c (.bool true), .t 14]⟩, ⟨(some 16), none, .move, [.t 15]⟩, ⟨(some 17), (some (16, false)), (.fieldAddr 2), [.t 3]⟩, ⟨(some 18), (some (16, false)), (.load 1 false), [.t 17]⟩, ⟨(some 19), (some (16, false)), (.len .slice), [.t 18]⟩, ⟨(some 20), (some (16, false)), .move, [.t 0]⟩, ⟨(some 21), (some (16, false)), .nilCheck, [.t 20]⟩, ⟨(some 22), (some (16, false)), (.fieldAddr 0), [.t 21]⟩, ⟨(some 23), (some (16, false)), (.load 1 false), [.t 22]⟩, ⟨(some 24), (some (16, false)), (.len .slice), [.t 23]⟩, ⟨(some 25), (some (16, false)), (.bin .neq .num), [.t 19, .t 24]⟩, ⟨(some 26), none, .pick, [.t 16, .c (.bool true), .t 25]⟩] (some [0, 1, 3, 7, 15, 31, 63, 127, 255, 511, 1023, 255, 2303, 6399, 14591, 30975, 65535, 131071]) [0, 3, 26])
  (.cond (.t 26) (.seq (.region [⟨(some 4), none, .move, [.c .nils]⟩, ⟨(some 5), none, .move, [.c (.int .i64 1)]⟩] none [4, 5])
  .ret)
  .skip))
  (.seq (.region [⟨(some 27), none, .move, [.t 0]⟩, ⟨(some 28), none, .nilCheck, [.t 27]⟩, ⟨(some 29), none, (.fieldAddr 2), [.t 28]⟩, ⟨(some 30), none, (.load 1 false), [.t 29]⟩, ⟨(some 31), none, (.fieldAddr 0), [.t 3]⟩, ⟨(some 32), none, (.load 1 false), [.t 31]⟩, ⟨(some 33), none, (.indexAddr 1), [.t 30, .t 32]⟩, ⟨(some 34), none, (.load 1 false), [.t 33]⟩, ⟨(some 6), none, .move, [.t 34]⟩] (some [0, 1, 3, 7, 0, 16, 63, 127, 255]) [0, 3, 6])
  (.seq (.region [⟨(some 36), none, .move, [.t 6]⟩, ⟨(some 37), none, (.fieldAddr 1), [.t 3]⟩, ⟨(some 38), none, (.load 1 false), [.t 37]⟩, ⟨(some 39), none, .call, [.c (.fn (.func 55) [] []), .t 36, .t 38, .c (.fn (.func 56) [] [])]⟩, ⟨(some 35), none, .move, [.t 39]⟩, ⟨(some 40), none, (.extract 0), [.t 35]⟩, ⟨(some 41), none, (.extract 1), [.t 35]⟩, ⟨(some 7), none, .move, [.t 40]⟩, ⟨(some 8), none, .move, [.t 41]⟩] none [0, 3, 6, 7, 8])
  (.seq (.block 0 (.seq (.seq (.region [⟨(some 43), none, .move, [.t 0]⟩, ⟨(some 44), none, .nilCheck, [.t 43]⟩, ⟨(some 45), none, (.fieldAddr 0), [.t 44]⟩, ⟨(some 46), none, (.load 1 false), [.t 45]⟩, ⟨(some 47), none, (.fieldAddr 0), [.t 3]⟩, ⟨(some 48), none, (.load 1 false), [.t 47]⟩, ⟨(some 49), none, (.fieldAddr 1), [.t 3]⟩, ⟨(some 50), none, (.load 1 false), [.t 49]⟩, ⟨(some 51), none, .call, [.c (.fn (.func 47) [] []), .t 46, .t 48, .t 50]⟩, ⟨(some 42), none, .move, [.t 51]⟩] (some [0, 1, 3, 7, 0, 16, 0, 64, 255, 511]) [0, 3, 6, 7, 8, 42])
  (.cond (.t 42) .skip
  (.region [⟨(some 52), none, .move, [.t 8]⟩, ⟨(some 53), none, .move, [.t 52]⟩, ⟨(some 54), (some (53, true)), .move, [.t 6]⟩, ⟨(some 55), (some (53, true)), .move, [.t 7]⟩, ⟨(some 56), (some (53, true)), (.indexAddr 10), [.t 54, .t 55]⟩, ⟨(some 57), (some (53, true)), (.load 10 true), [.t 56]⟩, ⟨(some 58), (some (53, true)), (.load 10 true), [.t 3]⟩, ⟨(some 59), (some (53, true)), .call, [.c (.fn (.func 57) [] []), .t 57, .t 58]⟩, ⟨(some 60), none, .pick, [.t 53, .t 59, .c (.bool false)]⟩, ⟨(some 42), none, .move, [.t 60]⟩] (some [0, 1, 3, 3, 15, 31, 3, 127, 255, 511]) [0, 3, 6, 7, 8, 42])))
  (.cond (.t 42) (.seq (.region [⟨(some 4), none, .move, [.c .nils]⟩, ⟨(some 5), none, .move, [.c (.int .i64 7)]⟩] none [4, 5])
  .ret)
  (.seq (.region [⟨(some 62), none, .move, [.t 8]⟩, ⟨(some 61), none, .move, [.t 62]⟩] none [0, 3, 6, 7, 61])
  (.cond (.t 61) (.seq (.region [⟨(some 63), none, .move, [.t 6]⟩, ⟨(some 64), none, .move, [.t 7]⟩, ⟨(some 65), none, (.load 10 true), [.t 3]⟩, ⟨(some 66), none, .call, [.c (.fn (.func 58) [] []), .t 65]⟩, ⟨(some 67), none, (.indexAddr 10), [.t 63, .t 64]⟩, ⟨none, none, (.store 10), [.t 67, .t 66]⟩] none [0])
  (.seq (.region [⟨(some 68), none, .move, [.t 0]⟩, ⟨(some 69), none, .call, [.c (.fn (.func 59) [] []), .t 68]⟩, ⟨(some 4), none, .move, [.t 69]⟩, ⟨(some 5), none, .move, [.c (.int .i64 0)]⟩] none [4, 5])
  .ret))
  (.seq (.region [⟨(some 71), none, .move, [.t 0]⟩, ⟨(some 72), none, .nilCheck, [.t 71]⟩, ⟨(some 73), none, (.fieldAddr 3), [.t 72]⟩, ⟨(some 74), none, (.load 1 false), [.t 73]⟩, ⟨(some 75), none, .move, [.t 0]⟩, ⟨(some 76), none, .nilCheck, [.t 75]⟩, ⟨(some 77), none, (.fieldAddr 1), [.t 76]⟩, ⟨(some 78), none, (.load 1 false), [.t 77]⟩, ⟨(some 79), none, (.bin .geq .num), [.t 74, .t 78]⟩, ⟨(some 80), none, .move, [.t 79]⟩, ⟨(some 81), (some (80, true)), .move, [.t 0]⟩, ⟨(some 82), (some (80, true)), (.load 10 true), [.t 3]⟩, ⟨(some 83), (some (80, true)), .call, [.c (.fn (.func 60) [] []), .t 81, .t 82]⟩, ⟨(some 84), (some (80, true)), (.un .not), [.t 83]⟩, ⟨(some 85), none, .pick, [.t 80, .t 84, .c (.bool false)]⟩, ⟨(some 70), none, .move, [.t 85]⟩] (some [0, 1, 3, 7, 0, 16, 48, 112, 255, 511, 1023, 1023, 4095, 8191, 16383, 32767]) [0, 3, 6, 7, 70])
  (.cond (.t 70) (.seq (.region [⟨(some 4), none, .move, [.c .nils]⟩, ⟨(some 5), none, .move, [.c (.int .i64 5)]⟩] none [4, 5])
  .ret)
  .skip)))))))
  (.seq (.region [⟨(some 86), none, .move, [.t 0]⟩, ⟨(some 87), none, .nilCheck, [.t 86]⟩, ⟨(some 88), none, (.fieldAddr 2), [.t 87]⟩, ⟨(some 89), none, (.load 1 false), [.t 88]⟩, ⟨(some 90), none, (.fieldAddr 0), [.t 3]⟩, ⟨(some 91), none, (.load 1 false), [.t 90]⟩, ⟨(some 92), none, .move, [.t 6]⟩, ⟨(some 93), none, .move, [.t 7]⟩, ⟨(some 94), none, (.load 10 true), [.t 3]⟩, ⟨(some 95), none, .call, [.c (.fn (.func 58) [] []), .t 94]⟩, ⟨(some 96), none, (.buildSlice 10 [(.int .i64 0), (.int .i64 0), .nils, (.int .i64 0), (.int .i64 0), (.int .i64 0), (.int .i64 0), (.int .i64 0), (.int .i64 0), (.int .i64 0)] [(0, 10)]), [.t 95]⟩, ⟨(some 97), none, .call, [.c (.fn (.func 61) [] []), .t 92, .t 93, .t 96]⟩, ⟨(some 98), none, (.indexAddr 1), [.t 89, .t 91]⟩, ⟨none, none, (.store 1), [.t 98, .t 97]⟩] (some [0, 1, 3, 7, 0, 16, 0, 0, 0, 256, 768, 1984, 4095, 8191]) [0])
  (.seq (.region [⟨(some 99), none, .move, [.t 0]⟩, ⟨(some 100), none, .nilCheck, [.t 99]⟩, ⟨(some 101), none, (.fieldAddr 3), [.t 100]⟩, ⟨(some 102), none, (.load 1 false), [.t 101]⟩, ⟨(some 103), none, (.bin .add .num), [.t 102, .c (.int .i64 1)]⟩, ⟨(some 104), none, .nilCheck, [.t 99]⟩, ⟨(some 105), none, (.fieldAddr 3), [.t 104]⟩, ⟨none, none, (.store 1), [.t 105, .t 103]⟩] none [0])
  (.seq (.region [⟨(some 106), none, .move, [.t 0]⟩, ⟨(some 107), none, .call, [.c (.fn (.func 59) [] []), .t 106]⟩, ⟨(some 4), none, .move, [.t 107]⟩, ⟨(some 5), none, .move, [.c (.int .i64 0)]⟩] none [4, 5])
  .ret))))))))⟩
theorem ok33 : FunOk Try.prog 33 c33 := ⟨⟨Try.f33, _, Try.func33, rfl, by kernel_rfl, by kernel_rfl, by kernel_rfl, by kernel_rfl⟩, by decide⟩
/-- (*duet/hold.Hold).Waits -/
def c36 : AFun := ⟨1, 9, [.tmp 2],
  (.seq (.region [⟨(some 2), none, .move, [.c (.int .i64 0)]⟩] none [0])
  (.seq (.seq (.region [⟨(some 3), none, .move, [.t 0]⟩, ⟨(some 4), none, (.bin .eql .ptr), [.t 3, .c .nilp]⟩] none [0, 4])
  (.cond (.t 4) (.seq (.region [⟨(some 2), none, .move, [.c (.int .i64 0)]⟩] none [2])
  .ret)
  .skip))
  (.seq (.region [⟨(some 5), none, .move, [.t 0]⟩, ⟨(some 6), none, .nilCheck, [.t 5]⟩, ⟨(some 7), none, (.fieldAddr 3), [.t 6]⟩, ⟨(some 8), none, (.load 1 false), [.t 7]⟩, ⟨(some 2), none, .move, [.t 8]⟩] none [2])
  .ret)))⟩
theorem ok36 : FunOk Try.prog 36 c36 := ⟨⟨Try.f36, _, Try.func36, rfl, by kernel_rfl, by kernel_rfl, by kernel_rfl, by kernel_rfl⟩, by decide⟩
/-- duet/duetref01.Same -/
def c37 : AFun := ⟨2, 26, [.tmp 4],
  (.seq (.region [⟨(some 4), none, .move, [.c (.bool false)]⟩] none [0, 1])
  (.seq (.seq (.region [⟨(some 6), none, .move, [.t 0]⟩, ⟨(some 7), none, (.len .slice), [.t 6]⟩, ⟨(some 8), none, .move, [.t 1]⟩, ⟨(some 9), none, (.len .slice), [.t 8]⟩, ⟨(some 10), none, (.bin .neq .num), [.t 7, .t 9]⟩] none [0, 1, 10])
  (.cond (.t 10) (.seq (.region [⟨(some 4), none, .move, [.c (.bool false)]⟩] none [4])
  .ret)
  .skip))
  (.seq (.seq (.region [⟨(some 5), none, .move, [.c (.int .i64 0)]⟩] none [0, 1, 5])
  (.block 0 (.loop [0, 1, 5] (.seq (.seq (.region [⟨(some 11), none, .move, [.t 5]⟩, ⟨(some 12), none, .move, [.t 0]⟩, ⟨(some 13), none, (.len .slice), [.t 12]⟩, ⟨(some 14), none, (.bin .lss .num), [.t 11, .t 13]⟩] none [0, 1, 5, 14])
  (.cond (.t 14) .skip
  (.exit 0)))
  (.seq (.block 1 (.seq (.region [⟨(some 17), none, .move, [.t 0]⟩, ⟨(some 18), none, .move, [.t 5]⟩, ⟨(some 19), none, (.indexAddr 1), [.t 17, .t 18]⟩, ⟨(some 20), none, (.load 1 false), [.t 19]⟩, ⟨(some 21), none, .move, [.t 1]⟩, ⟨(some 22), none, .move, [.t 5]⟩, ⟨(some 23), none, (.indexAddr 1), [.t 21, .t 22]⟩, ⟨(some 24), none, (.load 1 false), [.t 23]⟩, ⟨(some 25), none, (.bin .neq .num), [.t 20, .t 24]⟩] (some [0, 0, 3, 7, 0, 0, 48, 112, 255]) [0, 1, 5, 25])
  (.cond (.t 25) (.seq (.region [⟨(some 4), none, .move, [.c (.bool false)]⟩] none [4])
  .ret)
  .skip)))
  (.region [⟨(some 15), none, .move, [.t 5]⟩, ⟨(some 16), none, (.bin .add .num), [.t 15, .c (.int .i64 1)]⟩, ⟨(some 5), none, .move, [.t 16]⟩] none [0, 1, 5]))))))
  (.seq (.region [⟨(some 4), none, .move, [.c (.bool true)]⟩] none [4])
  .ret))))⟩
theorem ok37 : FunOk Try.prog 37 c37 := ⟨⟨Try.f37, _, Try.func37, rfl, by kernel_rfl, by kernel_rfl, by kernel_rfl, by kernel_rfl⟩, by decide⟩
/-- (*duet/hold.Hold).Clock -/
def c38 : AFun := ⟨1, 10, [.tmp 2],
  (.seq (.region [⟨(some 2), none, .move, [.c .nils]⟩] none [0])
  (.seq (.seq (.region [⟨(some 3), none, .move, [.t 0]⟩, ⟨(some 4), none, (.bin .eql .ptr), [.t 3, .c .nilp]⟩] none [0, 4])
  (.cond (.t 4) (.seq (.region [⟨(some 2), none, .move, [.c .nils]⟩] none [2])
  .ret)
  .skip))
  (.seq (.region [⟨(some 5), none, .move, [.t 0]⟩, ⟨(some 6), none, .nilCheck, [.t 5]⟩, ⟨(some 7), none, (.fieldAddr 0), [.t 6]⟩, ⟨(some 8), none, (.load 1 false), [.t 7]⟩, ⟨(some 9), none, .call, [.c (.fn (.func 64) [] []), .t 8]⟩, ⟨(some 2), none, .move, [.t 9]⟩] none [2])
  .ret)))⟩
theorem ok38 : FunOk Try.prog 38 c38 := ⟨⟨Try.f38, _, Try.func38, rfl, by kernel_rfl, by kernel_rfl, by kernel_rfl, by kernel_rfl⟩, by decide⟩
/-- (*duet/hold.Hold).Known -/
def c39 : AFun := ⟨1, 48, [.tmp 2],
  (.seq (.region [⟨(some 2), none, .move, [.c .nils]⟩] none [0])
  (.seq (.seq (.region [⟨(some 8), none, .move, [.t 0]⟩, ⟨(some 9), none, (.bin .eql .ptr), [.t 8, .c .nilp]⟩] none [0, 9])
  (.cond (.t 9) (.seq (.region [⟨(some 2), none, .move, [.c .nils]⟩] none [2])
  .ret)
  .skip))
  (.seq (.region [⟨(some 10), none, .move, [.t 0]⟩, ⟨(some 11), none, .call, [.c (.fn (.func 38) [] []), .t 10]⟩, ⟨(some 3), none, .move, [.t 11]⟩] none [0, 3])
  (.seq (.seq (.region [⟨(some 12), none, .move, [.t 0]⟩, ⟨(some 13), none, .nilCheck, [.t 12]⟩, ⟨(some 14), none, (.fieldAddr 2), [.t 13]⟩, ⟨(some 15), none, (.load 1 false), [.t 14]⟩, ⟨(some 16), none, (.len .slice), [.t 15]⟩, ⟨(some 17), none, .move, [.c (.int .i64 0)]⟩] none [3, 15, 16, 17])
  (.block 0 (.loop [3, 15, 16, 17] (.seq (.region [⟨(some 18), none, (.bin .lss .num), [.t 17, .t 16]⟩] none [3, 15, 16, 17, 18])
  (.seq (.cond (.t 18) .skip
  (.exit 0))
  (.seq (.block 1 (.seq (.region [⟨(some 19), none, .move, [.t 17]⟩, ⟨(some 20), none, (.indexAddr 1), [.t 15, .t 17]⟩, ⟨(some 21), none, (.load 1 false), [.t 20]⟩, ⟨(some 4), none, .move, [.t 19]⟩, ⟨(some 5), none, .move, [.t 21]⟩] none [3, 4, 5, 15, 16, 17])
  (.seq (.region [⟨(some 22), none, .move, [.t 5]⟩, ⟨(some 23), none, (.len .slice), [.t 22]⟩, ⟨(some 24), none, .move, [.c (.int .i64 0)]⟩] none [3, 4, 15, 16, 17, 22, 23, 24])
  (.block 2 (.loop [3, 4, 15, 16, 17, 22, 23, 24] (.seq (.region [⟨(some 25), none, (.bin .lss .num), [.t 24, .t 23]⟩] none [3, 4, 15, 16, 17, 22, 23, 24, 25])
  (.seq (.cond (.t 25) .skip
  (.exit 2))
  (.seq (.block 3 (.seq (.region [⟨(some 26), none, (.indexAddr 10), [.t 22, .t 24]⟩, ⟨(some 27), none, (.load 10 true), [.t 26]⟩, ⟨(some 7), none, (.alloc [(.int .i64 0), (.int .i64 0), .nils, (.int .i64 0), (.int .i64 0), (.int .i64 0), (.int .i64 0), (.int .i64 0), (.int .i64 0), (.int .i64 0)]), []⟩, ⟨none, none, (.store 10), [.t 7, .t 27]⟩] none [3, 4, 7, 15, 16, 17, 22, 23, 24])
  (.seq (.region [⟨(some 29), none, .move, [.t 3]⟩, ⟨(some 30), none, (.fieldAddr 2), [.t 7]⟩, ⟨(some 31), none, (.load 1 false), [.t 30]⟩, ⟨(some 32), none, .call, [.c (.fn (.func 65) [] []), .t 29, .t 31]⟩, ⟨(some 28), none, .move, [.t 32]⟩, ⟨(some 33), none, (.extract 0), [.t 28]⟩, ⟨(some 34), none, (.extract 1), [.t 28]⟩, ⟨(some 3), none, .move, [.t 33]⟩] none [3, 4, 7, 15, 16, 17, 22, 23, 24])
  (.region [⟨(some 35), none, .move, [.t 3]⟩, ⟨(some 36), none, .move, [.t 4]⟩, ⟨(some 37), none, .move, [.t 3]⟩, ⟨(some 38), none, .move, [.t 4]⟩, ⟨(some 39), none, (.indexAddr 1), [.t 37, .t 38]⟩, ⟨(some 40), none, (.load 1 false), [.t 39]⟩, ⟨(some 41), none, (.fieldAddr 1), [.t 7]⟩, ⟨(some 42), none, (.load 1 false), [.t 41]⟩, ⟨(some 43), none, .max, [.t 40, .t 42]⟩, ⟨(some 44), none, (.indexAddr 1), [.t 35, .t 36]⟩, ⟨none, none, (.store 1), [.t 44, .t 43]⟩] (some [0, 0, 0, 0, 12, 28, 0, 64, 252, 511, 1023]) [3, 4, 15, 16, 17, 22, 23, 24]))))
  (.region [⟨(some 45), none, (.bin .add .num), [.t 24, .c (.int .i64 1)]⟩, ⟨(some 24), none, .move, [.t 45]⟩] none [3, 4, 15, 16, 17, 22, 23, 24])))))))))
  (.region [⟨(some 46), none, (.bin .add .num), [.t 17, .c (.int .i64 1)]⟩, ⟨(some 17), none, .move, [.t 46]⟩] none [3, 15, 16, 17])))))))
  (.seq (.region [⟨(some 47), none, .move, [.t 3]⟩, ⟨(some 2), none, .move, [.t 47]⟩] none [2])
  .ret)))))⟩
theorem ok39 : FunOk Try.prog 39 c39 := ⟨⟨Try.f39, _, Try.func39, rfl, by kernel_rfl, by kernel_rfl, by kernel_rfl, by kernel_rfl⟩, by decide⟩
/-- duet/duetlaw07.caret -/
def c42 : AFun := ⟨3, 12, [.cell 6 10 true],
  (.seq (.region [⟨(some 6), none, (.alloc [(.int .i64 0), (.int .i64 0), .nils, (.int .i64 0), (.int .i64 0), (.int .i64 0), (.int .i64 0), (.int .i64 0), (.int .i64 0), (.int .i64 0)]), []⟩] none [0, 1, 2, 6])
  (.seq (.region [⟨(some 7), none, .move, [.t 0]⟩, ⟨(some 8), none, .move, [.t 1]⟩, ⟨(some 9), none, .move, [.t 2]⟩, ⟨(some 10), none, (.build [(.int .i64 0), (.int .i64 0), (.int .i64 0), (.int .i64 0), (.int .i64 0), (.int .i64 0), (.int .i64 0)] [(0, 1)]), [.c (.int .i64 5)]⟩, ⟨(some 11), none, (.build [(.int .i64 0), (.int .i64 0), .nils, (.int .i64 0), (.int .i64 0), (.int .i64 0), (.int .i64 0), (.int .i64 0), (.int .i64 0), (.int .i64 0)] [(0, 1), (1, 1), (2, 1), (3, 7)]), [.t 7, .t 8, .t 9, .t 10]⟩, ⟨none, none, (.store 10), [.t 6, .t 11]⟩] none [6])
  .ret))⟩
theorem ok42 : FunOk Try.prog 42 c42 := ⟨⟨Try.f42, _, Try.func42, rfl, by kernel_rfl, by kernel_rfl, by kernel_rfl, by kernel_rfl⟩, by decide⟩
/-- duet/mesg.Check -/
def c43 : AFun := ⟨1, 166, [.tmp 2],
  (.seq (.region [⟨(some 1), none, .box, [.t 0]⟩, ⟨(some 2), none, .move, [.c (.int .i64 0)]⟩] none [1])
  (.seq (.region [⟨(some 10), none, (.fieldAddr 2), [.t 1]⟩, ⟨(some 11), none, (.load 1 false), [.t 10]⟩, ⟨(some 12), none, (.len .slice), [.t 11]⟩, ⟨(some 13), none, (.fieldAddr 3), [.t 1]⟩, ⟨(some 14), none, (.load 7 true), [.t 13]⟩, ⟨(some 3), none, (.alloc [(.int .i64 0)]), []⟩, ⟨(some 4), none, (.alloc [(.int .i64 0), (.int .i64 0), (.int .i64 0), (.int .i64 0), (.int .i64 0), (.int .i64 0), (.int .i64 0)]), []⟩, ⟨none, none, (.store 1), [.t 3, .t 12]⟩, ⟨none, none, (.store 7), [.t 4, .t 14]⟩] (some [0, 1, 3, 0, 8, 0, 0, 103, 255]) [1, 3, 4])
  (.seq (.region [⟨(some 15), none, (.mkfn (.func 66) 0), [.t 3]⟩, ⟨(some 5), none, .move, [.t 15]⟩] none [1, 3, 4, 5])
  (.seq (.region [⟨(some 16), none, (.build [(.int .i64 0), (.int .i64 0)] []), []⟩, ⟨(some 6), none, (.alloc [(.int .i64 0), (.int .i64 0)]), []⟩, ⟨none, none, (.store 2), [.t 6, .t 16]⟩] none [1, 3, 4, 5, 6])
  (.seq (.region [⟨(some 18), none, (.fieldAddr 0), [.t 4]⟩, ⟨(some 19), none, (.load 1 false), [.t 18]⟩, ⟨(some 20), none, .call, [.c (.fn (.func 68) [] []), .t 19]⟩, ⟨(some 17), none, .move, [.t 20]⟩, ⟨(some 21), none, (.extract 0), [.t 17]⟩, ⟨(some 22), none, (.extract 1), [.t 17]⟩, ⟨(some 23), none, (.extract 2), [.t 17]⟩, ⟨(some 7), none, .move, [.t 21]⟩, ⟨(some 8), none, .move, [.t 22]⟩, ⟨(some 9), none, .move, [.t 23]⟩] none [1, 3, 4, 5, 6, 7, 8, 9])
  (.seq (.block 0 (.seq (.seq (.region [⟨(some 25), none, (.load 1 false), [.t 3]⟩, ⟨(some 26), none, (.bin .lss .num), [.t 25, .c (.int .i64 1)]⟩, ⟨(some 27), none, .move, [.t 26]⟩, ⟨(some 28), (some (27, false)), (.load 1 false), [.t 3]⟩, ⟨(some 29), (some (27, false)), (.bin .gtr .num), [.t 28, .c (.int .i64 16)]⟩, ⟨(some 30), none, .pick, [.t 27, .c (.bool true), .t 29]⟩, ⟨(some 31), none, .move, [.t 30]⟩, ⟨(some 32), (some (31, false)), (.fieldAddr 0), [.t 1]⟩, ⟨(some 33), (some (31, false)), (.load 1 false), [.t 32]⟩, ⟨(some 34), (some (31, false)), (.bin .lss .num), [.t 33, .c (.int .i64 0)]⟩, ⟨(some 35), none, .pick, [.t 31, .c (.bool true), .t 34]⟩, ⟨(some 36), none, .move, [.t 35]⟩, ⟨(some 37), (some (36, false)), (.fieldAddr 0), [.t 1]⟩, ⟨(some 38), (some (36, false)), (.load 1 false), [.t 37]⟩, ⟨(some 39), (some (36, false)), (.load 1 false), [.t 3]⟩, ⟨(some 40), (some (36, false)), (.bin .geq .num), [.t 38, .t 39]⟩, ⟨(some 41), none, .pick, [.t 36, .c (.bool true), .t 40]⟩, ⟨(some 24), none, .move, [.t 41]⟩] none [1, 4, 5, 6, 7, 8, 9, 24])
  (.cond (.t 24) .skip
  (.seq (.region [⟨(some 42), none, (.fieldAddr 1), [.t 1]⟩, ⟨(some 43), none, (.load 1 false), [.t 42]⟩, ⟨(some 44), none, (.bin .lss .num), [.t 43, .c (.int .i64 1)]⟩, ⟨(some 45), none, .move, [.t 44]⟩, ⟨(some 46), (some (45, false)), (.fieldAddr 1), [.t 1]⟩, ⟨(some 47), (some (45, false)), (.load 1 false), [.t 46]⟩, ⟨(some 48), (some (45, false)), .call, [.c (.fn (.func 67) [] []), .t 47]⟩, ⟨(some 49), (some (45, false)), (.un .not), [.t 48]⟩, ⟨(some 50), none, .pick, [.t 45, .c (.bool true), .t 49]⟩, ⟨(some 51), none, .move, [.t 50]⟩, ⟨(some 52), (some (51, false)), (.fieldAddr 2), [.t 1]⟩, ⟨(some 53), (some (51, false)), (.load 1 false), [.t 52]⟩, ⟨(some 54), (some (51, false)), (.fieldAddr 0), [.t 1]⟩, ⟨(some 55), (some (51, false)), (.load 1 false), [.t 54]⟩, ⟨(some 56), (some (51, false)), (.indexAddr 1), [.t 53, .t 55]⟩, ⟨(some 57), (some (51, false)), (.load 1 false), [.t 56]⟩, ⟨(some 58), (some (51, false)), (.fieldAddr 1), [.t 1]⟩, ⟨(some 59), (some (51, false)), (.load 1 false), [.t 58]⟩, ⟨(some 60), (some (51, false)), (.bin .sub .num), [.t 59, .c (.int .i64 1)]⟩, ⟨(some 61), (some (51, false)), (.bin .neq .num), [.t 57, .t 60]⟩, ⟨(some 62), none, .pick, [.t 51, .c (.bool true), .t 61]⟩, ⟨(some 24), none, .move, [.t 62]⟩] (some [0, 1, 3, 7, 15, 31, 63, 127, 255, 511, 1023, 2047, 1023, 5119, 16383, 32767, 1023, 66559, 197631, 524287, 1048575, 2097151]) [1, 4, 5, 6, 7, 8, 9, 24])
  (.cond (.t 24) .skip
  (.seq (.region [⟨(some 63), none, (.fieldAddr 2), [.t 1]⟩, ⟨(some 64), none, (.load 1 false), [.t 63]⟩, ⟨(some 65), none, .call, [.c (.fn (.func 69) [] []), .t 64, .c (.fn (.func 70) [] [])]⟩, ⟨(some 24), none, .move, [.t 65]⟩] none [1, 4, 5, 6, 7, 8, 9, 24])
  (.cond (.t 24) .skip
  (.seq (.region [⟨(some 66), none, (.fieldAddr 0), [.t 4]⟩, ⟨(some 67), none, (.load 1 false), [.t 66]⟩, ⟨(some 68), none, (.bin .lss .num), [.t 67, .c (.int .i64 1)]⟩, ⟨(some 69), none, .move, [.t 68]⟩, ⟨(some 70), (some (69, false)), (.fieldAddr 0), [.t 4]⟩, ⟨(some 71), (some (69, false)), (.load 1 false), [.t 70]⟩, ⟨(some 72), (some (69, false)), (.bin .gtr .num), [.t 71, .c (.int .i64 8)]⟩, ⟨(some 73), none, .pick, [.t 69, .c (.bool true), .t 72]⟩, ⟨(some 74), none, .move, [.t 73]⟩, ⟨(some 75), (some (74, false)), (.fieldAddr 1), [.t 4]⟩, ⟨(some 76), (some (74, false)), (.load 1 false), [.t 75]⟩, ⟨(some 77), (some (74, false)), .call, [.c (.fn (.func 67) [] []), .t 76]⟩, ⟨(some 78), (some (74, false)), (.un .not), [.t 77]⟩, ⟨(some 79), none, .pick, [.t 74, .c (.bool true), .t 78]⟩, ⟨(some 24), none, .move, [.t 79]⟩] none [1, 4, 5, 6, 7, 8, 9, 24])
  (.cond (.t 24) .skip
  (.seq (.region [⟨(some 80), none, .move, [.t 7]⟩, ⟨(some 81), none, .move, [.t 80]⟩, ⟨(some 82), (some (81, true)), .move, [.t 5]⟩, ⟨(some 83), (some (81, true)), (.fieldAddr 2), [.t 4]⟩, ⟨(some 84), (some (81, true)), (.load 2 true), [.t 83]⟩, ⟨(some 85), (some (81, true)), .call, [.t 82, .t 84]⟩, ⟨(some 86), (some (81, true)), (.un .not), [.t 85]⟩, ⟨(some 87), (some (81, true)), .move, [.t 86]⟩, ⟨(some 88), (some (87, false)), (.fieldAddr 2), [.t 4]⟩, ⟨(some 89), (some (87, false)), (.fieldAddr 1), [.t 88]⟩, ⟨(some 90), (some (87, false)), (.load 1 false), [.t 89]⟩, ⟨(some 91), (some (87, false)), (.fieldAddr 0), [.t 1]⟩, ⟨(some 92), (some (87, false)), (.load 1 false), [.t 91]⟩, ⟨(some 93), (some (87, false)), (.bin .neq .num), [.t 90, .t 92]⟩, ⟨(some 94), (some (81, true)), .pick, [.t 87, .c (.bool true), .t 93]⟩, ⟨(some 95), none, .pick, [.t 81, .t 94, .c (.bool false)]⟩, ⟨(some 96), none, .move, [.t 95]⟩, ⟨(some 97), (some (96, false)), .move, [.t 7]⟩, ⟨(some 98), (some (96, false)), (.un .not), [.t 97]⟩, ⟨(some 99), (some (96, false)), .move, [.t 98]⟩, ⟨(some 100), (some (99, true)), (.fieldAddr 2), [.t 4]⟩, ⟨(some 101), (some (99, true)), (.load 2 true), [.t 100]⟩, ⟨(some 102), (some (99, true)), (.load 2 true), [.t 6]⟩, ⟨(some 103), (some (99, true)), (.eqs .neq [.int, .int]), [.t 101, .t 102]⟩, ⟨(some 104), (some (96, false)), .pick, [.t 99, .t 103, .c (.bool false)]⟩, ⟨(some 105), none, .pick, [.t 96, .c (.bool true), .t 104]⟩, ⟨(some 24), none, .move, [.t 105]⟩] none [4, 5, 6, 8, 9, 24])
  (.cond (.t 24) .skip
  (.seq (.region [⟨(some 106), none, .move, [.t 9]⟩, ⟨(some 107), none, .move, [.t 106]⟩, ⟨(some 108), (some (107, true)), (.fieldAddr 6), [.t 4]⟩, ⟨(some 109), (some (107, true)), (.load 1 false), [.t 108]⟩, ⟨(some 110), (some (107, true)), .call, [.c (.fn (.func 71) [] []), .t 109]⟩, ⟨(some 111), (some (107, true)), (.un .not), [.t 110]⟩, ⟨(some 112), none, .pick, [.t 107, .t 111, .c (.bool false)]⟩, ⟨(some 113), none, .move, [.t 112]⟩, ⟨(some 114), (some (113, false)), .move, [.t 9]⟩, ⟨(some 115), (some (113, false)), (.un .not), [.t 114]⟩, ⟨(some 116), (some (113, false)), .move, [.t 115]⟩, ⟨(some 117), (some (116, true)), (.fieldAddr 6), [.t 4]⟩, ⟨(some 118), (some (116, true)), (.load 1 false), [.t 117]⟩, ⟨(some 119), (some (116, true)), (.bin .neq .num), [.t 118, .c (.int .i64 0)]⟩, ⟨(some 120), (some (113, false)), .pick, [.t 116, .t 119, .c (.bool false)]⟩, ⟨(some 121), none, .pick, [.t 113, .c (.bool true), .t 120]⟩, ⟨(some 24), none, .move, [.t 121]⟩] none [4, 5, 6, 8, 24])
  (.cond (.t 24) .skip
  (.region [⟨(some 122), none, .move, [.t 8]⟩, ⟨(some 123), none, (.un .not), [.t 122]⟩, ⟨(some 124), none, .move, [.t 123]⟩, ⟨(some 125), (some (124, true)), (.fieldAddr 4), [.t 4]⟩, ⟨(some 126), (some (124, true)), (.load 2 true), [.t 125]⟩, ⟨(some 127), (some (124, true)), (.load 2 true), [.t 6]⟩, ⟨(some 128), (some (124, true)), (.eqs .neq [.int, .int]), [.t 126, .t 127]⟩, ⟨(some 129), none, .pick, [.t 124, .t 128, .c (.bool false)]⟩, ⟨(some 24), none, .move, [.t 129]⟩] none [4, 5, 6, 8, 24])))))))))))))
  (.cond (.t 24) (.seq (.region [⟨(some 2), none, .move, [.c (.int .i64 1)]⟩] none [2])
  .ret)
  (.seq (.region [⟨(some 131), none, (.fieldAddr 4), [.t 4]⟩, ⟨(some 132), none, (.load 2 true), [.t 131]⟩, ⟨(some 133), none, (.load 2 true), [.t 6]⟩, ⟨(some 134), none, (.eqs .eql [.int, .int]), [.t 132, .t 133]⟩, ⟨(some 130), none, .move, [.t 134]⟩] none [4, 5, 8, 130])
  (.cond (.t 130) (.seq (.region [⟨(some 135), none, (.fieldAddr 0), [.t 4]⟩, ⟨(some 136), none, (.load 1 false), [.t 135]⟩, ⟨(some 137), none, (.bin .neq .num), [.t 136, .c (.int .i64 1)]⟩, ⟨(some 138), none, .move, [.t 137]⟩, ⟨(some 139), (some (138, true)), (.fieldAddr 0), [.t 4]⟩, ⟨(some 140), (some (138, true)), (.load 1 false), [.t 139]⟩, ⟨(some 141), (some (138, true)), (.bin .neq .num), [.t 140, .c (.int .i64 5)]⟩, ⟨(some 142), none, .pick, [.t 138, .t 141, .c (.bool false)]⟩, ⟨(some 143), none, .move, [.t 142]⟩, ⟨(some 144), (some (143, true)), .move, [.t 8]⟩, ⟨(some 145), none, .pick, [.t 143, .t 144, .c (.bool false)]⟩] none [145])
  (.cond (.t 145) (.seq (.region [⟨(some 2), none, .move, [.c (.int .i64 1)]⟩] none [2])
  .ret)
  .skip))
  (.seq (.region [⟨(some 147), none, .move, [.t 5]⟩, ⟨(some 148), none, (.fieldAddr 4), [.t 4]⟩, ⟨(some 149), none, (.load 2 true), [.t 148]⟩, ⟨(some 150), none, .call, [.t 147, .t 149]⟩, ⟨(some 151), none, (.un .not), [.t 150]⟩, ⟨(some 152), none, .move, [.t 151]⟩, ⟨(some 153), (some (152, false)), (.fieldAddr 0), [.t 4]⟩, ⟨(some 154), (some (152, false)), (.load 1 false), [.t 153]⟩, ⟨(some 155), (some (152, false)), (.bin .eql .num), [.t 154, .c (.int .i64 1)]⟩, ⟨(some 156), (some (152, false)), .move, [.t 155]⟩, ⟨(some 157), (some (156, true)), (.fieldAddr 4), [.t 4]⟩, ⟨(some 158), (some (156, true)), (.fieldAddr 0), [.t 157]⟩, ⟨(some 159), (some (156, true)), (.load 1 false), [.t 158]⟩, ⟨(some 160), (some (156, true)), (.fieldAddr 2), [.t 4]⟩, ⟨(some 161), (some (156, true)), (.fieldAddr 0), [.t 160]⟩, ⟨(some 162), (some (156, true)), (.load 1 false), [.t 161]⟩, ⟨(some 163), (some (156, true)), (.bin .geq .num), [.t 159, .t 162]⟩, ⟨(some 164), (some (152, false)), .pick, [.t 156, .t 163, .c (.bool false)]⟩, ⟨(some 165), none, .pick, [.t 152, .c (.bool true), .t 164]⟩, ⟨(some 146), none, .move, [.t 165]⟩] none [146])
  (.cond (.t 146) (.seq (.region [⟨(some 2), none, .move, [.c (.int .i64 1)]⟩] none [2])
  .ret)
  .skip)))))))
  (.seq (.region [⟨(some 2), none, .move, [.c (.int .i64 0)]⟩] none [2])
  .ret)))))))⟩
theorem ok43 : FunOk Try.prog 43 c43 := ⟨⟨Try.f43, _, Try.func43, rfl, by kernel_rfl, by kernel_rfl, by kernel_rfl, by kernel_rfl⟩, by decide⟩
/-- (duet/vec.Vec).Check -/
def c46 : AFun := ⟨1, 21, [.tmp 2],
  (.seq (.region [⟨(some 2), none, .move, [.c (.int .i64 0)]⟩] none [0])
  (.seq (.seq (.region [⟨(some 3), none, .move, [.t 0]⟩, ⟨(some 4), none, (.len .slice), [.t 3]⟩, ⟨(some 5), none, (.bin .lss .num), [.t 4, .c (.int .i64 1)]⟩, ⟨(some 6), none, .move, [.t 5]⟩, ⟨(some 7), (some (6, false)), .move, [.t 0]⟩, ⟨(some 8), (some (6, false)), (.len .slice), [.t 7]⟩, ⟨(some 9), (some (6, false)), (.bin .gtr .num), [.t 8, .c (.int .i64 16)]⟩, ⟨(some 10), none, .pick, [.t 6, .c (.bool true), .t 9]⟩, ⟨(some 11), none, .move, [.t 10]⟩, ⟨(some 12), (some (11, false)), .move, [.t 0]⟩, ⟨(some 13), (some (11, false)), .call, [.c (.fn (.func 73) [] []), .t 12]⟩, ⟨(some 14), (some (11, false)), (.bin .lss .num), [.t 13, .c (.int .i64 0)]⟩, ⟨(some 15), none, .pick, [.t 11, .c (.bool true), .t 14]⟩, ⟨(some 16), none, .move, [.t 15]⟩, ⟨(some 17), (some (16, false)), .move, [.t 0]⟩, ⟨(some 18), (some (16, false)), .call, [.c (.fn (.func 74) [] []), .t 17]⟩, ⟨(some 19), (some (16, false)), (.bin .gtr .num), [.t 18, .c (.int .i64 4294967295)]⟩, ⟨(some 20), none, .pick, [.t 16, .c (.bool true), .t 19]⟩] none [20])
  (.cond (.t 20) (.seq (.region [⟨(some 2), none, .move, [.c (.int .i64 1)]⟩] none [2])
  .ret)
  .skip))
  (.seq (.region [⟨(some 2), none, .move, [.c (.int .i64 0)]⟩] none [2])
  .ret)))⟩
theorem ok46 : FunOk Try.prog 46 c46 := ⟨⟨Try.f46, _, Try.func46, rfl, by kernel_rfl, by kernel_rfl, by kernel_rfl, by kernel_rfl⟩, by decide⟩
/-- (duet/vec.Vec).Covers -/
def c47 : AFun := ⟨3, 32, [.tmp 6],
  (.seq (.region [⟨(some 6), none, .move, [.c (.bool false)]⟩] none [0, 1, 2])
  (.seq (.region [⟨(some 7), none, .move, [.t 0]⟩, ⟨(some 8), none, .call, [.c (.fn (.func 46) [] []), .t 7]⟩, ⟨(some 9), none, (.bin .eql .num), [.t 8, .c (.int .i64 0)]⟩, ⟨(some 10), none, .move, [.t 9]⟩, ⟨(some 11), (some (10, true)), .move, [.t 1]⟩, ⟨(some 12), (some (10, true)), (.bin .geq .num), [.t 11, .c (.int .i64 0)]⟩, ⟨(some 13), none, .pick, [.t 10, .t 12, .c (.bool false)]⟩, ⟨(some 14), none, .move, [.t 13]⟩, ⟨(some 15), (some (14, true)), .move, [.t 1]⟩, ⟨(some 16), (some (14, true)), .move, [.t 0]⟩, ⟨(some 17), (some (14, true)), (.len .slice), [.t 16]⟩, ⟨(some 18), (some (14, true)), (.bin .lss .num), [.t 15, .t 17]⟩, ⟨(some 19), none, .pick, [.t 14, .t 18, .c (.bool false)]⟩, ⟨(some 20), none, .move, [.t 19]⟩, ⟨(some 21), (some (20, true)), .move, [.t 2]⟩, ⟨(some 22), (some (20, true)), (.bin .gtr .num), [.t 21, .c (.int .i64 0)]⟩, ⟨(some 23), none, .pick, [.t 20, .t 22, .c (.bool false)]⟩, ⟨(some 24), none, .move, [.t 23]⟩, ⟨(some 25), (some (24, true)), .move, [.t 2]⟩, ⟨(some 26), (some (24, true)), .move, [.t 0]⟩, ⟨(some 27), (some (24, true)), .move, [.t 1]⟩, ⟨(some 28), (some (24, true)), (.indexAddr 1), [.t 26, .t 27]⟩, ⟨(some 29), (some (24, true)), (.load 1 false), [.t 28]⟩, ⟨(some 30), (some (24, true)), (.bin .leq .num), [.t 25, .t 29]⟩, ⟨(some 31), none, .pick, [.t 24, .t 30, .c (.bool false)]⟩, ⟨(some 6), none, .move, [.t 31]⟩] none [6])
  .ret))⟩
theorem ok47 : FunOk Try.prog 47 c47 := ⟨⟨Try.f47, _, Try.func47, rfl, by kernel_rfl, by kernel_rfl, by kernel_rfl, by kernel_rfl⟩, by decide⟩
/-- duet/vec.New -/
def c54 : AFun := ⟨1, 12, [.tmp 2, .tmp 3],
  (.seq (.region [⟨(some 2), none, .move, [.c .nils]⟩, ⟨(some 3), none, .move, [.c (.int .i64 0)]⟩] none [0])
  (.seq (.seq (.region [⟨(some 4), none, .move, [.t 0]⟩, ⟨(some 5), none, (.bin .lss .num), [.t 4, .c (.int .i64 1)]⟩, ⟨(some 6), none, .move, [.t 5]⟩, ⟨(some 7), (some (6, false)), .move, [.t 0]⟩, ⟨(some 8), (some (6, false)), (.bin .gtr .num), [.t 7, .c (.int .i64 16)]⟩, ⟨(some 9), none, .pick, [.t 6, .c (.bool true), .t 8]⟩] none [0, 9])
  (.cond (.t 9) (.seq (.region [⟨(some 2), none, .move, [.c .nils]⟩, ⟨(some 3), none, .move, [.c (.int .i64 1)]⟩] none [2, 3])
  .ret)
  .skip))
  (.seq (.region [⟨(some 10), none, .move, [.t 0]⟩, ⟨(some 11), none, (.mkslice 1 [(.int .i64 0)] 8), [.t 10, .t 10]⟩, ⟨(some 2), none, .move, [.t 11]⟩, ⟨(some 3), none, .move, [.c (.int .i64 0)]⟩] none [2, 3])
  .ret)))⟩
theorem ok54 : FunOk Try.prog 54 c54 := ⟨⟨Try.f54, _, Try.func54, rfl, by kernel_rfl, by kernel_rfl, by kernel_rfl, by kernel_rfl⟩, by decide⟩
/-- slices.BinarySearchFunc[[]duet/api.Msg,duet/api.Msg,int] -/
def c55 : AFun := ⟨3, 49, [.tmp 6, .tmp 7],
  (.seq (.region [⟨(some 6), none, .move, [.c (.int .i64 0)]⟩, ⟨(some 7), none, .move, [.c (.bool false)]⟩] none [0, 1, 2])
  (.seq (.region [⟨(some 12), none, .move, [.t 0]⟩, ⟨(some 13), none, (.len .slice), [.t 12]⟩, ⟨(some 8), none, .move, [.t 13]⟩] none [0, 1, 2, 8])
  (.seq (.region [⟨(some 14), none, .move, [.t 8]⟩, ⟨(some 9), none, .move, [.c (.int .i64 0)]⟩, ⟨(some 10), none, .move, [.t 14]⟩] none [0, 1, 2, 8, 9, 10])
  (.seq (.block 0 (.loop [0, 1, 2, 8, 9, 10] (.seq (.seq (.region [⟨(some 15), none, .move, [.t 9]⟩, ⟨(some 16), none, .move, [.t 10]⟩, ⟨(some 17), none, (.bin .lss .num), [.t 15, .t 16]⟩] none [0, 1, 2, 8, 9, 10, 17])
  (.cond (.t 17) .skip
  (.exit 0)))
  (.block 1 (.seq (.region [⟨(some 18), none, .move, [.t 9]⟩, ⟨(some 19), none, .move, [.t 10]⟩, ⟨(some 20), none, (.bin .add .num), [.t 18, .t 19]⟩, ⟨(some 21), none, (.conv .u64), [.t 20]⟩, ⟨(some 22), none, (.bin .shr .num), [.t 21, .c (.int .u64 1)]⟩, ⟨(some 23), none, (.conv .i64), [.t 22]⟩, ⟨(some 11), none, .move, [.t 23]⟩] none [0, 1, 2, 8, 9, 10, 11])
  (.seq (.region [⟨(some 24), none, .move, [.t 2]⟩, ⟨(some 25), none, .move, [.t 0]⟩, ⟨(some 26), none, .move, [.t 11]⟩, ⟨(some 27), none, (.indexAddr 10), [.t 25, .t 26]⟩, ⟨(some 28), none, (.load 10 true), [.t 27]⟩, ⟨(some 29), none, .move, [.t 1]⟩, ⟨(some 30), none, .call, [.t 24, .t 28, .t 29]⟩, ⟨(some 31), none, (.bin .lss .num), [.t 30, .c (.int .i64 0)]⟩] none [0, 1, 2, 8, 9, 10, 11, 31])
  (.cond (.t 31) (.region [⟨(some 32), none, .move, [.t 11]⟩, ⟨(some 33), none, (.bin .add .num), [.t 32, .c (.int .i64 1)]⟩, ⟨(some 9), none, .move, [.t 33]⟩] none [0, 1, 2, 8, 9, 10])
  (.region [⟨(some 34), none, .move, [.t 11]⟩, ⟨(some 10), none, .move, [.t 34]⟩] none [0, 1, 2, 8, 9, 10]))))))))
  (.seq (.region [⟨(some 35), none, .move, [.t 9]⟩, ⟨(some 36), none, .move, [.t 9]⟩, ⟨(some 37), none, .move, [.t 8]⟩, ⟨(some 38), none, (.bin .lss .num), [.t 36, .t 37]⟩, ⟨(some 39), none, .move, [.t 38]⟩, ⟨(some 40), (some (39, true)), .move, [.t 2]⟩, ⟨(some 41), (some (39, true)), .move, [.t 0]⟩, ⟨(some 42), (some (39, true)), .move, [.t 9]⟩, ⟨(some 43), (some (39, true)), (.indexAddr 10), [.t 41, .t 42]⟩, ⟨(some 44), (some (39, true)), (.load 10 true), [.t 43]⟩, ⟨(some 45), (some (39, true)), .move, [.t 1]⟩, ⟨(some 46), (some (39, true)), .call, [.t 40, .t 44, .t 45]⟩, ⟨(some 47), (some (39, true)), (.bin .eql .num), [.t 46, .c (.int .i64 0)]⟩, ⟨(some 48), none, .pick, [.t 39, .t 47, .c (.bool false)]⟩, ⟨(some 6), none, .move, [.t 35]⟩, ⟨(some 7), none, .move, [.t 48]⟩] none [6, 7])
  .ret)))))⟩
theorem ok55 : FunOk Try.prog 55 c55 := ⟨⟨Try.f55, _, Try.func55, rfl, by kernel_rfl, by kernel_rfl, by kernel_rfl, by kernel_rfl⟩, by decide⟩
/-- (*duet/hold.Hold).Put$1 -/
def c56 : AFun := ⟨2, 9, [.tmp 4],
  (.seq (.region [⟨(some 2), none, .box, [.t 0]⟩, ⟨(some 4), none, .move, [.c (.int .i64 0)]⟩] none [1, 2])
  (.seq (.region [⟨(some 5), none, (.fieldAddr 1), [.t 2]⟩, ⟨(some 6), none, (.load 1 false), [.t 5]⟩, ⟨(some 7), none, .move, [.t 1]⟩, ⟨(some 8), none, (.bin .sub .num), [.t 6, .t 7]⟩, ⟨(some 4), none, .move, [.t 8]⟩] none [4])
  .ret))⟩
theorem ok56 : FunOk Try.prog 56 c56 := ⟨⟨Try.f56, _, Try.func56, rfl, by kernel_rfl, by kernel_rfl, by kernel_rfl, by kernel_rfl⟩, by decide⟩
/-- duet/hold.same -/
def c57 : AFun := ⟨2, 17, [.tmp 4],
  (.seq (.region [⟨(some 2), none, .box, [.t 0]⟩, ⟨(some 3), none, .box, [.t 1]⟩, ⟨(some 4), none, .move, [.c (.bool false)]⟩] none [2, 3])
  (.seq (.region [⟨(some 5), none, (.fieldAddr 3), [.t 2]⟩, ⟨(some 6), none, (.load 7 true), [.t 5]⟩, ⟨(some 7), none, (.fieldAddr 3), [.t 3]⟩, ⟨(some 8), none, (.load 7 true), [.t 7]⟩, ⟨(some 9), none, (.eqs .eql [.int, .int, .int, .int, .int, .int, .int]), [.t 6, .t 8]⟩, ⟨(some 10), none, .move, [.t 9]⟩, ⟨(some 11), (some (10, true)), (.fieldAddr 2), [.t 2]⟩, ⟨(some 12), (some (10, true)), (.load 1 false), [.t 11]⟩, ⟨(some 13), (some (10, true)), (.fieldAddr 2), [.t 3]⟩, ⟨(some 14), (some (10, true)), (.load 1 false), [.t 13]⟩, ⟨(some 15), (some (10, true)), .call, [.c (.fn (.func 79) [] []), .t 12, .t 14]⟩, ⟨(some 16), none, .pick, [.t 10, .t 15, .c (.bool false)]⟩, ⟨(some 4), none, .move, [.t 16]⟩] none [4])
  .ret))⟩
theorem ok57 : FunOk Try.prog 57 c57 := ⟨⟨Try.f57, _, Try.func57, rfl, by kernel_rfl, by kernel_rfl, by kernel_rfl, by kernel_rfl⟩, by decide⟩
/-- duet/hold.copied -/
def c58 : AFun := ⟨1, 8, [.cell 2 10 true],
  (.seq (.region [⟨(some 1), none, .box, [.t 0]⟩, ⟨(some 2), none, (.alloc [(.int .i64 0), (.int .i64 0), .nils, (.int .i64 0), (.int .i64 0), (.int .i64 0), (.int .i64 0), (.int .i64 0), (.int .i64 0), (.int .i64 0)]), []⟩] none [1, 2])
  (.seq (.region [⟨(some 3), none, (.fieldAddr 2), [.t 1]⟩, ⟨(some 4), none, (.load 1 false), [.t 3]⟩, ⟨(some 5), none, .call, [.c (.fn (.func 72) [] []), .t 4]⟩, ⟨(some 6), none, (.fieldAddr 2), [.t 1]⟩, ⟨none, none, (.store 1), [.t 6, .t 5]⟩] none [1, 2])
  (.seq (.region [⟨(some 7), none, (.load 10 true), [.t 1]⟩, ⟨none, none, (.store 10), [.t 2, .t 7]⟩] none [2])
  .ret)))⟩
theorem ok58 : FunOk Try.prog 58 c58 := ⟨⟨Try.f58, _, Try.func58, rfl, by kernel_rfl, by kernel_rfl, by kernel_rfl, by kernel_rfl⟩, by decide⟩
/-- (*duet/hold.Hold).told -/
def c59 : AFun := ⟨1, 60, [.tmp 2],
  (.seq (.region [⟨(some 2), none, .move, [.c .nils]⟩] none [0])
  (.scope 0 (.seq (.region [⟨(some 3), none, .move, [.c .nils]⟩] none [0, 3])
  (.seq (.label 0)
  (.seq (.seq (.region [⟨(some 6), none, .move, [.t 0]⟩, ⟨(some 7), none, .nilCheck, [.t 6]⟩, ⟨(some 8), none, (.fieldAddr 2), [.t 7]⟩, ⟨(some 9), none, (.load 1 false), [.t 8]⟩, ⟨(some 10), none, (.len .slice), [.t 9]⟩, ⟨(some 11), none, .move, [.c (.int .i64 0)]⟩] none [0, 3, 9, 10, 11])
  (.block 0 (.loop [0, 3, 9, 10, 11] (.seq (.region [⟨(some 12), none, (.bin .lss .num), [.t 11, .t 10]⟩] none [0, 3, 9, 10, 11, 12])
  (.seq (.cond (.t 12) .skip
  (.exit 0))
  (.seq (.block 1 (.seq (.region [⟨(some 13), none, .move, [.t 11]⟩, ⟨(some 14), none, (.indexAddr 1), [.t 9, .t 11]⟩, ⟨(some 15), none, (.load 1 false), [.t 14]⟩, ⟨(some 4), none, .move, [.t 13]⟩, ⟨(some 5), none, .move, [.t 15]⟩] none [0, 3, 4, 5, 9, 10, 11])
  (.seq (.seq (.region [⟨(some 16), none, .move, [.t 5]⟩, ⟨(some 17), none, (.len .slice), [.t 16]⟩, ⟨(some 18), none, (.bin .eql .num), [.t 17, .c (.int .i64 0)]⟩, ⟨(some 19), none, .move, [.t 18]⟩, ⟨(some 20), (some (19, false)), .move, [.t 0]⟩, ⟨(some 21), (some (19, false)), .move, [.t 5]⟩, ⟨(some 22), (some (19, false)), (.indexAddr 10), [.t 21, .c (.int .i64 0)]⟩, ⟨(some 23), (some (19, false)), (.load 10 true), [.t 22]⟩, ⟨(some 24), (some (19, false)), .call, [.c (.fn (.func 60) [] []), .t 20, .t 23]⟩, ⟨(some 25), (some (19, false)), (.un .not), [.t 24]⟩, ⟨(some 26), none, .pick, [.t 19, .c (.bool true), .t 25]⟩] none [0, 3, 4, 5, 9, 10, 11, 26])
  (.cond (.t 26) (.exit 1)
  .skip))
  (.seq (.region [⟨(some 27), none, .move, [.t 3]⟩, ⟨(some 28), none, .move, [.t 5]⟩, ⟨(some 29), none, (.indexAddr 10), [.t 28, .c (.int .i64 0)]⟩, ⟨(some 30), none, (.load 10 true), [.t 29]⟩, ⟨(some 31), none, (.buildSlice 10 [(.int .i64 0), (.int .i64 0), .nils, (.int .i64 0), (.int .i64 0), (.int .i64 0), (.int .i64 0), (.int .i64 0), (.int .i64 0), (.int .i64 0)] [(0, 10)]), [.t 30]⟩, ⟨(some 32), none, (.append 10 96), [.t 27, .t 31]⟩, ⟨(some 3), none, .move, [.t 32]⟩] none [0, 3, 4, 5])
  (.seq (.region [⟨(some 33), none, .move, [.t 0]⟩, ⟨(some 34), none, .nilCheck, [.t 33]⟩, ⟨(some 35), none, (.fieldAddr 0), [.t 34]⟩, ⟨(some 36), none, (.load 1 false), [.t 35]⟩, ⟨(some 37), none, .move, [.t 4]⟩, ⟨(some 38), none, .move, [.t 5]⟩, ⟨(some 39), none, (.indexAddr 10), [.t 38, .c (.int .i64 0)]⟩, ⟨(some 40), none, (.fieldAddr 1), [.t 39]⟩, ⟨(some 41), none, (.load 1 false), [.t 40]⟩, ⟨(some 42), none, (.indexAddr 1), [.t 36, .t 37]⟩, ⟨none, none, (.store 1), [.t 42, .t 41]⟩] (some [0, 1, 3, 7, 0, 0, 32, 96, 224, 511, 1023]) [0, 3, 4, 5])
  (.seq (.region [⟨(some 43), none, .move, [.t 0]⟩, ⟨(some 44), none, .nilCheck, [.t 43]⟩, ⟨(some 45), none, (.fieldAddr 2), [.t 44]⟩, ⟨(some 46), none, (.load 1 false), [.t 45]⟩, ⟨(some 47), none, .move, [.t 4]⟩, ⟨(some 48), none, .move, [.t 5]⟩, ⟨(some 49), none, (.slice 10 true false false), [.t 48, .c (.int .i64 1)]⟩, ⟨(some 50), none, (.indexAddr 1), [.t 46, .t 47]⟩, ⟨none, none, (.store 1), [.t 50, .t 49]⟩] (some [0, 1, 3, 7, 0, 0, 32, 127, 255]) [0, 3])
  (.seq (.region [⟨(some 51), none, .move, [.t 0]⟩, ⟨(some 52), none, .nilCheck, [.t 51]⟩, ⟨(some 53), none, (.fieldAddr 3), [.t 52]⟩, ⟨(some 54), none, (.load 1 false), [.t 53]⟩, ⟨(some 55), none, (.bin .sub .num), [.t 54, .c (.int .i64 1)]⟩, ⟨(some 56), none, .nilCheck, [.t 51]⟩, ⟨(some 57), none, (.fieldAddr 3), [.t 56]⟩, ⟨none, none, (.store 1), [.t 57, .t 55]⟩] none [0, 3])
  (.goto 0))))))))
  (.region [⟨(some 58), none, (.bin .add .num), [.t 11, .c (.int .i64 1)]⟩, ⟨(some 11), none, .move, [.t 58]⟩] none [0, 3, 9, 10, 11])))))))
  (.seq (.region [⟨(some 59), none, .move, [.t 3]⟩, ⟨(some 2), none, .move, [.t 59]⟩] none [2])
  .ret))))
  (.seq .skip
  (.seq (.seq (.region [⟨(some 6), none, .move, [.t 0]⟩, ⟨(some 7), none, .nilCheck, [.t 6]⟩, ⟨(some 8), none, (.fieldAddr 2), [.t 7]⟩, ⟨(some 9), none, (.load 1 false), [.t 8]⟩, ⟨(some 10), none, (.len .slice), [.t 9]⟩, ⟨(some 11), none, .move, [.c (.int .i64 0)]⟩] none [0, 3, 9, 10, 11])
  (.block 0 (.loop [0, 3, 9, 10, 11] (.seq (.region [⟨(some 12), none, (.bin .lss .num), [.t 11, .t 10]⟩] none [0, 3, 9, 10, 11, 12])
  (.seq (.cond (.t 12) .skip
  (.exit 0))
  (.seq (.block 1 (.seq (.region [⟨(some 13), none, .move, [.t 11]⟩, ⟨(some 14), none, (.indexAddr 1), [.t 9, .t 11]⟩, ⟨(some 15), none, (.load 1 false), [.t 14]⟩, ⟨(some 4), none, .move, [.t 13]⟩, ⟨(some 5), none, .move, [.t 15]⟩] none [0, 3, 4, 5, 9, 10, 11])
  (.seq (.seq (.region [⟨(some 16), none, .move, [.t 5]⟩, ⟨(some 17), none, (.len .slice), [.t 16]⟩, ⟨(some 18), none, (.bin .eql .num), [.t 17, .c (.int .i64 0)]⟩, ⟨(some 19), none, .move, [.t 18]⟩, ⟨(some 20), (some (19, false)), .move, [.t 0]⟩, ⟨(some 21), (some (19, false)), .move, [.t 5]⟩, ⟨(some 22), (some (19, false)), (.indexAddr 10), [.t 21, .c (.int .i64 0)]⟩, ⟨(some 23), (some (19, false)), (.load 10 true), [.t 22]⟩, ⟨(some 24), (some (19, false)), .call, [.c (.fn (.func 60) [] []), .t 20, .t 23]⟩, ⟨(some 25), (some (19, false)), (.un .not), [.t 24]⟩, ⟨(some 26), none, .pick, [.t 19, .c (.bool true), .t 25]⟩] none [0, 3, 4, 5, 9, 10, 11, 26])
  (.cond (.t 26) (.exit 1)
  .skip))
  (.seq (.region [⟨(some 27), none, .move, [.t 3]⟩, ⟨(some 28), none, .move, [.t 5]⟩, ⟨(some 29), none, (.indexAddr 10), [.t 28, .c (.int .i64 0)]⟩, ⟨(some 30), none, (.load 10 true), [.t 29]⟩, ⟨(some 31), none, (.buildSlice 10 [(.int .i64 0), (.int .i64 0), .nils, (.int .i64 0), (.int .i64 0), (.int .i64 0), (.int .i64 0), (.int .i64 0), (.int .i64 0), (.int .i64 0)] [(0, 10)]), [.t 30]⟩, ⟨(some 32), none, (.append 10 96), [.t 27, .t 31]⟩, ⟨(some 3), none, .move, [.t 32]⟩] none [0, 3, 4, 5])
  (.seq (.region [⟨(some 33), none, .move, [.t 0]⟩, ⟨(some 34), none, .nilCheck, [.t 33]⟩, ⟨(some 35), none, (.fieldAddr 0), [.t 34]⟩, ⟨(some 36), none, (.load 1 false), [.t 35]⟩, ⟨(some 37), none, .move, [.t 4]⟩, ⟨(some 38), none, .move, [.t 5]⟩, ⟨(some 39), none, (.indexAddr 10), [.t 38, .c (.int .i64 0)]⟩, ⟨(some 40), none, (.fieldAddr 1), [.t 39]⟩, ⟨(some 41), none, (.load 1 false), [.t 40]⟩, ⟨(some 42), none, (.indexAddr 1), [.t 36, .t 37]⟩, ⟨none, none, (.store 1), [.t 42, .t 41]⟩] (some [0, 1, 3, 7, 0, 0, 32, 96, 224, 511, 1023]) [0, 3, 4, 5])
  (.seq (.region [⟨(some 43), none, .move, [.t 0]⟩, ⟨(some 44), none, .nilCheck, [.t 43]⟩, ⟨(some 45), none, (.fieldAddr 2), [.t 44]⟩, ⟨(some 46), none, (.load 1 false), [.t 45]⟩, ⟨(some 47), none, .move, [.t 4]⟩, ⟨(some 48), none, .move, [.t 5]⟩, ⟨(some 49), none, (.slice 10 true false false), [.t 48, .c (.int .i64 1)]⟩, ⟨(some 50), none, (.indexAddr 1), [.t 46, .t 47]⟩, ⟨none, none, (.store 1), [.t 50, .t 49]⟩] (some [0, 1, 3, 7, 0, 0, 32, 127, 255]) [0, 3])
  (.seq (.region [⟨(some 51), none, .move, [.t 0]⟩, ⟨(some 52), none, .nilCheck, [.t 51]⟩, ⟨(some 53), none, (.fieldAddr 3), [.t 52]⟩, ⟨(some 54), none, (.load 1 false), [.t 53]⟩, ⟨(some 55), none, (.bin .sub .num), [.t 54, .c (.int .i64 1)]⟩, ⟨(some 56), none, .nilCheck, [.t 51]⟩, ⟨(some 57), none, (.fieldAddr 3), [.t 56]⟩, ⟨none, none, (.store 1), [.t 57, .t 55]⟩] none [0, 3])
  (.goto 0))))))))
  (.region [⟨(some 58), none, (.bin .add .num), [.t 11, .c (.int .i64 1)]⟩, ⟨(some 11), none, .move, [.t 58]⟩] none [0, 3, 9, 10, 11])))))))
  (.seq (.region [⟨(some 59), none, .move, [.t 3]⟩, ⟨(some 2), none, .move, [.t 59]⟩] none [2])
  .ret)))))⟩
theorem ok59 : FunOk Try.prog 59 c59 := ⟨⟨Try.f59, _, Try.func59, rfl, by kernel_rfl, by kernel_rfl, by kernel_rfl, by kernel_rfl⟩, by decide⟩
/-- (*duet/hold.Hold).isDue -/
def c60 : AFun := ⟨2, 43, [.tmp 4],
  (.seq (.region [⟨(some 3), none, .box, [.t 1]⟩, ⟨(some 4), none, .move, [.c (.bool false)]⟩] none [0, 3])
  (.seq (.seq (.region [⟨(some 7), none, (.fieldAddr 2), [.t 3]⟩, ⟨(some 8), none, (.load 1 false), [.t 7]⟩, ⟨(some 9), none, (.len .slice), [.t 8]⟩, ⟨(some 10), none, .move, [.c (.int .i64 0)]⟩] none [0, 3, 8, 9, 10])
  (.block 0 (.loop [0, 3, 8, 9, 10] (.seq (.region [⟨(some 11), none, (.bin .lss .num), [.t 10, .t 9]⟩] none [0, 3, 8, 9, 10, 11])
  (.seq (.cond (.t 11) .skip
  (.exit 0))
  (.seq (.block 1 (.seq (.region [⟨(some 12), none, .move, [.t 10]⟩, ⟨(some 13), none, (.indexAddr 1), [.t 8, .t 10]⟩, ⟨(some 14), none, (.load 1 false), [.t 13]⟩, ⟨(some 5), none, .move, [.t 12]⟩, ⟨(some 6), none, .move, [.t 14]⟩] none [0, 3, 5, 6, 8, 9, 10])
  (.seq (.region [⟨(some 15), none, .move, [.t 6]⟩, ⟨(some 16), none, .move, [.t 0]⟩, ⟨(some 17), none, .nilCheck, [.t 16]⟩, ⟨(some 18), none, (.fieldAddr 0), [.t 17]⟩, ⟨(some 19), none, (.load 1 false), [.t 18]⟩, ⟨(some 20), none, .move, [.t 5]⟩, ⟨(some 21), none, (.indexAddr 1), [.t 19, .t 20]⟩, ⟨(some 22), none, (.load 1 false), [.t 21]⟩, ⟨(some 23), none, (.bin .gtr .num), [.t 15, .t 22]⟩, ⟨(some 24), none, .move, [.t 23]⟩, ⟨(some 25), (some (24, true)), .move, [.t 5]⟩, ⟨(some 26), (some (24, true)), (.fieldAddr 0), [.t 3]⟩, ⟨(some 27), (some (24, true)), (.load 1 false), [.t 26]⟩, ⟨(some 28), (some (24, true)), (.bin .neq .num), [.t 25, .t 27]⟩, ⟨(some 29), none, .pick, [.t 24, .t 28, .c (.bool false)]⟩] none [0, 3, 8, 9, 10, 29])
  (.cond (.t 29) (.seq (.region [⟨(some 4), none, .move, [.c (.bool false)]⟩] none [4])
  .ret)
  .skip))))
  (.region [⟨(some 30), none, (.bin .add .num), [.t 10, .c (.int .i64 1)]⟩, ⟨(some 10), none, .move, [.t 30]⟩] none [0, 3, 8, 9, 10])))))))
  (.seq (.region [⟨(some 31), none, (.fieldAddr 1), [.t 3]⟩, ⟨(some 32), none, (.load 1 false), [.t 31]⟩, ⟨(some 33), none, .move, [.t 0]⟩, ⟨(some 34), none, .nilCheck, [.t 33]⟩, ⟨(some 35), none, (.fieldAddr 0), [.t 34]⟩, ⟨(some 36), none, (.load 1 false), [.t 35]⟩, ⟨(some 37), none, (.fieldAddr 0), [.t 3]⟩, ⟨(some 38), none, (.load 1 false), [.t 37]⟩, ⟨(some 39), none, (.indexAddr 1), [.t 36, .t 38]⟩, ⟨(some 40), none, (.load 1 false), [.t 39]⟩, ⟨(some 41), none, (.bin .add .num), [.t 40, .c (.int .i64 1)]⟩, ⟨(some 42), none, (.bin .eql .num), [.t 32, .t 41]⟩, ⟨(some 4), none, .move, [.t 42]⟩] (some [0, 1, 0, 4, 12, 28, 0, 64, 252, 508, 1020, 2047, 4095]) [4])
  .ret)))⟩
theorem ok60 : FunOk Try.prog 60 c60 := ⟨⟨Try.f60, _, Try.func60, rfl, by kernel_rfl, by kernel_rfl, by kernel_rfl, by kernel_rfl⟩, by decide⟩
/-- slices.Insert[[]duet/api.Msg,duet/api.Msg] -/
def c61 : AFun := ⟨3, 95, [.tmp 6],
  (.seq (.region [⟨(some 6), none, .move, [.c .nils]⟩] none [0, 1, 2])
  (.seq (.region [⟨(some 10), none, .move, [.t 0]⟩, ⟨(some 11), none, .move, [.t 1]⟩, ⟨(some 12), none, (.slice 10 true false false), [.t 10, .t 11]⟩] none [0, 1, 2])
  (.seq (.region [⟨(some 13), none, .move, [.t 2]⟩, ⟨(some 14), none, (.len .slice), [.t 13]⟩, ⟨(some 7), none, .move, [.t 14]⟩] none [0, 1, 2, 7])
  (.seq (.seq (.region [⟨(some 15), none, .move, [.t 7]⟩, ⟨(some 16), none, (.bin .eql .num), [.t 15, .c (.int .i64 0)]⟩] none [0, 1, 2, 7, 16])
  (.cond (.t 16) (.seq (.region [⟨(some 17), none, .move, [.t 0]⟩, ⟨(some 6), none, .move, [.t 17]⟩] none [6])
  .ret)
  .skip))
  (.seq (.region [⟨(some 18), none, .move, [.t 0]⟩, ⟨(some 19), none, (.len .slice), [.t 18]⟩, ⟨(some 8), none, .move, [.t 19]⟩] none [0, 1, 2, 7, 8])
  (.seq (.seq (.region [⟨(some 20), none, .move, [.t 1]⟩, ⟨(some 21), none, .move, [.t 8]⟩, ⟨(some 22), none, (.bin .eql .num), [.t 20, .t 21]⟩] none [0, 1, 2, 7, 8, 22])
  (.cond (.t 22) (.seq (.region [⟨(some 23), none, .move, [.t 0]⟩, ⟨(some 24), none, .move, [.t 2]⟩, ⟨(some 25), none, (.append 10 96), [.t 23, .t 24]⟩, ⟨(some 6), none, .move, [.t 25]⟩] none [6])
  .ret)
  .skip))
  (.seq (.seq (.region [⟨(some 26), none, .move, [.t 8]⟩, ⟨(some 27), none, .move, [.t 7]⟩, ⟨(some 28), none, (.bin .add .num), [.t 26, .t 27]⟩, ⟨(some 29), none, .move, [.t 0]⟩, ⟨(some 30), none, .bad, []⟩, ⟨(some 31), none, (.bin .gtr .num), [.t 28, .t 30]⟩] none [0, 1, 2, 7, 8, 31])
  (.cond (.t 31) (.seq (.region [⟨(some 32), none, .move, [.t 0]⟩, ⟨(some 33), none, .move, [.t 1]⟩, ⟨(some 34), none, (.slice 10 false true false), [.t 32, .t 33]⟩, ⟨(some 35), none, .move, [.t 8]⟩, ⟨(some 36), none, .move, [.t 7]⟩, ⟨(some 37), none, (.bin .add .num), [.t 35, .t 36]⟩, ⟨(some 38), none, .move, [.t 1]⟩, ⟨(some 39), none, (.bin .sub .num), [.t 37, .t 38]⟩, ⟨(some 40), none, .bad, []⟩, ⟨(some 9), none, .move, [.t 40]⟩] none [0, 1, 2, 7, 9])
  (.seq (.region [⟨(some 41), none, .move, [.t 9]⟩, ⟨(some 42), none, .move, [.t 1]⟩, ⟨(some 43), none, (.slice 10 true false false), [.t 41, .t 42]⟩, ⟨(some 44), none, .move, [.t 2]⟩, ⟨(some 45), none, .bad, []⟩] none [0, 1, 7, 9])
  (.seq (.region [⟨(some 46), none, .move, [.t 9]⟩, ⟨(some 47), none, .move, [.t 1]⟩, ⟨(some 48), none, .move, [.t 7]⟩, ⟨(some 49), none, (.bin .add .num), [.t 47, .t 48]⟩, ⟨(some 50), none, (.slice 10 true false false), [.t 46, .t 49]⟩, ⟨(some 51), none, .move, [.t 0]⟩, ⟨(some 52), none, .move, [.t 1]⟩, ⟨(some 53), none, (.slice 10 true false false), [.t 51, .t 52]⟩, ⟨(some 54), none, .bad, []⟩] (some [0, 0, 0, 6, 15, 0, 0, 96, 255]) [9])
  (.seq (.region [⟨(some 55), none, .move, [.t 9]⟩, ⟨(some 6), none, .move, [.t 55]⟩] none [6])
  .ret))))
  .skip))
  (.seq (.region [⟨(some 56), none, .move, [.t 0]⟩, ⟨(some 57), none, .move, [.t 8]⟩, ⟨(some 58), none, .move, [.t 7]⟩, ⟨(some 59), none, (.bin .add .num), [.t 57, .t 58]⟩, ⟨(some 60), none, (.slice 10 false true false), [.t 56, .t 59]⟩, ⟨(some 0), none, .move, [.t 60]⟩] none [0, 1, 2, 7, 8])
  (.seq (.seq (.region [⟨(some 61), none, .move, [.t 2]⟩, ⟨(some 62), none, .move, [.t 0]⟩, ⟨(some 63), none, .move, [.t 1]⟩, ⟨(some 64), none, .move, [.t 7]⟩, ⟨(some 65), none, (.bin .add .num), [.t 63, .t 64]⟩, ⟨(some 66), none, (.slice 10 true false false), [.t 62, .t 65]⟩, ⟨(some 67), none, .call, [.c (.fn (.func 80) [] []), .t 61, .t 66]⟩, ⟨(some 68), none, (.un .not), [.t 67]⟩] none [0, 1, 2, 7, 8, 68])
  (.cond (.t 68) (.seq (.region [⟨(some 69), none, .move, [.t 0]⟩, ⟨(some 70), none, .move, [.t 1]⟩, ⟨(some 71), none, .move, [.t 7]⟩, ⟨(some 72), none, (.bin .add .num), [.t 70, .t 71]⟩, ⟨(some 73), none, (.slice 10 true false false), [.t 69, .t 72]⟩, ⟨(some 74), none, .move, [.t 0]⟩, ⟨(some 75), none, .move, [.t 1]⟩, ⟨(some 76), none, (.slice 10 true false false), [.t 74, .t 75]⟩, ⟨(some 77), none, .bad, []⟩] (some [0, 0, 0, 6, 15, 0, 0, 96, 255]) [0, 1, 2])
  (.seq (.region [⟨(some 78), none, .move, [.t 0]⟩, ⟨(some 79), none, .move, [.t 1]⟩, ⟨(some 80), none, (.slice 10 true false false), [.t 78, .t 79]⟩, ⟨(some 81), none, .move, [.t 2]⟩, ⟨(some 82), none, .bad, []⟩] none [0])
  (.seq (.region [⟨(some 83), none, .move, [.t 0]⟩, ⟨(some 6), none, .move, [.t 83]⟩] none [6])
  .ret)))
  .skip))
  (.seq (.region [⟨(some 84), none, .move, [.t 0]⟩, ⟨(some 85), none, .move, [.t 8]⟩, ⟨(some 86), none, (.slice 10 true false false), [.t 84, .t 85]⟩, ⟨(some 87), none, .move, [.t 2]⟩, ⟨(some 88), none, .bad, []⟩] none [0, 1, 7])
  (.seq (.region [⟨(some 89), none, .move, [.t 0]⟩, ⟨(some 90), none, .move, [.t 1]⟩, ⟨(some 91), none, (.slice 10 true false false), [.t 89, .t 90]⟩, ⟨(some 92), none, .move, [.t 7]⟩, ⟨(some 93), none, .call, [.c (.fn (.func 81) [] []), .t 91, .t 92]⟩] none [0])
  (.seq (.region [⟨(some 94), none, .move, [.t 0]⟩, ⟨(some 6), none, .move, [.t 94]⟩] none [6])
  .ret))))))))))))⟩
theorem ok61 : FunOk Try.prog 61 c61 := ⟨⟨Try.f61, _, Try.func61, rfl, by kernel_rfl, by kernel_rfl, by kernel_rfl, by kernel_rfl⟩, by decide⟩
/-- slices.Clone[duet/vec.Vec,int] -/
def c64 : AFun := ⟨1, 8, [.tmp 2],
  (.seq (.region [⟨(some 2), none, .move, [.c .nils]⟩] none [0])
  (.seq (.seq (.region [⟨(some 3), none, .move, [.t 0]⟩, ⟨(some 4), none, (.bin .eql .slice), [.t 3, .c .nils]⟩] none [0, 4])
  (.cond (.t 4) (.seq (.region [⟨(some 2), none, .move, [.c .nils]⟩] none [2])
  .ret)
  .skip))
  (.seq (.region [⟨(some 5), none, (.buildSlice 1 [] []), []⟩, ⟨(some 6), none, .move, [.t 0]⟩, ⟨(some 7), none, (.append 1 8), [.t 5, .t 6]⟩, ⟨(some 2), none, .move, [.t 7]⟩] none [2])
  .ret)))⟩
theorem ok64 : FunOk Try.prog 64 c64 := ⟨⟨Try.f64, _, Try.func64, rfl, by kernel_rfl, by kernel_rfl, by kernel_rfl, by kernel_rfl⟩, by decide⟩
/-- (duet/vec.Vec).Join -/
def c65 : AFun := ⟨2, 13, [.tmp 4, .tmp 5],
  (.seq (.region [⟨(some 4), none, .move, [.c .nils]⟩, ⟨(some 5), none, .move, [.c (.int .i64 0)]⟩] none [0, 1])
  (.seq (.seq (.region [⟨(some 6), none, .move, [.t 0]⟩, ⟨(some 7), none, .move, [.t 1]⟩, ⟨(some 8), none, .call, [.c (.fn (.func 75) [] []), .t 6, .t 7]⟩, ⟨(some 9), none, (.un .not), [.t 8]⟩] none [0, 1, 9])
  (.cond (.t 9) (.seq (.region [⟨(some 4), none, .move, [.c .nils]⟩, ⟨(some 5), none, .move, [.c (.int .i64 1)]⟩] none [4, 5])
  .ret)
  .skip))
  (.seq (.region [⟨(some 10), none, .move, [.t 0]⟩, ⟨(some 11), none, .move, [.t 1]⟩, ⟨(some 12), none, .call, [.c (.fn (.func 82) [] []), .t 10, .t 11, .c (.fn (.func 83) [] [])]⟩, ⟨(some 4), none, .move, [.t 12]⟩, ⟨(some 5), none, .move, [.c (.int .i64 0)]⟩] none [4, 5])
  .ret)))⟩
theorem ok65 : FunOk Try.prog 65 c65 := ⟨⟨Try.f65, _, Try.func65, rfl, by kernel_rfl, by kernel_rfl, by kernel_rfl, by kernel_rfl⟩, by decide⟩
/-- duet/mesg.Check$1 -/
def c66 : AFun := ⟨2, 23, [.tmp 3],
  (.seq (.region [⟨(some 2), none, .box, [.t 0]⟩, ⟨(some 3), none, .move, [.c (.bool false)]⟩] none [1, 2])
  (.seq (.region [⟨(some 4), none, (.fieldAddr 0), [.t 2]⟩, ⟨(some 5), none, (.load 1 false), [.t 4]⟩, ⟨(some 6), none, (.bin .gtr .num), [.t 5, .c (.int .i64 0)]⟩, ⟨(some 7), none, .move, [.t 6]⟩, ⟨(some 8), (some (7, true)), (.fieldAddr 0), [.t 2]⟩, ⟨(some 9), (some (7, true)), (.load 1 false), [.t 8]⟩, ⟨(some 10), (some (7, true)), .call, [.c (.fn (.func 67) [] []), .t 9]⟩, ⟨(some 11), none, .pick, [.t 7, .t 10, .c (.bool false)]⟩, ⟨(some 12), none, .move, [.t 11]⟩, ⟨(some 13), (some (12, true)), (.fieldAddr 1), [.t 2]⟩, ⟨(some 14), (some (12, true)), (.load 1 false), [.t 13]⟩, ⟨(some 15), (some (12, true)), (.bin .geq .num), [.t 14, .c (.int .i64 0)]⟩, ⟨(some 16), none, .pick, [.t 12, .t 15, .c (.bool false)]⟩, ⟨(some 17), none, .move, [.t 16]⟩, ⟨(some 18), (some (17, true)), (.fieldAddr 1), [.t 2]⟩, ⟨(some 19), (some (17, true)), (.load 1 false), [.t 18]⟩, ⟨(some 20), (some (17, true)), (.load 1 false), [.t 1]⟩, ⟨(some 21), (some (17, true)), (.bin .lss .num), [.t 19, .t 20]⟩, ⟨(some 22), none, .pick, [.t 17, .t 21, .c (.bool false)]⟩, ⟨(some 3), none, .move, [.t 22]⟩] none [3])
  .ret))⟩
theorem ok66 : FunOk Try.prog 66 c66 := ⟨⟨Try.f66, _, Try.func66, rfl, by kernel_rfl, by kernel_rfl, by kernel_rfl, by kernel_rfl⟩, by decide⟩
/-- duet/mesg.isClock -/
def c67 : AFun := ⟨1, 9, [.tmp 2],
  (.seq (.region [⟨(some 2), none, .move, [.c (.bool false)]⟩] none [0])
  (.seq (.region [⟨(some 3), none, .move, [.t 0]⟩, ⟨(some 4), none, (.bin .geq .num), [.t 3, .c (.int .i64 0)]⟩, ⟨(some 5), none, .move, [.t 4]⟩, ⟨(some 6), (some (5, true)), .move, [.t 0]⟩, ⟨(some 7), (some (5, true)), (.bin .leq .num), [.t 6, .c (.int .i64 4294967295)]⟩, ⟨(some 8), none, .pick, [.t 5, .t 7, .c (.bool false)]⟩, ⟨(some 2), none, .move, [.t 8]⟩] none [2])
  .ret))⟩
theorem ok67 : FunOk Try.prog 67 c67 := ⟨⟨Try.f67, _, Try.func67, rfl, by kernel_rfl, by kernel_rfl, by kernel_rfl, by kernel_rfl⟩, by decide⟩
/-- duet/mesg.has -/
def c68 : AFun := ⟨1, 15, [.tmp 2, .tmp 3, .tmp 4],
  (.seq (.region [⟨(some 2), none, .move, [.c (.bool false)]⟩, ⟨(some 3), none, .move, [.c (.bool false)]⟩, ⟨(some 4), none, .move, [.c (.bool false)]⟩] none [0])
  (.seq (.region [⟨(some 5), none, .move, [.t 0]⟩, ⟨(some 6), none, (.bin .eql .num), [.t 5, .c (.int .i64 1)]⟩, ⟨(some 7), none, .move, [.t 6]⟩, ⟨(some 8), (some (7, false)), .move, [.t 0]⟩, ⟨(some 9), (some (7, false)), (.bin .eql .num), [.t 8, .c (.int .i64 6)]⟩, ⟨(some 10), none, .pick, [.t 7, .c (.bool true), .t 9]⟩, ⟨(some 11), none, .move, [.t 0]⟩, ⟨(some 12), none, (.bin .neq .num), [.t 11, .c (.int .i64 6)]⟩, ⟨(some 13), none, .move, [.t 0]⟩, ⟨(some 14), none, (.bin .eql .num), [.t 13, .c (.int .i64 1)]⟩, ⟨(some 2), none, .move, [.t 10]⟩, ⟨(some 3), none, .move, [.t 12]⟩, ⟨(some 4), none, .move, [.t 14]⟩] none [2, 3, 4])
  .ret))⟩
theorem ok68 : FunOk Try.prog 68 c68 := ⟨⟨Try.f68, _, Try.func68, rfl, by kernel_rfl, by kernel_rfl, by kernel_rfl, by kernel_rfl⟩, by decide⟩
/-- slices.ContainsFunc[[]int,int] -/
def c69 : AFun := ⟨2, 9, [.tmp 4],
  (.seq (.region [⟨(some 4), none, .move, [.c (.bool false)]⟩] none [0, 1])
  (.seq (.region [⟨(some 5), none, .move, [.t 0]⟩, ⟨(some 6), none, .move, [.t 1]⟩, ⟨(some 7), none, .call, [.c (.fn (.func 84) [] []), .t 5, .t 6]⟩, ⟨(some 8), none, (.bin .geq .num), [.t 7, .c (.int .i64 0)]⟩, ⟨(some 4), none, .move, [.t 8]⟩] none [4])
  .ret))⟩
theorem ok69 : FunOk Try.prog 69 c69 := ⟨⟨Try.f69, _, Try.func69, rfl, by kernel_rfl, by kernel_rfl, by kernel_rfl, by kernel_rfl⟩, by decide⟩
/-- duet/mesg.Check$2 -/
def c70 : AFun := ⟨1, 6, [.tmp 2],
  (.seq (.region [⟨(some 2), none, .move, [.c (.bool false)]⟩] none [0])
  (.seq (.region [⟨(some 3), none, .move, [.t 0]⟩, ⟨(some 4), none, .call, [.c (.fn (.func 67) [] []), .t 3]⟩, ⟨(some 5), none, (.un .not), [.t 4]⟩, ⟨(some 2), none, .move, [.t 5]⟩] none [2])
  .ret))⟩
theorem ok70 : FunOk Try.prog 70 c70 := ⟨⟨Try.f70, _, Try.func70, rfl, by kernel_rfl, by kernel_rfl, by kernel_rfl, by kernel_rfl⟩, by decide⟩
/-- duet/mesg.Rune -/
def c71 : AFun := ⟨1, 22, [.tmp 2],
  (.seq (.region [⟨(some 2), none, .move, [.c (.bool false)]⟩] none [0])
  (.seq (.block 0 (.seq (.seq (.region [⟨(some 4), none, .move, [.t 0]⟩, ⟨(some 5), none, (.bin .lss .num), [.t 4, .c (.int .i64 32)]⟩, ⟨(some 6), none, .move, [.t 5]⟩, ⟨(some 7), (some (6, false)), .move, [.t 0]⟩, ⟨(some 8), (some (6, false)), (.bin .gtr .num), [.t 7, .c (.int .i64 1114111)]⟩, ⟨(some 9), none, .pick, [.t 6, .c (.bool true), .t 8]⟩, ⟨(some 3), none, .move, [.t 9]⟩] none [0, 3])
  (.cond (.t 3) .skip
  (.seq (.region [⟨(some 10), none, .move, [.t 0]⟩, ⟨(some 11), none, (.bin .geq .num), [.t 10, .c (.int .i64 127)]⟩, ⟨(some 12), none, .move, [.t 11]⟩, ⟨(some 13), (some (12, true)), .move, [.t 0]⟩, ⟨(some 14), (some (12, true)), (.bin .leq .num), [.t 13, .c (.int .i64 159)]⟩, ⟨(some 15), none, .pick, [.t 12, .t 14, .c (.bool false)]⟩, ⟨(some 3), none, .move, [.t 15]⟩] none [0, 3])
  (.cond (.t 3) .skip
  (.region [⟨(some 16), none, .move, [.t 0]⟩, ⟨(some 17), none, (.bin .geq .num), [.t 16, .c (.int .i64 55296)]⟩, ⟨(some 18), none, .move, [.t 17]⟩, ⟨(some 19), (some (18, true)), .move, [.t 0]⟩, ⟨(some 20), (some (18, true)), (.bin .leq .num), [.t 19, .c (.int .i64 57343)]⟩, ⟨(some 21), none, .pick, [.t 18, .t 20, .c (.bool false)]⟩, ⟨(some 3), none, .move, [.t 21]⟩] none [3])))))
  (.cond (.t 3) (.seq (.region [⟨(some 2), none, .move, [.c (.bool false)]⟩] none [2])
  .ret)
  .skip)))
  (.seq (.region [⟨(some 2), none, .move, [.c (.bool true)]⟩] none [2])
  .ret)))⟩
theorem ok71 : FunOk Try.prog 71 c71 := ⟨⟨Try.f71, _, Try.func71, rfl, by kernel_rfl, by kernel_rfl, by kernel_rfl, by kernel_rfl⟩, by decide⟩
/-- slices.Clone[[]int,int] -/
def c72 : AFun := ⟨1, 8, [.tmp 2],
  (.seq (.region [⟨(some 2), none, .move, [.c .nils]⟩] none [0])
  (.seq (.seq (.region [⟨(some 3), none, .move, [.t 0]⟩, ⟨(some 4), none, (.bin .eql .slice), [.t 3, .c .nils]⟩] none [0, 4])
  (.cond (.t 4) (.seq (.region [⟨(some 2), none, .move, [.c .nils]⟩] none [2])
  .ret)
  .skip))
  (.seq (.region [⟨(some 5), none, (.buildSlice 1 [] []), []⟩, ⟨(some 6), none, .move, [.t 0]⟩, ⟨(some 7), none, (.append 1 8), [.t 5, .t 6]⟩, ⟨(some 2), none, .move, [.t 7]⟩] none [2])
  .ret)))⟩
theorem ok72 : FunOk Try.prog 72 c72 := ⟨⟨Try.f72, _, Try.func72, rfl, by kernel_rfl, by kernel_rfl, by kernel_rfl, by kernel_rfl⟩, by decide⟩
/-- slices.Min[duet/vec.Vec,int] -/
def c73 : AFun := ⟨1, 25, [.tmp 2],
  (.seq (.region [⟨(some 2), none, .move, [.c (.int .i64 0)]⟩] none [0])
  (.seq (.seq (.region [⟨(some 5), none, .move, [.t 0]⟩, ⟨(some 6), none, (.len .slice), [.t 5]⟩, ⟨(some 7), none, (.bin .lss .num), [.t 6, .c (.int .i64 1)]⟩] none [0, 7])
  (.cond (.t 7) (.region [⟨(some 8), none, .bad, []⟩, ⟨none, none, .bad, []⟩] none [0])
  .skip))
  (.seq (.region [⟨(some 9), none, .move, [.t 0]⟩, ⟨(some 10), none, (.indexAddr 1), [.t 9, .c (.int .i64 0)]⟩, ⟨(some 11), none, (.load 1 false), [.t 10]⟩, ⟨(some 3), none, .move, [.t 11]⟩] none [0, 3])
  (.seq (.seq (.region [⟨(some 4), none, .move, [.c (.int .i64 1)]⟩] none [0, 3, 4])
  (.block 0 (.loop [0, 3, 4] (.seq (.seq (.region [⟨(some 12), none, .move, [.t 4]⟩, ⟨(some 13), none, .move, [.t 0]⟩, ⟨(some 14), none, (.len .slice), [.t 13]⟩, ⟨(some 15), none, (.bin .lss .num), [.t 12, .t 14]⟩] none [0, 3, 4, 15])
  (.cond (.t 15) .skip
  (.exit 0)))
  (.seq (.block 1 (.region [⟨(some 18), none, .move, [.t 3]⟩, ⟨(some 19), none, .move, [.t 0]⟩, ⟨(some 20), none, .move, [.t 4]⟩, ⟨(some 21), none, (.indexAddr 1), [.t 19, .t 20]⟩, ⟨(some 22), none, (.load 1 false), [.t 21]⟩, ⟨(some 23), none, .min, [.t 18, .t 22]⟩, ⟨(some 3), none, .move, [.t 23]⟩] none [0, 3, 4]))
  (.region [⟨(some 16), none, .move, [.t 4]⟩, ⟨(some 17), none, (.bin .add .num), [.t 16, .c (.int .i64 1)]⟩, ⟨(some 4), none, .move, [.t 17]⟩] none [0, 3, 4]))))))
  (.seq (.region [⟨(some 24), none, .move, [.t 3]⟩, ⟨(some 2), none, .move, [.t 24]⟩] none [2])
  .ret)))))⟩
theorem ok73 : FunOk Try.prog 73 c73 := ⟨⟨Try.f73, _, Try.func73, rfl, by kernel_rfl, by kernel_rfl, by kernel_rfl, by kernel_rfl⟩, by decide⟩
/-- slices.Max[duet/vec.Vec,int] -/
def c74 : AFun := ⟨1, 25, [.tmp 2],
  (.seq (.region [⟨(some 2), none, .move, [.c (.int .i64 0)]⟩] none [0])
  (.seq (.seq (.region [⟨(some 5), none, .move, [.t 0]⟩, ⟨(some 6), none, (.len .slice), [.t 5]⟩, ⟨(some 7), none, (.bin .lss .num), [.t 6, .c (.int .i64 1)]⟩] none [0, 7])
  (.cond (.t 7) (.region [⟨(some 8), none, .bad, []⟩, ⟨none, none, .bad, []⟩] none [0])
  .skip))
  (.seq (.region [⟨(some 9), none, .move, [.t 0]⟩, ⟨(some 10), none, (.indexAddr 1), [.t 9, .c (.int .i64 0)]⟩, ⟨(some 11), none, (.load 1 false), [.t 10]⟩, ⟨(some 3), none, .move, [.t 11]⟩] none [0, 3])
  (.seq (.seq (.region [⟨(some 4), none, .move, [.c (.int .i64 1)]⟩] none [0, 3, 4])
  (.block 0 (.loop [0, 3, 4] (.seq (.seq (.region [⟨(some 12), none, .move, [.t 4]⟩, ⟨(some 13), none, .move, [.t 0]⟩, ⟨(some 14), none, (.len .slice), [.t 13]⟩, ⟨(some 15), none, (.bin .lss .num), [.t 12, .t 14]⟩] none [0, 3, 4, 15])
  (.cond (.t 15) .skip
  (.exit 0)))
  (.seq (.block 1 (.region [⟨(some 18), none, .move, [.t 3]⟩, ⟨(some 19), none, .move, [.t 0]⟩, ⟨(some 20), none, .move, [.t 4]⟩, ⟨(some 21), none, (.indexAddr 1), [.t 19, .t 20]⟩, ⟨(some 22), none, (.load 1 false), [.t 21]⟩, ⟨(some 23), none, .max, [.t 18, .t 22]⟩, ⟨(some 3), none, .move, [.t 23]⟩] none [0, 3, 4]))
  (.region [⟨(some 16), none, .move, [.t 4]⟩, ⟨(some 17), none, (.bin .add .num), [.t 16, .c (.int .i64 1)]⟩, ⟨(some 4), none, .move, [.t 17]⟩] none [0, 3, 4]))))))
  (.seq (.region [⟨(some 24), none, .move, [.t 3]⟩, ⟨(some 2), none, .move, [.t 24]⟩] none [2])
  .ret)))))⟩
theorem ok74 : FunOk Try.prog 74 c74 := ⟨⟨Try.f74, _, Try.func74, rfl, by kernel_rfl, by kernel_rfl, by kernel_rfl, by kernel_rfl⟩, by decide⟩
/-- (duet/vec.Vec).goes -/
def c75 : AFun := ⟨2, 20, [.tmp 4],
  (.seq (.region [⟨(some 4), none, .move, [.c (.bool false)]⟩] none [0, 1])
  (.seq (.region [⟨(some 5), none, .move, [.t 0]⟩, ⟨(some 6), none, (.len .slice), [.t 5]⟩, ⟨(some 7), none, .move, [.t 1]⟩, ⟨(some 8), none, (.len .slice), [.t 7]⟩, ⟨(some 9), none, (.bin .eql .num), [.t 6, .t 8]⟩, ⟨(some 10), none, .move, [.t 9]⟩, ⟨(some 11), (some (10, true)), .move, [.t 0]⟩, ⟨(some 12), (some (10, true)), .call, [.c (.fn (.func 46) [] []), .t 11]⟩, ⟨(some 13), (some (10, true)), (.bin .eql .num), [.t 12, .c (.int .i64 0)]⟩, ⟨(some 14), none, .pick, [.t 10, .t 13, .c (.bool false)]⟩, ⟨(some 15), none, .move, [.t 14]⟩, ⟨(some 16), (some (15, true)), .move, [.t 1]⟩, ⟨(some 17), (some (15, true)), .call, [.c (.fn (.func 46) [] []), .t 16]⟩, ⟨(some 18), (some (15, true)), (.bin .eql .num), [.t 17, .c (.int .i64 0)]⟩, ⟨(some 19), none, .pick, [.t 15, .t 18, .c (.bool false)]⟩, ⟨(some 4), none, .move, [.t 19]⟩] none [4])
  .ret))⟩
theorem ok75 : FunOk Try.prog 75 c75 := ⟨⟨Try.f75, _, Try.func75, rfl, by kernel_rfl, by kernel_rfl, by kernel_rfl, by kernel_rfl⟩, by decide⟩
/-- slices.Equal[[]int,int] -/
def c79 : AFun := ⟨2, 26, [.tmp 4],
  (.seq (.region [⟨(some 4), none, .move, [.c (.bool false)]⟩] none [0, 1])
  (.seq (.seq (.region [⟨(some 6), none, .move, [.t 0]⟩, ⟨(some 7), none, (.len .slice), [.t 6]⟩, ⟨(some 8), none, .move, [.t 1]⟩, ⟨(some 9), none, (.len .slice), [.t 8]⟩, ⟨(some 10), none, (.bin .neq .num), [.t 7, .t 9]⟩] none [0, 1, 10])
  (.cond (.t 10) (.seq (.region [⟨(some 4), none, .move, [.c (.bool false)]⟩] none [4])
  .ret)
  .skip))
  (.seq (.seq (.region [⟨(some 11), none, .move, [.t 0]⟩, ⟨(some 12), none, (.len .slice), [.t 11]⟩, ⟨(some 13), none, .move, [.c (.int .i64 0)]⟩] none [0, 1, 12, 13])
  (.block 0 (.loop [0, 1, 12, 13] (.seq (.region [⟨(some 14), none, (.bin .lss .num), [.t 13, .t 12]⟩] none [0, 1, 12, 13, 14])
  (.seq (.cond (.t 14) .skip
  (.exit 0))
  (.seq (.block 1 (.seq (.region [⟨(some 15), none, .move, [.t 13]⟩, ⟨(some 5), none, .move, [.t 15]⟩] none [0, 1, 5, 12, 13])
  (.seq (.region [⟨(some 16), none, .move, [.t 0]⟩, ⟨(some 17), none, .move, [.t 5]⟩, ⟨(some 18), none, (.indexAddr 1), [.t 16, .t 17]⟩, ⟨(some 19), none, (.load 1 false), [.t 18]⟩, ⟨(some 20), none, .move, [.t 1]⟩, ⟨(some 21), none, .move, [.t 5]⟩, ⟨(some 22), none, (.indexAddr 1), [.t 20, .t 21]⟩, ⟨(some 23), none, (.load 1 false), [.t 22]⟩, ⟨(some 24), none, (.bin .neq .num), [.t 19, .t 23]⟩] (some [0, 0, 3, 7, 0, 0, 48, 112, 255]) [0, 1, 12, 13, 24])
  (.cond (.t 24) (.seq (.region [⟨(some 4), none, .move, [.c (.bool false)]⟩] none [4])
  .ret)
  .skip))))
  (.region [⟨(some 25), none, (.bin .add .num), [.t 13, .c (.int .i64 1)]⟩, ⟨(some 13), none, .move, [.t 25]⟩] none [0, 1, 12, 13])))))))
  (.seq (.region [⟨(some 4), none, .move, [.c (.bool true)]⟩] none [4])
  .ret))))⟩
theorem ok79 : FunOk Try.prog 79 c79 := ⟨⟨Try.f79, _, Try.func79, rfl, by kernel_rfl, by kernel_rfl, by kernel_rfl, by kernel_rfl⟩, by decide⟩
/-- slices.rotateRight[duet/api.Msg] -/
def c81 : AFun := ⟨2, 10, [],
  (.region [⟨(some 4), none, .move, [.t 0]⟩, ⟨(some 5), none, .move, [.t 0]⟩, ⟨(some 6), none, (.len .slice), [.t 5]⟩, ⟨(some 7), none, .move, [.t 1]⟩, ⟨(some 8), none, (.bin .sub .num), [.t 6, .t 7]⟩, ⟨(some 9), none, .call, [.c (.fn (.func 85) [] []), .t 4, .t 8]⟩] none [])⟩
theorem ok81 : FunOk Try.prog 81 c81 := ⟨⟨Try.f81, _, Try.func81, rfl, by kernel_rfl, by kernel_rfl, by kernel_rfl, by kernel_rfl⟩, by decide⟩
/-- duet/vec.zip[int] -/
def c82 : AFun := ⟨3, 32, [.tmp 6],
  (.seq (.region [⟨(some 6), none, .move, [.c .nils]⟩] none [0, 1, 2])
  (.seq (.region [⟨(some 9), none, .move, [.t 0]⟩, ⟨(some 10), none, (.len .slice), [.t 9]⟩, ⟨(some 11), none, (.mkslice 1 [(.int .i64 0)] 8), [.t 10, .t 10]⟩, ⟨(some 7), none, .move, [.t 11]⟩] none [0, 1, 2, 7])
  (.seq (.seq (.region [⟨(some 12), none, .move, [.t 0]⟩, ⟨(some 13), none, (.len .slice), [.t 12]⟩, ⟨(some 14), none, .move, [.c (.int .i64 0)]⟩] none [0, 1, 2, 7, 13, 14])
  (.block 0 (.loop [0, 1, 2, 7, 13, 14] (.seq (.region [⟨(some 15), none, (.bin .lss .num), [.t 14, .t 13]⟩] none [0, 1, 2, 7, 13, 14, 15])
  (.seq (.cond (.t 15) .skip
  (.exit 0))
  (.seq (.block 1 (.seq (.region [⟨(some 16), none, .move, [.t 14]⟩, ⟨(some 8), none, .move, [.t 16]⟩] none [0, 1, 2, 7, 8, 13, 14])
  (.region [⟨(some 17), none, .move, [.t 7]⟩, ⟨(some 18), none, .move, [.t 8]⟩, ⟨(some 19), none, .move, [.t 2]⟩, ⟨(some 20), none, .move, [.t 0]⟩, ⟨(some 21), none, .move, [.t 8]⟩, ⟨(some 22), none, (.indexAddr 1), [.t 20, .t 21]⟩, ⟨(some 23), none, (.load 1 false), [.t 22]⟩, ⟨(some 24), none, .move, [.t 1]⟩, ⟨(some 25), none, .move, [.t 8]⟩, ⟨(some 26), none, (.indexAddr 1), [.t 24, .t 25]⟩, ⟨(some 27), none, (.load 1 false), [.t 26]⟩, ⟨(some 28), none, .call, [.t 19, .t 23, .t 27]⟩, ⟨(some 29), none, (.indexAddr 1), [.t 17, .t 18]⟩, ⟨none, none, (.store 1), [.t 29, .t 28]⟩] (some [0, 0, 0, 0, 0, 24, 56, 0, 0, 384, 896, 2044, 4095, 8191]) [0, 1, 2, 7, 13, 14])))
  (.region [⟨(some 30), none, (.bin .add .num), [.t 14, .c (.int .i64 1)]⟩, ⟨(some 14), none, .move, [.t 30]⟩] none [0, 1, 2, 7, 13, 14])))))))
  (.seq (.region [⟨(some 31), none, .move, [.t 7]⟩, ⟨(some 6), none, .move, [.t 31]⟩] none [6])
  .ret))))⟩
theorem ok82 : FunOk Try.prog 82 c82 := ⟨⟨Try.f82, _, Try.func82, rfl, by kernel_rfl, by kernel_rfl, by kernel_rfl, by kernel_rfl⟩, by decide⟩
/-- (duet/vec.Vec).Join$1 -/
def c83 : AFun := ⟨2, 8, [.tmp 4],
  (.seq (.region [⟨(some 4), none, .move, [.c (.int .i64 0)]⟩] none [0, 1])
  (.seq (.region [⟨(some 5), none, .move, [.t 0]⟩, ⟨(some 6), none, .move, [.t 1]⟩, ⟨(some 7), none, .max, [.t 5, .t 6]⟩, ⟨(some 4), none, .move, [.t 7]⟩] none [4])
  .ret))⟩
theorem ok83 : FunOk Try.prog 83 c83 := ⟨⟨Try.f83, _, Try.func83, rfl, by kernel_rfl, by kernel_rfl, by kernel_rfl, by kernel_rfl⟩, by decide⟩
/-- slices.IndexFunc[[]int,int] -/
def c84 : AFun := ⟨2, 19, [.tmp 4],
  (.seq (.region [⟨(some 4), none, .move, [.c (.int .i64 0)]⟩] none [0, 1])
  (.seq (.seq (.region [⟨(some 6), none, .move, [.t 0]⟩, ⟨(some 7), none, (.len .slice), [.t 6]⟩, ⟨(some 8), none, .move, [.c (.int .i64 0)]⟩] none [0, 1, 7, 8])
  (.block 0 (.loop [0, 1, 7, 8] (.seq (.region [⟨(some 9), none, (.bin .lss .num), [.t 8, .t 7]⟩] none [0, 1, 7, 8, 9])
  (.seq (.cond (.t 9) .skip
  (.exit 0))
  (.seq (.block 1 (.seq (.region [⟨(some 10), none, .move, [.t 8]⟩, ⟨(some 5), none, .move, [.t 10]⟩] none [0, 1, 5, 7, 8])
  (.seq (.region [⟨(some 11), none, .move, [.t 1]⟩, ⟨(some 12), none, .move, [.t 0]⟩, ⟨(some 13), none, .move, [.t 5]⟩, ⟨(some 14), none, (.indexAddr 1), [.t 12, .t 13]⟩, ⟨(some 15), none, (.load 1 false), [.t 14]⟩, ⟨(some 16), none, .call, [.t 11, .t 15]⟩] none [0, 1, 5, 7, 8, 16])
  (.cond (.t 16) (.seq (.region [⟨(some 17), none, .move, [.t 5]⟩, ⟨(some 4), none, .move, [.t 17]⟩] none [4])
  .ret)
  .skip))))
  (.region [⟨(some 18), none, (.bin .add .num), [.t 8, .c (.int .i64 1)]⟩, ⟨(some 8), none, .move, [.t 18]⟩] none [0, 1, 7, 8])))))))
  (.seq (.region [⟨(some 4), none, .move, [.c (.int .i64 (-1))]⟩] none [4])
  .ret)))⟩
theorem ok84 : FunOk Try.prog 84 c84 := ⟨⟨Try.f84, _, Try.func84, rfl, by kernel_rfl, by kernel_rfl, by kernel_rfl, by kernel_rfl⟩, by decide⟩
/-- slices.rotateLeft[duet/api.Msg] -/
def c85 : AFun := ⟨2, 14, [],
  (.seq (.region [⟨(some 4), none, .move, [.t 0]⟩, ⟨(some 5), none, .move, [.t 1]⟩, ⟨(some 6), none, (.slice 10 false true false), [.t 4, .t 5]⟩, ⟨(some 7), none, .call, [.c (.fn (.func 86) [] []), .t 6]⟩] none [0, 1])
  (.seq (.region [⟨(some 8), none, .move, [.t 0]⟩, ⟨(some 9), none, .move, [.t 1]⟩, ⟨(some 10), none, (.slice 10 true false false), [.t 8, .t 9]⟩, ⟨(some 11), none, .call, [.c (.fn (.func 86) [] []), .t 10]⟩] none [0])
  (.region [⟨(some 12), none, .move, [.t 0]⟩, ⟨(some 13), none, .call, [.c (.fn (.func 86) [] []), .t 12]⟩] none [])))⟩
theorem ok85 : FunOk Try.prog 85 c85 := ⟨⟨Try.f85, _, Try.func85, rfl, by kernel_rfl, by kernel_rfl, by kernel_rfl, by kernel_rfl⟩, by decide⟩
/-- slices.Reverse[[]duet/api.Msg,duet/api.Msg] -/
def c86 : AFun := ⟨1, 28, [],
  (.seq (.region [⟨(some 4), none, .move, [.t 0]⟩, ⟨(some 5), none, (.len .slice), [.t 4]⟩, ⟨(some 6), none, (.bin .sub .num), [.t 5, .c (.int .i64 1)]⟩, ⟨(some 2), none, .move, [.c (.int .i64 0)]⟩, ⟨(some 3), none, .move, [.t 6]⟩] none [0, 2, 3])
  (.block 0 (.loop [0, 2, 3] (.seq (.seq (.region [⟨(some 7), none, .move, [.t 2]⟩, ⟨(some 8), none, .move, [.t 3]⟩, ⟨(some 9), none, (.bin .lss .num), [.t 7, .t 8]⟩] none [0, 2, 3, 9])
  (.cond (.t 9) .skip
  (.exit 0)))
  (.seq (.block 1 (.region [⟨(some 14), none, .move, [.t 0]⟩, ⟨(some 15), none, .move, [.t 2]⟩, ⟨(some 16), none, .move, [.t 0]⟩, ⟨(some 17), none, .move, [.t 3]⟩, ⟨(some 18), none, .move, [.t 0]⟩, ⟨(some 19), none, .move, [.t 3]⟩, ⟨(some 20), none, (.indexAddr 10), [.t 18, .t 19]⟩, ⟨(some 21), none, (.load 10 true), [.t 20]⟩, ⟨(some 22), none, .move, [.t 0]⟩, ⟨(some 23), none, .move, [.t 2]⟩, ⟨(some 24), none, (.indexAddr 10), [.t 22, .t 23]⟩, ⟨(some 25), none, (.load 10 true), [.t 24]⟩, ⟨(some 26), none, (.indexAddr 10), [.t 14, .t 15]⟩, ⟨none, none, (.store 10), [.t 26, .t 21]⟩, ⟨(some 27), none, (.indexAddr 10), [.t 16, .t 17]⟩, ⟨none, none, (.store 10), [.t 27, .t 25]⟩] (some [0, 0, 0, 0, 0, 0, 48, 112, 0, 0, 768, 1792, 4083, 8179, 16383, 32767]) [0, 2, 3]))
  (.region [⟨(some 10), none, .move, [.t 2]⟩, ⟨(some 11), none, (.bin .add .num), [.t 10, .c (.int .i64 1)]⟩, ⟨(some 12), none, .move, [.t 3]⟩, ⟨(some 13), none, (.bin .sub .num), [.t 12, .c (.int .i64 1)]⟩, ⟨(some 2), none, .move, [.t 11]⟩, ⟨(some 3), none, .move, [.t 13]⟩] none [0, 2, 3]))))))⟩
theorem ok86 : FunOk Try.prog 86 c86 := ⟨⟨Try.f86, _, Try.func86, rfl, by kernel_rfl, by kernel_rfl, by kernel_rfl, by kernel_rfl⟩, by decide⟩
def tblL : List (Nat × AFun) := [(8, c8), (30, c30), (31, c31), (33, c33), (36, c36), (37, c37), (38, c38), (39, c39), (42, c42), (43, c43), (46, c46), (47, c47), (54, c54), (55, c55), (56, c56), (57, c57), (58, c58), (59, c59), (60, c60), (61, c61), (64, c64), (65, c65), (66, c66), (67, c67), (68, c68), (69, c69), (70, c70), (71, c71), (72, c72), (73, c73), (74, c74), (75, c75), (79, c79), (81, c81), (82, c82), (83, c83), (84, c84), (85, c85), (86, c86)]
def tbl (f : Nat) : Option AFun := tblL.lookup f
theorem tbl_ok : ∀ f A, tbl f = some A → FunOk Try.prog f A := lookup_ok (by
  simp only [tblL, List.forall_mem_cons]
  exact ⟨ok8, ok30, ok31, ok33, ok36, ok37, ok38, ok39, ok42, ok43, ok46, ok47, ok54, ok55, ok56, ok57, ok58, ok59, ok60, ok61, ok64, ok65, ok66, ok67, ok68, ok69, ok70, ok71, ok72, ok73, ok74, ok75, ok79, ok81, ok82, ok83, ok84, ok85, ok86, by simp⟩)
theorem run_ok (fuel d : Nat) : CallOk Try.prog (arun tbl fuel d) := arun_ok Try.mixed tbl_ok fuel d
end Go.Proofs.Ytoajcigegjhiaaa
