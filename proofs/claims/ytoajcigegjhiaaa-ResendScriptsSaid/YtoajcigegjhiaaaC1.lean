/- The program's functions in the abstract machine's terms. -/
import Derived.Test.YtoajcigegjhiaaaA22
import Derived.Test.YtoajcigegjhiaaaProg
import Derived.KernelRfl
namespace Go.Proofs.Ytoajcigegjhiaaa.RunC1
set_option maxRecDepth 100000
set_option linter.unusedVariables false
set_option linter.unusedSimpArgs false
/-- duet/resend.New -/
def c13 : AFun := ⟨2, 25, [.tmp 4, .tmp 5],
  (.seq (.region [⟨(some 4), none, .move, [.c .nilp]⟩, ⟨(some 5), none, .move, [.c (.int .i64 0)]⟩] none [0, 1])
  (.seq (.seq (.region [⟨(some 6), none, .move, [.t 0]⟩, ⟨(some 7), none, (.bin .lss .num), [.t 6, .c (.int .i64 1)]⟩, ⟨(some 8), none, .move, [.t 7]⟩, ⟨(some 9), (some (8, false)), .move, [.t 0]⟩, ⟨(some 10), (some (8, false)), (.bin .gtr .num), [.t 9, .c (.int .i64 16)]⟩, ⟨(some 11), none, .pick, [.t 8, .c (.bool true), .t 10]⟩, ⟨(some 12), none, .move, [.t 11]⟩, ⟨(some 13), (some (12, false)), .move, [.t 1]⟩, ⟨(some 14), (some (12, false)), (.bin .lss .num), [.t 13, .c (.int .i64 1)]⟩, ⟨(some 15), none, .pick, [.t 12, .c (.bool true), .t 14]⟩, ⟨(some 16), none, .move, [.t 15]⟩, ⟨(some 17), (some (16, false)), .move, [.t 1]⟩, ⟨(some 18), (some (16, false)), (.bin .gtr .num), [.t 17, .c (.int .i64 100000)]⟩, ⟨(some 19), none, .pick, [.t 16, .c (.bool true), .t 18]⟩] none [0, 1, 19])
  (.cond (.t 19) (.seq (.region [⟨(some 4), none, .move, [.c .nilp]⟩, ⟨(some 5), none, .move, [.c (.int .i64 1)]⟩] none [4, 5])
  .ret)
  .skip))
  (.seq (.region [⟨(some 20), none, .move, [.t 0]⟩, ⟨(some 21), none, .move, [.t 1]⟩, ⟨(some 22), none, .mkmap, []⟩, ⟨(some 23), none, (.build [(.int .i64 0), (.int .i64 0), .nilm] [(0, 1), (1, 1), (2, 1)]), [.t 20, .t 21, .t 22]⟩, ⟨(some 24), none, .box, [.t 23]⟩, ⟨(some 4), none, .move, [.t 24]⟩, ⟨(some 5), none, .move, [.c (.int .i64 0)]⟩] none [4, 5])
  .ret)))⟩
theorem ok13 : FunOk Try.prog 13 c13 := ⟨⟨Try.f13, _, Try.func13, rfl, by kernel_rfl, by kernel_rfl, by kernel_rfl, by kernel_rfl⟩, by decide⟩
/-- duet/duetlaw08.live -/
def c15 : AFun := ⟨0, 114, [.tmp 0],
  (.seq (.region [⟨(some 0), none, .move, [.c (.bool false)]⟩] none [])
  (.seq (.region [⟨(some 17), none, .call, [.c (.fn (.func 13) [] []), .c (.int .i64 2), .c (.int .i64 2)]⟩, ⟨(some 16), none, .move, [.t 17]⟩, ⟨(some 18), none, (.extract 0), [.t 16]⟩, ⟨(some 19), none, (.extract 1), [.t 16]⟩, ⟨(some 1), none, .move, [.t 18]⟩, ⟨(some 2), none, .move, [.t 19]⟩] none [1, 2])
  (.seq (.region [⟨(some 21), none, .call, [.c (.fn (.func 13) [] []), .c (.int .i64 2), .c (.int .i64 0)]⟩, ⟨(some 20), none, .move, [.t 21]⟩, ⟨(some 22), none, (.extract 0), [.t 20]⟩, ⟨(some 23), none, (.extract 1), [.t 20]⟩, ⟨(some 3), none, .move, [.t 22]⟩, ⟨(some 4), none, .move, [.t 23]⟩] none [1, 2, 4])
  (.seq (.seq (.region [⟨(some 24), none, .move, [.t 1]⟩, ⟨(some 25), none, (.bin .eql .ptr), [.t 24, .c .nilp]⟩, ⟨(some 26), none, .move, [.t 25]⟩, ⟨(some 27), (some (26, false)), .move, [.t 2]⟩, ⟨(some 28), (some (26, false)), (.bin .neq .num), [.t 27, .c (.int .i64 0)]⟩, ⟨(some 29), none, .pick, [.t 26, .c (.bool true), .t 28]⟩, ⟨(some 30), none, .move, [.t 29]⟩, ⟨(some 31), (some (30, false)), .move, [.t 4]⟩, ⟨(some 32), (some (30, false)), (.bin .neq .num), [.t 31, .c (.int .i64 1)]⟩, ⟨(some 33), none, .pick, [.t 30, .c (.bool true), .t 32]⟩] none [1, 33])
  (.cond (.t 33) (.seq (.region [⟨(some 0), none, .move, [.c (.bool false)]⟩] none [0])
  .ret)
  .skip))
  (.seq (.region [⟨(some 34), none, (.buildSlice 1 [(.int .i64 0), (.int .i64 0)] [(0, 1), (1, 1)]), [.c (.int .i64 0), .c (.int .i64 3)]⟩, ⟨(some 35), none, (.build [(.int .i64 0), (.int .i64 0), (.int .i64 0), (.int .i64 0), (.int .i64 0), (.int .i64 0), (.int .i64 0)] [(0, 1)]), [.c (.int .i64 5)]⟩, ⟨(some 36), none, (.build [(.int .i64 0), (.int .i64 0), .nils, (.int .i64 0), (.int .i64 0), (.int .i64 0), (.int .i64 0), (.int .i64 0), (.int .i64 0), (.int .i64 0)] [(0, 1), (1, 1), (2, 1), (3, 7)]), [.c (.int .i64 0), .c (.int .i64 1), .t 34, .t 35]⟩, ⟨(some 5), none, (.alloc [(.int .i64 0), (.int .i64 0), .nils, (.int .i64 0), (.int .i64 0), (.int .i64 0), (.int .i64 0), (.int .i64 0), (.int .i64 0), (.int .i64 0)]), []⟩, ⟨none, none, (.store 10), [.t 5, .t 36]⟩] none [1, 5])
  (.seq (.region [⟨(some 37), none, .move, [.t 1]⟩, ⟨(some 38), none, (.load 10 true), [.t 5]⟩, ⟨(some 39), none, .call, [.c (.fn (.func 16) [] []), .t 37, .t 38]⟩, ⟨(some 6), none, .move, [.t 39]⟩] none [1, 5, 6])
  (.seq (.region [⟨(some 40), none, .move, [.t 1]⟩, ⟨(some 41), none, (.load 10 true), [.t 5]⟩, ⟨(some 42), none, .call, [.c (.fn (.func 16) [] []), .t 40, .t 41]⟩, ⟨(some 7), none, .move, [.t 42]⟩] none [1, 5, 6, 7])
  (.seq (.region [⟨(some 44), none, .move, [.t 1]⟩, ⟨(some 45), none, (.build [(.int .i64 0), (.int .i64 0)] [(0, 1), (1, 1)]), [.c (.int .i64 0), .c (.int .i64 1)]⟩, ⟨(some 46), none, .call, [.c (.fn (.func 20) [] []), .t 44, .t 45]⟩, ⟨(some 43), none, .move, [.t 46]⟩, ⟨(some 47), none, (.extract 0), [.t 43]⟩, ⟨(some 48), none, (.extract 1), [.t 43]⟩, ⟨(some 8), none, (.alloc [(.int .i64 0), (.int .i64 0), .nils, (.int .i64 0), (.int .i64 0), (.int .i64 0), (.int .i64 0), (.int .i64 0), (.int .i64 0), (.int .i64 0)]), []⟩, ⟨none, none, (.store 10), [.t 8, .t 47]⟩, ⟨(some 9), none, .move, [.t 48]⟩] none [1, 5, 6, 7, 8, 9])
  (.seq (.region [⟨(some 50), none, .move, [.t 1]⟩, ⟨(some 51), none, (.buildSlice 1 [(.int .i64 0), (.int .i64 0)] [(0, 1), (1, 1)]), [.c (.int .i64 1), .c (.int .i64 0)]⟩, ⟨(some 52), none, .call, [.c (.fn (.func 18) [] []), .t 50, .t 51]⟩, ⟨(some 49), none, .move, [.t 52]⟩, ⟨(some 53), none, (.extract 0), [.t 49]⟩, ⟨(some 54), none, (.extract 1), [.t 49]⟩, ⟨(some 10), none, .move, [.t 53]⟩, ⟨(some 11), none, .move, [.t 54]⟩] none [1, 5, 6, 7, 8, 9, 10, 11])
  (.seq (.region [⟨(some 56), none, .move, [.t 1]⟩, ⟨(some 57), none, (.build [(.int .i64 0), (.int .i64 0)] [(0, 1), (1, 1)]), [.c (.int .i64 0), .c (.int .i64 1)]⟩, ⟨(some 58), none, .call, [.c (.fn (.func 20) [] []), .t 56, .t 57]⟩, ⟨(some 55), none, .move, [.t 58]⟩, ⟨(some 59), none, (.extract 0), [.t 55]⟩, ⟨(some 60), none, (.extract 1), [.t 55]⟩, ⟨(some 12), none, (.alloc [(.int .i64 0), (.int .i64 0), .nils, (.int .i64 0), (.int .i64 0), (.int .i64 0), (.int .i64 0), (.int .i64 0), (.int .i64 0), (.int .i64 0)]), []⟩, ⟨none, none, (.store 10), [.t 12, .t 59]⟩, ⟨(some 13), none, .move, [.t 60]⟩] none [1, 5, 6, 7, 8, 9, 10, 11, 13])
  (.seq (.region [⟨(some 62), none, (.buildSlice 1 [(.int .i64 0), (.int .i64 0)] [(0, 1), (1, 1)]), [.c (.int .i64 0), .c (.int .i64 1)]⟩, ⟨(some 63), none, (.buildSlice 1 [(.int .i64 0), (.int .i64 0)] [(0, 1), (1, 1)]), [.c (.int .i64 2), .c (.int .i64 1)]⟩, ⟨(some 64), none, .call, [.c (.fn (.func 24) [] []), .t 62, .t 63, .c (.int .i64 5)]⟩, ⟨(some 61), none, .move, [.t 64]⟩, ⟨(some 65), none, (.extract 0), [.t 61]⟩, ⟨(some 66), none, (.extract 1), [.t 61]⟩, ⟨(some 14), none, .move, [.t 65]⟩, ⟨(some 15), none, .move, [.t 66]⟩] none [1, 5, 6, 7, 8, 9, 10, 11, 13, 14, 15])
  (.seq (.region [⟨(some 67), none, .move, [.t 6]⟩, ⟨(some 68), none, (.bin .eql .num), [.t 67, .c (.int .i64 0)]⟩, ⟨(some 69), none, .move, [.t 68]⟩, ⟨(some 70), (some (69, true)), .move, [.t 7]⟩, ⟨(some 71), (some (69, true)), (.bin .eql .num), [.t 70, .c (.int .i64 7)]⟩, ⟨(some 72), none, .pick, [.t 69, .t 71, .c (.bool false)]⟩, ⟨(some 73), none, .move, [.t 72]⟩, ⟨(some 74), (some (73, true)), (.load 10 true), [.t 8]⟩, ⟨(some 75), (some (73, true)), (.load 10 true), [.t 5]⟩, ⟨(some 76), (some (73, true)), .call, [.c (.fn (.func 22) [] []), .t 74, .t 75]⟩, ⟨(some 77), none, .pick, [.t 73, .t 76, .c (.bool false)]⟩, ⟨(some 78), none, .move, [.t 77]⟩, ⟨(some 79), (some (78, true)), .move, [.t 9]⟩, ⟨(some 80), none, .pick, [.t 78, .t 79, .c (.bool false)]⟩, ⟨(some 81), none, .move, [.t 80]⟩, ⟨(some 82), (some (81, true)), .move, [.t 10]⟩, ⟨(some 83), (some (81, true)), (.bin .eql .num), [.t 82, .c (.int .i64 1)]⟩, ⟨(some 84), none, .pick, [.t 81, .t 83, .c (.bool false)]⟩, ⟨(some 85), none, .move, [.t 84]⟩, ⟨(some 86), (some (85, true)), .move, [.t 11]⟩, ⟨(some 87), (some (85, true)), (.bin .eql .num), [.t 86, .c (.int .i64 0)]⟩, ⟨(some 88), none, .pick, [.t 85, .t 87, .c (.bool false)]⟩, ⟨(some 89), none, .move, [.t 88]⟩, ⟨(some 90), (some (89, true)), .move, [.t 13]⟩, ⟨(some 91), (some (89, true)), (.un .not), [.t 90]⟩, ⟨(some 92), none, .pick, [.t 89, .t 91, .c (.bool false)]⟩, ⟨(some 93), none, .move, [.t 92]⟩, ⟨(some 94), (some (93, true)), .move, [.t 1]⟩, ⟨(some 95), (some (93, true)), .call, [.c (.fn (.func 23) [] []), .t 94]⟩, ⟨(some 96), (some (93, true)), (.bin .eql .num), [.t 95, .c (.int .i64 0)]⟩, ⟨(some 97), none, .pick, [.t 93, .t 96, .c (.bool false)]⟩, ⟨(some 98), none, .move, [.t 97]⟩, ⟨(some 99), (some (98, true)), .move, [.t 14]⟩, ⟨(some 100), (some (98, true)), (.len .slice), [.t 99]⟩, ⟨(some 101), (some (98, true)), (.bin .eql .num), [.t 100, .c (.int .i64 2)]⟩, ⟨(some 102), none, .pick, [.t 98, .t 101, .c (.bool false)]⟩, ⟨(some 103), none, .move, [.t 102]⟩, ⟨(some 104), (some (103, true)), .move, [.t 14]⟩, ⟨(some 105), (some (103, true)), (.indexAddr 2), [.t 104, .c (.int .i64 1)]⟩, ⟨(some 106), (some (103, true)), (.load 2 true), [.t 105]⟩, ⟨(some 107), (some (103, true)), (.build [(.int .i64 0), (.int .i64 0)] [(1, 1)]), [.c (.int .i64 2)]⟩, ⟨(some 108), (some (103, true)), (.eqs .eql [.int, .int]), [.t 106, .t 107]⟩, ⟨(some 109), none, .pick, [.t 103, .t 108, .c (.bool false)]⟩, ⟨(some 110), none, .move, [.t 109]⟩, ⟨(some 111), (some (110, true)), .move, [.t 15]⟩, ⟨(some 112), (some (110, true)), (.bin .eql .num), [.t 111, .c (.int .i64 0)]⟩, ⟨(some 113), none, .pick, [.t 110, .t 112, .c (.bool false)]⟩, ⟨(some 0), none, .move, [.t 113]⟩] none [0])
  .ret))))))))))))⟩
theorem ok15 : FunOk Try.prog 15 c15 := ⟨⟨Try.f15, _, Try.func15, rfl, by kernel_rfl, by kernel_rfl, by kernel_rfl, by kernel_rfl⟩, by decide⟩
/-- (*duet/resend.Store).Keep -/
def c16 : AFun := ⟨2, 57, [.tmp 4],
  (.seq (.region [⟨(some 3), none, .box, [.t 1]⟩, ⟨(some 4), none, .move, [.c (.int .i64 0)]⟩] none [0, 3])
  (.seq (.seq (.region [⟨(some 8), none, .move, [.t 0]⟩, ⟨(some 9), none, (.bin .eql .ptr), [.t 8, .c .nilp]⟩, ⟨(some 10), none, .move, [.t 9]⟩, ⟨(some 11), (some (10, false)), (.load 10 true), [.t 3]⟩, ⟨(some 12), (some (10, false)), .call, [.c (.fn (.func 43) [] []), .t 11]⟩, ⟨(some 13), (some (10, false)), (.bin .neq .num), [.t 12, .c (.int .i64 0)]⟩, ⟨(some 14), none, .pick, [.t 10, .c (.bool true), .t 13]⟩, ⟨(some 15), none, .move, [.t 14]⟩, ⟨(some 16), (some (15, false)), (.fieldAddr 2), [.t 3]⟩, ⟨(some 17), (some (15, false)), (.load 1 false), [.t 16]⟩, ⟨(some 18), (some (15, false)), (.len .slice), [.t 17]⟩, ⟨(some 19), (some (15, false)), .move, [.t 0]⟩, ⟨(some 20), (some (15, false)), .nilCheck, [.t 19]⟩, ⟨(some 21), (some (15, false)), (.fieldAddr 0), [.t 20]⟩, ⟨(some 22), (some (15, false)), (.load 1 false), [.t 21]⟩, ⟨(some 23), (some (15, false)), (.bin .neq .num), [.t 18, .t 22]⟩, ⟨(some 24), none, .pick, [.t 15, .c (.bool true), .t 23]⟩] (some [0, 1, 3, 7, 15, 31, 63, 127, 255, 511, 1023, 255, 2303, 6399, 14591, 32767, 65535]) [0, 3, 24])
  (.cond (.t 24) (.seq (.region [⟨(some 4), none, .move, [.c (.int .i64 1)]⟩] none [4])
  .ret)
  .skip))
  (.seq (.region [⟨(some 25), none, (.fieldAddr 0), [.t 3]⟩, ⟨(some 26), none, (.load 1 false), [.t 25]⟩, ⟨(some 27), none, (.fieldAddr 1), [.t 3]⟩, ⟨(some 28), none, (.load 1 false), [.t 27]⟩, ⟨(some 29), none, (.build [(.int .i64 0), (.int .i64 0)] [(0, 1), (1, 1)]), [.t 26, .t 28]⟩, ⟨(some 5), none, (.alloc [(.int .i64 0), (.int .i64 0)]), []⟩, ⟨none, none, (.store 2), [.t 5, .t 29]⟩] none [0, 3, 5])
  (.seq (.seq (.region [⟨(some 31), none, .move, [.t 0]⟩, ⟨(some 32), none, .nilCheck, [.t 31]⟩, ⟨(some 33), none, (.fieldAddr 2), [.t 32]⟩, ⟨(some 34), none, (.load 1 false), [.t 33]⟩, ⟨(some 35), none, (.load 2 true), [.t 5]⟩, ⟨(some 36), none, (.lookup true [.int, .int] (.agg [(.int .i64 0), (.int .i64 0), .nils, (.int .i64 0), (.int .i64 0), (.int .i64 0), (.int .i64 0), (.int .i64 0), (.int .i64 0), (.int .i64 0)]) true), [.t 34, .t 35]⟩, ⟨(some 30), none, .move, [.t 36]⟩, ⟨(some 37), none, (.extract 0), [.t 30]⟩, ⟨(some 38), none, (.extract 1), [.t 30]⟩, ⟨(some 6), none, (.alloc [(.int .i64 0), (.int .i64 0), .nils, (.int .i64 0), (.int .i64 0), (.int .i64 0), (.int .i64 0), (.int .i64 0), (.int .i64 0), (.int .i64 0)]), []⟩, ⟨none, none, (.store 10), [.t 6, .t 37]⟩, ⟨(some 7), none, .move, [.t 38]⟩] (some [0, 1, 3, 7, 0, 31, 63, 127, 127, 0, 767, 2047]) [0, 3, 5, 7])
  (.seq (.region [⟨(some 39), none, .move, [.t 7]⟩] none [0, 3, 5, 39])
  (.cond (.t 39) (.seq (.region [⟨(some 4), none, .move, [.c (.int .i64 7)]⟩] none [4])
  .ret)
  .skip)))
  (.seq (.seq (.region [⟨(some 40), none, .move, [.t 0]⟩, ⟨(some 41), none, .nilCheck, [.t 40]⟩, ⟨(some 42), none, (.fieldAddr 2), [.t 41]⟩, ⟨(some 43), none, (.load 1 false), [.t 42]⟩, ⟨(some 44), none, (.len .map), [.t 43]⟩, ⟨(some 45), none, .move, [.t 0]⟩, ⟨(some 46), none, .nilCheck, [.t 45]⟩, ⟨(some 47), none, (.fieldAddr 1), [.t 46]⟩, ⟨(some 48), none, (.load 1 false), [.t 47]⟩, ⟨(some 49), none, (.bin .geq .num), [.t 44, .t 48]⟩] (some [0, 1, 3, 7, 15, 0, 32, 96, 224, 511]) [0, 3, 5, 49])
  (.cond (.t 49) (.seq (.region [⟨(some 4), none, .move, [.c (.int .i64 5)]⟩] none [4])
  .ret)
  .skip))
  (.seq (.region [⟨(some 50), none, .move, [.t 0]⟩, ⟨(some 51), none, .nilCheck, [.t 50]⟩, ⟨(some 52), none, (.fieldAddr 2), [.t 51]⟩, ⟨(some 53), none, (.load 1 false), [.t 52]⟩, ⟨(some 54), none, (.load 2 true), [.t 5]⟩, ⟨(some 55), none, (.load 10 true), [.t 3]⟩, ⟨(some 56), none, .call, [.c (.fn (.func 44) [] []), .t 55]⟩, ⟨none, none, (.mapUpdate true [.int, .int]), [.t 53, .t 54, .t 56]⟩] (some [0, 1, 3, 7, 0, 0, 32, 127]) [])
  (.seq (.region [⟨(some 4), none, .move, [.c (.int .i64 0)]⟩] none [4])
  .ret)))))))⟩
theorem ok16 : FunOk Try.prog 16 c16 := ⟨⟨Try.f16, _, Try.func16, rfl, by kernel_rfl, by kernel_rfl, by kernel_rfl, by kernel_rfl⟩, by decide⟩
/-- (*duet/resend.Store).Drop -/
def c18 : AFun := ⟨2, 56, [.tmp 4, .tmp 5],
  (.seq (.region [⟨(some 4), none, .move, [.c (.int .i64 0)]⟩, ⟨(some 5), none, .move, [.c (.int .i64 0)]⟩] none [0, 1])
  (.seq (.seq (.region [⟨(some 8), none, .move, [.t 0]⟩, ⟨(some 9), none, (.bin .eql .ptr), [.t 8, .c .nilp]⟩, ⟨(some 10), none, .move, [.t 9]⟩, ⟨(some 11), (some (10, false)), .move, [.t 1]⟩, ⟨(some 12), (some (10, false)), .call, [.c (.fn (.func 46) [] []), .t 11]⟩, ⟨(some 13), (some (10, false)), (.bin .neq .num), [.t 12, .c (.int .i64 0)]⟩, ⟨(some 14), none, .pick, [.t 10, .c (.bool true), .t 13]⟩, ⟨(some 15), none, .move, [.t 14]⟩, ⟨(some 16), (some (15, false)), .move, [.t 1]⟩, ⟨(some 17), (some (15, false)), (.len .slice), [.t 16]⟩, ⟨(some 18), (some (15, false)), .move, [.t 0]⟩, ⟨(some 19), (some (15, false)), .nilCheck, [.t 18]⟩, ⟨(some 20), (some (15, false)), (.fieldAddr 0), [.t 19]⟩, ⟨(some 21), (some (15, false)), (.load 1 false), [.t 20]⟩, ⟨(some 22), (some (15, false)), (.bin .neq .num), [.t 17, .t 21]⟩, ⟨(some 23), none, .pick, [.t 15, .c (.bool true), .t 22]⟩] none [0, 1, 23])
  (.cond (.t 23) (.seq (.region [⟨(some 4), none, .move, [.c (.int .i64 0)]⟩, ⟨(some 5), none, .move, [.c (.int .i64 1)]⟩] none [4, 5])
  .ret)
  .skip))
  (.seq (.region [⟨(some 24), none, .move, [.t 0]⟩, ⟨(some 25), none, .nilCheck, [.t 24]⟩, ⟨(some 26), none, (.fieldAddr 2), [.t 25]⟩, ⟨(some 27), none, (.load 1 false), [.t 26]⟩, ⟨(some 28), none, (.len .map), [.t 27]⟩, ⟨(some 6), none, .move, [.t 28]⟩] none [0, 1, 6])
  (.seq (.seq (.region [⟨(some 29), none, .move, [.t 0]⟩, ⟨(some 30), none, .nilCheck, [.t 29]⟩, ⟨(some 31), none, (.fieldAddr 2), [.t 30]⟩, ⟨(some 32), none, (.load 1 false), [.t 31]⟩, ⟨(some 33), none, .mrange, [.t 32]⟩] none [0, 1, 6, 33])
  (.block 0 (.loop [0, 1, 6, 33] (.seq (.region [⟨(some 34), none, .mnext, [.t 33]⟩, ⟨(some 35), none, (.extract 0), [.t 34]⟩] none [0, 1, 6, 33, 35])
  (.seq (.cond (.t 35) .skip
  (.exit 0))
  (.block 1 (.seq (.region [⟨(some 36), none, .mentry, [.t 33]⟩, ⟨(some 37), none, (.extract 0), [.t 36]⟩, ⟨(some 7), none, (.alloc [(.int .i64 0), (.int .i64 0)]), []⟩, ⟨none, none, (.store 2), [.t 7, .t 37]⟩] none [0, 1, 6, 7, 33])
  (.seq (.region [⟨(some 38), none, .move, [.t 1]⟩, ⟨(some 39), none, (.fieldAddr 0), [.t 7]⟩, ⟨(some 40), none, (.load 1 false), [.t 39]⟩, ⟨(some 41), none, (.fieldAddr 1), [.t 7]⟩, ⟨(some 42), none, (.load 1 false), [.t 41]⟩, ⟨(some 43), none, .call, [.c (.fn (.func 47) [] []), .t 38, .t 40, .t 42]⟩] none [0, 1, 6, 7, 33, 43])
  (.cond (.t 43) (.region [⟨(some 44), none, .move, [.t 0]⟩, ⟨(some 45), none, .nilCheck, [.t 44]⟩, ⟨(some 46), none, (.fieldAddr 2), [.t 45]⟩, ⟨(some 47), none, (.load 1 false), [.t 46]⟩, ⟨(some 48), none, (.load 2 true), [.t 7]⟩, ⟨none, none, (.delete true [.int, .int]), [.t 47, .t 48]⟩] (some [0, 1, 3, 7, 0, 31]) [0, 1, 6, 33])
  .skip)))))))))
  (.seq (.region [⟨(some 49), none, .move, [.t 6]⟩, ⟨(some 50), none, .move, [.t 0]⟩, ⟨(some 51), none, .nilCheck, [.t 50]⟩, ⟨(some 52), none, (.fieldAddr 2), [.t 51]⟩, ⟨(some 53), none, (.load 1 false), [.t 52]⟩, ⟨(some 54), none, (.len .map), [.t 53]⟩, ⟨(some 55), none, (.bin .sub .num), [.t 49, .t 54]⟩, ⟨(some 4), none, .move, [.t 55]⟩, ⟨(some 5), none, .move, [.c (.int .i64 0)]⟩] none [4, 5])
  .ret)))))⟩
theorem ok18 : FunOk Try.prog 18 c18 := ⟨⟨Try.f18, _, Try.func18, rfl, by kernel_rfl, by kernel_rfl, by kernel_rfl, by kernel_rfl⟩, by decide⟩
/-- (*duet/resend.Store).Get -/
def c20 : AFun := ⟨2, 23, [.cell 4 10 true, .tmp 5],
  (.seq (.region [⟨(some 3), none, .box, [.t 1]⟩, ⟨(some 4), none, (.alloc [(.int .i64 0), (.int .i64 0), .nils, (.int .i64 0), (.int .i64 0), (.int .i64 0), (.int .i64 0), (.int .i64 0), (.int .i64 0), (.int .i64 0)]), []⟩, ⟨(some 5), none, .move, [.c (.bool false)]⟩] none [0, 3, 4])
  (.seq (.seq (.region [⟨(some 8), none, .move, [.t 0]⟩, ⟨(some 9), none, (.bin .eql .ptr), [.t 8, .c .nilp]⟩] none [0, 3, 4, 9])
  (.cond (.t 9) (.seq (.region [⟨(some 10), none, (.build [(.int .i64 0), (.int .i64 0), .nils, (.int .i64 0), (.int .i64 0), (.int .i64 0), (.int .i64 0), (.int .i64 0), (.int .i64 0), (.int .i64 0)] []), []⟩, ⟨none, none, (.store 10), [.t 4, .t 10]⟩, ⟨(some 5), none, .move, [.c (.bool false)]⟩] none [4, 5])
  .ret)
  .skip))
  (.seq (.region [⟨(some 12), none, .move, [.t 0]⟩, ⟨(some 13), none, .nilCheck, [.t 12]⟩, ⟨(some 14), none, (.fieldAddr 2), [.t 13]⟩, ⟨(some 15), none, (.load 1 false), [.t 14]⟩, ⟨(some 16), none, (.load 2 true), [.t 3]⟩, ⟨(some 17), none, (.lookup true [.int, .int] (.agg [(.int .i64 0), (.int .i64 0), .nils, (.int .i64 0), (.int .i64 0), (.int .i64 0), (.int .i64 0), (.int .i64 0), (.int .i64 0), (.int .i64 0)]) true), [.t 15, .t 16]⟩, ⟨(some 11), none, .move, [.t 17]⟩, ⟨(some 18), none, (.extract 0), [.t 11]⟩, ⟨(some 19), none, (.extract 1), [.t 11]⟩, ⟨(some 6), none, (.alloc [(.int .i64 0), (.int .i64 0), .nils, (.int .i64 0), (.int .i64 0), (.int .i64 0), (.int .i64 0), (.int .i64 0), (.int .i64 0), (.int .i64 0)]), []⟩, ⟨none, none, (.store 10), [.t 6, .t 18]⟩, ⟨(some 7), none, .move, [.t 19]⟩] (some [0, 1, 3, 7, 0, 31, 63, 127, 127, 0, 767, 2047]) [4, 6, 7])
  (.seq (.region [⟨(some 20), none, (.load 10 true), [.t 6]⟩, ⟨(some 21), none, .call, [.c (.fn (.func 44) [] []), .t 20]⟩, ⟨(some 22), none, .move, [.t 7]⟩, ⟨none, none, (.store 10), [.t 4, .t 21]⟩, ⟨(some 5), none, .move, [.t 22]⟩] none [4, 5])
  .ret))))⟩
theorem ok20 : FunOk Try.prog 20 c20 := ⟨⟨Try.f20, _, Try.func20, rfl, by kernel_rfl, by kernel_rfl, by kernel_rfl, by kernel_rfl⟩, by decide⟩
/-- duet/duetref04.Same -/
def c22 : AFun := ⟨2, 31, [.tmp 4],
  (.seq (.region [⟨(some 2), none, .box, [.t 0]⟩, ⟨(some 3), none, .box, [.t 1]⟩, ⟨(some 4), none, .move, [.c (.bool false)]⟩] none [2, 3])
  (.seq (.region [⟨(some 5), none, (.fieldAddr 0), [.t 2]⟩, ⟨(some 6), none, (.load 1 false), [.t 5]⟩, ⟨(some 7), none, (.fieldAddr 0), [.t 3]⟩, ⟨(some 8), none, (.load 1 false), [.t 7]⟩, ⟨(some 9), none, (.bin .eql .num), [.t 6, .t 8]⟩, ⟨(some 10), none, .move, [.t 9]⟩, ⟨(some 11), (some (10, true)), (.fieldAddr 1), [.t 2]⟩, ⟨(some 12), (some (10, true)), (.load 1 false), [.t 11]⟩, ⟨(some 13), (some (10, true)), (.fieldAddr 1), [.t 3]⟩, ⟨(some 14), (some (10, true)), (.load 1 false), [.t 13]⟩, ⟨(some 15), (some (10, true)), (.bin .eql .num), [.t 12, .t 14]⟩, ⟨(some 16), none, .pick, [.t 10, .t 15, .c (.bool false)]⟩, ⟨(some 17), none, .move, [.t 16]⟩, ⟨(some 18), (some (17, true)), (.fieldAddr 3), [.t 2]⟩, ⟨(some 19), (some (17, true)), (.load 7 true), [.t 18]⟩, ⟨(some 20), (some (17, true)), (.fieldAddr 3), [.t 3]⟩, ⟨(some 21), (some (17, true)), (.load 7 true), [.t 20]⟩, ⟨(some 22), (some (17, true)), (.eqs .eql [.int, .int, .int, .int, .int, .int, .int]), [.t 19, .t 21]⟩, ⟨(some 23), none, .pick, [.t 17, .t 22, .c (.bool false)]⟩, ⟨(some 24), none, .move, [.t 23]⟩, ⟨(some 25), (some (24, true)), (.fieldAddr 2), [.t 2]⟩, ⟨(some 26), (some (24, true)), (.load 1 false), [.t 25]⟩, ⟨(some 27), (some (24, true)), (.fieldAddr 2), [.t 3]⟩, ⟨(some 28), (some (24, true)), (.load 1 false), [.t 27]⟩, ⟨(some 29), (some (24, true)), .call, [.c (.fn (.func 37) [] []), .t 26, .t 28]⟩, ⟨(some 30), none, .pick, [.t 24, .t 29, .c (.bool false)]⟩, ⟨(some 4), none, .move, [.t 30]⟩] none [4])
  .ret))⟩
theorem ok22 : FunOk Try.prog 22 c22 := ⟨⟨Try.f22, _, Try.func22, rfl, by kernel_rfl, by kernel_rfl, by kernel_rfl, by kernel_rfl⟩, by decide⟩
/-- (*duet/resend.Store).Len -/
def c23 : AFun := ⟨1, 10, [.tmp 2],
  (.seq (.region [⟨(some 2), none, .move, [.c (.int .i64 0)]⟩] none [0])
  (.seq (.seq (.region [⟨(some 3), none, .move, [.t 0]⟩, ⟨(some 4), none, (.bin .eql .ptr), [.t 3, .c .nilp]⟩] none [0, 4])
  (.cond (.t 4) (.seq (.region [⟨(some 2), none, .move, [.c (.int .i64 0)]⟩] none [2])
  .ret)
  .skip))
  (.seq (.region [⟨(some 5), none, .move, [.t 0]⟩, ⟨(some 6), none, .nilCheck, [.t 5]⟩, ⟨(some 7), none, (.fieldAddr 2), [.t 6]⟩, ⟨(some 8), none, (.load 1 false), [.t 7]⟩, ⟨(some 9), none, (.len .map), [.t 8]⟩, ⟨(some 2), none, .move, [.t 9]⟩] none [2])
  .ret)))⟩
theorem ok23 : FunOk Try.prog 23 c23 := ⟨⟨Try.f23, _, Try.func23, rfl, by kernel_rfl, by kernel_rfl, by kernel_rfl, by kernel_rfl⟩, by decide⟩
/-- duet/resend.Asks -/
def c24 : AFun := ⟨3, 64, [.tmp 6, .tmp 7],
  (.seq (.region [⟨(some 6), none, .move, [.c .nils]⟩, ⟨(some 7), none, .move, [.c (.int .i64 0)]⟩] none [0, 1, 2])
  (.seq (.seq (.region [⟨(some 15), none, .move, [.t 0]⟩, ⟨(some 16), none, .move, [.t 1]⟩, ⟨(some 17), none, .call, [.c (.fn (.func 50) [] []), .t 15, .t 16]⟩, ⟨(some 14), none, .move, [.t 17]⟩, ⟨(some 18), none, (.extract 0), [.t 14]⟩, ⟨(some 19), none, (.extract 1), [.t 14]⟩, ⟨(some 8), none, .move, [.t 18]⟩, ⟨(some 9), none, .move, [.t 19]⟩] none [0, 1, 2, 9])
  (.seq (.region [⟨(some 20), none, .move, [.t 9]⟩, ⟨(some 21), none, (.bin .neq .num), [.t 20, .c (.int .i64 0)]⟩, ⟨(some 22), none, .move, [.t 21]⟩, ⟨(some 23), (some (22, false)), .move, [.t 2]⟩, ⟨(some 24), (some (22, false)), (.bin .lss .num), [.t 23, .c (.int .i64 0)]⟩, ⟨(some 25), none, .pick, [.t 22, .c (.bool true), .t 24]⟩, ⟨(some 26), none, .move, [.t 25]⟩, ⟨(some 27), (some (26, false)), .move, [.t 2]⟩, ⟨(some 28), (some (26, false)), (.bin .gtr .num), [.t 27, .c (.int .i64 1000)]⟩, ⟨(some 29), none, .pick, [.t 26, .c (.bool true), .t 28]⟩] none [0, 1, 2, 29])
  (.cond (.t 29) (.seq (.region [⟨(some 6), none, .move, [.c .nils]⟩, ⟨(some 7), none, .move, [.c (.int .i64 1)]⟩] none [6, 7])
  .ret)
  .skip)))
  (.seq (.region [⟨(some 10), none, .move, [.c .nils]⟩] none [0, 1, 2, 10])
  (.seq (.seq (.region [⟨(some 30), none, .move, [.t 0]⟩, ⟨(some 31), none, (.len .slice), [.t 30]⟩, ⟨(some 32), none, .move, [.c (.int .i64 0)]⟩] none [1, 2, 10, 30, 31, 32])
  (.block 0 (.loop [1, 2, 10, 30, 31, 32] (.seq (.region [⟨(some 33), none, (.bin .lss .num), [.t 32, .t 31]⟩] none [1, 2, 10, 30, 31, 32, 33])
  (.seq (.cond (.t 33) .skip
  (.exit 0))
  (.seq (.block 1 (.seq (.region [⟨(some 34), none, .move, [.t 32]⟩, ⟨(some 35), none, (.indexAddr 1), [.t 30, .t 32]⟩, ⟨(some 36), none, (.load 1 false), [.t 35]⟩, ⟨(some 11), none, .move, [.t 34]⟩, ⟨(some 12), none, .move, [.t 36]⟩] none [1, 2, 10, 11, 12, 30, 31, 32])
  (.seq (.region [⟨(some 37), none, .move, [.t 1]⟩, ⟨(some 38), none, .move, [.t 11]⟩, ⟨(some 39), none, (.indexAddr 1), [.t 37, .t 38]⟩, ⟨(some 40), none, (.load 1 false), [.t 39]⟩, ⟨(some 41), none, .move, [.t 12]⟩, ⟨(some 42), none, (.bin .sub .num), [.t 40, .t 41]⟩, ⟨(some 43), none, .max, [.t 42, .c (.int .i64 0)]⟩, ⟨(some 44), none, .move, [.t 2]⟩, ⟨(some 45), none, .move, [.t 10]⟩, ⟨(some 46), none, (.len .slice), [.t 45]⟩, ⟨(some 47), none, (.bin .sub .num), [.t 44, .t 46]⟩, ⟨(some 48), none, .min, [.t 43, .t 47]⟩, ⟨(some 49), none, .move, [.c (.int .i64 0)]⟩] none [1, 2, 10, 11, 12, 30, 31, 32, 48, 49])
  (.block 2 (.loop [1, 2, 10, 11, 12, 30, 31, 32, 48, 49] (.seq (.region [⟨(some 50), none, (.bin .lss .num), [.t 49, .t 48]⟩] none [1, 2, 10, 11, 12, 30, 31, 32, 48, 49, 50])
  (.seq (.cond (.t 50) .skip
  (.exit 2))
  (.seq (.block 3 (.seq (.region [⟨(some 51), none, .move, [.t 49]⟩, ⟨(some 13), none, .move, [.t 51]⟩] none [1, 2, 10, 11, 12, 13, 30, 31, 32, 48, 49])
  (.region [⟨(some 52), none, .move, [.t 10]⟩, ⟨(some 53), none, .move, [.t 11]⟩, ⟨(some 54), none, .move, [.t 12]⟩, ⟨(some 55), none, (.bin .add .num), [.t 54, .c (.int .i64 1)]⟩, ⟨(some 56), none, .move, [.t 13]⟩, ⟨(some 57), none, (.bin .add .num), [.t 55, .t 56]⟩, ⟨(some 58), none, (.build [(.int .i64 0), (.int .i64 0)] [(0, 1), (1, 1)]), [.t 53, .t 57]⟩, ⟨(some 59), none, (.buildSlice 2 [(.int .i64 0), (.int .i64 0)] [(0, 2)]), [.t 58]⟩, ⟨(some 60), none, (.append 2 16), [.t 52, .t 59]⟩, ⟨(some 10), none, .move, [.t 60]⟩] none [1, 2, 10, 11, 12, 30, 31, 32, 48, 49])))
  (.region [⟨(some 61), none, (.bin .add .num), [.t 49, .c (.int .i64 1)]⟩, ⟨(some 49), none, .move, [.t 61]⟩] none [1, 2, 10, 11, 12, 30, 31, 32, 48, 49])))))))))
  (.region [⟨(some 62), none, (.bin .add .num), [.t 32, .c (.int .i64 1)]⟩, ⟨(some 32), none, .move, [.t 62]⟩] none [1, 2, 10, 30, 31, 32])))))))
  (.seq (.region [⟨(some 63), none, .move, [.t 10]⟩, ⟨(some 6), none, .move, [.t 63]⟩, ⟨(some 7), none, .move, [.c (.int .i64 0)]⟩] none [6, 7])
  .ret)))))⟩
theorem ok24 : FunOk Try.prog 24 c24 := ⟨⟨Try.f24, _, Try.func24, rfl, by kernel_rfl, by kernel_rfl, by kernel_rfl, by kernel_rfl⟩, by decide⟩
/-- duet/duetref01.Same -/
def c37 : AFun := ⟨2, 26, [.tmp 4],
  (.seq (.region [⟨(some 4), none, .move, [.c (.bool false)]⟩] none [0, 1])
  (.seq (.seq (.region [⟨(some 6), none, .move, [.t 0]⟩, ⟨(some 7), none, (.len .slice), [.t 6]⟩, ⟨(some 8), none, .move, [.t 1]⟩, ⟨(some 9), none, (.len .slice), [.t 8]⟩, ⟨(some 10), none, (.bin .neq .num), [.t 7, .t 9]⟩] none [0, 1, 10])
  (.cond (.t 10) (.seq (.region [⟨(some 4), none, .move, [.c (.bool false)]⟩] none [4])
  .ret)
  .skip))
  (.seq (.seq (.region [⟨(some 5), none, .move, [.c (.int .i64 0)]⟩] none [0, 1, 5])
  (.block 0 (.loop [0, 1, 5] (.seq (.seq (.region [⟨(some 11), none, .move, [.t 5]⟩, ⟨(some 12), none, .move, [.t 0]⟩, ⟨(some 13), none, (.len .slice), [.t 12]⟩, ⟨(some 14), none, (.bin .lss .num), [.t 11, .t 13]⟩] none [0, 1, 5, 14])
  (.cond (.t 14) .skip
  (.exit 0)))
  (.seq (.block 1 (.seq (.region [⟨(some 17), none, .move, [.t 0]⟩, ⟨(some 18), none, .move, [.t 5]⟩, ⟨(some 19), none, (.indexAddr 1), [.t 17, .t 18]⟩, ⟨(some 20), none, (.load 1 false), [.t 19]⟩, ⟨(some 21), none, .move, [.t 1]⟩, ⟨(some 22), none, .move, [.t 5]⟩, ⟨(some 23), none, (.indexAddr 1), [.t 21, .t 22]⟩, ⟨(some 24), none, (.load 1 false), [.t 23]⟩, ⟨(some 25), none, (.bin .neq .num), [.t 20, .t 24]⟩] (some [0, 0, 3, 7, 0, 0, 48, 112, 255]) [0, 1, 5, 25])
  (.cond (.t 25) (.seq (.region [⟨(some 4), none, .move, [.c (.bool false)]⟩] none [4])
  .ret)
  .skip)))
  (.region [⟨(some 15), none, .move, [.t 5]⟩, ⟨(some 16), none, (.bin .add .num), [.t 15, .c (.int .i64 1)]⟩, ⟨(some 5), none, .move, [.t 16]⟩] none [0, 1, 5]))))))
  (.seq (.region [⟨(some 4), none, .move, [.c (.bool true)]⟩] none [4])
  .ret))))⟩
theorem ok37 : FunOk Try.prog 37 c37 := ⟨⟨Try.f37, _, Try.func37, rfl, by kernel_rfl, by kernel_rfl, by kernel_rfl, by kernel_rfl⟩, by decide⟩
/-- duet/mesg.Check -/
def c43 : AFun := ⟨1, 166, [.tmp 2],
  (.seq (.region [⟨(some 1), none, .box, [.t 0]⟩, ⟨(some 2), none, .move, [.c (.int .i64 0)]⟩] none [1])
  (.seq (.region [⟨(some 10), none, (.fieldAddr 2), [.t 1]⟩, ⟨(some 11), none, (.load 1 false), [.t 10]⟩, ⟨(some 12), none, (.len .slice), [.t 11]⟩, ⟨(some 13), none, (.fieldAddr 3), [.t 1]⟩, ⟨(some 14), none, (.load 7 true), [.t 13]⟩, ⟨(some 3), none, (.alloc [(.int .i64 0)]), []⟩, ⟨(some 4), none, (.alloc [(.int .i64 0), (.int .i64 0), (.int .i64 0), (.int .i64 0), (.int .i64 0), (.int .i64 0), (.int .i64 0)]), []⟩, ⟨none, none, (.store 1), [.t 3, .t 12]⟩, ⟨none, none, (.store 7), [.t 4, .t 14]⟩] (some [0, 1, 3, 0, 8, 0, 0, 103, 255]) [1, 3, 4])
  (.seq (.region [⟨(some 15), none, (.mkfn (.func 66) 0), [.t 3]⟩, ⟨(some 5), none, .move, [.t 15]⟩] none [1, 3, 4, 5])
  (.seq (.region [⟨(some 16), none, (.build [(.int .i64 0), (.int .i64 0)] []), []⟩, ⟨(some 6), none, (.alloc [(.int .i64 0), (.int .i64 0)]), []⟩, ⟨none, none, (.store 2), [.t 6, .t 16]⟩] none [1, 3, 4, 5, 6])
  (.seq (.region [⟨(some 18), none, (.fieldAddr 0), [.t 4]⟩, ⟨(some 19), none, (.load 1 false), [.t 18]⟩, ⟨(some 20), none, .call, [.c (.fn (.func 68) [] []), .t 19]⟩, ⟨(some 17), none, .move, [.t 20]⟩, ⟨(some 21), none, (.extract 0), [.t 17]⟩, ⟨(some 22), none, (.extract 1), [.t 17]⟩, ⟨(some 23), none, (.extract 2), [.t 17]⟩, ⟨(some 7), none, .move, [.t 21]⟩, ⟨(some 8), none, .move, [.t 22]⟩, ⟨(some 9), none, .move, [.t 23]⟩] none [1, 3, 4, 5, 6, 7, 8, 9])
  (.seq (.block 0 (.seq (.seq (.region [⟨(some 25), none, (.load 1 false), [.t 3]⟩, ⟨(some 26), none, (.bin .lss .num), [.t 25, .c (.int .i64 1)]⟩, ⟨(some 27), none, .move, [.t 26]⟩, ⟨(some 28), (some (27, false)), (.load 1 false), [.t 3]⟩, ⟨(some 29), (some (27, false)), (.bin .gtr .num), [.t 28, .c (.int .i64 16)]⟩, ⟨(some 30), none, .pick, [.t 27, .c (.bool true), .t 29]⟩, ⟨(some 31), none, .move, [.t 30]⟩, ⟨(some 32), (some (31, false)), (.fieldAddr 0), [.t 1]⟩, ⟨(some 33), (some (31, false)), (.load 1 false), [.t 32]⟩, ⟨(some 34), (some (31, false)), (.bin .lss .num), [.t 33, .c (.int .i64 0)]⟩, ⟨(some 35), none, .pick, [.t 31, .c (.bool true), .t 34]⟩, ⟨(some 36), none, .move, [.t 35]⟩, ⟨(some 37), (some (36, false)), (.fieldAddr 0), [.t 1]⟩, ⟨(some 38), (some (36, false)), (.load 1 false), [.t 37]⟩, ⟨(some 39), (some (36, false)), (.load 1 false), [.t 3]⟩, ⟨(some 40), (some (36, false)), (.bin .geq .num), [.t 38, .t 39]⟩, ⟨(some 41), none, .pick, [.t 36, .c (.bool true), .t 40]⟩, ⟨(some 24), none, .move, [.t 41]⟩] none [1, 4, 5, 6, 7, 8, 9, 24])
  (.cond (.t 24) .skip
  (.seq (.region [⟨(some 42), none, (.fieldAddr 1), [.t 1]⟩, ⟨(some 43), none, (.load 1 false), [.t 42]⟩, ⟨(some 44), none, (.bin .lss .num), [.t 43, .c (.int .i64 1)]⟩, ⟨(some 45), none, .move, [.t 44]⟩, ⟨(some 46), (some (45, false)), (.fieldAddr 1), [.t 1]⟩, ⟨(some 47), (some (45, false)), (.load 1 false), [.t 46]⟩, ⟨(some 48), (some (45, false)), .call, [.c (.fn (.func 67) [] []), .t 47]⟩, ⟨(some 49), (some (45, false)), (.un .not), [.t 48]⟩, ⟨(some 50), none, .pick, [.t 45, .c (.bool true), .t 49]⟩, ⟨(some 51), none, .move, [.t 50]⟩, ⟨(some 52), (some (51, false)), (.fieldAddr 2), [.t 1]⟩, ⟨(some 53), (some (51, false)), (.load 1 false), [.t 52]⟩, ⟨(some 54), (some (51, false)), (.fieldAddr 0), [.t 1]⟩, ⟨(some 55), (some (51, false)), (.load 1 false), [.t 54]⟩, ⟨(some 56), (some (51, false)), (.indexAddr 1), [.t 53, .t 55]⟩, ⟨(some 57), (some (51, false)), (.load 1 false), [.t 56]⟩, ⟨(some 58), (some (51, false)), (.fieldAddr 1), [.t 1]⟩, ⟨(some 59), (some (51, false)), (.load 1 false), [.t 58]⟩, ⟨(some 60), (some (51, false)), (.bin .sub .num), [.t 59, .c (.int .i64 1)]⟩, ⟨(some 61), (some (51, false)), (.bin .neq .num), [.t 57, .t 60]⟩, ⟨(some 62), none, .pick, [.t 51, .c (.bool true), .t 61]⟩, ⟨(some 24), none, .move, [.t 62]⟩] (some [0, 1, 3, 7, 15, 31, 63, 127, 255, 511, 1023, 2047, 1023, 5119, 16383, 32767, 1023, 66559, 197631, 524287, 1048575, 2097151]) [1, 4, 5, 6, 7, 8, 9, 24])
  (.cond (.t 24) .skip
  (.seq (.region [⟨(some 63), none, (.fieldAddr 2), [.t 1]⟩, ⟨(some 64), none, (.load 1 false), [.t 63]⟩, ⟨(some 65), none, .call, [.c (.fn (.func 69) [] []), .t 64, .c (.fn (.func 70) [] [])]⟩, ⟨(some 24), none, .move, [.t 65]⟩] none [1, 4, 5, 6, 7, 8, 9, 24])
  (.cond (.t 24) .skip
  (.seq (.region [⟨(some 66), none, (.fieldAddr 0), [.t 4]⟩, ⟨(some 67), none, (.load 1 false), [.t 66]⟩, ⟨(some 68), none, (.bin .lss .num), [.t 67, .c (.int .i64 1)]⟩, ⟨(some 69), none, .move, [.t 68]⟩, ⟨(some 70), (some (69, false)), (.fieldAddr 0), [.t 4]⟩, ⟨(some 71), (some (69, false)), (.load 1 false), [.t 70]⟩, ⟨(some 72), (some (69, false)), (.bin .gtr .num), [.t 71, .c (.int .i64 8)]⟩, ⟨(some 73), none, .pick, [.t 69, .c (.bool true), .t 72]⟩, ⟨(some 74), none, .move, [.t 73]⟩, ⟨(some 75), (some (74, false)), (.fieldAddr 1), [.t 4]⟩, ⟨(some 76), (some (74, false)), (.load 1 false), [.t 75]⟩, ⟨(some 77), (some (74, false)), .call, [.c (.fn (.func 67) [] []), .t 76]⟩, ⟨(some 78), (some (74, false)), (.un .not), [.t 77]⟩, ⟨(some 79), none, .pick, [.t 74, .c (.bool true), .t 78]⟩, ⟨(some 24), none, .move, [.t 79]⟩] none [1, 4, 5, 6, 7, 8, 9, 24])
  (.cond (.t 24) .skip
  (.seq (.region [⟨(some 80), none, .move, [.t 7]⟩, ⟨(some 81), none, .move, [.t 80]⟩, ⟨(some 82), (some (81, true)), .move, [.t 5]⟩, ⟨(some 83), (some (81, true)), (.fieldAddr 2), [.t 4]⟩, ⟨(some 84), (some (81, true)), (.load 2 true), [.t 83]⟩, ⟨(some 85), (some (81, true)), .call, [.t 82, .t 84]⟩, ⟨(some 86), (some (81, true)), (.un .not), [.t 85]⟩, ⟨(some 87), (some (81, true)), .move, [.t 86]⟩, ⟨(some 88), (some (87, false)), (.fieldAddr 2), [.t 4]⟩, ⟨(some 89), (some (87, false)), (.fieldAddr 1), [.t 88]⟩, ⟨(some 90), (some (87, false)), (.load 1 false), [.t 89]⟩, ⟨(some 91), (some (87, false)), (.fieldAddr 0), [.t 1]⟩, ⟨(some 92), (some (87, false)), (.load 1 false), [.t 91]⟩, ⟨(some 93), (some (87, false)), (.bin .neq .num), [.t 90, .t 92]⟩, ⟨(some 94), (some (81, true)), .pick, [.t 87, .c (.bool true), .t 93]⟩, ⟨(some 95), none, .pick, [.t 81, .t 94, .c (.bool false)]⟩, ⟨(some 96), none, .move, [.t 95]⟩, ⟨(some 97), (some (96, false)), .move, [.t 7]⟩, ⟨(some 98), (some (96, false)), (.un .not), [.t 97]⟩, ⟨(some 99), (some (96, false)), .move, [.t 98]⟩, ⟨(some 100), (some (99, true)), (.fieldAddr 2), [.t 4]⟩, ⟨(some 101), (some (99, true)), (.load 2 true), [.t 100]⟩, ⟨(some 102), (some (99, true)), (.load 2 true), [.t 6]⟩, ⟨(some 103), (some (99, true)), (.eqs .neq [.int, .int]), [.t 101, .t 102]⟩, ⟨(some 104), (some (96, false)), .pick, [.t 99, .t 103, .c (.bool false)]⟩, ⟨(some 105), none, .pick, [.t 96, .c (.bool true), .t 104]⟩, ⟨(some 24), none, .move, [.t 105]⟩] none [4, 5, 6, 8, 9, 24])
  (.cond (.t 24) .skip
  (.seq (.region [⟨(some 106), none, .move, [.t 9]⟩, ⟨(some 107), none, .move, [.t 106]⟩, ⟨(some 108), (some (107, true)), (.fieldAddr 6), [.t 4]⟩, ⟨(some 109), (some (107, true)), (.load 1 false), [.t 108]⟩, ⟨(some 110), (some (107, true)), .call, [.c (.fn (.func 71) [] []), .t 109]⟩, ⟨(some 111), (some (107, true)), (.un .not), [.t 110]⟩, ⟨(some 112), none, .pick, [.t 107, .t 111, .c (.bool false)]⟩, ⟨(some 113), none, .move, [.t 112]⟩, ⟨(some 114), (some (113, false)), .move, [.t 9]⟩, ⟨(some 115), (some (113, false)), (.un .not), [.t 114]⟩, ⟨(some 116), (some (113, false)), .move, [.t 115]⟩, ⟨(some 117), (some (116, true)), (.fieldAddr 6), [.t 4]⟩, ⟨(some 118), (some (116, true)), (.load 1 false), [.t 117]⟩, ⟨(some 119), (some (116, true)), (.bin .neq .num), [.t 118, .c (.int .i64 0)]⟩, ⟨(some 120), (some (113, false)), .pick, [.t 116, .t 119, .c (.bool false)]⟩, ⟨(some 121), none, .pick, [.t 113, .c (.bool true), .t 120]⟩, ⟨(some 24), none, .move, [.t 121]⟩] none [4, 5, 6, 8, 24])
  (.cond (.t 24) .skip
  (.region [⟨(some 122), none, .move, [.t 8]⟩, ⟨(some 123), none, (.un .not), [.t 122]⟩, ⟨(some 124), none, .move, [.t 123]⟩, ⟨(some 125), (some (124, true)), (.fieldAddr 4), [.t 4]⟩, ⟨(some 126), (some (124, true)), (.load 2 true), [.t 125]⟩, ⟨(some 127), (some (124, true)), (.load 2 true), [.t 6]⟩, ⟨(some 128), (some (124, true)), (.eqs .neq [.int, .int]), [.t 126, .t 127]⟩, ⟨(some 129), none, .pick, [.t 124, .t 128, .c (.bool false)]⟩, ⟨(some 24), none, .move, [.t 129]⟩] none [4, 5, 6, 8, 24])))))))))))))
  (.cond (.t 24) (.seq (.region [⟨(some 2), none, .move, [.c (.int .i64 1)]⟩] none [2])
  .ret)
  (.seq (.region [⟨(some 131), none, (.fieldAddr 4), [.t 4]⟩, ⟨(some 132), none, (.load 2 true), [.t 131]⟩, ⟨(some 133), none, (.load 2 true), [.t 6]⟩, ⟨(some 134), none, (.eqs .eql [.int, .int]), [.t 132, .t 133]⟩, ⟨(some 130), none, .move, [.t 134]⟩] none [4, 5, 8, 130])
  (.cond (.t 130) (.seq (.region [⟨(some 135), none, (.fieldAddr 0), [.t 4]⟩, ⟨(some 136), none, (.load 1 false), [.t 135]⟩, ⟨(some 137), none, (.bin .neq .num), [.t 136, .c (.int .i64 1)]⟩, ⟨(some 138), none, .move, [.t 137]⟩, ⟨(some 139), (some (138, true)), (.fieldAddr 0), [.t 4]⟩, ⟨(some 140), (some (138, true)), (.load 1 false), [.t 139]⟩, ⟨(some 141), (some (138, true)), (.bin .neq .num), [.t 140, .c (.int .i64 5)]⟩, ⟨(some 142), none, .pick, [.t 138, .t 141, .c (.bool false)]⟩, ⟨(some 143), none, .move, [.t 142]⟩, ⟨(some 144), (some (143, true)), .move, [.t 8]⟩, ⟨(some 145), none, .pick, [.t 143, .t 144, .c (.bool false)]⟩] none [145])
  (.cond (.t 145) (.seq (.region [⟨(some 2), none, .move, [.c (.int .i64 1)]⟩] none [2])
  .ret)
  .skip))
  (.seq (.region [⟨(some 147), none, .move, [.t 5]⟩, ⟨(some 148), none, (.fieldAddr 4), [.t 4]⟩, ⟨(some 149), none, (.load 2 true), [.t 148]⟩, ⟨(some 150), none, .call, [.t 147, .t 149]⟩, ⟨(some 151), none, (.un .not), [.t 150]⟩, ⟨(some 152), none, .move, [.t 151]⟩, ⟨(some 153), (some (152, false)), (.fieldAddr 0), [.t 4]⟩, ⟨(some 154), (some (152, false)), (.load 1 false), [.t 153]⟩, ⟨(some 155), (some (152, false)), (.bin .eql .num), [.t 154, .c (.int .i64 1)]⟩, ⟨(some 156), (some (152, false)), .move, [.t 155]⟩, ⟨(some 157), (some (156, true)), (.fieldAddr 4), [.t 4]⟩, ⟨(some 158), (some (156, true)), (.fieldAddr 0), [.t 157]⟩, ⟨(some 159), (some (156, true)), (.load 1 false), [.t 158]⟩, ⟨(some 160), (some (156, true)), (.fieldAddr 2), [.t 4]⟩, ⟨(some 161), (some (156, true)), (.fieldAddr 0), [.t 160]⟩, ⟨(some 162), (some (156, true)), (.load 1 false), [.t 161]⟩, ⟨(some 163), (some (156, true)), (.bin .geq .num), [.t 159, .t 162]⟩, ⟨(some 164), (some (152, false)), .pick, [.t 156, .t 163, .c (.bool false)]⟩, ⟨(some 165), none, .pick, [.t 152, .c (.bool true), .t 164]⟩, ⟨(some 146), none, .move, [.t 165]⟩] none [146])
  (.cond (.t 146) (.seq (.region [⟨(some 2), none, .move, [.c (.int .i64 1)]⟩] none [2])
  .ret)
  .skip)))))))
  (.seq (.region [⟨(some 2), none, .move, [.c (.int .i64 0)]⟩] none [2])
  .ret)))))))⟩
theorem ok43 : FunOk Try.prog 43 c43 := ⟨⟨Try.f43, _, Try.func43, rfl, by kernel_rfl, by kernel_rfl, by kernel_rfl, by kernel_rfl⟩, by decide⟩
/-- duet/resend.copied -/
def c44 : AFun := ⟨1, 8, [.cell 2 10 true],
  (.seq (.region [⟨(some 1), none, .box, [.t 0]⟩, ⟨(some 2), none, (.alloc [(.int .i64 0), (.int .i64 0), .nils, (.int .i64 0), (.int .i64 0), (.int .i64 0), (.int .i64 0), (.int .i64 0), (.int .i64 0), (.int .i64 0)]), []⟩] none [1, 2])
  (.seq (.region [⟨(some 3), none, (.fieldAddr 2), [.t 1]⟩, ⟨(some 4), none, (.load 1 false), [.t 3]⟩, ⟨(some 5), none, .call, [.c (.fn (.func 72) [] []), .t 4]⟩, ⟨(some 6), none, (.fieldAddr 2), [.t 1]⟩, ⟨none, none, (.store 1), [.t 6, .t 5]⟩] none [1, 2])
  (.seq (.region [⟨(some 7), none, (.load 10 true), [.t 1]⟩, ⟨none, none, (.store 10), [.t 2, .t 7]⟩] none [2])
  .ret)))⟩
theorem ok44 : FunOk Try.prog 44 c44 := ⟨⟨Try.f44, _, Try.func44, rfl, by kernel_rfl, by kernel_rfl, by kernel_rfl, by kernel_rfl⟩, by decide⟩
/-- (duet/vec.Vec).Check -/
def c46 : AFun := ⟨1, 21, [.tmp 2],
  (.seq (.region [⟨(some 2), none, .move, [.c (.int .i64 0)]⟩] none [0])
  (.seq (.seq (.region [⟨(some 3), none, .move, [.t 0]⟩, ⟨(some 4), none, (.len .slice), [.t 3]⟩, ⟨(some 5), none, (.bin .lss .num), [.t 4, .c (.int .i64 1)]⟩, ⟨(some 6), none, .move, [.t 5]⟩, ⟨(some 7), (some (6, false)), .move, [.t 0]⟩, ⟨(some 8), (some (6, false)), (.len .slice), [.t 7]⟩, ⟨(some 9), (some (6, false)), (.bin .gtr .num), [.t 8, .c (.int .i64 16)]⟩, ⟨(some 10), none, .pick, [.t 6, .c (.bool true), .t 9]⟩, ⟨(some 11), none, .move, [.t 10]⟩, ⟨(some 12), (some (11, false)), .move, [.t 0]⟩, ⟨(some 13), (some (11, false)), .call, [.c (.fn (.func 73) [] []), .t 12]⟩, ⟨(some 14), (some (11, false)), (.bin .lss .num), [.t 13, .c (.int .i64 0)]⟩, ⟨(some 15), none, .pick, [.t 11, .c (.bool true), .t 14]⟩, ⟨(some 16), none, .move, [.t 15]⟩, ⟨(some 17), (some (16, false)), .move, [.t 0]⟩, ⟨(some 18), (some (16, false)), .call, [.c (.fn (.func 74) [] []), .t 17]⟩, ⟨(some 19), (some (16, false)), (.bin .gtr .num), [.t 18, .c (.int .i64 4294967295)]⟩, ⟨(some 20), none, .pick, [.t 16, .c (.bool true), .t 19]⟩] none [20])
  (.cond (.t 20) (.seq (.region [⟨(some 2), none, .move, [.c (.int .i64 1)]⟩] none [2])
  .ret)
  .skip))
  (.seq (.region [⟨(some 2), none, .move, [.c (.int .i64 0)]⟩] none [2])
  .ret)))⟩
theorem ok46 : FunOk Try.prog 46 c46 := ⟨⟨Try.f46, _, Try.func46, rfl, by kernel_rfl, by kernel_rfl, by kernel_rfl, by kernel_rfl⟩, by decide⟩
/-- (duet/vec.Vec).Covers -/
def c47 : AFun := ⟨3, 32, [.tmp 6],
  (.seq (.region [⟨(some 6), none, .move, [.c (.bool false)]⟩] none [0, 1, 2])
  (.seq (.region [⟨(some 7), none, .move, [.t 0]⟩, ⟨(some 8), none, .call, [.c (.fn (.func 46) [] []), .t 7]⟩, ⟨(some 9), none, (.bin .eql .num), [.t 8, .c (.int .i64 0)]⟩, ⟨(some 10), none, .move, [.t 9]⟩, ⟨(some 11), (some (10, true)), .move, [.t 1]⟩, ⟨(some 12), (some (10, true)), (.bin .geq .num), [.t 11, .c (.int .i64 0)]⟩, ⟨(some 13), none, .pick, [.t 10, .t 12, .c (.bool false)]⟩, ⟨(some 14), none, .move, [.t 13]⟩, ⟨(some 15), (some (14, true)), .move, [.t 1]⟩, ⟨(some 16), (some (14, true)), .move, [.t 0]⟩, ⟨(some 17), (some (14, true)), (.len .slice), [.t 16]⟩, ⟨(some 18), (some (14, true)), (.bin .lss .num), [.t 15, .t 17]⟩, ⟨(some 19), none, .pick, [.t 14, .t 18, .c (.bool false)]⟩, ⟨(some 20), none, .move, [.t 19]⟩, ⟨(some 21), (some (20, true)), .move, [.t 2]⟩, ⟨(some 22), (some (20, true)), (.bin .gtr .num), [.t 21, .c (.int .i64 0)]⟩, ⟨(some 23), none, .pick, [.t 20, .t 22, .c (.bool false)]⟩, ⟨(some 24), none, .move, [.t 23]⟩, ⟨(some 25), (some (24, true)), .move, [.t 2]⟩, ⟨(some 26), (some (24, true)), .move, [.t 0]⟩, ⟨(some 27), (some (24, true)), .move, [.t 1]⟩, ⟨(some 28), (some (24, true)), (.indexAddr 1), [.t 26, .t 27]⟩, ⟨(some 29), (some (24, true)), (.load 1 false), [.t 28]⟩, ⟨(some 30), (some (24, true)), (.bin .leq .num), [.t 25, .t 29]⟩, ⟨(some 31), none, .pick, [.t 24, .t 30, .c (.bool false)]⟩, ⟨(some 6), none, .move, [.t 31]⟩] none [6])
  .ret))⟩
theorem ok47 : FunOk Try.prog 47 c47 := ⟨⟨Try.f47, _, Try.func47, rfl, by kernel_rfl, by kernel_rfl, by kernel_rfl, by kernel_rfl⟩, by decide⟩
/-- (duet/vec.Vec).Compare -/
def c50 : AFun := ⟨2, 40, [.tmp 4, .tmp 5],
  (.seq (.region [⟨(some 4), none, .move, [.c (.int .i64 0)]⟩, ⟨(some 5), none, .move, [.c (.int .i64 0)]⟩] none [0, 1])
  (.seq (.seq (.region [⟨(some 9), none, .move, [.t 0]⟩, ⟨(some 10), none, .move, [.t 1]⟩, ⟨(some 11), none, .call, [.c (.fn (.func 75) [] []), .t 9, .t 10]⟩, ⟨(some 12), none, (.un .not), [.t 11]⟩] none [0, 1, 12])
  (.cond (.t 12) (.seq (.region [⟨(some 4), none, .move, [.c (.int .i64 0)]⟩, ⟨(some 5), none, .move, [.c (.int .i64 1)]⟩] none [4, 5])
  .ret)
  .skip))
  (.seq (.region [⟨(some 6), none, .move, [.c (.int .i64 0)]⟩] none [0, 1, 6])
  (.seq (.seq (.region [⟨(some 13), none, .move, [.t 0]⟩, ⟨(some 14), none, (.len .slice), [.t 13]⟩, ⟨(some 15), none, .move, [.c (.int .i64 0)]⟩] none [1, 6, 13, 14, 15])
  (.block 0 (.loop [1, 6, 13, 14, 15] (.seq (.region [⟨(some 16), none, (.bin .lss .num), [.t 15, .t 14]⟩] none [1, 6, 13, 14, 15, 16])
  (.seq (.cond (.t 16) .skip
  (.exit 0))
  (.seq (.block 1 (.seq (.region [⟨(some 17), none, .move, [.t 15]⟩, ⟨(some 18), none, (.indexAddr 1), [.t 13, .t 15]⟩, ⟨(some 19), none, (.load 1 false), [.t 18]⟩, ⟨(some 7), none, .move, [.t 17]⟩, ⟨(some 8), none, .move, [.t 19]⟩] none [1, 6, 7, 8, 13, 14, 15])
  (.block 2 (.seq (.region [⟨(some 21), none, .move, [.t 8]⟩, ⟨(some 22), none, .move, [.t 1]⟩, ⟨(some 23), none, .move, [.t 7]⟩, ⟨(some 24), none, (.indexAddr 1), [.t 22, .t 23]⟩, ⟨(some 25), none, (.load 1 false), [.t 24]⟩, ⟨(some 26), none, (.bin .lss .num), [.t 21, .t 25]⟩, ⟨(some 20), none, .move, [.t 26]⟩] none [1, 6, 7, 8, 13, 14, 15, 20])
  (.cond (.t 20) (.region [⟨(some 27), none, .move, [.t 6]⟩, ⟨(some 28), none, (.bin .or .num), [.t 27, .c (.int .i64 1)]⟩, ⟨(some 6), none, .move, [.t 28]⟩] none [1, 6, 13, 14, 15])
  (.seq (.region [⟨(some 30), none, .move, [.t 8]⟩, ⟨(some 31), none, .move, [.t 1]⟩, ⟨(some 32), none, .move, [.t 7]⟩, ⟨(some 33), none, (.indexAddr 1), [.t 31, .t 32]⟩, ⟨(some 34), none, (.load 1 false), [.t 33]⟩, ⟨(some 35), none, (.bin .gtr .num), [.t 30, .t 34]⟩, ⟨(some 29), none, .move, [.t 35]⟩] none [1, 6, 13, 14, 15, 29])
  (.cond (.t 29) (.region [⟨(some 36), none, .move, [.t 6]⟩, ⟨(some 37), none, (.bin .or .num), [.t 36, .c (.int .i64 2)]⟩, ⟨(some 6), none, .move, [.t 37]⟩] none [1, 6, 13, 14, 15])
  .skip)))))))
  (.region [⟨(some 38), none, (.bin .add .num), [.t 15, .c (.int .i64 1)]⟩, ⟨(some 15), none, .move, [.t 38]⟩] none [1, 6, 13, 14, 15])))))))
  (.seq (.region [⟨(some 39), none, .move, [.t 6]⟩, ⟨(some 4), none, .move, [.t 39]⟩, ⟨(some 5), none, .move, [.c (.int .i64 0)]⟩] none [4, 5])
  .ret)))))⟩
theorem ok50 : FunOk Try.prog 50 c50 := ⟨⟨Try.f50, _, Try.func50, rfl, by kernel_rfl, by kernel_rfl, by kernel_rfl, by kernel_rfl⟩, by decide⟩
/-- duet/mesg.Check$1 -/
def c66 : AFun := ⟨2, 23, [.tmp 3],
  (.seq (.region [⟨(some 2), none, .box, [.t 0]⟩, ⟨(some 3), none, .move, [.c (.bool false)]⟩] none [1, 2])
  (.seq (.region [⟨(some 4), none, (.fieldAddr 0), [.t 2]⟩, ⟨(some 5), none, (.load 1 false), [.t 4]⟩, ⟨(some 6), none, (.bin .gtr .num), [.t 5, .c (.int .i64 0)]⟩, ⟨(some 7), none, .move, [.t 6]⟩, ⟨(some 8), (some (7, true)), (.fieldAddr 0), [.t 2]⟩, ⟨(some 9), (some (7, true)), (.load 1 false), [.t 8]⟩, ⟨(some 10), (some (7, true)), .call, [.c (.fn (.func 67) [] []), .t 9]⟩, ⟨(some 11), none, .pick, [.t 7, .t 10, .c (.bool false)]⟩, ⟨(some 12), none, .move, [.t 11]⟩, ⟨(some 13), (some (12, true)), (.fieldAddr 1), [.t 2]⟩, ⟨(some 14), (some (12, true)), (.load 1 false), [.t 13]⟩, ⟨(some 15), (some (12, true)), (.bin .geq .num), [.t 14, .c (.int .i64 0)]⟩, ⟨(some 16), none, .pick, [.t 12, .t 15, .c (.bool false)]⟩, ⟨(some 17), none, .move, [.t 16]⟩, ⟨(some 18), (some (17, true)), (.fieldAddr 1), [.t 2]⟩, ⟨(some 19), (some (17, true)), (.load 1 false), [.t 18]⟩, ⟨(some 20), (some (17, true)), (.load 1 false), [.t 1]⟩, ⟨(some 21), (some (17, true)), (.bin .lss .num), [.t 19, .t 20]⟩, ⟨(some 22), none, .pick, [.t 17, .t 21, .c (.bool false)]⟩, ⟨(some 3), none, .move, [.t 22]⟩] none [3])
  .ret))⟩
theorem ok66 : FunOk Try.prog 66 c66 := ⟨⟨Try.f66, _, Try.func66, rfl, by kernel_rfl, by kernel_rfl, by kernel_rfl, by kernel_rfl⟩, by decide⟩
/-- duet/mesg.isClock -/
def c67 : AFun := ⟨1, 9, [.tmp 2],
  (.seq (.region [⟨(some 2), none, .move, [.c (.bool false)]⟩] none [0])
  (.seq (.region [⟨(some 3), none, .move, [.t 0]⟩, ⟨(some 4), none, (.bin .geq .num), [.t 3, .c (.int .i64 0)]⟩, ⟨(some 5), none, .move, [.t 4]⟩, ⟨(some 6), (some (5, true)), .move, [.t 0]⟩, ⟨(some 7), (some (5, true)), (.bin .leq .num), [.t 6, .c (.int .i64 4294967295)]⟩, ⟨(some 8), none, .pick, [.t 5, .t 7, .c (.bool false)]⟩, ⟨(some 2), none, .move, [.t 8]⟩] none [2])
  .ret))⟩
theorem ok67 : FunOk Try.prog 67 c67 := ⟨⟨Try.f67, _, Try.func67, rfl, by kernel_rfl, by kernel_rfl, by kernel_rfl, by kernel_rfl⟩, by decide⟩
/-- duet/mesg.has -/
def c68 : AFun := ⟨1, 15, [.tmp 2, .tmp 3, .tmp 4],
  (.seq (.region [⟨(some 2), none, .move, [.c (.bool false)]⟩, ⟨(some 3), none, .move, [.c (.bool false)]⟩, ⟨(some 4), none, .move, [.c (.bool false)]⟩] none [0])
  (.seq (.region [⟨(some 5), none, .move, [.t 0]⟩, ⟨(some 6), none, (.bin .eql .num), [.t 5, .c (.int .i64 1)]⟩, ⟨(some 7), none, .move, [.t 6]⟩, ⟨(some 8), (some (7, false)), .move, [.t 0]⟩, ⟨(some 9), (some (7, false)), (.bin .eql .num), [.t 8, .c (.int .i64 6)]⟩, ⟨(some 10), none, .pick, [.t 7, .c (.bool true), .t 9]⟩, ⟨(some 11), none, .move, [.t 0]⟩, ⟨(some 12), none, (.bin .neq .num), [.t 11, .c (.int .i64 6)]⟩, ⟨(some 13), none, .move, [.t 0]⟩, ⟨(some 14), none, (.bin .eql .num), [.t 13, .c (.int .i64 1)]⟩, ⟨(some 2), none, .move, [.t 10]⟩, ⟨(some 3), none, .move, [.t 12]⟩, ⟨(some 4), none, .move, [.t 14]⟩] none [2, 3, 4])
  .ret))⟩
theorem ok68 : FunOk Try.prog 68 c68 := ⟨⟨Try.f68, _, Try.func68, rfl, by kernel_rfl, by kernel_rfl, by kernel_rfl, by kernel_rfl⟩, by decide⟩
/-- slices.ContainsFunc[[]int,int] -/
def c69 : AFun := ⟨2, 9, [.tmp 4],
  (.seq (.region [⟨(some 4), none, .move, [.c (.bool false)]⟩] none [0, 1])
  (.seq (.region [⟨(some 5), none, .move, [.t 0]⟩, ⟨(some 6), none, .move, [.t 1]⟩, ⟨(some 7), none, .call, [.c (.fn (.func 84) [] []), .t 5, .t 6]⟩, ⟨(some 8), none, (.bin .geq .num), [.t 7, .c (.int .i64 0)]⟩, ⟨(some 4), none, .move, [.t 8]⟩] none [4])
  .ret))⟩
theorem ok69 : FunOk Try.prog 69 c69 := ⟨⟨Try.f69, _, Try.func69, rfl, by kernel_rfl, by kernel_rfl, by kernel_rfl, by kernel_rfl⟩, by decide⟩
/-- duet/mesg.Check$2 -/
def c70 : AFun := ⟨1, 6, [.tmp 2],
  (.seq (.region [⟨(some 2), none, .move, [.c (.bool false)]⟩] none [0])
  (.seq (.region [⟨(some 3), none, .move, [.t 0]⟩, ⟨(some 4), none, .call, [.c (.fn (.func 67) [] []), .t 3]⟩, ⟨(some 5), none, (.un .not), [.t 4]⟩, ⟨(some 2), none, .move, [.t 5]⟩] none [2])
  .ret))⟩
theorem ok70 : FunOk Try.prog 70 c70 := ⟨⟨Try.f70, _, Try.func70, rfl, by kernel_rfl, by kernel_rfl, by kernel_rfl, by kernel_rfl⟩, by decide⟩
/-- duet/mesg.Rune -/
def c71 : AFun := ⟨1, 22, [.tmp 2],
  (.seq (.region [⟨(some 2), none, .move, [.c (.bool false)]⟩] none [0])
  (.seq (.block 0 (.seq (.seq (.region [⟨(some 4), none, .move, [.t 0]⟩, ⟨(some 5), none, (.bin .lss .num), [.t 4, .c (.int .i64 32)]⟩, ⟨(some 6), none, .move, [.t 5]⟩, ⟨(some 7), (some (6, false)), .move, [.t 0]⟩, ⟨(some 8), (some (6, false)), (.bin .gtr .num), [.t 7, .c (.int .i64 1114111)]⟩, ⟨(some 9), none, .pick, [.t 6, .c (.bool true), .t 8]⟩, ⟨(some 3), none, .move, [.t 9]⟩] none [0, 3])
  (.cond (.t 3) .skip
  (.seq (.region [⟨(some 10), none, .move, [.t 0]⟩, ⟨(some 11), none, (.bin .geq .num), [.t 10, .c (.int .i64 127)]⟩, ⟨(some 12), none, .move, [.t 11]⟩, ⟨(some 13), (some (12, true)), .move, [.t 0]⟩, ⟨(some 14), (some (12, true)), (.bin .leq .num), [.t 13, .c (.int .i64 159)]⟩, ⟨(some 15), none, .pick, [.t 12, .t 14, .c (.bool false)]⟩, ⟨(some 3), none, .move, [.t 15]⟩] none [0, 3])
  (.cond (.t 3) .skip
  (.region [⟨(some 16), none, .move, [.t 0]⟩, ⟨(some 17), none, (.bin .geq .num), [.t 16, .c (.int .i64 55296)]⟩, ⟨(some 18), none, .move, [.t 17]⟩, ⟨(some 19), (some (18, true)), .move, [.t 0]⟩, ⟨(some 20), (some (18, true)), (.bin .leq .num), [.t 19, .c (.int .i64 57343)]⟩, ⟨(some 21), none, .pick, [.t 18, .t 20, .c (.bool false)]⟩, ⟨(some 3), none, .move, [.t 21]⟩] none [3])))))
  (.cond (.t 3) (.seq (.region [⟨(some 2), none, .move, [.c (.bool false)]⟩] none [2])
  .ret)
  .skip)))
  (.seq (.region [⟨(some 2), none, .move, [.c (.bool true)]⟩] none [2])
  .ret)))⟩
theorem ok71 : FunOk Try.prog 71 c71 := ⟨⟨Try.f71, _, Try.func71, rfl, by kernel_rfl, by kernel_rfl, by kernel_rfl, by kernel_rfl⟩, by decide⟩
/-- slices.Clone[[]int,int] -/
def c72 : AFun := ⟨1, 8, [.tmp 2],
  (.seq (.region [⟨(some 2), none, .move, [.c .nils]⟩] none [0])
  (.seq (.seq (.region [⟨(some 3), none, .move, [.t 0]⟩, ⟨(some 4), none, (.bin .eql .slice), [.t 3, .c .nils]⟩] none [0, 4])
  (.cond (.t 4) (.seq (.region [⟨(some 2), none, .move, [.c .nils]⟩] none [2])
  .ret)
  .skip))
  (.seq (.region [⟨(some 5), none, (.buildSlice 1 [] []), []⟩, ⟨(some 6), none, .move, [.t 0]⟩, ⟨(some 7), none, (.append 1 8), [.t 5, .t 6]⟩, ⟨(some 2), none, .move, [.t 7]⟩] none [2])
  .ret)))⟩
theorem ok72 : FunOk Try.prog 72 c72 := ⟨⟨Try.f72, _, Try.func72, rfl, by kernel_rfl, by kernel_rfl, by kernel_rfl, by kernel_rfl⟩, by decide⟩
/-- slices.Min[duet/vec.Vec,int] -/
def c73 : AFun := ⟨1, 25, [.tmp 2],
  (.seq (.region [⟨(some 2), none, .move, [.c (.int .i64 0)]⟩] none [0])
  (.seq (.seq (.region [⟨(some 5), none, .move, [.t 0]⟩, ⟨(some 6), none, (.len .slice), [.t 5]⟩, ⟨(some 7), none, (.bin .lss .num), [.t 6, .c (.int .i64 1)]⟩] none [0, 7])
  (.cond (.t 7) (.region [⟨(some 8), none, .bad, []⟩, ⟨none, none, .bad, []⟩] none [0])
  .skip))
  (.seq (.region [⟨(some 9), none, .move, [.t 0]⟩, ⟨(some 10), none, (.indexAddr 1), [.t 9, .c (.int .i64 0)]⟩, ⟨(some 11), none, (.load 1 false), [.t 10]⟩, ⟨(some 3), none, .move, [.t 11]⟩] none [0, 3])
  (.seq (.seq (.region [⟨(some 4), none, .move, [.c (.int .i64 1)]⟩] none [0, 3, 4])
  (.block 0 (.loop [0, 3, 4] (.seq (.seq (.region [⟨(some 12), none, .move, [.t 4]⟩, ⟨(some 13), none, .move, [.t 0]⟩, ⟨(some 14), none, (.len .slice), [.t 13]⟩, ⟨(some 15), none, (.bin .lss .num), [.t 12, .t 14]⟩] none [0, 3, 4, 15])
  (.cond (.t 15) .skip
  (.exit 0)))
  (.seq (.block 1 (.region [⟨(some 18), none, .move, [.t 3]⟩, ⟨(some 19), none, .move, [.t 0]⟩, ⟨(some 20), none, .move, [.t 4]⟩, ⟨(some 21), none, (.indexAddr 1), [.t 19, .t 20]⟩, ⟨(some 22), none, (.load 1 false), [.t 21]⟩, ⟨(some 23), none, .min, [.t 18, .t 22]⟩, ⟨(some 3), none, .move, [.t 23]⟩] none [0, 3, 4]))
  (.region [⟨(some 16), none, .move, [.t 4]⟩, ⟨(some 17), none, (.bin .add .num), [.t 16, .c (.int .i64 1)]⟩, ⟨(some 4), none, .move, [.t 17]⟩] none [0, 3, 4]))))))
  (.seq (.region [⟨(some 24), none, .move, [.t 3]⟩, ⟨(some 2), none, .move, [.t 24]⟩] none [2])
  .ret)))))⟩
theorem ok73 : FunOk Try.prog 73 c73 := ⟨⟨Try.f73, _, Try.func73, rfl, by kernel_rfl, by kernel_rfl, by kernel_rfl, by kernel_rfl⟩, by decide⟩
/-- slices.Max[duet/vec.Vec,int] -/
def c74 : AFun := ⟨1, 25, [.tmp 2],
  (.seq (.region [⟨(some 2), none, .move, [.c (.int .i64 0)]⟩] none [0])
  (.seq (.seq (.region [⟨(some 5), none, .move, [.t 0]⟩, ⟨(some 6), none, (.len .slice), [.t 5]⟩, ⟨(some 7), none, (.bin .lss .num), [.t 6, .c (.int .i64 1)]⟩] none [0, 7])
  (.cond (.t 7) (.region [⟨(some 8), none, .bad, []⟩, ⟨none, none, .bad, []⟩] none [0])
  .skip))
  (.seq (.region [⟨(some 9), none, .move, [.t 0]⟩, ⟨(some 10), none, (.indexAddr 1), [.t 9, .c (.int .i64 0)]⟩, ⟨(some 11), none, (.load 1 false), [.t 10]⟩, ⟨(some 3), none, .move, [.t 11]⟩] none [0, 3])
  (.seq (.seq (.region [⟨(some 4), none, .move, [.c (.int .i64 1)]⟩] none [0, 3, 4])
  (.block 0 (.loop [0, 3, 4] (.seq (.seq (.region [⟨(some 12), none, .move, [.t 4]⟩, ⟨(some 13), none, .move, [.t 0]⟩, ⟨(some 14), none, (.len .slice), [.t 13]⟩, ⟨(some 15), none, (.bin .lss .num), [.t 12, .t 14]⟩] none [0, 3, 4, 15])
  (.cond (.t 15) .skip
  (.exit 0)))
  (.seq (.block 1 (.region [⟨(some 18), none, .move, [.t 3]⟩, ⟨(some 19), none, .move, [.t 0]⟩, ⟨(some 20), none, .move, [.t 4]⟩, ⟨(some 21), none, (.indexAddr 1), [.t 19, .t 20]⟩, ⟨(some 22), none, (.load 1 false), [.t 21]⟩, ⟨(some 23), none, .max, [.t 18, .t 22]⟩, ⟨(some 3), none, .move, [.t 23]⟩] none [0, 3, 4]))
  (.region [⟨(some 16), none, .move, [.t 4]⟩, ⟨(some 17), none, (.bin .add .num), [.t 16, .c (.int .i64 1)]⟩, ⟨(some 4), none, .move, [.t 17]⟩] none [0, 3, 4]))))))
  (.seq (.region [⟨(some 24), none, .move, [.t 3]⟩, ⟨(some 2), none, .move, [.t 24]⟩] none [2])
  .ret)))))⟩
theorem ok74 : FunOk Try.prog 74 c74 := ⟨⟨Try.f74, _, Try.func74, rfl, by kernel_rfl, by kernel_rfl, by kernel_rfl, by kernel_rfl⟩, by decide⟩
/-- (duet/vec.Vec).goes -/
def c75 : AFun := ⟨2, 20, [.tmp 4],
  (.seq (.region [⟨(some 4), none, .move, [.c (.bool false)]⟩] none [0, 1])
  (.seq (.region [⟨(some 5), none, .move, [.t 0]⟩, ⟨(some 6), none, (.len .slice), [.t 5]⟩, ⟨(some 7), none, .move, [.t 1]⟩, ⟨(some 8), none, (.len .slice), [.t 7]⟩, ⟨(some 9), none, (.bin .eql .num), [.t 6, .t 8]⟩, ⟨(some 10), none, .move, [.t 9]⟩, ⟨(some 11), (some (10, true)), .move, [.t 0]⟩, ⟨(some 12), (some (10, true)), .call, [.c (.fn (.func 46) [] []), .t 11]⟩, ⟨(some 13), (some (10, true)), (.bin .eql .num), [.t 12, .c (.int .i64 0)]⟩, ⟨(some 14), none, .pick, [.t 10, .t 13, .c (.bool false)]⟩, ⟨(some 15), none, .move, [.t 14]⟩, ⟨(some 16), (some (15, true)), .move, [.t 1]⟩, ⟨(some 17), (some (15, true)), .call, [.c (.fn (.func 46) [] []), .t 16]⟩, ⟨(some 18), (some (15, true)), (.bin .eql .num), [.t 17, .c (.int .i64 0)]⟩, ⟨(some 19), none, .pick, [.t 15, .t 18, .c (.bool false)]⟩, ⟨(some 4), none, .move, [.t 19]⟩] none [4])
  .ret))⟩
theorem ok75 : FunOk Try.prog 75 c75 := ⟨⟨Try.f75, _, Try.func75, rfl, by kernel_rfl, by kernel_rfl, by kernel_rfl, by kernel_rfl⟩, by decide⟩
/-- slices.IndexFunc[[]int,int] -/
def c84 : AFun := ⟨2, 19, [.tmp 4],
  (.seq (.region [⟨(some 4), none, .move, [.c (.int .i64 0)]⟩] none [0, 1])
  (.seq (.seq (.region [⟨(some 6), none, .move, [.t 0]⟩, ⟨(some 7), none, (.len .slice), [.t 6]⟩, ⟨(some 8), none, .move, [.c (.int .i64 0)]⟩] none [0, 1, 7, 8])
  (.block 0 (.loop [0, 1, 7, 8] (.seq (.region [⟨(some 9), none, (.bin .lss .num), [.t 8, .t 7]⟩] none [0, 1, 7, 8, 9])
  (.seq (.cond (.t 9) .skip
  (.exit 0))
  (.seq (.block 1 (.seq (.region [⟨(some 10), none, .move, [.t 8]⟩, ⟨(some 5), none, .move, [.t 10]⟩] none [0, 1, 5, 7, 8])
  (.seq (.region [⟨(some 11), none, .move, [.t 1]⟩, ⟨(some 12), none, .move, [.t 0]⟩, ⟨(some 13), none, .move, [.t 5]⟩, ⟨(some 14), none, (.indexAddr 1), [.t 12, .t 13]⟩, ⟨(some 15), none, (.load 1 false), [.t 14]⟩, ⟨(some 16), none, .call, [.t 11, .t 15]⟩] none [0, 1, 5, 7, 8, 16])
  (.cond (.t 16) (.seq (.region [⟨(some 17), none, .move, [.t 5]⟩, ⟨(some 4), none, .move, [.t 17]⟩] none [4])
  .ret)
  .skip))))
  (.region [⟨(some 18), none, (.bin .add .num), [.t 8, .c (.int .i64 1)]⟩, ⟨(some 8), none, .move, [.t 18]⟩] none [0, 1, 7, 8])))))))
  (.seq (.region [⟨(some 4), none, .move, [.c (.int .i64 (-1))]⟩] none [4])
  .ret)))⟩
theorem ok84 : FunOk Try.prog 84 c84 := ⟨⟨Try.f84, _, Try.func84, rfl, by kernel_rfl, by kernel_rfl, by kernel_rfl, by kernel_rfl⟩, by decide⟩
def tblL : List (Nat × AFun) := [(13, c13), (15, c15), (16, c16), (18, c18), (20, c20), (22, c22), (23, c23), (24, c24), (37, c37), (43, c43), (44, c44), (46, c46), (47, c47), (50, c50), (66, c66), (67, c67), (68, c68), (69, c69), (70, c70), (71, c71), (72, c72), (73, c73), (74, c74), (75, c75), (84, c84)]
def tbl (f : Nat) : Option AFun := tblL.lookup f
theorem tbl_ok : ∀ f A, tbl f = some A → FunOk Try.prog f A := lookup_ok (by
  simp only [tblL, List.forall_mem_cons]
  exact ⟨ok13, ok15, ok16, ok18, ok20, ok22, ok23, ok24, ok37, ok43, ok44, ok46, ok47, ok50, ok66, ok67, ok68, ok69, ok70, ok71, ok72, ok73, ok74, ok75, ok84, by simp⟩)
theorem run_ok (fuel d : Nat) : CallOk Try.prog (arun tbl fuel d) := arun_ok Try.mixed tbl_ok fuel d
end Go.Proofs.Ytoajcigegjhiaaa.RunC1
