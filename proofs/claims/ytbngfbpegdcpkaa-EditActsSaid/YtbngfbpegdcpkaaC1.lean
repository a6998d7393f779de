/- The program's functions in the abstract machine's terms. -/
import Derived.Test.YtbngfbpegdcpkaaA22
import Derived.Test.YtbngfbpegdcpkaaA33
import Derived.Test.YtbngfbpegdcpkaaE2
import Derived.Test.YtbngfbpegdcpkaaProg
import Derived.KernelRfl
namespace Go.Proofs.Ytbngfbpegdcpkaa.RunC1
set_option maxRecDepth 100000
set_option linter.unusedVariables false
set_option linter.unusedSimpArgs false
/-- duet/duetlaw18.live -/
def c11 : AFun := ⟨0, 111, [.tmp 0],
  (.seq (.region [⟨(some 0), none, .move, [.c (.bool false)]⟩] none [])
  (.seq (.region [⟨(some 10), none, .call, [.c (.fn (.func 24) [] []), .c (.str ⟨#[97, 98, 32, 99]⟩)]⟩, ⟨(some 11), none, (.build [.nils, (.int .i64 0), .nils] [(0, 1), (1, 1)]), [.t 10, .c (.int .i64 4)]⟩, ⟨(some 1), none, (.alloc [.nils, (.int .i64 0), .nils]), []⟩, ⟨none, none, (.store 3), [.t 1, .t 11]⟩] none [1])
  (.seq (.region [⟨(some 13), none, (.load 3 true), [.t 1]⟩, ⟨(some 14), none, (.build [(.int .i64 0), (.int .i64 0)] [(0, 1), (1, 1)]), [.c (.int .i64 2), .c (.int .i64 119)]⟩, ⟨(some 15), none, .call, [.c (.fn (.func 12) [] []), .t 13, .t 14]⟩, ⟨(some 12), none, .move, [.t 15]⟩, ⟨(some 16), none, (.extract 0), [.t 12]⟩, ⟨(some 17), none, (.extract 1), [.t 12]⟩, ⟨(some 2), none, (.alloc [.nils, (.int .i64 0), .nils]), []⟩, ⟨none, none, (.store 3), [.t 2, .t 16]⟩, ⟨(some 3), none, .move, [.t 17]⟩] none [1, 2, 3])
  (.seq (.region [⟨(some 19), none, (.load 3 true), [.t 2]⟩, ⟨(some 20), none, (.build [(.int .i64 0), (.int .i64 0)] [(0, 1), (1, 1)]), [.c (.int .i64 2), .c (.int .i64 121)]⟩, ⟨(some 21), none, .call, [.c (.fn (.func 12) [] []), .t 19, .t 20]⟩, ⟨(some 18), none, .move, [.t 21]⟩, ⟨(some 22), none, (.extract 0), [.t 18]⟩, ⟨(some 23), none, (.extract 1), [.t 18]⟩, ⟨(some 4), none, (.alloc [.nils, (.int .i64 0), .nils]), []⟩, ⟨none, none, (.store 3), [.t 4, .t 22]⟩, ⟨(some 5), none, .move, [.t 23]⟩] none [1, 2, 3, 4, 5])
  (.seq (.region [⟨(some 25), none, (.load 3 true), [.t 4]⟩, ⟨(some 26), none, (.build [(.int .i64 0), (.int .i64 0)] [(0, 1), (1, 1)]), [.c (.int .i64 2), .c (.int .i64 116)]⟩, ⟨(some 27), none, .call, [.c (.fn (.func 12) [] []), .t 25, .t 26]⟩, ⟨(some 24), none, .move, [.t 27]⟩, ⟨(some 28), none, (.extract 0), [.t 24]⟩, ⟨(some 29), none, (.extract 1), [.t 24]⟩, ⟨(some 6), none, (.alloc [.nils, (.int .i64 0), .nils]), []⟩, ⟨none, none, (.store 3), [.t 6, .t 28]⟩, ⟨(some 7), none, .move, [.t 29]⟩] none [1, 2, 3, 4, 5, 6, 7])
  (.seq (.region [⟨(some 31), none, (.fieldAddr 0), [.t 1]⟩, ⟨(some 32), none, (.load 1 false), [.t 31]⟩, ⟨(some 33), none, .move, [.t 3]⟩, ⟨(some 34), none, .call, [.c (.fn (.func 18) [] []), .t 32, .t 33]⟩, ⟨(some 30), none, .move, [.t 34]⟩, ⟨(some 35), none, (.extract 0), [.t 30]⟩, ⟨(some 36), none, (.extract 1), [.t 30]⟩, ⟨(some 8), none, .move, [.t 35]⟩, ⟨(some 9), none, .move, [.t 36]⟩] none [1, 2, 3, 4, 5, 6, 7, 8, 9])
  (.seq (.region [⟨(some 37), none, (.fieldAddr 0), [.t 2]⟩, ⟨(some 38), none, (.load 1 false), [.t 37]⟩, ⟨(some 39), none, .call, [.c (.fn (.func 24) [] []), .c (.str ⟨#[97, 98, 32]⟩)]⟩, ⟨(some 40), none, .call, [.c (.fn (.func 21) [] []), .t 38, .t 39]⟩, ⟨(some 41), none, .move, [.t 40]⟩, ⟨(some 42), (some (41, true)), (.fieldAddr 1), [.t 2]⟩, ⟨(some 43), (some (41, true)), (.load 1 false), [.t 42]⟩, ⟨(some 44), (some (41, true)), (.bin .eql .num), [.t 43, .c (.int .i64 3)]⟩, ⟨(some 45), none, .pick, [.t 41, .t 44, .c (.bool false)]⟩, ⟨(some 46), none, .move, [.t 45]⟩, ⟨(some 47), (some (46, true)), (.fieldAddr 2), [.t 2]⟩, ⟨(some 48), (some (46, true)), (.load 1 false), [.t 47]⟩, ⟨(some 49), (some (46, true)), .call, [.c (.fn (.func 24) [] []), .c (.str ⟨#[99]⟩)]⟩, ⟨(some 50), (some (46, true)), .call, [.c (.fn (.func 21) [] []), .t 48, .t 49]⟩, ⟨(some 51), none, .pick, [.t 46, .t 50, .c (.bool false)]⟩, ⟨(some 52), none, .move, [.t 51]⟩, ⟨(some 53), (some (52, true)), .move, [.t 3]⟩, ⟨(some 54), (some (52, true)), (.len .slice), [.t 53]⟩, ⟨(some 55), (some (52, true)), (.bin .eql .num), [.t 54, .c (.int .i64 1)]⟩, ⟨(some 56), none, .pick, [.t 52, .t 55, .c (.bool false)]⟩, ⟨(some 57), none, .move, [.t 56]⟩, ⟨(some 58), (some (57, true)), .move, [.t 5]⟩, ⟨(some 59), (some (57, true)), (.len .slice), [.t 58]⟩, ⟨(some 60), (some (57, true)), (.bin .eql .num), [.t 59, .c (.int .i64 1)]⟩, ⟨(some 61), none, .pick, [.t 57, .t 60, .c (.bool false)]⟩, ⟨(some 62), none, .move, [.t 61]⟩, ⟨(some 63), (some (62, true)), (.fieldAddr 0), [.t 4]⟩, ⟨(some 64), (some (62, true)), (.load 1 false), [.t 63]⟩, ⟨(some 65), (some (62, true)), (.fieldAddr 0), [.t 1]⟩, ⟨(some 66), (some (62, true)), (.load 1 false), [.t 65]⟩, ⟨(some 67), (some (62, true)), .call, [.c (.fn (.func 21) [] []), .t 64, .t 66]⟩, ⟨(some 68), none, .pick, [.t 62, .t 67, .c (.bool false)]⟩, ⟨(some 69), none, .move, [.t 68]⟩, ⟨(some 70), (some (69, true)), (.fieldAddr 1), [.t 4]⟩, ⟨(some 71), (some (69, true)), (.load 1 false), [.t 70]⟩, ⟨(some 72), (some (69, true)), (.bin .eql .num), [.t 71, .c (.int .i64 4)]⟩, ⟨(some 73), none, .pick, [.t 69, .t 72, .c (.bool false)]⟩, ⟨(some 74), none, .move, [.t 73]⟩, ⟨(some 75), (some (74, true)), (.fieldAddr 0), [.t 6]⟩, ⟨(some 76), (some (74, true)), (.load 1 false), [.t 75]⟩, ⟨(some 77), (some (74, true)), .call, [.c (.fn (.func 24) [] []), .c (.str ⟨#[97, 98, 99, 32]⟩)]⟩, ⟨(some 78), (some (74, true)), .call, [.c (.fn (.func 21) [] []), .t 76, .t 77]⟩, ⟨(some 79), none, .pick, [.t 74, .t 78, .c (.bool false)]⟩, ⟨(some 80), none, .move, [.t 79]⟩, ⟨(some 81), (some (80, true)), (.fieldAddr 1), [.t 6]⟩, ⟨(some 82), (some (80, true)), (.load 1 false), [.t 81]⟩, ⟨(some 83), (some (80, true)), (.bin .eql .num), [.t 82, .c (.int .i64 4)]⟩, ⟨(some 84), none, .pick, [.t 80, .t 83, .c (.bool false)]⟩, ⟨(some 85), none, .move, [.t 84]⟩, ⟨(some 86), (some (85, true)), .move, [.t 7]⟩, ⟨(some 87), (some (85, true)), (.len .slice), [.t 86]⟩, ⟨(some 88), (some (85, true)), (.bin .eql .num), [.t 87, .c (.int .i64 2)]⟩, ⟨(some 89), none, .pick, [.t 85, .t 88, .c (.bool false)]⟩, ⟨(some 90), none, .move, [.t 89]⟩, ⟨(some 91), (some (90, true)), .move, [.t 8]⟩, ⟨(some 92), (some (90, true)), (.fieldAddr 0), [.t 2]⟩, ⟨(some 93), (some (90, true)), (.load 1 false), [.t 92]⟩, ⟨(some 94), (some (90, true)), .call, [.c (.fn (.func 21) [] []), .t 91, .t 93]⟩, ⟨(some 95), none, .pick, [.t 90, .t 94, .c (.bool false)]⟩, ⟨(some 96), none, .move, [.t 95]⟩, ⟨(some 97), (some (96, true)), .move, [.t 9]⟩, ⟨(some 98), none, .pick, [.t 96, .t 97, .c (.bool false)]⟩, ⟨(some 99), none, .move, [.t 98]⟩, ⟨(some 100), (some (99, true)), (.fieldAddr 0), [.t 1]⟩, ⟨(some 101), (some (99, true)), (.load 1 false), [.t 100]⟩, ⟨(some 102), (some (99, true)), .call, [.c (.fn (.func 22) [] []), .t 101, .c (.int .i64 4), .c (.bool true)]⟩, ⟨(some 103), (some (99, true)), (.bin .eql .num), [.t 102, .c (.int .i64 3)]⟩, ⟨(some 104), none, .pick, [.t 99, .t 103, .c (.bool false)]⟩, ⟨(some 105), none, .move, [.t 104]⟩, ⟨(some 106), (some (105, true)), (.fieldAddr 0), [.t 1]⟩, ⟨(some 107), (some (105, true)), (.load 1 false), [.t 106]⟩, ⟨(some 108), (some (105, true)), .call, [.c (.fn (.func 22) [] []), .t 107, .c (.int .i64 0), .c (.bool false)]⟩, ⟨(some 109), (some (105, true)), (.bin .eql .num), [.t 108, .c (.int .i64 2)]⟩, ⟨(some 110), none, .pick, [.t 105, .t 109, .c (.bool false)]⟩, ⟨(some 0), none, .move, [.t 110]⟩] (some [0, 1, 0, 7, 15, 31, 63, 127, 255, 511, 1023, 2047, 1023, 8191, 16383, 32767, 65535, 131071, 262143, 524287, 1048575, 2097151, 4194303, 8388607, 16777215, 33554431, 67108863, 134217727, 67108863, 335544319, 1073741823, 2147483647, 4294967295, 8589934591, 17179869183, 34359738367, 68719476735, 137438953471, 274877906943, 549755813887, 274877906943, 2199023255551, 4398046511103, 8796093022207, 17592186044415, 35184372088831, 70368744177663, 140737488355327, 281474976710655, 562949953421311, 1125899906842623, 2251799813685247, 4503599627370495, 9007199254740991, 18014398509481983, 18014398509481983, 54043195528445951, 144115188075855871, 288230376151711743, 576460752303423487, 1152921504606846975, 2305843009213693951, 4611686018427387903, 9223372036854775807, 18446744073709551615, 36893488147419103231, 73786976294838206463, 147573952589676412927, 295147905179352825855, 590295810358705651711, 1180591620717411303423, 2361183241434822606847, 4722366482869645213695, 9444732965739290427391, 18889465931478580854783]) [0])
  .ret)))))))⟩
theorem ok11 : FunOk Try.prog 11 c11 := ⟨⟨Try.f11, _, Try.func11, rfl, by kernel_rfl, by kernel_rfl, by kernel_rfl, by kernel_rfl⟩, by decide⟩
/-- duet/edit.Do -/
def c12 : AFun := ⟨2, 62, [.cell 4 3 true, .tmp 5],
  (.seq (.region [⟨(some 2), none, .box, [.t 0]⟩, ⟨(some 3), none, .box, [.t 1]⟩, ⟨(some 4), none, (.alloc [.nils, (.int .i64 0), .nils]), []⟩, ⟨(some 5), none, .move, [.c .nils]⟩] none [2, 3, 4])
  (.seq (.region [⟨(some 9), none, (.fieldAddr 0), [.t 2]⟩, ⟨(some 10), none, (.load 1 false), [.t 9]⟩, ⟨(some 11), none, .call, [.c (.fn (.func 25) [] []), .t 10]⟩, ⟨(some 12), none, (.fieldAddr 0), [.t 2]⟩, ⟨(some 13), none, (.load 1 false), [.t 12]⟩, ⟨(some 14), none, (.fieldAddr 1), [.t 2]⟩, ⟨(some 15), none, (.load 1 false), [.t 14]⟩, ⟨(some 16), none, .call, [.c (.fn (.func 26) [] []), .t 13, .t 15]⟩, ⟨(some 17), none, (.fieldAddr 2), [.t 2]⟩, ⟨(some 18), none, (.load 1 false), [.t 17]⟩, ⟨(some 19), none, .call, [.c (.fn (.func 25) [] []), .t 18]⟩, ⟨(some 20), none, (.build [.nils, (.int .i64 0), .nils] [(0, 1), (1, 1), (2, 1)]), [.t 11, .t 16, .t 19]⟩, ⟨(some 21), none, (.build [.nils, (.int .i64 0), .nils, .nils] [(0, 3)]), [.t 20]⟩, ⟨(some 22), none, .box, [.t 21]⟩, ⟨(some 6), none, .move, [.t 22]⟩] (some [0, 1, 3, 0, 8, 0, 32, 127, 0, 256, 1023, 2047, 4095, 8191, 16383]) [3, 4, 6])
  (.seq (.seq (.region [⟨(some 23), none, (.fieldAddr 0), [.t 3]⟩, ⟨(some 24), none, (.load 1 false), [.t 23]⟩, ⟨(some 25), none, (.bin .neq .num), [.t 24, .c (.int .i64 1)]⟩, ⟨(some 26), none, .move, [.t 25]⟩, ⟨(some 27), (some (26, true)), (.fieldAddr 0), [.t 3]⟩, ⟨(some 28), (some (26, true)), (.load 1 false), [.t 27]⟩, ⟨(some 29), (some (26, true)), (.bin .neq .num), [.t 28, .c (.int .i64 2)]⟩, ⟨(some 30), none, .pick, [.t 26, .t 29, .c (.bool false)]⟩, ⟨(some 31), none, .move, [.t 30]⟩, ⟨(some 32), (some (31, true)), (.fieldAddr 0), [.t 3]⟩, ⟨(some 33), (some (31, true)), (.load 1 false), [.t 32]⟩, ⟨(some 34), (some (31, true)), (.bin .neq .num), [.t 33, .c (.int .i64 3)]⟩, ⟨(some 35), none, .pick, [.t 31, .t 34, .c (.bool false)]⟩] none [3, 4, 6, 35])
  (.cond (.t 35) (.region [⟨(some 36), none, (.fieldAddr 1), [.t 3]⟩, ⟨none, none, (.store 1), [.t 36, .c (.int .i64 0)]⟩] none [3, 4, 6])
  .skip))
  (.seq (.seq (.region [⟨(some 37), none, (.fieldAddr 0), [.t 3]⟩, ⟨(some 38), none, (.load 1 false), [.t 37]⟩, ⟨(some 39), none, (.bin .eql .num), [.t 38, .c (.int .i64 1)]⟩] none [3, 4, 6, 39])
  (.cond (.t 39) (.region [⟨(some 40), none, .move, [.t 6]⟩, ⟨(some 41), none, (.fieldAddr 1), [.t 3]⟩, ⟨(some 42), none, (.load 1 false), [.t 41]⟩, ⟨(some 43), none, .call, [.c (.fn (.func 27) [] []), .t 40, .t 42]⟩] none [4, 6])
  (.seq (.region [⟨(some 45), none, .call, [.c (.fn (.func 28) [] [])]⟩, ⟨(some 46), none, (.load 2 true), [.t 3]⟩, ⟨(some 47), none, (.lookup true [.int, .int] .nilf true), [.t 45, .t 46]⟩, ⟨(some 44), none, .move, [.t 47]⟩, ⟨(some 48), none, (.extract 0), [.t 44]⟩, ⟨(some 49), none, (.extract 1), [.t 44]⟩, ⟨(some 7), none, .move, [.t 48]⟩, ⟨(some 8), none, .move, [.t 49]⟩] (some [0, 0, 3, 7, 15, 15, 31, 127]) [4, 6, 7, 8])
  (.seq (.region [⟨(some 50), none, .move, [.t 8]⟩] none [4, 6, 7, 50])
  (.cond (.t 50) (.region [⟨(some 51), none, .move, [.t 7]⟩, ⟨(some 52), none, .move, [.t 6]⟩, ⟨(some 53), none, .call, [.t 51, .t 52]⟩] none [4, 6])
  .skip)))))
  (.seq (.region [⟨(some 54), none, .move, [.t 6]⟩, ⟨(some 55), none, .nilCheck, [.t 54]⟩, ⟨(some 56), none, (.fieldAddr 0), [.t 55]⟩, ⟨(some 57), none, (.load 3 true), [.t 56]⟩, ⟨(some 58), none, .move, [.t 6]⟩, ⟨(some 59), none, .nilCheck, [.t 58]⟩, ⟨(some 60), none, (.fieldAddr 3), [.t 59]⟩, ⟨(some 61), none, (.load 1 false), [.t 60]⟩, ⟨none, none, (.store 3), [.t 4, .t 57]⟩, ⟨(some 5), none, .move, [.t 61]⟩] (some [0, 1, 3, 7, 0, 16, 48, 112, 15, 511]) [4, 5])
  .ret)))))⟩
theorem ok12 : FunOk Try.prog 12 c12 := ⟨⟨Try.f12, _, Try.func12, rfl, by kernel_rfl, by kernel_rfl, by kernel_rfl, by kernel_rfl⟩, by decide⟩
/-- duet/edit.Apply -/
def c18 : AFun := ⟨2, 58, [.tmp 4, .tmp 5],
  (.seq (.region [⟨(some 4), none, .move, [.c .nils]⟩, ⟨(some 5), none, .move, [.c (.bool false)]⟩] none [0, 1])
  (.seq (.region [⟨(some 8), none, .move, [.t 0]⟩, ⟨(some 9), none, .call, [.c (.fn (.func 25) [] []), .t 8]⟩, ⟨(some 0), none, .move, [.t 9]⟩] none [0, 1])
  (.seq (.seq (.region [⟨(some 10), none, .move, [.t 1]⟩, ⟨(some 11), none, (.len .slice), [.t 10]⟩, ⟨(some 12), none, .move, [.c (.int .i64 0)]⟩] none [0, 10, 11, 12])
  (.block 0 (.loop [0, 10, 11, 12] (.seq (.region [⟨(some 13), none, (.bin .lss .num), [.t 12, .t 11]⟩] none [0, 10, 11, 12, 13])
  (.seq (.cond (.t 13) .skip
  (.exit 0))
  (.seq (.block 1 (.seq (.region [⟨(some 14), none, (.indexAddr 3), [.t 10, .t 12]⟩, ⟨(some 15), none, (.load 3 true), [.t 14]⟩, ⟨(some 7), none, (.alloc [(.int .i64 0), (.int .i64 0), (.int .i64 0)]), []⟩, ⟨none, none, (.store 3), [.t 7, .t 15]⟩] none [0, 7, 10, 11, 12])
  (.block 2 (.seq (.region [⟨(some 17), none, (.fieldAddr 1), [.t 7]⟩, ⟨(some 18), none, (.load 1 false), [.t 17]⟩, ⟨(some 19), none, (.bin .lss .num), [.t 18, .c (.int .i64 0)]⟩, ⟨(some 20), none, .move, [.t 19]⟩, ⟨(some 21), (some (20, false)), (.fieldAddr 1), [.t 7]⟩, ⟨(some 22), (some (20, false)), (.load 1 false), [.t 21]⟩, ⟨(some 23), (some (20, false)), .move, [.t 0]⟩, ⟨(some 24), (some (20, false)), (.len .slice), [.t 23]⟩, ⟨(some 25), (some (20, false)), (.bin .gtr .num), [.t 22, .t 24]⟩, ⟨(some 26), none, .pick, [.t 20, .c (.bool true), .t 25]⟩, ⟨(some 16), none, .move, [.t 26]⟩] none [0, 7, 10, 11, 12, 16])
  (.cond (.t 16) (.seq (.region [⟨(some 4), none, .move, [.c .nils]⟩, ⟨(some 5), none, .move, [.c (.bool false)]⟩] none [4, 5])
  .ret)
  (.seq (.region [⟨(some 28), none, (.fieldAddr 0), [.t 7]⟩, ⟨(some 29), none, (.load 1 false), [.t 28]⟩, ⟨(some 30), none, (.bin .eql .num), [.t 29, .c (.int .i64 1)]⟩, ⟨(some 27), none, .move, [.t 30]⟩] none [0, 7, 10, 11, 12, 27])
  (.cond (.t 27) (.region [⟨(some 31), none, .move, [.t 0]⟩, ⟨(some 32), none, (.fieldAddr 1), [.t 7]⟩, ⟨(some 33), none, (.load 1 false), [.t 32]⟩, ⟨(some 34), none, (.fieldAddr 2), [.t 7]⟩, ⟨(some 35), none, (.load 1 false), [.t 34]⟩, ⟨(some 36), none, (.buildSlice 1 [(.int .i64 0)] [(0, 1)]), [.t 35]⟩, ⟨(some 37), none, .call, [.c (.fn (.func 33) [] []), .t 31, .t 33, .t 36]⟩, ⟨(some 0), none, .move, [.t 37]⟩] none [0, 10, 11, 12])
  (.seq (.region [⟨(some 39), none, (.fieldAddr 0), [.t 7]⟩, ⟨(some 40), none, (.load 1 false), [.t 39]⟩, ⟨(some 41), none, (.bin .eql .num), [.t 40, .c (.int .i64 2)]⟩, ⟨(some 42), none, .move, [.t 41]⟩, ⟨(some 43), (some (42, true)), (.fieldAddr 1), [.t 7]⟩, ⟨(some 44), (some (42, true)), (.load 1 false), [.t 43]⟩, ⟨(some 45), (some (42, true)), .move, [.t 0]⟩, ⟨(some 46), (some (42, true)), (.len .slice), [.t 45]⟩, ⟨(some 47), (some (42, true)), (.bin .lss .num), [.t 44, .t 46]⟩, ⟨(some 48), none, .pick, [.t 42, .t 47, .c (.bool false)]⟩, ⟨(some 38), none, .move, [.t 48]⟩] none [0, 7, 10, 11, 12, 38])
  (.cond (.t 38) (.region [⟨(some 49), none, .move, [.t 0]⟩, ⟨(some 50), none, (.fieldAddr 1), [.t 7]⟩, ⟨(some 51), none, (.load 1 false), [.t 50]⟩, ⟨(some 52), none, (.fieldAddr 1), [.t 7]⟩, ⟨(some 53), none, (.load 1 false), [.t 52]⟩, ⟨(some 54), none, (.bin .add .num), [.t 53, .c (.int .i64 1)]⟩, ⟨(some 55), none, .call, [.c (.fn (.func 34) [] []), .t 49, .t 51, .t 54]⟩, ⟨(some 0), none, .move, [.t 55]⟩] none [0, 10, 11, 12])
  (.seq (.region [⟨(some 4), none, .move, [.c .nils]⟩, ⟨(some 5), none, .move, [.c (.bool false)]⟩] none [4, 5])
  .ret))))))))))
  (.region [⟨(some 56), none, (.bin .add .num), [.t 12, .c (.int .i64 1)]⟩, ⟨(some 12), none, .move, [.t 56]⟩] none [0, 10, 11, 12])))))))
  (.seq (.region [⟨(some 57), none, .move, [.t 0]⟩, ⟨(some 4), none, .move, [.t 57]⟩, ⟨(some 5), none, .move, [.c (.bool true)]⟩] none [4, 5])
  .ret))))⟩
theorem ok18 : FunOk Try.prog 18 c18 := ⟨⟨Try.f18, _, Try.func18, rfl, by kernel_rfl, by kernel_rfl, by kernel_rfl, by kernel_rfl⟩, by decide⟩
/-- duet/duetref01.Same -/
def c21 : AFun := ⟨2, 26, [.tmp 4],
  (.seq (.region [⟨(some 4), none, .move, [.c (.bool false)]⟩] none [0, 1])
  (.seq (.seq (.region [⟨(some 6), none, .move, [.t 0]⟩, ⟨(some 7), none, (.len .slice), [.t 6]⟩, ⟨(some 8), none, .move, [.t 1]⟩, ⟨(some 9), none, (.len .slice), [.t 8]⟩, ⟨(some 10), none, (.bin .neq .num), [.t 7, .t 9]⟩] none [0, 1, 10])
  (.cond (.t 10) (.seq (.region [⟨(some 4), none, .move, [.c (.bool false)]⟩] none [4])
  .ret)
  .skip))
  (.seq (.seq (.region [⟨(some 5), none, .move, [.c (.int .i64 0)]⟩] none [0, 1, 5])
  (.block 0 (.loop [0, 1, 5] (.seq (.seq (.region [⟨(some 11), none, .move, [.t 5]⟩, ⟨(some 12), none, .move, [.t 0]⟩, ⟨(some 13), none, (.len .slice), [.t 12]⟩, ⟨(some 14), none, (.bin .lss .num), [.t 11, .t 13]⟩] none [0, 1, 5, 14])
  (.cond (.t 14) .skip
  (.exit 0)))
  (.seq (.block 1 (.seq (.region [⟨(some 17), none, .move, [.t 0]⟩, ⟨(some 18), none, .move, [.t 5]⟩, ⟨(some 19), none, (.indexAddr 1), [.t 17, .t 18]⟩, ⟨(some 20), none, (.load 1 false), [.t 19]⟩, ⟨(some 21), none, .move, [.t 1]⟩, ⟨(some 22), none, .move, [.t 5]⟩, ⟨(some 23), none, (.indexAddr 1), [.t 21, .t 22]⟩, ⟨(some 24), none, (.load 1 false), [.t 23]⟩, ⟨(some 25), none, (.bin .neq .num), [.t 20, .t 24]⟩] (some [0, 0, 3, 7, 0, 0, 48, 112, 255]) [0, 1, 5, 25])
  (.cond (.t 25) (.seq (.region [⟨(some 4), none, .move, [.c (.bool false)]⟩] none [4])
  .ret)
  .skip)))
  (.region [⟨(some 15), none, .move, [.t 5]⟩, ⟨(some 16), none, (.bin .add .num), [.t 15, .c (.int .i64 1)]⟩, ⟨(some 5), none, .move, [.t 16]⟩] none [0, 1, 5]))))))
  (.seq (.region [⟨(some 4), none, .move, [.c (.bool true)]⟩] none [4])
  .ret))))⟩
theorem ok21 : FunOk Try.prog 21 c21 := ⟨⟨Try.f21, _, Try.func21, rfl, by kernel_rfl, by kernel_rfl, by kernel_rfl, by kernel_rfl⟩, by decide⟩
/-- duet/edit.Word -/
def c22 : AFun := ⟨3, 45, [.tmp 6],
  (.seq (.region [⟨(some 6), none, .move, [.c (.int .i64 0)]⟩] none [0, 1, 2])
  (.seq (.region [⟨(some 11), none, .move, [.t 0]⟩, ⟨(some 12), none, .move, [.t 1]⟩, ⟨(some 13), none, .call, [.c (.fn (.func 26) [] []), .t 11, .t 12]⟩, ⟨(some 1), none, .move, [.t 13]⟩] none [0, 1, 2])
  (.seq (.seq (.region [⟨(some 14), none, .move, [.t 2]⟩] none [0, 1, 14])
  (.cond (.t 14) (.seq (.region [⟨(some 15), none, .move, [.t 0]⟩, ⟨(some 16), none, .move, [.t 1]⟩, ⟨(some 17), none, (.slice 1 false true false), [.t 15, .t 16]⟩, ⟨(some 18), none, .call, [.c (.fn (.func 25) [] []), .t 17]⟩, ⟨(some 7), none, .move, [.t 18]⟩] none [1, 7])
  (.seq (.region [⟨(some 19), none, .move, [.t 7]⟩, ⟨(some 20), none, .call, [.c (.fn (.func 35) [] []), .t 19]⟩] none [1, 7])
  (.seq (.region [⟨(some 21), none, .move, [.t 1]⟩, ⟨(some 22), none, .move, [.t 7]⟩, ⟨(some 23), none, .call, [.c (.fn (.func 22) [] []), .t 22, .c (.int .i64 0), .c (.bool false)]⟩, ⟨(some 24), none, (.bin .sub .num), [.t 21, .t 23]⟩, ⟨(some 6), none, .move, [.t 24]⟩] none [6])
  .ret)))
  .skip))
  (.seq (.seq (.region [⟨(some 25), none, (.buildSlice 1 [(.bool false), (.bool false)] [(0, 1), (1, 1)]), [.c (.bool false), .c (.bool true)]⟩, ⟨(some 26), none, (.len .slice), [.t 25]⟩, ⟨(some 27), none, .move, [.c (.int .i64 0)]⟩] none [0, 1, 25, 26, 27])
  (.block 0 (.loop [0, 1, 25, 26, 27] (.seq (.region [⟨(some 28), none, (.bin .lss .num), [.t 27, .t 26]⟩] none [0, 1, 25, 26, 27, 28])
  (.seq (.cond (.t 28) .skip
  (.exit 0))
  (.seq (.block 1 (.seq (.region [⟨(some 29), none, (.indexAddr 1), [.t 25, .t 27]⟩, ⟨(some 30), none, (.load 1 false), [.t 29]⟩, ⟨(some 9), none, (.alloc [(.bool false)]), []⟩, ⟨none, none, (.store 1), [.t 9, .t 30]⟩] none [0, 1, 9, 25, 26, 27])
  (.seq (.region [⟨(some 31), none, .move, [.t 0]⟩, ⟨(some 32), none, .move, [.t 1]⟩, ⟨(some 33), none, (.slice 1 true false false), [.t 31, .t 32]⟩, ⟨(some 34), none, (.mkfn (.func 37) 0), [.t 9]⟩, ⟨(some 35), none, .call, [.c (.fn (.func 36) [] []), .t 33, .t 34]⟩, ⟨(some 10), none, .move, [.t 35]⟩] none [0, 1, 10, 25, 26, 27])
  (.seq (.seq (.region [⟨(some 36), none, .move, [.t 10]⟩, ⟨(some 37), none, (.bin .lss .num), [.t 36, .c (.int .i64 0)]⟩] none [0, 1, 10, 25, 26, 27, 37])
  (.cond (.t 37) (.seq (.region [⟨(some 38), none, .move, [.t 0]⟩, ⟨(some 39), none, (.len .slice), [.t 38]⟩, ⟨(some 6), none, .move, [.t 39]⟩] none [6])
  .ret)
  .skip))
  (.region [⟨(some 40), none, .move, [.t 1]⟩, ⟨(some 41), none, .move, [.t 10]⟩, ⟨(some 42), none, (.bin .add .num), [.t 40, .t 41]⟩, ⟨(some 1), none, .move, [.t 42]⟩] none [0, 1, 25, 26, 27])))))
  (.region [⟨(some 43), none, (.bin .add .num), [.t 27, .c (.int .i64 1)]⟩, ⟨(some 27), none, .move, [.t 43]⟩] none [0, 1, 25, 26, 27])))))))
  (.seq (.region [⟨(some 44), none, .move, [.t 1]⟩, ⟨(some 6), none, .move, [.t 44]⟩] none [6])
  .ret)))))⟩
theorem ok22 : FunOk Try.prog 22 c22 := ⟨⟨Try.f22, _, Try.func22, rfl, by kernel_rfl, by kernel_rfl, by kernel_rfl, by kernel_rfl⟩, by decide⟩
/-- duet/duetlaw18.runes -/
def c24 : AFun := ⟨1, 19, [.tmp 2],
  (.seq (.region [⟨(some 2), none, .move, [.c .nils]⟩] none [0])
  (.seq (.region [⟨(some 3), none, .move, [.c .nils]⟩] none [0, 3])
  (.seq (.seq (.region [⟨(some 4), none, .move, [.c (.int .i64 0)]⟩] none [0, 3, 4])
  (.block 0 (.loop [0, 3, 4] (.seq (.seq (.region [⟨(some 5), none, .move, [.t 4]⟩, ⟨(some 6), none, .move, [.t 0]⟩, ⟨(some 7), none, (.len .num), [.t 6]⟩, ⟨(some 8), none, (.bin .lss .num), [.t 5, .t 7]⟩] none [0, 3, 4, 8])
  (.cond (.t 8) .skip
  (.exit 0)))
  (.seq (.block 1 (.region [⟨(some 11), none, .move, [.t 3]⟩, ⟨(some 12), none, .move, [.t 0]⟩, ⟨(some 13), none, .move, [.t 4]⟩, ⟨(some 14), none, .strAt, [.t 12, .t 13]⟩, ⟨(some 15), none, (.conv .i64), [.t 14]⟩, ⟨(some 16), none, (.buildSlice 1 [(.int .i64 0)] [(0, 1)]), [.t 15]⟩, ⟨(some 17), none, (.append 1 8), [.t 11, .t 16]⟩, ⟨(some 3), none, .move, [.t 17]⟩] none [0, 3, 4]))
  (.region [⟨(some 9), none, .move, [.t 4]⟩, ⟨(some 10), none, (.bin .add .num), [.t 9, .c (.int .i64 1)]⟩, ⟨(some 4), none, .move, [.t 10]⟩] none [0, 3, 4]))))))
  (.seq (.region [⟨(some 18), none, .move, [.t 3]⟩, ⟨(some 2), none, .move, [.t 18]⟩] none [2])
  .ret))))⟩
theorem ok24 : FunOk Try.prog 24 c24 := ⟨⟨Try.f24, _, Try.func24, rfl, by kernel_rfl, by kernel_rfl, by kernel_rfl, by kernel_rfl⟩, by decide⟩
/-- slices.Clone[[]int,int] -/
def c25 : AFun := ⟨1, 8, [.tmp 2],
  (.seq (.region [⟨(some 2), none, .move, [.c .nils]⟩] none [0])
  (.seq (.seq (.region [⟨(some 3), none, .move, [.t 0]⟩, ⟨(some 4), none, (.bin .eql .slice), [.t 3, .c .nils]⟩] none [0, 4])
  (.cond (.t 4) (.seq (.region [⟨(some 2), none, .move, [.c .nils]⟩] none [2])
  .ret)
  .skip))
  (.seq (.region [⟨(some 5), none, (.buildSlice 1 [] []), []⟩, ⟨(some 6), none, .move, [.t 0]⟩, ⟨(some 7), none, (.append 1 8), [.t 5, .t 6]⟩, ⟨(some 2), none, .move, [.t 7]⟩] none [2])
  .ret)))⟩
theorem ok25 : FunOk Try.prog 25 c25 := ⟨⟨Try.f25, _, Try.func25, rfl, by kernel_rfl, by kernel_rfl, by kernel_rfl, by kernel_rfl⟩, by decide⟩
/-- duet/edit.held -/
def c26 : AFun := ⟨2, 10, [.tmp 4],
  (.seq (.region [⟨(some 4), none, .move, [.c (.int .i64 0)]⟩] none [0, 1])
  (.seq (.region [⟨(some 5), none, .move, [.t 1]⟩, ⟨(some 6), none, .max, [.t 5, .c (.int .i64 0)]⟩, ⟨(some 7), none, .move, [.t 0]⟩, ⟨(some 8), none, (.len .slice), [.t 7]⟩, ⟨(some 9), none, .min, [.t 6, .t 8]⟩, ⟨(some 4), none, .move, [.t 9]⟩] none [4])
  .ret))⟩
theorem ok26 : FunOk Try.prog 26 c26 := ⟨⟨Try.f26, _, Try.func26, rfl, by kernel_rfl, by kernel_rfl, by kernel_rfl, by kernel_rfl⟩, by decide⟩
/-- (*duet/edit.work).put -/
def c27 : AFun := ⟨2, 59, [.tmp 4],
  (.seq (.region [⟨(some 4), none, .move, [.c (.bool false)]⟩] none [0, 1])
  (.seq (.seq (.region [⟨(some 5), none, .move, [.t 0]⟩, ⟨(some 6), none, .nilCheck, [.t 5]⟩, ⟨(some 7), none, (.fieldAddr 0), [.t 6]⟩, ⟨(some 8), none, (.fieldAddr 0), [.t 7]⟩, ⟨(some 9), none, (.load 1 false), [.t 8]⟩, ⟨(some 10), none, (.len .slice), [.t 9]⟩, ⟨(some 11), none, (.bin .geq .num), [.t 10, .c (.int .i64 1000)]⟩, ⟨(some 12), none, .move, [.t 11]⟩, ⟨(some 13), (some (12, false)), .move, [.t 1]⟩, ⟨(some 14), (some (12, false)), .call, [.c (.fn (.func 40) [] []), .t 13]⟩, ⟨(some 15), (some (12, false)), (.un .not), [.t 14]⟩, ⟨(some 16), none, .pick, [.t 12, .c (.bool true), .t 15]⟩] none [0, 1, 16])
  (.cond (.t 16) (.seq (.region [⟨(some 4), none, .move, [.c (.bool false)]⟩] none [4])
  .ret)
  .skip))
  (.seq (.region [⟨(some 17), none, .move, [.t 0]⟩, ⟨(some 18), none, .move, [.t 0]⟩, ⟨(some 19), none, .nilCheck, [.t 18]⟩, ⟨(some 20), none, (.fieldAddr 3), [.t 19]⟩, ⟨(some 21), none, (.load 1 false), [.t 20]⟩, ⟨(some 22), none, .move, [.t 0]⟩, ⟨(some 23), none, .nilCheck, [.t 22]⟩, ⟨(some 24), none, (.fieldAddr 0), [.t 23]⟩, ⟨(some 25), none, (.fieldAddr 1), [.t 24]⟩, ⟨(some 26), none, (.load 1 false), [.t 25]⟩, ⟨(some 27), none, .move, [.t 1]⟩, ⟨(some 28), none, (.build [(.int .i64 0), (.int .i64 0), (.int .i64 0)] [(0, 1), (1, 1), (2, 1)]), [.c (.int .i64 1), .t 26, .t 27]⟩, ⟨(some 29), none, (.buildSlice 3 [(.int .i64 0), (.int .i64 0), (.int .i64 0)] [(0, 3)]), [.t 28]⟩, ⟨(some 30), none, (.append 3 24), [.t 21, .t 29]⟩, ⟨(some 31), none, .nilCheck, [.t 17]⟩, ⟨(some 32), none, (.fieldAddr 3), [.t 31]⟩, ⟨none, none, (.store 1), [.t 32, .t 30]⟩] (some [0, 0, 2, 6, 14, 0, 32, 96, 224, 480, 0, 2016, 4064, 8190, 16383, 32767, 65535]) [0, 1])
  (.seq (.region [⟨(some 33), none, .move, [.t 0]⟩, ⟨(some 34), none, .move, [.t 0]⟩, ⟨(some 35), none, .nilCheck, [.t 34]⟩, ⟨(some 36), none, (.fieldAddr 0), [.t 35]⟩, ⟨(some 37), none, (.fieldAddr 0), [.t 36]⟩, ⟨(some 38), none, (.load 1 false), [.t 37]⟩, ⟨(some 39), none, .move, [.t 0]⟩, ⟨(some 40), none, .nilCheck, [.t 39]⟩, ⟨(some 41), none, (.fieldAddr 0), [.t 40]⟩, ⟨(some 42), none, (.fieldAddr 1), [.t 41]⟩, ⟨(some 43), none, (.load 1 false), [.t 42]⟩, ⟨(some 44), none, .move, [.t 1]⟩, ⟨(some 45), none, (.buildSlice 1 [(.int .i64 0)] [(0, 1)]), [.t 44]⟩, ⟨(some 46), none, .call, [.c (.fn (.func 33) [] []), .t 38, .t 43, .t 45]⟩, ⟨(some 47), none, .nilCheck, [.t 33]⟩, ⟨(some 48), none, (.fieldAddr 0), [.t 47]⟩, ⟨(some 49), none, (.fieldAddr 0), [.t 48]⟩, ⟨none, none, (.store 1), [.t 49, .t 46]⟩] (some [0, 0, 2, 6, 14, 30, 0, 64, 192, 448, 960, 0, 2048, 8190, 16383, 32767, 65535, 131071]) [0])
  (.seq (.region [⟨(some 50), none, .move, [.t 0]⟩, ⟨(some 51), none, .nilCheck, [.t 50]⟩, ⟨(some 52), none, (.fieldAddr 0), [.t 51]⟩, ⟨(some 53), none, (.fieldAddr 1), [.t 52]⟩, ⟨(some 54), none, (.load 1 false), [.t 53]⟩, ⟨(some 55), none, (.bin .add .num), [.t 54, .c (.int .i64 1)]⟩, ⟨(some 56), none, .nilCheck, [.t 50]⟩, ⟨(some 57), none, (.fieldAddr 0), [.t 56]⟩, ⟨(some 58), none, (.fieldAddr 1), [.t 57]⟩, ⟨none, none, (.store 1), [.t 58, .t 55]⟩] none [])
  (.seq (.region [⟨(some 4), none, .move, [.c (.bool true)]⟩] none [4])
  .ret))))))⟩
theorem ok27 : FunOk Try.prog 27 c27 := ⟨⟨Try.f27, _, Try.func27, rfl, by kernel_rfl, by kernel_rfl, by kernel_rfl, by kernel_rfl⟩, by decide⟩
/-- slices.Reverse[[]int,int] -/
def c35 : AFun := ⟨1, 28, [],
  (.seq (.region [⟨(some 4), none, .move, [.t 0]⟩, ⟨(some 5), none, (.len .slice), [.t 4]⟩, ⟨(some 6), none, (.bin .sub .num), [.t 5, .c (.int .i64 1)]⟩, ⟨(some 2), none, .move, [.c (.int .i64 0)]⟩, ⟨(some 3), none, .move, [.t 6]⟩] none [0, 2, 3])
  (.block 0 (.loop [0, 2, 3] (.seq (.seq (.region [⟨(some 7), none, .move, [.t 2]⟩, ⟨(some 8), none, .move, [.t 3]⟩, ⟨(some 9), none, (.bin .lss .num), [.t 7, .t 8]⟩] none [0, 2, 3, 9])
  (.cond (.t 9) .skip
  (.exit 0)))
  (.seq (.block 1 (.region [⟨(some 14), none, .move, [.t 0]⟩, ⟨(some 15), none, .move, [.t 2]⟩, ⟨(some 16), none, .move, [.t 0]⟩, ⟨(some 17), none, .move, [.t 3]⟩, ⟨(some 18), none, .move, [.t 0]⟩, ⟨(some 19), none, .move, [.t 3]⟩, ⟨(some 20), none, (.indexAddr 1), [.t 18, .t 19]⟩, ⟨(some 21), none, (.load 1 false), [.t 20]⟩, ⟨(some 22), none, .move, [.t 0]⟩, ⟨(some 23), none, .move, [.t 2]⟩, ⟨(some 24), none, (.indexAddr 1), [.t 22, .t 23]⟩, ⟨(some 25), none, (.load 1 false), [.t 24]⟩, ⟨(some 26), none, (.indexAddr 1), [.t 14, .t 15]⟩, ⟨none, none, (.store 1), [.t 26, .t 21]⟩, ⟨(some 27), none, (.indexAddr 1), [.t 16, .t 17]⟩, ⟨none, none, (.store 1), [.t 27, .t 25]⟩] (some [0, 0, 0, 0, 0, 0, 48, 112, 0, 0, 768, 1792, 4083, 8179, 16383, 32767]) [0, 2, 3]))
  (.region [⟨(some 10), none, .move, [.t 2]⟩, ⟨(some 11), none, (.bin .add .num), [.t 10, .c (.int .i64 1)]⟩, ⟨(some 12), none, .move, [.t 3]⟩, ⟨(some 13), none, (.bin .sub .num), [.t 12, .c (.int .i64 1)]⟩, ⟨(some 2), none, .move, [.t 11]⟩, ⟨(some 3), none, .move, [.t 13]⟩] none [0, 2, 3]))))))⟩
theorem ok35 : FunOk Try.prog 35 c35 := ⟨⟨Try.f35, _, Try.func35, rfl, by kernel_rfl, by kernel_rfl, by kernel_rfl, by kernel_rfl⟩, by decide⟩
/-- slices.IndexFunc[[]int,int] -/
def c36 : AFun := ⟨2, 19, [.tmp 4],
  (.seq (.region [⟨(some 4), none, .move, [.c (.int .i64 0)]⟩] none [0, 1])
  (.seq (.seq (.region [⟨(some 6), none, .move, [.t 0]⟩, ⟨(some 7), none, (.len .slice), [.t 6]⟩, ⟨(some 8), none, .move, [.c (.int .i64 0)]⟩] none [0, 1, 7, 8])
  (.block 0 (.loop [0, 1, 7, 8] (.seq (.region [⟨(some 9), none, (.bin .lss .num), [.t 8, .t 7]⟩] none [0, 1, 7, 8, 9])
  (.seq (.cond (.t 9) .skip
  (.exit 0))
  (.seq (.block 1 (.seq (.region [⟨(some 10), none, .move, [.t 8]⟩, ⟨(some 5), none, .move, [.t 10]⟩] none [0, 1, 5, 7, 8])
  (.seq (.region [⟨(some 11), none, .move, [.t 1]⟩, ⟨(some 12), none, .move, [.t 0]⟩, ⟨(some 13), none, .move, [.t 5]⟩, ⟨(some 14), none, (.indexAddr 1), [.t 12, .t 13]⟩, ⟨(some 15), none, (.load 1 false), [.t 14]⟩, ⟨(some 16), none, .call, [.t 11, .t 15]⟩] none [0, 1, 5, 7, 8, 16])
  (.cond (.t 16) (.seq (.region [⟨(some 17), none, .move, [.t 5]⟩, ⟨(some 4), none, .move, [.t 17]⟩] none [4])
  .ret)
  .skip))))
  (.region [⟨(some 18), none, (.bin .add .num), [.t 8, .c (.int .i64 1)]⟩, ⟨(some 8), none, .move, [.t 18]⟩] none [0, 1, 7, 8])))))))
  (.seq (.region [⟨(some 4), none, .move, [.c (.int .i64 (-1))]⟩] none [4])
  .ret)))⟩
theorem ok36 : FunOk Try.prog 36 c36 := ⟨⟨Try.f36, _, Try.func36, rfl, by kernel_rfl, by kernel_rfl, by kernel_rfl, by kernel_rfl⟩, by decide⟩
/-- duet/edit.Word$1 -/
def c37 : AFun := ⟨2, 8, [.tmp 3],
  (.seq (.region [⟨(some 3), none, .move, [.c (.bool false)]⟩] none [0, 1])
  (.seq (.region [⟨(some 4), none, .move, [.t 0]⟩, ⟨(some 5), none, .call, [.c (.fn (.func 38) [] []), .t 4]⟩, ⟨(some 6), none, (.load 1 false), [.t 1]⟩, ⟨(some 7), none, (.bin .neq .bool), [.t 5, .t 6]⟩, ⟨(some 3), none, .move, [.t 7]⟩] (some [0, 1, 0, 7, 15]) [3])
  .ret))⟩
theorem ok37 : FunOk Try.prog 37 c37 := ⟨⟨Try.f37, _, Try.func37, rfl, by kernel_rfl, by kernel_rfl, by kernel_rfl, by kernel_rfl⟩, by decide⟩
/-- duet/edit.isLetter -/
def c38 : AFun := ⟨1, 27, [.tmp 2],
  (.seq (.region [⟨(some 2), none, .move, [.c (.bool false)]⟩] none [0])
  (.seq (.region [⟨(some 3), none, .move, [.t 0]⟩, ⟨(some 4), none, (.bin .geq .num), [.t 3, .c (.int .i64 48)]⟩, ⟨(some 5), none, .move, [.t 4]⟩, ⟨(some 6), (some (5, true)), .move, [.t 0]⟩, ⟨(some 7), (some (5, true)), (.bin .leq .num), [.t 6, .c (.int .i64 57)]⟩, ⟨(some 8), none, .pick, [.t 5, .t 7, .c (.bool false)]⟩, ⟨(some 9), none, .move, [.t 8]⟩, ⟨(some 10), (some (9, false)), .move, [.t 0]⟩, ⟨(some 11), (some (9, false)), (.bin .or .num), [.t 10, .c (.int .i64 32)]⟩, ⟨(some 12), (some (9, false)), (.bin .geq .num), [.t 11, .c (.int .i64 97)]⟩, ⟨(some 13), (some (9, false)), .move, [.t 12]⟩, ⟨(some 14), (some (13, true)), .move, [.t 0]⟩, ⟨(some 15), (some (13, true)), (.bin .or .num), [.t 14, .c (.int .i64 32)]⟩, ⟨(some 16), (some (13, true)), (.bin .leq .num), [.t 15, .c (.int .i64 122)]⟩, ⟨(some 17), (some (9, false)), .pick, [.t 13, .t 16, .c (.bool false)]⟩, ⟨(some 18), none, .pick, [.t 9, .c (.bool true), .t 17]⟩, ⟨(some 19), none, .move, [.t 18]⟩, ⟨(some 20), (some (19, false)), .move, [.t 0]⟩, ⟨(some 21), (some (19, false)), (.bin .eql .num), [.t 20, .c (.int .i64 95)]⟩, ⟨(some 22), none, .pick, [.t 19, .c (.bool true), .t 21]⟩, ⟨(some 23), none, .move, [.t 22]⟩, ⟨(some 24), (some (23, false)), .move, [.t 0]⟩, ⟨(some 25), (some (23, false)), (.bin .gtr .num), [.t 24, .c (.int .i64 127)]⟩, ⟨(some 26), none, .pick, [.t 23, .c (.bool true), .t 25]⟩, ⟨(some 2), none, .move, [.t 26]⟩] none [2])
  .ret))⟩
theorem ok38 : FunOk Try.prog 38 c38 := ⟨⟨Try.f38, _, Try.func38, rfl, by kernel_rfl, by kernel_rfl, by kernel_rfl, by kernel_rfl⟩, by decide⟩
/-- duet/mesg.Rune -/
def c40 : AFun := ⟨1, 22, [.tmp 2],
  (.seq (.region [⟨(some 2), none, .move, [.c (.bool false)]⟩] none [0])
  (.seq (.block 0 (.seq (.seq (.region [⟨(some 4), none, .move, [.t 0]⟩, ⟨(some 5), none, (.bin .lss .num), [.t 4, .c (.int .i64 32)]⟩, ⟨(some 6), none, .move, [.t 5]⟩, ⟨(some 7), (some (6, false)), .move, [.t 0]⟩, ⟨(some 8), (some (6, false)), (.bin .gtr .num), [.t 7, .c (.int .i64 1114111)]⟩, ⟨(some 9), none, .pick, [.t 6, .c (.bool true), .t 8]⟩, ⟨(some 3), none, .move, [.t 9]⟩] none [0, 3])
  (.cond (.t 3) .skip
  (.seq (.region [⟨(some 10), none, .move, [.t 0]⟩, ⟨(some 11), none, (.bin .geq .num), [.t 10, .c (.int .i64 127)]⟩, ⟨(some 12), none, .move, [.t 11]⟩, ⟨(some 13), (some (12, true)), .move, [.t 0]⟩, ⟨(some 14), (some (12, true)), (.bin .leq .num), [.t 13, .c (.int .i64 159)]⟩, ⟨(some 15), none, .pick, [.t 12, .t 14, .c (.bool false)]⟩, ⟨(some 3), none, .move, [.t 15]⟩] none [0, 3])
  (.cond (.t 3) .skip
  (.region [⟨(some 16), none, .move, [.t 0]⟩, ⟨(some 17), none, (.bin .geq .num), [.t 16, .c (.int .i64 55296)]⟩, ⟨(some 18), none, .move, [.t 17]⟩, ⟨(some 19), (some (18, true)), .move, [.t 0]⟩, ⟨(some 20), (some (18, true)), (.bin .leq .num), [.t 19, .c (.int .i64 57343)]⟩, ⟨(some 21), none, .pick, [.t 18, .t 20, .c (.bool false)]⟩, ⟨(some 3), none, .move, [.t 21]⟩] none [3])))))
  (.cond (.t 3) (.seq (.region [⟨(some 2), none, .move, [.c (.bool false)]⟩] none [2])
  .ret)
  .skip)))
  (.seq (.region [⟨(some 2), none, .move, [.c (.bool true)]⟩] none [2])
  .ret)))⟩
theorem ok40 : FunOk Try.prog 40 c40 := ⟨⟨Try.f40, _, Try.func40, rfl, by kernel_rfl, by kernel_rfl, by kernel_rfl, by kernel_rfl⟩, by decide⟩
/-- (*duet/edit.work).home -/
def c43 : AFun := ⟨1, 6, [],
  (.region [⟨(some 2), none, .move, [.t 0]⟩, ⟨(some 3), none, .nilCheck, [.t 2]⟩, ⟨(some 4), none, (.fieldAddr 0), [.t 3]⟩, ⟨(some 5), none, (.fieldAddr 1), [.t 4]⟩, ⟨none, none, (.store 1), [.t 5, .c (.int .i64 0)]⟩] none [])⟩
theorem ok43 : FunOk Try.prog 43 c43 := ⟨⟨Try.f43, _, Try.func43, rfl, by kernel_rfl, by kernel_rfl, by kernel_rfl, by kernel_rfl⟩, by decide⟩
/-- (*duet/edit.work).end -/
def c44 : AFun := ⟨1, 12, [],
  (.region [⟨(some 2), none, .move, [.t 0]⟩, ⟨(some 3), none, .move, [.t 0]⟩, ⟨(some 4), none, .nilCheck, [.t 3]⟩, ⟨(some 5), none, (.fieldAddr 0), [.t 4]⟩, ⟨(some 6), none, (.fieldAddr 0), [.t 5]⟩, ⟨(some 7), none, (.load 1 false), [.t 6]⟩, ⟨(some 8), none, (.len .slice), [.t 7]⟩, ⟨(some 9), none, .nilCheck, [.t 2]⟩, ⟨(some 10), none, (.fieldAddr 0), [.t 9]⟩, ⟨(some 11), none, (.fieldAddr 1), [.t 10]⟩, ⟨none, none, (.store 1), [.t 11, .t 8]⟩] none [])⟩
theorem ok44 : FunOk Try.prog 44 c44 := ⟨⟨Try.f44, _, Try.func44, rfl, by kernel_rfl, by kernel_rfl, by kernel_rfl, by kernel_rfl⟩, by decide⟩
/-- (*duet/edit.work).left -/
def c45 : AFun := ⟨1, 18, [],
  (.region [⟨(some 2), none, .move, [.t 0]⟩, ⟨(some 3), none, .move, [.t 0]⟩, ⟨(some 4), none, .nilCheck, [.t 3]⟩, ⟨(some 5), none, (.fieldAddr 0), [.t 4]⟩, ⟨(some 6), none, (.fieldAddr 0), [.t 5]⟩, ⟨(some 7), none, (.load 1 false), [.t 6]⟩, ⟨(some 8), none, .move, [.t 0]⟩, ⟨(some 9), none, .nilCheck, [.t 8]⟩, ⟨(some 10), none, (.fieldAddr 0), [.t 9]⟩, ⟨(some 11), none, (.fieldAddr 1), [.t 10]⟩, ⟨(some 12), none, (.load 1 false), [.t 11]⟩, ⟨(some 13), none, (.bin .sub .num), [.t 12, .c (.int .i64 1)]⟩, ⟨(some 14), none, .call, [.c (.fn (.func 26) [] []), .t 7, .t 13]⟩, ⟨(some 15), none, .nilCheck, [.t 2]⟩, ⟨(some 16), none, (.fieldAddr 0), [.t 15]⟩, ⟨(some 17), none, (.fieldAddr 1), [.t 16]⟩, ⟨none, none, (.store 1), [.t 17, .t 14]⟩] (some [0, 0, 2, 6, 14, 30, 0, 64, 192, 448, 960, 1984, 4094, 8191, 16383, 32767, 65535]) [])⟩
theorem ok45 : FunOk Try.prog 45 c45 := ⟨⟨Try.f45, _, Try.func45, rfl, by kernel_rfl, by kernel_rfl, by kernel_rfl, by kernel_rfl⟩, by decide⟩
/-- (*duet/edit.work).right -/
def c46 : AFun := ⟨1, 18, [],
  (.region [⟨(some 2), none, .move, [.t 0]⟩, ⟨(some 3), none, .move, [.t 0]⟩, ⟨(some 4), none, .nilCheck, [.t 3]⟩, ⟨(some 5), none, (.fieldAddr 0), [.t 4]⟩, ⟨(some 6), none, (.fieldAddr 0), [.t 5]⟩, ⟨(some 7), none, (.load 1 false), [.t 6]⟩, ⟨(some 8), none, .move, [.t 0]⟩, ⟨(some 9), none, .nilCheck, [.t 8]⟩, ⟨(some 10), none, (.fieldAddr 0), [.t 9]⟩, ⟨(some 11), none, (.fieldAddr 1), [.t 10]⟩, ⟨(some 12), none, (.load 1 false), [.t 11]⟩, ⟨(some 13), none, (.bin .add .num), [.t 12, .c (.int .i64 1)]⟩, ⟨(some 14), none, .call, [.c (.fn (.func 26) [] []), .t 7, .t 13]⟩, ⟨(some 15), none, .nilCheck, [.t 2]⟩, ⟨(some 16), none, (.fieldAddr 0), [.t 15]⟩, ⟨(some 17), none, (.fieldAddr 1), [.t 16]⟩, ⟨none, none, (.store 1), [.t 17, .t 14]⟩] (some [0, 0, 2, 6, 14, 30, 0, 64, 192, 448, 960, 1984, 4094, 8191, 16383, 32767, 65535]) [])⟩
theorem ok46 : FunOk Try.prog 46 c46 := ⟨⟨Try.f46, _, Try.func46, rfl, by kernel_rfl, by kernel_rfl, by kernel_rfl, by kernel_rfl⟩, by decide⟩
/-- (*duet/edit.work).rub -/
def c47 : AFun := ⟨1, 21, [],
  (.region [⟨(some 2), none, .move, [.t 0]⟩, ⟨(some 3), none, .move, [.t 0]⟩, ⟨(some 4), none, .nilCheck, [.t 3]⟩, ⟨(some 5), none, (.fieldAddr 0), [.t 4]⟩, ⟨(some 6), none, (.fieldAddr 0), [.t 5]⟩, ⟨(some 7), none, (.load 1 false), [.t 6]⟩, ⟨(some 8), none, .move, [.t 0]⟩, ⟨(some 9), none, .nilCheck, [.t 8]⟩, ⟨(some 10), none, (.fieldAddr 0), [.t 9]⟩, ⟨(some 11), none, (.fieldAddr 1), [.t 10]⟩, ⟨(some 12), none, (.load 1 false), [.t 11]⟩, ⟨(some 13), none, (.bin .sub .num), [.t 12, .c (.int .i64 1)]⟩, ⟨(some 14), none, .call, [.c (.fn (.func 26) [] []), .t 7, .t 13]⟩, ⟨(some 15), none, .move, [.t 0]⟩, ⟨(some 16), none, .nilCheck, [.t 15]⟩, ⟨(some 17), none, (.fieldAddr 0), [.t 16]⟩, ⟨(some 18), none, (.fieldAddr 1), [.t 17]⟩, ⟨(some 19), none, (.load 1 false), [.t 18]⟩, ⟨(some 20), none, .call, [.c (.fn (.func 62) [] []), .t 2, .t 14, .t 19]⟩] (some [0, 0, 2, 6, 14, 30, 0, 64, 192, 448, 960, 1984, 4094, 0, 8192, 24576, 57344, 122880, 262143]) [])⟩
theorem ok47 : FunOk Try.prog 47 c47 := ⟨⟨Try.f47, _, Try.func47, rfl, by kernel_rfl, by kernel_rfl, by kernel_rfl, by kernel_rfl⟩, by decide⟩
/-- (*duet/edit.work).del -/
def c48 : AFun := ⟨1, 21, [],
  (.region [⟨(some 2), none, .move, [.t 0]⟩, ⟨(some 3), none, .move, [.t 0]⟩, ⟨(some 4), none, .nilCheck, [.t 3]⟩, ⟨(some 5), none, (.fieldAddr 0), [.t 4]⟩, ⟨(some 6), none, (.fieldAddr 1), [.t 5]⟩, ⟨(some 7), none, (.load 1 false), [.t 6]⟩, ⟨(some 8), none, .move, [.t 0]⟩, ⟨(some 9), none, .nilCheck, [.t 8]⟩, ⟨(some 10), none, (.fieldAddr 0), [.t 9]⟩, ⟨(some 11), none, (.fieldAddr 0), [.t 10]⟩, ⟨(some 12), none, (.load 1 false), [.t 11]⟩, ⟨(some 13), none, .move, [.t 0]⟩, ⟨(some 14), none, .nilCheck, [.t 13]⟩, ⟨(some 15), none, (.fieldAddr 0), [.t 14]⟩, ⟨(some 16), none, (.fieldAddr 1), [.t 15]⟩, ⟨(some 17), none, (.load 1 false), [.t 16]⟩, ⟨(some 18), none, (.bin .add .num), [.t 17, .c (.int .i64 1)]⟩, ⟨(some 19), none, .call, [.c (.fn (.func 26) [] []), .t 12, .t 18]⟩, ⟨(some 20), none, .call, [.c (.fn (.func 62) [] []), .t 2, .t 7, .t 19]⟩] (some [0, 0, 2, 6, 14, 30, 0, 64, 192, 448, 960, 0, 2048, 6144, 14336, 30720, 63488, 131008, 262143]) [])⟩
theorem ok48 : FunOk Try.prog 48 c48 := ⟨⟨Try.f48, _, Try.func48, rfl, by kernel_rfl, by kernel_rfl, by kernel_rfl, by kernel_rfl⟩, by decide⟩
/-- (*duet/edit.work).killOn -/
def c49 : AFun := ⟨1, 15, [],
  (.region [⟨(some 2), none, .move, [.t 0]⟩, ⟨(some 3), none, .move, [.t 0]⟩, ⟨(some 4), none, .nilCheck, [.t 3]⟩, ⟨(some 5), none, (.fieldAddr 0), [.t 4]⟩, ⟨(some 6), none, (.fieldAddr 1), [.t 5]⟩, ⟨(some 7), none, (.load 1 false), [.t 6]⟩, ⟨(some 8), none, .move, [.t 0]⟩, ⟨(some 9), none, .nilCheck, [.t 8]⟩, ⟨(some 10), none, (.fieldAddr 0), [.t 9]⟩, ⟨(some 11), none, (.fieldAddr 0), [.t 10]⟩, ⟨(some 12), none, (.load 1 false), [.t 11]⟩, ⟨(some 13), none, (.len .slice), [.t 12]⟩, ⟨(some 14), none, .call, [.c (.fn (.func 63) [] []), .t 2, .t 7, .t 13]⟩] (some [0, 0, 2, 6, 14, 30, 0, 64, 192, 448, 960, 1984, 4095]) [])⟩
theorem ok49 : FunOk Try.prog 49 c49 := ⟨⟨Try.f49, _, Try.func49, rfl, by kernel_rfl, by kernel_rfl, by kernel_rfl, by kernel_rfl⟩, by decide⟩
/-- (*duet/edit.work).killBack -/
def c50 : AFun := ⟨1, 9, [],
  (.region [⟨(some 2), none, .move, [.t 0]⟩, ⟨(some 3), none, .move, [.t 0]⟩, ⟨(some 4), none, .nilCheck, [.t 3]⟩, ⟨(some 5), none, (.fieldAddr 0), [.t 4]⟩, ⟨(some 6), none, (.fieldAddr 1), [.t 5]⟩, ⟨(some 7), none, (.load 1 false), [.t 6]⟩, ⟨(some 8), none, .call, [.c (.fn (.func 63) [] []), .t 2, .c (.int .i64 0), .t 7]⟩] none [])⟩
theorem ok50 : FunOk Try.prog 50 c50 := ⟨⟨Try.f50, _, Try.func50, rfl, by kernel_rfl, by kernel_rfl, by kernel_rfl, by kernel_rfl⟩, by decide⟩
/-- (*duet/edit.work).killWord -/
def c51 : AFun := ⟨1, 20, [],
  (.region [⟨(some 2), none, .move, [.t 0]⟩, ⟨(some 3), none, .move, [.t 0]⟩, ⟨(some 4), none, .nilCheck, [.t 3]⟩, ⟨(some 5), none, (.fieldAddr 0), [.t 4]⟩, ⟨(some 6), none, (.fieldAddr 0), [.t 5]⟩, ⟨(some 7), none, (.load 1 false), [.t 6]⟩, ⟨(some 8), none, .move, [.t 0]⟩, ⟨(some 9), none, .nilCheck, [.t 8]⟩, ⟨(some 10), none, (.fieldAddr 0), [.t 9]⟩, ⟨(some 11), none, (.fieldAddr 1), [.t 10]⟩, ⟨(some 12), none, (.load 1 false), [.t 11]⟩, ⟨(some 13), none, .call, [.c (.fn (.func 22) [] []), .t 7, .t 12, .c (.bool true)]⟩, ⟨(some 14), none, .move, [.t 0]⟩, ⟨(some 15), none, .nilCheck, [.t 14]⟩, ⟨(some 16), none, (.fieldAddr 0), [.t 15]⟩, ⟨(some 17), none, (.fieldAddr 1), [.t 16]⟩, ⟨(some 18), none, (.load 1 false), [.t 17]⟩, ⟨(some 19), none, .call, [.c (.fn (.func 63) [] []), .t 2, .t 13, .t 18]⟩] (some [0, 0, 2, 6, 14, 30, 0, 64, 192, 448, 960, 2046, 0, 4096, 12288, 28672, 61440, 131071]) [])⟩
theorem ok51 : FunOk Try.prog 51 c51 := ⟨⟨Try.f51, _, Try.func51, rfl, by kernel_rfl, by kernel_rfl, by kernel_rfl, by kernel_rfl⟩, by decide⟩
/-- (*duet/edit.work).yank -/
def c52 : AFun := ⟨1, 19, [],
  (.seq (.region [⟨(some 4), none, .move, [.t 0]⟩, ⟨(some 5), none, .nilCheck, [.t 4]⟩, ⟨(some 6), none, (.fieldAddr 0), [.t 5]⟩, ⟨(some 7), none, (.fieldAddr 2), [.t 6]⟩, ⟨(some 8), none, (.load 1 false), [.t 7]⟩, ⟨(some 9), none, (.len .slice), [.t 8]⟩, ⟨(some 10), none, .move, [.c (.int .i64 0)]⟩] none [0, 8, 9, 10])
  (.block 0 (.loop [0, 8, 9, 10] (.seq (.region [⟨(some 11), none, (.bin .lss .num), [.t 10, .t 9]⟩] none [0, 8, 9, 10, 11])
  (.seq (.cond (.t 11) .skip
  (.exit 0))
  (.seq (.block 1 (.seq (.region [⟨(some 12), none, (.indexAddr 1), [.t 8, .t 10]⟩, ⟨(some 13), none, (.load 1 false), [.t 12]⟩, ⟨(some 3), none, .move, [.t 13]⟩] none [0, 3, 8, 9, 10])
  (.seq (.region [⟨(some 14), none, .move, [.t 0]⟩, ⟨(some 15), none, .move, [.t 3]⟩, ⟨(some 16), none, .call, [.c (.fn (.func 27) [] []), .t 14, .t 15]⟩, ⟨(some 17), none, (.un .not), [.t 16]⟩] none [0, 8, 9, 10, 17])
  (.cond (.t 17) (.exit 0)
  .skip))))
  (.region [⟨(some 18), none, (.bin .add .num), [.t 10, .c (.int .i64 1)]⟩, ⟨(some 10), none, .move, [.t 18]⟩] none [0, 8, 9, 10])))))))⟩
theorem ok52 : FunOk Try.prog 52 c52 := ⟨⟨Try.f52, _, Try.func52, rfl, by kernel_rfl, by kernel_rfl, by kernel_rfl, by kernel_rfl⟩, by decide⟩
/-- (*duet/edit.work).swap -/
def c53 : AFun := ⟨1, 67, [],
  (.seq (.seq (.region [⟨(some 4), none, .move, [.t 0]⟩, ⟨(some 5), none, .nilCheck, [.t 4]⟩, ⟨(some 6), none, (.fieldAddr 0), [.t 5]⟩, ⟨(some 7), none, (.fieldAddr 0), [.t 6]⟩, ⟨(some 8), none, (.load 1 false), [.t 7]⟩, ⟨(some 9), none, (.len .slice), [.t 8]⟩, ⟨(some 10), none, (.bin .lss .num), [.t 9, .c (.int .i64 2)]⟩, ⟨(some 11), none, .move, [.t 10]⟩, ⟨(some 12), (some (11, false)), .move, [.t 0]⟩, ⟨(some 13), (some (11, false)), .nilCheck, [.t 12]⟩, ⟨(some 14), (some (11, false)), (.fieldAddr 0), [.t 13]⟩, ⟨(some 15), (some (11, false)), (.fieldAddr 1), [.t 14]⟩, ⟨(some 16), (some (11, false)), (.load 1 false), [.t 15]⟩, ⟨(some 17), (some (11, false)), (.bin .eql .num), [.t 16, .c (.int .i64 0)]⟩, ⟨(some 18), none, .pick, [.t 11, .c (.bool true), .t 17]⟩] none [0, 18])
  (.cond (.t 18) .ret
  .skip))
  (.seq (.region [⟨(some 19), none, .move, [.t 0]⟩, ⟨(some 20), none, .nilCheck, [.t 19]⟩, ⟨(some 21), none, (.fieldAddr 0), [.t 20]⟩, ⟨(some 22), none, (.fieldAddr 1), [.t 21]⟩, ⟨(some 23), none, (.load 1 false), [.t 22]⟩, ⟨(some 24), none, .move, [.t 0]⟩, ⟨(some 25), none, .nilCheck, [.t 24]⟩, ⟨(some 26), none, (.fieldAddr 0), [.t 25]⟩, ⟨(some 27), none, (.fieldAddr 0), [.t 26]⟩, ⟨(some 28), none, (.load 1 false), [.t 27]⟩, ⟨(some 29), none, (.len .slice), [.t 28]⟩, ⟨(some 30), none, (.bin .sub .num), [.t 29, .c (.int .i64 1)]⟩, ⟨(some 31), none, .min, [.t 23, .t 30]⟩, ⟨(some 2), none, .move, [.t 31]⟩] (some [0, 1, 3, 7, 15, 0, 32, 96, 224, 480, 992, 2016, 4095, 8191]) [0, 2])
  (.seq (.seq (.region [⟨(some 32), none, .move, [.t 0]⟩, ⟨(some 33), none, .nilCheck, [.t 32]⟩, ⟨(some 34), none, (.fieldAddr 0), [.t 33]⟩, ⟨(some 35), none, (.fieldAddr 0), [.t 34]⟩, ⟨(some 36), none, (.load 1 false), [.t 35]⟩, ⟨(some 37), none, (.len .slice), [.t 36]⟩, ⟨(some 38), none, (.bin .gtr .num), [.t 37, .c (.int .i64 1000)]⟩, ⟨(some 39), none, .move, [.t 38]⟩, ⟨(some 40), (some (39, false)), .move, [.t 0]⟩, ⟨(some 41), (some (39, false)), .nilCheck, [.t 40]⟩, ⟨(some 42), (some (39, false)), (.fieldAddr 0), [.t 41]⟩, ⟨(some 43), (some (39, false)), (.fieldAddr 0), [.t 42]⟩, ⟨(some 44), (some (39, false)), (.load 1 false), [.t 43]⟩, ⟨(some 45), (some (39, false)), .move, [.t 2]⟩, ⟨(some 46), (some (39, false)), (.bin .sub .num), [.t 45, .c (.int .i64 1)]⟩, ⟨(some 47), (some (39, false)), (.indexAddr 1), [.t 44, .t 46]⟩, ⟨(some 48), (some (39, false)), (.load 1 false), [.t 47]⟩, ⟨(some 49), (some (39, false)), .call, [.c (.fn (.func 40) [] []), .t 48]⟩, ⟨(some 50), (some (39, false)), (.un .not), [.t 49]⟩, ⟨(some 51), none, .pick, [.t 39, .c (.bool true), .t 50]⟩] none [0, 2, 51])
  (.cond (.t 51) .ret
  .skip))
  (.seq (.region [⟨(some 52), none, .move, [.t 0]⟩, ⟨(some 53), none, .move, [.t 2]⟩, ⟨(some 54), none, (.bin .sub .num), [.t 53, .c (.int .i64 1)]⟩, ⟨(some 55), none, .move, [.t 2]⟩, ⟨(some 56), none, .call, [.c (.fn (.func 62) [] []), .t 52, .t 54, .t 55]⟩, ⟨(some 3), none, .move, [.t 56]⟩] none [0, 2, 3])
  (.seq (.region [⟨(some 57), none, .move, [.t 0]⟩, ⟨(some 58), none, .move, [.t 2]⟩, ⟨(some 59), none, .nilCheck, [.t 57]⟩, ⟨(some 60), none, (.fieldAddr 0), [.t 59]⟩, ⟨(some 61), none, (.fieldAddr 1), [.t 60]⟩, ⟨none, none, (.store 1), [.t 61, .t 58]⟩] none [0, 3])
  (.region [⟨(some 62), none, .move, [.t 0]⟩, ⟨(some 63), none, .move, [.t 3]⟩, ⟨(some 64), none, (.indexAddr 1), [.t 63, .c (.int .i64 0)]⟩, ⟨(some 65), none, (.load 1 false), [.t 64]⟩, ⟨(some 66), none, .call, [.c (.fn (.func 27) [] []), .t 62, .t 65]⟩] none []))))))⟩
theorem ok53 : FunOk Try.prog 53 c53 := ⟨⟨Try.f53, _, Try.func53, rfl, by kernel_rfl, by kernel_rfl, by kernel_rfl, by kernel_rfl⟩, by decide⟩
/-- (*duet/edit.work).wordBack -/
def c54 : AFun := ⟨1, 17, [],
  (.region [⟨(some 2), none, .move, [.t 0]⟩, ⟨(some 3), none, .move, [.t 0]⟩, ⟨(some 4), none, .nilCheck, [.t 3]⟩, ⟨(some 5), none, (.fieldAddr 0), [.t 4]⟩, ⟨(some 6), none, (.fieldAddr 0), [.t 5]⟩, ⟨(some 7), none, (.load 1 false), [.t 6]⟩, ⟨(some 8), none, .move, [.t 0]⟩, ⟨(some 9), none, .nilCheck, [.t 8]⟩, ⟨(some 10), none, (.fieldAddr 0), [.t 9]⟩, ⟨(some 11), none, (.fieldAddr 1), [.t 10]⟩, ⟨(some 12), none, (.load 1 false), [.t 11]⟩, ⟨(some 13), none, .call, [.c (.fn (.func 22) [] []), .t 7, .t 12, .c (.bool true)]⟩, ⟨(some 14), none, .nilCheck, [.t 2]⟩, ⟨(some 15), none, (.fieldAddr 0), [.t 14]⟩, ⟨(some 16), none, (.fieldAddr 1), [.t 15]⟩, ⟨none, none, (.store 1), [.t 16, .t 13]⟩] (some [0, 0, 2, 6, 14, 30, 0, 64, 192, 448, 960, 2046, 4095, 8191, 16383, 32767]) [])⟩
theorem ok54 : FunOk Try.prog 54 c54 := ⟨⟨Try.f54, _, Try.func54, rfl, by kernel_rfl, by kernel_rfl, by kernel_rfl, by kernel_rfl⟩, by decide⟩
/-- (*duet/edit.work).wordOn -/
def c55 : AFun := ⟨1, 17, [],
  (.region [⟨(some 2), none, .move, [.t 0]⟩, ⟨(some 3), none, .move, [.t 0]⟩, ⟨(some 4), none, .nilCheck, [.t 3]⟩, ⟨(some 5), none, (.fieldAddr 0), [.t 4]⟩, ⟨(some 6), none, (.fieldAddr 0), [.t 5]⟩, ⟨(some 7), none, (.load 1 false), [.t 6]⟩, ⟨(some 8), none, .move, [.t 0]⟩, ⟨(some 9), none, .nilCheck, [.t 8]⟩, ⟨(some 10), none, (.fieldAddr 0), [.t 9]⟩, ⟨(some 11), none, (.fieldAddr 1), [.t 10]⟩, ⟨(some 12), none, (.load 1 false), [.t 11]⟩, ⟨(some 13), none, .call, [.c (.fn (.func 22) [] []), .t 7, .t 12, .c (.bool false)]⟩, ⟨(some 14), none, .nilCheck, [.t 2]⟩, ⟨(some 15), none, (.fieldAddr 0), [.t 14]⟩, ⟨(some 16), none, (.fieldAddr 1), [.t 15]⟩, ⟨none, none, (.store 1), [.t 16, .t 13]⟩] (some [0, 0, 2, 6, 14, 30, 0, 64, 192, 448, 960, 2046, 4095, 8191, 16383, 32767]) [])⟩
theorem ok55 : FunOk Try.prog 55 c55 := ⟨⟨Try.f55, _, Try.func55, rfl, by kernel_rfl, by kernel_rfl, by kernel_rfl, by kernel_rfl⟩, by decide⟩
/-- (*duet/edit.work).killNext -/
def c56 : AFun := ⟨1, 20, [],
  (.region [⟨(some 2), none, .move, [.t 0]⟩, ⟨(some 3), none, .move, [.t 0]⟩, ⟨(some 4), none, .nilCheck, [.t 3]⟩, ⟨(some 5), none, (.fieldAddr 0), [.t 4]⟩, ⟨(some 6), none, (.fieldAddr 1), [.t 5]⟩, ⟨(some 7), none, (.load 1 false), [.t 6]⟩, ⟨(some 8), none, .move, [.t 0]⟩, ⟨(some 9), none, .nilCheck, [.t 8]⟩, ⟨(some 10), none, (.fieldAddr 0), [.t 9]⟩, ⟨(some 11), none, (.fieldAddr 0), [.t 10]⟩, ⟨(some 12), none, (.load 1 false), [.t 11]⟩, ⟨(some 13), none, .move, [.t 0]⟩, ⟨(some 14), none, .nilCheck, [.t 13]⟩, ⟨(some 15), none, (.fieldAddr 0), [.t 14]⟩, ⟨(some 16), none, (.fieldAddr 1), [.t 15]⟩, ⟨(some 17), none, (.load 1 false), [.t 16]⟩, ⟨(some 18), none, .call, [.c (.fn (.func 22) [] []), .t 12, .t 17, .c (.bool false)]⟩, ⟨(some 19), none, .call, [.c (.fn (.func 63) [] []), .t 2, .t 7, .t 18]⟩] (some [0, 0, 2, 6, 14, 30, 0, 64, 192, 448, 960, 0, 2048, 6144, 14336, 30720, 65472, 131071]) [])⟩
theorem ok56 : FunOk Try.prog 56 c56 := ⟨⟨Try.f56, _, Try.func56, rfl, by kernel_rfl, by kernel_rfl, by kernel_rfl, by kernel_rfl⟩, by decide⟩
/-- (*duet/edit.work).cut -/
def c62 : AFun := ⟨3, 59, [.tmp 6],
  (.seq (.region [⟨(some 6), none, .move, [.c .nils]⟩] none [0, 1, 2])
  (.seq (.region [⟨(some 10), none, .move, [.t 0]⟩, ⟨(some 11), none, .nilCheck, [.t 10]⟩, ⟨(some 12), none, (.fieldAddr 0), [.t 11]⟩, ⟨(some 13), none, (.fieldAddr 0), [.t 12]⟩, ⟨(some 14), none, (.load 1 false), [.t 13]⟩, ⟨(some 15), none, .move, [.t 1]⟩, ⟨(some 16), none, .move, [.t 2]⟩, ⟨(some 17), none, (.slice 1 true true false), [.t 14, .t 15, .t 16]⟩, ⟨(some 18), none, .call, [.c (.fn (.func 25) [] []), .t 17]⟩, ⟨(some 7), none, .move, [.t 18]⟩] none [0, 1, 2, 7])
  (.seq (.seq (.region [⟨(some 19), none, .move, [.t 7]⟩, ⟨(some 20), none, (.len .slice), [.t 19]⟩, ⟨(some 21), none, .move, [.c (.int .i64 0)]⟩] none [0, 1, 2, 7, 19, 20, 21])
  (.block 0 (.loop [0, 1, 2, 7, 19, 20, 21] (.seq (.region [⟨(some 22), none, (.bin .lss .num), [.t 21, .t 20]⟩] none [0, 1, 2, 7, 19, 20, 21, 22])
  (.seq (.cond (.t 22) .skip
  (.exit 0))
  (.seq (.block 1 (.seq (.region [⟨(some 23), none, (.indexAddr 1), [.t 19, .t 21]⟩, ⟨(some 24), none, (.load 1 false), [.t 23]⟩, ⟨(some 9), none, .move, [.t 24]⟩] none [0, 1, 2, 7, 9, 19, 20, 21])
  (.region [⟨(some 25), none, .move, [.t 0]⟩, ⟨(some 26), none, .move, [.t 0]⟩, ⟨(some 27), none, .nilCheck, [.t 26]⟩, ⟨(some 28), none, (.fieldAddr 3), [.t 27]⟩, ⟨(some 29), none, (.load 1 false), [.t 28]⟩, ⟨(some 30), none, .move, [.t 1]⟩, ⟨(some 31), none, .move, [.t 9]⟩, ⟨(some 32), none, (.build [(.int .i64 0), (.int .i64 0), (.int .i64 0)] [(0, 1), (1, 1), (2, 1)]), [.c (.int .i64 2), .t 30, .t 31]⟩, ⟨(some 33), none, (.buildSlice 3 [(.int .i64 0), (.int .i64 0), (.int .i64 0)] [(0, 3)]), [.t 32]⟩, ⟨(some 34), none, (.append 3 24), [.t 29, .t 33]⟩, ⟨(some 35), none, .nilCheck, [.t 25]⟩, ⟨(some 36), none, (.fieldAddr 3), [.t 35]⟩, ⟨none, none, (.store 1), [.t 36, .t 34]⟩] none [0, 1, 2, 7, 19, 20, 21])))
  (.region [⟨(some 37), none, (.bin .add .num), [.t 21, .c (.int .i64 1)]⟩, ⟨(some 21), none, .move, [.t 37]⟩] none [0, 1, 2, 7, 19, 20, 21])))))))
  (.seq (.seq (.region [⟨(some 38), none, .move, [.t 7]⟩, ⟨(some 39), none, (.len .slice), [.t 38]⟩, ⟨(some 40), none, (.bin .gtr .num), [.t 39, .c (.int .i64 0)]⟩] none [0, 1, 2, 7, 40])
  (.cond (.t 40) (.seq (.region [⟨(some 41), none, .move, [.t 0]⟩, ⟨(some 42), none, .move, [.t 0]⟩, ⟨(some 43), none, .nilCheck, [.t 42]⟩, ⟨(some 44), none, (.fieldAddr 0), [.t 43]⟩, ⟨(some 45), none, (.fieldAddr 0), [.t 44]⟩, ⟨(some 46), none, (.load 1 false), [.t 45]⟩, ⟨(some 47), none, .move, [.t 1]⟩, ⟨(some 48), none, .move, [.t 2]⟩, ⟨(some 49), none, .call, [.c (.fn (.func 34) [] []), .t 46, .t 47, .t 48]⟩, ⟨(some 50), none, .nilCheck, [.t 41]⟩, ⟨(some 51), none, (.fieldAddr 0), [.t 50]⟩, ⟨(some 52), none, (.fieldAddr 0), [.t 51]⟩, ⟨none, none, (.store 1), [.t 52, .t 49]⟩] none [0, 1, 7])
  (.region [⟨(some 53), none, .move, [.t 0]⟩, ⟨(some 54), none, .move, [.t 1]⟩, ⟨(some 55), none, .nilCheck, [.t 53]⟩, ⟨(some 56), none, (.fieldAddr 0), [.t 55]⟩, ⟨(some 57), none, (.fieldAddr 1), [.t 56]⟩, ⟨none, none, (.store 1), [.t 57, .t 54]⟩] none [7]))
  .skip))
  (.seq (.region [⟨(some 58), none, .move, [.t 7]⟩, ⟨(some 6), none, .move, [.t 58]⟩] none [6])
  .ret)))))⟩
theorem ok62 : FunOk Try.prog 62 c62 := ⟨⟨Try.f62, _, Try.func62, rfl, by kernel_rfl, by kernel_rfl, by kernel_rfl, by kernel_rfl⟩, by decide⟩
/-- (*duet/edit.work).kill -/
def c63 : AFun := ⟨3, 19, [],
  (.seq (.region [⟨(some 7), none, .move, [.t 0]⟩, ⟨(some 8), none, .move, [.t 1]⟩, ⟨(some 9), none, .move, [.t 2]⟩, ⟨(some 10), none, .call, [.c (.fn (.func 62) [] []), .t 7, .t 8, .t 9]⟩, ⟨(some 6), none, .move, [.t 10]⟩] none [0, 6])
  (.seq (.region [⟨(some 11), none, .move, [.t 6]⟩, ⟨(some 12), none, (.len .slice), [.t 11]⟩, ⟨(some 13), none, (.bin .gtr .num), [.t 12, .c (.int .i64 0)]⟩] none [0, 6, 13])
  (.cond (.t 13) (.region [⟨(some 14), none, .move, [.t 0]⟩, ⟨(some 15), none, .move, [.t 6]⟩, ⟨(some 16), none, .nilCheck, [.t 14]⟩, ⟨(some 17), none, (.fieldAddr 0), [.t 16]⟩, ⟨(some 18), none, (.fieldAddr 2), [.t 17]⟩, ⟨none, none, (.store 1), [.t 18, .t 15]⟩] none [])
  .skip)))⟩
theorem ok63 : FunOk Try.prog 63 c63 := ⟨⟨Try.f63, _, Try.func63, rfl, by kernel_rfl, by kernel_rfl, by kernel_rfl, by kernel_rfl⟩, by decide⟩
def tblL : List (Nat × AFun) := [(11, c11), (12, c12), (18, c18), (21, c21), (22, c22), (24, c24), (25, c25), (26, c26), (27, c27), (35, c35), (36, c36), (37, c37), (38, c38), (40, c40), (43, c43), (44, c44), (45, c45), (46, c46), (47, c47), (48, c48), (49, c49), (50, c50), (51, c51), (52, c52), (53, c53), (54, c54), (55, c55), (56, c56), (62, c62), (63, c63)]
def tbl (f : Nat) : Option AFun := tblL.lookup f
theorem tbl_ok : ∀ f A, tbl f = some A → FunOk Try.prog f A := lookup_ok (by
  simp only [tblL, List.forall_mem_cons]
  exact ⟨ok11, ok12, ok18, ok21, ok22, ok24, ok25, ok26, ok27, ok35, ok36, ok37, ok38, ok40, ok43, ok44, ok45, ok46, ok47, ok48, ok49, ok50, ok51, ok52, ok53, ok54, ok55, ok56, ok62, ok63, by simp⟩)
theorem run_ok (fuel d : Nat) : CallOk Try.prog (arunX extE tbl fuel d) := arunX_ok Try.mixed extE_ok tbl_ok fuel d
end Go.Proofs.Ytbngfbpegdcpkaa.RunC1
