/- Texts of the proof, joined. -/
import Derived.Test.YtbngfbpegdcpkaaQ5
import Derived.Test.YtbngfbpegdcpkaaProg
import Derived.KernelRfl
/-! The program's functions in the abstract machine's terms. -/
namespace Go.Proofs.Ytbngfbpegdcpkaa.RunC1
set_option maxRecDepth 100000
set_option linter.unusedVariables false
set_option linter.unusedSimpArgs false
/-- duet/duetlaw18.live -/
def c11 : AFun := ⟨0, 111, [.tmp 0],
  (.seq (.region [⟨(some 0), none, .move, [.c (.bool false)]⟩] none [])
  (.seq (.region [⟨(some 10), none, .call, [.c (.fn (.func 24) [] []), .c (.str ⟨#[97, 98, 32, 99]⟩)]⟩, ⟨(some 11), none, (.build [.nils, (.int .i64 0), .nils] [(0, 1), (1, 1)]), [.t 10, .c (.int .i64 4)]⟩, ⟨(some 1), none, (.alloc [.nils, (.int .i64 0), .nils]), []⟩, ⟨none, none, (.store 3), [.t 1, .t 11]⟩] none [1])
  (.seq (.region [⟨(some 13), none, (.load 3 true), [.t 1]⟩, ⟨(some 14), none, (.build [(.int .i64 0), (.int .i64 0)] [(0, 1), (1, 1)]), [.c (.int .i64 2), .c (.int .i64 119)]⟩, ⟨(some 15), none, .call, [.c (.fn (.func 12) [] []), .t 13, .t 14]⟩, ⟨(some 12), none, .move, [.t 15]⟩, ⟨(some 16), none, (.extract 0), [.t 12]⟩, ⟨(some 17), none, (.extract 1), [.t 12]⟩, ⟨(some 2), none, (.alloc [.nils, (.int .i64 0), .nils]), []⟩, ⟨none, none, (.store 3), [.t 2, .t 16]⟩, ⟨(some 3), none, .move, [.t 17]⟩] none [1, 2, 3])
  (.seq (.region [⟨(some 19), none, (.load 3 true), [.t 2]⟩, ⟨(some 20), none, (.build [(.int .i64 0), (.int .i64 0)] [(0, 1), (1, 1)]), [.c (.int .i64 2), .c (.int .i64 121)]⟩, ⟨(some 21), none, .call, [.c (.fn (.func 12) [] []), .t 19, .t 20]⟩, ⟨(some 18), none, .move, [.t 21]⟩, ⟨(some 22), none, (.extract 0), [.t 18]⟩, ⟨(some 23), none, (.extract 1), [.t 18]⟩, ⟨(some 4), none, (.alloc [.nils, (.int .i64 0), .nils]), []⟩, ⟨none, none, (.store 3), [.t 4, .t 22]⟩, ⟨(some 5), none, .move, [.t 23]⟩] none [1, 2, 3, 4, 5])
  (.seq (.region [⟨(some 25), none, (.load 3 true), [.t 4]⟩, ⟨(some 26), none, (.build [(.int .i64 0), (.int .i64 0)] [(0, 1), (1, 1)]), [.c (.int .i64 2), .c (.int .i64 116)]⟩, ⟨(some 27), none, .call, [.c (.fn (.func 12) [] []), .t 25, .t 26]⟩, ⟨(some 24), none, .move, [.t 27]⟩, ⟨(some 28), none, (.extract 0), [.t 24]⟩, ⟨(some 29), none, (.extract 1), [.t 24]⟩, ⟨(some 6), none, (.alloc [.nils, (.int .i64 0), .nils]), []⟩, ⟨none, none, (.store 3), [.t 6, .t 28]⟩, ⟨(some 7), none, .move, [.t 29]⟩] none [1, 2, 3, 4, 5, 6, 7])
  (.seq (.region [⟨(some 31), none, (.fieldAddr 0), [.t 1]⟩, ⟨(some 32), none, (.load 1 false), [.t 31]⟩, ⟨(some 33), none, .move, [.t 3]⟩, ⟨(some 34), none, .call, [.c (.fn (.func 18) [] []), .t 32, .t 33]⟩, ⟨(some 30), none, .move, [.t 34]⟩, ⟨(some 35), none, (.extract 0), [.t 30]⟩, ⟨(some 36), none, (.extract 1), [.t 30]⟩, ⟨(some 8), none, .move, [.t 35]⟩, ⟨(some 9), none, .move, [.t 36]⟩] none [1, 2, 3, 4, 5, 6, 7, 8, 9])
  (.seq (.region [⟨(some 37), none, (.fieldAddr 0), [.t 2]⟩, ⟨(some 38), none, (.load 1 false), [.t 37]⟩, ⟨(some 39), none, .call, [.c (.fn (.func 24) [] []), .c (.str ⟨#[97, 98, 32]⟩)]⟩, ⟨(some 40), none, .call, [.c (.fn (.func 21) [] []), .t 38, .t 39]⟩, ⟨(some 41), none, .move, [.t 40]⟩, ⟨(some 42), (some (41, true)), (.fieldAddr 1), [.t 2]⟩, ⟨(some 43), (some (41, true)), (.load 1 false), [.t 42]⟩, ⟨(some 44), (some (41, true)), (.bin .eql .num), [.t 43, .c (.int .i64 3)]⟩, ⟨(some 45), none, .pick, [.t 41, .t 44, .c (.bool false)]⟩, ⟨(some 46), none, .move, [.t 45]⟩, ⟨(some 47), (some (46, true)), (.fieldAddr 2), [.t 2]⟩, ⟨(some 48), (some (46, true)), (.load 1 false), [.t 47]⟩, ⟨(some 49), (some (46, true)), .call, [.c (.fn (.func 24) [] []), .c (.str ⟨#[99]⟩)]⟩, ⟨(some 50), (some (46, true)), .call, [.c (.fn (.func 21) [] []), .t 48, .t 49]⟩, ⟨(some 51), none, .pick, [.t 46, .t 50, .c (.bool false)]⟩, ⟨(some 52), none, .move, [.t 51]⟩, ⟨(some 53), (some (52, true)), .move, [.t 3]⟩, ⟨(some 54), (some (52, true)), (.len .slice), [.t 53]⟩, ⟨(some 55), (some (52, true)), (.bin .eql .num), [.t 54, .c (.int .i64 1)]⟩, ⟨(some 56), none, .pick, [.t 52, .t 55, .c (.bool false)]⟩, ⟨(some 57), none, .move, [.t 56]⟩, ⟨(some 58), (some (57, true)), .move, [.t 5]⟩, ⟨(some 59), (some (57, true)), (.len .slice), [.t 58]⟩, ⟨(some 60), (some (57, true)), (.bin .eql .num), [.t 59, .c (.int .i64 1)]⟩, ⟨(some 61), none, .pick, [.t 57, .t 60, .c (.bool false)]⟩, ⟨(some 62), none, .move, [.t 61]⟩, ⟨(some 63), (some (62, true)), (.fieldAddr 0), [.t 4]⟩, ⟨(some 64), (some (62, true)), (.load 1 false), [.t 63]⟩, ⟨(some 65), (some (62, true)), (.fieldAddr 0), [.t 1]⟩, ⟨(some 66), (some (62, true)), (.load 1 false), [.t 65]⟩, ⟨(some 67), (some (62, true)), .call, [.c (.fn (.func 21) [] []), .t 64, .t 66]⟩, ⟨(some 68), none, .pick, [.t 62, .t 67, .c (.bool false)]⟩, ⟨(some 69), none, .move, [.t 68]⟩, ⟨(some 70), (some (69, true)), (.fieldAddr 1), [.t 4]⟩, ⟨(some 71), (some (69, true)), (.load 1 false), [.t 70]⟩, ⟨(some 72), (some (69, true)), (.bin .eql .num), [.t 71, .c (.int .i64 4)]⟩, ⟨(some 73), none, .pick, [.t 69, .t 72, .c (.bool false)]⟩, ⟨(some 74), none, .move, [.t 73]⟩, ⟨(some 75), (some (74, true)), (.fieldAddr 0), [.t 6]⟩, ⟨(some 76), (some (74, true)), (.load 1 false), [.t 75]⟩, ⟨(some 77), (some (74, true)), .call, [.c (.fn (.func 24) [] []), .c (.str ⟨#[97, 98, 99, 32]⟩)]⟩, ⟨(some 78), (some (74, true)), .call, [.c (.fn (.func 21) [] []), .t 76, .t 77]⟩, ⟨(some 79), none, .pick, [.t 74, .t 78, .c (.bool false)]⟩, ⟨(some 80), none, .move, [.t 79]⟩, ⟨(some 81), (some (80, true)), (.fieldAddr 1), [.t 6]⟩, ⟨(some 82), (some (80, true)), (.load 1 false), [.t 81]⟩, ⟨(some 83), (some (80, true)), (.bin .eql .num), [.t 82, .c (.int .i64 4)]⟩, ⟨(some 84), none, .pick, [.t 80, .t 83, .c (.bool false)]⟩, ⟨(some 85), none, .move, [.t 84]⟩, ⟨(some 86), (some (85, true)), .move, [.t 7]⟩, ⟨(some 87), (some (85, true)), (.len .slice), [.t 86]⟩, ⟨(some 88), (some (85, true)), (.bin .eql .num), [.t 87, .c (.int .i64 2)]⟩, ⟨(some 89), none, .pick, [.t 85, .t 88, .c (.bool false)]⟩, ⟨(some 90), none, .move, [.t 89]⟩, ⟨(some 91), (some (90, true)), .move, [.t 8]⟩, ⟨(some 92), (some (90, true)), (.fieldAddr 0), [.t 2]⟩, ⟨(some 93), (some (90, true)), (.load 1 false), [.t 92]⟩, ⟨(some 94), (some (90, true)), .call, [.c (.fn (.func 21) [] []), .t 91, .t 93]⟩, ⟨(some 95), none, .pick, [.t 90, .t 94, .c (.bool false)]⟩, ⟨(some 96), none, .move, [.t 95]⟩, ⟨(some 97), (some (96, true)), .move, [.t 9]⟩, ⟨(some 98), none, .pick, [.t 96, .t 97, .c (.bool false)]⟩, ⟨(some 99), none, .move, [.t 98]⟩, ⟨(some 100), (some (99, true)), (.fieldAddr 0), [.t 1]⟩, ⟨(some 101), (some (99, true)), (.load 1 false), [.t 100]⟩, ⟨(some 102), (some (99, true)), .call, [.c (.fn (.func 22) [] []), .t 101, .c (.int .i64 4), .c (.bool true)]⟩, ⟨(some 103), (some (99, true)), (.bin .eql .num), [.t 102, .c (.int .i64 3)]⟩, ⟨(some 104), none, .pick, [.t 99, .t 103, .c (.bool false)]⟩, ⟨(some 105), none, .move, [.t 104]⟩, ⟨(some 106), (some (105, true)), (.fieldAddr 0), [.t 1]⟩, ⟨(some 107), (some (105, true)), (.load 1 false), [.t 106]⟩, ⟨(some 108), (some (105, true)), .call, [.c (.fn (.func 22) [] []), .t 107, .c (.int .i64 0), .c (.bool false)]⟩, ⟨(some 109), (some (105, true)), (.bin .eql .num), [.t 108, .c (.int .i64 2)]⟩, ⟨(some 110), none, .pick, [.t 105, .t 109, .c (.bool false)]⟩, ⟨(some 0), none, .move, [.t 110]⟩] (some [0, 1, 0, 7, 15, 31, 63, 127, 255, 511, 1023, 2047, 1023, 8191, 16383, 32767, 65535, 131071, 262143, 524287, 1048575, 2097151, 4194303, 8388607, 16777215, 33554431, 67108863, 134217727, 67108863, 335544319, 1073741823, 2147483647, 4294967295, 8589934591, 17179869183, 34359738367, 68719476735, 137438953471, 274877906943, 549755813887, 274877906943, 2199023255551, 4398046511103, 8796093022207, 17592186044415, 35184372088831, 70368744177663, 140737488355327, 281474976710655, 562949953421311, 1125899906842623, 2251799813685247, 4503599627370495, 9007199254740991, 18014398509481983, 18014398509481983, 54043195528445951, 144115188075855871, 288230376151711743, 576460752303423487, 1152921504606846975, 2305843009213693951, 4611686018427387903, 9223372036854775807, 18446744073709551615, 36893488147419103231, 73786976294838206463, 147573952589676412927, 295147905179352825855, 590295810358705651711, 1180591620717411303423, 2361183241434822606847, 4722366482869645213695, 9444732965739290427391, 18889465931478580854783]) [0])
  .ret)))))))⟩
theorem ok11 : FunOk Try.prog 11 c11 := ⟨⟨Try.f11, _, Try.func11, rfl, by kernel_rfl, by kernel_rfl, by kernel_rfl, by kernel_rfl⟩, by decide⟩
/-- duet/edit.Do -/
def c12 : AFun := ⟨2, 62, [.cell 4 3 true, .tmp 5],
  (.seq (.region [⟨(some 2), none, .box, [.t 0]⟩, ⟨(some 3), none, .box, [.t 1]⟩, ⟨(some 4), none, (.alloc [.nils, (.int .i64 0), .nils]), []⟩, ⟨(some 5), none, .move, [.c .nils]⟩] none [2, 3, 4])
  (.seq (.region [⟨(some 9), none, (.fieldAddr 0), [.t 2]⟩, ⟨(some 10), none, (.load 1 false), [.t 9]⟩, ⟨(some 11), none, .call, [.c (.fn (.func 25) [] []), .t 10]⟩, ⟨(some 12), none, (.fieldAddr 0), [.t 2]⟩, ⟨(some 13), none, (.load 1 false), [.t 12]⟩, ⟨(some 14), none, (.fieldAddr 1), [.t 2]⟩, ⟨(some 15), none, (.load 1 false), [.t 14]⟩, ⟨(some 16), none, .call, [.c (.fn (.func 26) [] []), .t 13, .t 15]⟩, ⟨(some 17), none, (.fieldAddr 2), [.t 2]⟩, ⟨(some 18), none, (.load 1 false), [.t 17]⟩, ⟨(some 19), none, .call, [.c (.fn (.func 25) [] []), .t 18]⟩, ⟨(some 20), none, (.build [.nils, (.int .i64 0), .nils] [(0, 1), (1, 1), (2, 1)]), [.t 11, .t 16, .t 19]⟩, ⟨(some 21), none, (.build [.nils, (.int .i64 0), .nils, .nils] [(0, 3)]), [.t 20]⟩, ⟨(some 22), none, .box, [.t 21]⟩, ⟨(some 6), none, .move, [.t 22]⟩] (some [0, 1, 3, 0, 8, 0, 32, 127, 0, 256, 1023, 2047, 4095, 8191, 16383]) [3, 4, 6])
  (.seq (.seq (.region [⟨(some 23), none, (.fieldAddr 0), [.t 3]⟩, ⟨(some 24), none, (.load 1 false), [.t 23]⟩, ⟨(some 25), none, (.bin .neq .num), [.t 24, .c (.int .i64 1)]⟩, ⟨(some 26), none, .move, [.t 25]⟩, ⟨(some 27), (some (26, true)), (.fieldAddr 0), [.t 3]⟩, ⟨(some 28), (some (26, true)), (.load 1 false), [.t 27]⟩, ⟨(some 29), (some (26, true)), (.bin .neq .num), [.t 28, .c (.int .i64 2)]⟩, ⟨(some 30), none, .pick, [.t 26, .t 29, .c (.bool false)]⟩, ⟨(some 31), none, .move, [.t 30]⟩, ⟨(some 32), (some (31, true)), (.fieldAddr 0), [.t 3]⟩, ⟨(some 33), (some (31, true)), (.load 1 false), [.t 32]⟩, ⟨(some 34), (some (31, true)), (.bin .neq .num), [.t 33, .c (.int .i64 3)]⟩, ⟨(some 35), none, .pick, [.t 31, .t 34, .c (.bool false)]⟩] none [3, 4, 6, 35])
  (.cond (.t 35) (.region [⟨(some 36), none, (.fieldAddr 1), [.t 3]⟩, ⟨none, none, (.store 1), [.t 36, .c (.int .i64 0)]⟩] none [3, 4, 6])
  .skip))
  (.seq (.seq (.region [⟨(some 37), none, (.fieldAddr 0), [.t 3]⟩, ⟨(some 38), none, (.load 1 false), [.t 37]⟩, ⟨(some 39), none, (.bin .eql .num), [.t 38, .c (.int .i64 1)]⟩] none [3, 4, 6, 39])
  (.cond (.t 39) (.region [⟨(some 40), none, .move, [.t 6]⟩, ⟨(some 41), none, (.fieldAddr 1), [.t 3]⟩, ⟨(some 42), none, (.load 1 false), [.t 41]⟩, ⟨(some 43), none, .call, [.c (.fn (.func 27) [] []), .t 40, .t 42]⟩] none [4, 6])
  (.seq (.region [⟨(some 45), none, .call, [.c (.fn (.func 28) [] [])]⟩, ⟨(some 46), none, (.load 2 true), [.t 3]⟩, ⟨(some 47), none, (.lookup true [.int, .int] .nilf true), [.t 45, .t 46]⟩, ⟨(some 44), none, .move, [.t 47]⟩, ⟨(some 48), none, (.extract 0), [.t 44]⟩, ⟨(some 49), none, (.extract 1), [.t 44]⟩, ⟨(some 7), none, .move, [.t 48]⟩, ⟨(some 8), none, .move, [.t 49]⟩] (some [0, 0, 3, 7, 15, 15, 31, 127]) [4, 6, 7, 8])
  (.seq (.region [⟨(some 50), none, .move, [.t 8]⟩] none [4, 6, 7, 50])
  (.cond (.t 50) (.region [⟨(some 51), none, .move, [.t 7]⟩, ⟨(some 52), none, .move, [.t 6]⟩, ⟨(some 53), none, .call, [.t 51, .t 52]⟩] none [4, 6])
  .skip)))))
  (.seq (.region [⟨(some 54), none, .move, [.t 6]⟩, ⟨(some 55), none, .nilCheck, [.t 54]⟩, ⟨(some 56), none, (.fieldAddr 0), [.t 55]⟩, ⟨(some 57), none, (.load 3 true), [.t 56]⟩, ⟨(some 58), none, .move, [.t 6]⟩, ⟨(some 59), none, .nilCheck, [.t 58]⟩, ⟨(some 60), none, (.fieldAddr 3), [.t 59]⟩, ⟨(some 61), none, (.load 1 false), [.t 60]⟩, ⟨none, none, (.store 3), [.t 4, .t 57]⟩, ⟨(some 5), none, .move, [.t 61]⟩] (some [0, 1, 3, 7, 0, 16, 48, 112, 15, 511]) [4, 5])
  .ret)))))⟩
theorem ok12 : FunOk Try.prog 12 c12 := ⟨⟨Try.f12, _, Try.func12, rfl, by kernel_rfl, by kernel_rfl, by kernel_rfl, by kernel_rfl⟩, by decide⟩
/-- duet/edit.Apply -/
def c18 : AFun := ⟨2, 58, [.tmp 4, .tmp 5],
  (.seq (.region [⟨(some 4), none, .move, [.c .nils]⟩, ⟨(some 5), none, .move, [.c (.bool false)]⟩] none [0, 1])
  (.seq (.region [⟨(some 8), none, .move, [.t 0]⟩, ⟨(some 9), none, .call, [.c (.fn (.func 25) [] []), .t 8]⟩, ⟨(some 0), none, .move, [.t 9]⟩] none [0, 1])
  (.seq (.seq (.region [⟨(some 10), none, .move, [.t 1]⟩, ⟨(some 11), none, (.len .slice), [.t 10]⟩, ⟨(some 12), none, .move, [.c (.int .i64 0)]⟩] none [0, 10, 11, 12])
  (.block 0 (.loop [0, 10, 11, 12] (.seq (.region [⟨(some 13), none, (.bin .lss .num), [.t 12, .t 11]⟩] none [0, 10, 11, 12, 13])
  (.seq (.cond (.t 13) .skip
  (.exit 0))
  (.seq (.block 1 (.seq (.region [⟨(some 14), none, (.indexAddr 3), [.t 10, .t 12]⟩, ⟨(some 15), none, (.load 3 true), [.t 14]⟩, ⟨(some 7), none, (.alloc [(.int .i64 0), (.int .i64 0), (.int .i64 0)]), []⟩, ⟨none, none, (.store 3), [.t 7, .t 15]⟩] none [0, 7, 10, 11, 12])
  (.block 2 (.seq (.region [⟨(some 17), none, (.fieldAddr 1), [.t 7]⟩, ⟨(some 18), none, (.load 1 false), [.t 17]⟩, ⟨(some 19), none, (.bin .lss .num), [.t 18, .c (.int .i64 0)]⟩, ⟨(some 20), none, .move, [.t 19]⟩, ⟨(some 21), (some (20, false)), (.fieldAddr 1), [.t 7]⟩, ⟨(some 22), (some (20, false)), (.load 1 false), [.t 21]⟩, ⟨(some 23), (some (20, false)), .move, [.t 0]⟩, ⟨(some 24), (some (20, false)), (.len .slice), [.t 23]⟩, ⟨(some 25), (some (20, false)), (.bin .gtr .num), [.t 22, .t 24]⟩, ⟨(some 26), none, .pick, [.t 20, .c (.bool true), .t 25]⟩, ⟨(some 16), none, .move, [.t 26]⟩] none [0, 7, 10, 11, 12, 16])
  (.cond (.t 16) (.seq (.region [⟨(some 4), none, .move, [.c .nils]⟩, ⟨(some 5), none, .move, [.c (.bool false)]⟩] none [4, 5])
  .ret)
  (.seq (.region [⟨(some 28), none, (.fieldAddr 0), [.t 7]⟩, ⟨(some 29), none, (.load 1 false), [.t 28]⟩, ⟨(some 30), none, (.bin .eql .num), [.t 29, .c (.int .i64 1)]⟩, ⟨(some 27), none, .move, [.t 30]⟩] none [0, 7, 10, 11, 12, 27])
  (.cond (.t 27) (.region [⟨(some 31), none, .move, [.t 0]⟩, ⟨(some 32), none, (.fieldAddr 1), [.t 7]⟩, ⟨(some 33), none, (.load 1 false), [.t 32]⟩, ⟨(some 34), none, (.fieldAddr 2), [.t 7]⟩, ⟨(some 35), none, (.load 1 false), [.t 34]⟩, ⟨(some 36), none, (.buildSlice 1 [(.int .i64 0)] [(0, 1)]), [.t 35]⟩, ⟨(some 37), none, .call, [.c (.fn (.func 33) [] []), .t 31, .t 33, .t 36]⟩, ⟨(some 0), none, .move, [.t 37]⟩] none [0, 10, 11, 12])
  (.seq (.region [⟨(some 39), none, (.fieldAddr 0), [.t 7]⟩, ⟨(some 40), none, (.load 1 false), [.t 39]⟩, ⟨(some 41), none, (.bin .eql .num), [.t 40, .c (.int .i64 2)]⟩, ⟨(some 42), none, .move, [.t 41]⟩, ⟨(some 43), (some (42, true)), (.fieldAddr 1), [.t 7]⟩, ⟨(some 44), (some (42, true)), (.load 1 false), [.t 43]⟩, ⟨(some 45), (some (42, true)), .move, [.t 0]⟩, ⟨(some 46), (some (42, true)), (.len .slice), [.t 45]⟩, ⟨(some 47), (some (42, true)), (.bin .lss .num), [.t 44, .t 46]⟩, ⟨(some 48), none, .pick, [.t 42, .t 47, .c (.bool false)]⟩, ⟨(some 38), none, .move, [.t 48]⟩] none [0, 7, 10, 11, 12, 38])
  (.cond (.t 38) (.region [⟨(some 49), none, .move, [.t 0]⟩, ⟨(some 50), none, (.fieldAddr 1), [.t 7]⟩, ⟨(some 51), none, (.load 1 false), [.t 50]⟩, ⟨(some 52), none, (.fieldAddr 1), [.t 7]⟩, ⟨(some 53), none, (.load 1 false), [.t 52]⟩, ⟨(some 54), none, (.bin .add .num), [.t 53, .c (.int .i64 1)]⟩, ⟨(some 55), none, .call, [.c (.fn (.func 34) [] []), .t 49, .t 51, .t 54]⟩, ⟨(some 0), none, .move, [.t 55]⟩] none [0, 10, 11, 12])
  (.seq (.region [⟨(some 4), none, .move, [.c .nils]⟩, ⟨(some 5), none, .move, [.c (.bool false)]⟩] none [4, 5])
  .ret))))))))))
  (.region [⟨(some 56), none, (.bin .add .num), [.t 12, .c (.int .i64 1)]⟩, ⟨(some 12), none, .move, [.t 56]⟩] none [0, 10, 11, 12])))))))
  (.seq (.region [⟨(some 57), none, .move, [.t 0]⟩, ⟨(some 4), none, .move, [.t 57]⟩, ⟨(some 5), none, .move, [.c (.bool true)]⟩] none [4, 5])
  .ret))))⟩
theorem ok18 : FunOk Try.prog 18 c18 := ⟨⟨Try.f18, _, Try.func18, rfl, by kernel_rfl, by kernel_rfl, by kernel_rfl, by kernel_rfl⟩, by decide⟩
/-- duet/duetref01.Same -/
def c21 : AFun := ⟨2, 26, [.tmp 4],
  (.seq (.region [⟨(some 4), none, .move, [.c (.bool false)]⟩] none [0, 1])
  (.seq (.seq (.region [⟨(some 6), none, .move, [.t 0]⟩, ⟨(some 7), none, (.len .slice), [.t 6]⟩, ⟨(some 8), none, .move, [.t 1]⟩, ⟨(some 9), none, (.len .slice), [.t 8]⟩, ⟨(some 10), none, (.bin .neq .num), [.t 7, .t 9]⟩] none [0, 1, 10])
  (.cond (.t 10) (.seq (.region [⟨(some 4), none, .move, [.c (.bool false)]⟩] none [4])
  .ret)
  .skip))
  (.seq (.seq (.region [⟨(some 5), none, .move, [.c (.int .i64 0)]⟩] none [0, 1, 5])
  (.block 0 (.loop [0, 1, 5] (.seq (.seq (.region [⟨(some 11), none, .move, [.t 5]⟩, ⟨(some 12), none, .move, [.t 0]⟩, ⟨(some 13), none, (.len .slice), [.t 12]⟩, ⟨(some 14), none, (.bin .lss .num), [.t 11, .t 13]⟩] none [0, 1, 5, 14])
  (.cond (.t 14) .skip
  (.exit 0)))
  (.seq (.block 1 (.seq (.region [⟨(some 17), none, .move, [.t 0]⟩, ⟨(some 18), none, .move, [.t 5]⟩, ⟨(some 19), none, (.indexAddr 1), [.t 17, .t 18]⟩, ⟨(some 20), none, (.load 1 false), [.t 19]⟩, ⟨(some 21), none, .move, [.t 1]⟩, ⟨(some 22), none, .move, [.t 5]⟩, ⟨(some 23), none, (.indexAddr 1), [.t 21, .t 22]⟩, ⟨(some 24), none, (.load 1 false), [.t 23]⟩, ⟨(some 25), none, (.bin .neq .num), [.t 20, .t 24]⟩] (some [0, 0, 3, 7, 0, 0, 48, 112, 255]) [0, 1, 5, 25])
  (.cond (.t 25) (.seq (.region [⟨(some 4), none, .move, [.c (.bool false)]⟩] none [4])
  .ret)
  .skip)))
  (.region [⟨(some 15), none, .move, [.t 5]⟩, ⟨(some 16), none, (.bin .add .num), [.t 15, .c (.int .i64 1)]⟩, ⟨(some 5), none, .move, [.t 16]⟩] none [0, 1, 5]))))))
  (.seq (.region [⟨(some 4), none, .move, [.c (.bool true)]⟩] none [4])
  .ret))))⟩
theorem ok21 : FunOk Try.prog 21 c21 := ⟨⟨Try.f21, _, Try.func21, rfl, by kernel_rfl, by kernel_rfl, by kernel_rfl, by kernel_rfl⟩, by decide⟩
/-- duet/edit.Word -/
def c22 : AFun := ⟨3, 45, [.tmp 6],
  (.seq (.region [⟨(some 6), none, .move, [.c (.int .i64 0)]⟩] none [0, 1, 2])
  (.seq (.region [⟨(some 11), none, .move, [.t 0]⟩, ⟨(some 12), none, .move, [.t 1]⟩, ⟨(some 13), none, .call, [.c (.fn (.func 26) [] []), .t 11, .t 12]⟩, ⟨(some 1), none, .move, [.t 13]⟩] none [0, 1, 2])
  (.seq (.seq (.region [⟨(some 14), none, .move, [.t 2]⟩] none [0, 1, 14])
  (.cond (.t 14) (.seq (.region [⟨(some 15), none, .move, [.t 0]⟩, ⟨(some 16), none, .move, [.t 1]⟩, ⟨(some 17), none, (.slice 1 false true false), [.t 15, .t 16]⟩, ⟨(some 18), none, .call, [.c (.fn (.func 25) [] []), .t 17]⟩, ⟨(some 7), none, .move, [.t 18]⟩] none [1, 7])
  (.seq (.region [⟨(some 19), none, .move, [.t 7]⟩, ⟨(some 20), none, .call, [.c (.fn (.func 35) [] []), .t 19]⟩] none [1, 7])
  (.seq (.region [⟨(some 21), none, .move, [.t 1]⟩, ⟨(some 22), none, .move, [.t 7]⟩, ⟨(some 23), none, .call, [.c (.fn (.func 22) [] []), .t 22, .c (.int .i64 0), .c (.bool false)]⟩, ⟨(some 24), none, (.bin .sub .num), [.t 21, .t 23]⟩, ⟨(some 6), none, .move, [.t 24]⟩] none [6])
  .ret)))
  .skip))
  (.seq (.seq (.region [⟨(some 25), none, (.buildSlice 1 [(.bool false), (.bool false)] [(0, 1), (1, 1)]), [.c (.bool false), .c (.bool true)]⟩, ⟨(some 26), none, (.len .slice), [.t 25]⟩, ⟨(some 27), none, .move, [.c (.int .i64 0)]⟩] none [0, 1, 25, 26, 27])
  (.block 0 (.loop [0, 1, 25, 26, 27] (.seq (.region [⟨(some 28), none, (.bin .lss .num), [.t 27, .t 26]⟩] none [0, 1, 25, 26, 27, 28])
  (.seq (.cond (.t 28) .skip
  (.exit 0))
  (.seq (.block 1 (.seq (.region [⟨(some 29), none, (.indexAddr 1), [.t 25, .t 27]⟩, ⟨(some 30), none, (.load 1 false), [.t 29]⟩, ⟨(some 9), none, (.alloc [(.bool false)]), []⟩, ⟨none, none, (.store 1), [.t 9, .t 30]⟩] none [0, 1, 9, 25, 26, 27])
  (.seq (.region [⟨(some 31), none, .move, [.t 0]⟩, ⟨(some 32), none, .move, [.t 1]⟩, ⟨(some 33), none, (.slice 1 true false false), [.t 31, .t 32]⟩, ⟨(some 34), none, (.mkfn (.func 37) 0), [.t 9]⟩, ⟨(some 35), none, .call, [.c (.fn (.func 36) [] []), .t 33, .t 34]⟩, ⟨(some 10), none, .move, [.t 35]⟩] none [0, 1, 10, 25, 26, 27])
  (.seq (.seq (.region [⟨(some 36), none, .move, [.t 10]⟩, ⟨(some 37), none, (.bin .lss .num), [.t 36, .c (.int .i64 0)]⟩] none [0, 1, 10, 25, 26, 27, 37])
  (.cond (.t 37) (.seq (.region [⟨(some 38), none, .move, [.t 0]⟩, ⟨(some 39), none, (.len .slice), [.t 38]⟩, ⟨(some 6), none, .move, [.t 39]⟩] none [6])
  .ret)
  .skip))
  (.region [⟨(some 40), none, .move, [.t 1]⟩, ⟨(some 41), none, .move, [.t 10]⟩, ⟨(some 42), none, (.bin .add .num), [.t 40, .t 41]⟩, ⟨(some 1), none, .move, [.t 42]⟩] none [0, 1, 25, 26, 27])))))
  (.region [⟨(some 43), none, (.bin .add .num), [.t 27, .c (.int .i64 1)]⟩, ⟨(some 27), none, .move, [.t 43]⟩] none [0, 1, 25, 26, 27])))))))
  (.seq (.region [⟨(some 44), none, .move, [.t 1]⟩, ⟨(some 6), none, .move, [.t 44]⟩] none [6])
  .ret)))))⟩
theorem ok22 : FunOk Try.prog 22 c22 := ⟨⟨Try.f22, _, Try.func22, rfl, by kernel_rfl, by kernel_rfl, by kernel_rfl, by kernel_rfl⟩, by decide⟩
/-- duet/duetlaw18.runes -/
def c24 : AFun := ⟨1, 19, [.tmp 2],
  (.seq (.region [⟨(some 2), none, .move, [.c .nils]⟩] none [0])
  (.seq (.region [⟨(some 3), none, .move, [.c .nils]⟩] none [0, 3])
  (.seq (.seq (.region [⟨(some 4), none, .move, [.c (.int .i64 0)]⟩] none [0, 3, 4])
  (.block 0 (.loop [0, 3, 4] (.seq (.seq (.region [⟨(some 5), none, .move, [.t 4]⟩, ⟨(some 6), none, .move, [.t 0]⟩, ⟨(some 7), none, (.len .num), [.t 6]⟩, ⟨(some 8), none, (.bin .lss .num), [.t 5, .t 7]⟩] none [0, 3, 4, 8])
  (.cond (.t 8) .skip
  (.exit 0)))
  (.seq (.block 1 (.region [⟨(some 11), none, .move, [.t 3]⟩, ⟨(some 12), none, .move, [.t 0]⟩, ⟨(some 13), none, .move, [.t 4]⟩, ⟨(some 14), none, .strAt, [.t 12, .t 13]⟩, ⟨(some 15), none, (.conv .i64), [.t 14]⟩, ⟨(some 16), none, (.buildSlice 1 [(.int .i64 0)] [(0, 1)]), [.t 15]⟩, ⟨(some 17), none, (.append 1 8), [.t 11, .t 16]⟩, ⟨(some 3), none, .move, [.t 17]⟩] none [0, 3, 4]))
  (.region [⟨(some 9), none, .move, [.t 4]⟩, ⟨(some 10), none, (.bin .add .num), [.t 9, .c (.int .i64 1)]⟩, ⟨(some 4), none, .move, [.t 10]⟩] none [0, 3, 4]))))))
  (.seq (.region [⟨(some 18), none, .move, [.t 3]⟩, ⟨(some 2), none, .move, [.t 18]⟩] none [2])
  .ret))))⟩
theorem ok24 : FunOk Try.prog 24 c24 := ⟨⟨Try.f24, _, Try.func24, rfl, by kernel_rfl, by kernel_rfl, by kernel_rfl, by kernel_rfl⟩, by decide⟩
/-- slices.Clone[[]int,int] -/
def c25 : AFun := ⟨1, 8, [.tmp 2],
  (.seq (.region [⟨(some 2), none, .move, [.c .nils]⟩] none [0])
  (.seq (.seq (.region [⟨(some 3), none, .move, [.t 0]⟩, ⟨(some 4), none, (.bin .eql .slice), [.t 3, .c .nils]⟩] none [0, 4])
  (.cond (.t 4) (.seq (.region [⟨(some 2), none, .move, [.c .nils]⟩] none [2])
  .ret)
  .skip))
  (.seq (.region [⟨(some 5), none, (.buildSlice 1 [] []), []⟩, ⟨(some 6), none, .move, [.t 0]⟩, ⟨(some 7), none, (.append 1 8), [.t 5, .t 6]⟩, ⟨(some 2), none, .move, [.t 7]⟩] none [2])
  .ret)))⟩
theorem ok25 : FunOk Try.prog 25 c25 := ⟨⟨Try.f25, _, Try.func25, rfl, by kernel_rfl, by kernel_rfl, by kernel_rfl, by kernel_rfl⟩, by decide⟩
/-- duet/edit.held -/
def c26 : AFun := ⟨2, 10, [.tmp 4],
  (.seq (.region [⟨(some 4), none, .move, [.c (.int .i64 0)]⟩] none [0, 1])
  (.seq (.region [⟨(some 5), none, .move, [.t 1]⟩, ⟨(some 6), none, .max, [.t 5, .c (.int .i64 0)]⟩, ⟨(some 7), none, .move, [.t 0]⟩, ⟨(some 8), none, (.len .slice), [.t 7]⟩, ⟨(some 9), none, .min, [.t 6, .t 8]⟩, ⟨(some 4), none, .move, [.t 9]⟩] none [4])
  .ret))⟩
theorem ok26 : FunOk Try.prog 26 c26 := ⟨⟨Try.f26, _, Try.func26, rfl, by kernel_rfl, by kernel_rfl, by kernel_rfl, by kernel_rfl⟩, by decide⟩
/-- (*duet/edit.work).put -/
def c27 : AFun := ⟨2, 59, [.tmp 4],
  (.seq (.region [⟨(some 4), none, .move, [.c (.bool false)]⟩] none [0, 1])
  (.seq (.seq (.region [⟨(some 5), none, .move, [.t 0]⟩, ⟨(some 6), none, .nilCheck, [.t 5]⟩, ⟨(some 7), none, (.fieldAddr 0), [.t 6]⟩, ⟨(some 8), none, (.fieldAddr 0), [.t 7]⟩, ⟨(some 9), none, (.load 1 false), [.t 8]⟩, ⟨(some 10), none, (.len .slice), [.t 9]⟩, ⟨(some 11), none, (.bin .geq .num), [.t 10, .c (.int .i64 1000)]⟩, ⟨(some 12), none, .move, [.t 11]⟩, ⟨(some 13), (some (12, false)), .move, [.t 1]⟩, ⟨(some 14), (some (12, false)), .call, [.c (.fn (.func 40) [] []), .t 13]⟩, ⟨(some 15), (some (12, false)), (.un .not), [.t 14]⟩, ⟨(some 16), none, .pick, [.t 12, .c (.bool true), .t 15]⟩] none [0, 1, 16])
  (.cond (.t 16) (.seq (.region [⟨(some 4), none, .move, [.c (.bool false)]⟩] none [4])
  .ret)
  .skip))
  (.seq (.region [⟨(some 17), none, .move, [.t 0]⟩, ⟨(some 18), none, .move, [.t 0]⟩, ⟨(some 19), none, .nilCheck, [.t 18]⟩, ⟨(some 20), none, (.fieldAddr 3), [.t 19]⟩, ⟨(some 21), none, (.load 1 false), [.t 20]⟩, ⟨(some 22), none, .move, [.t 0]⟩, ⟨(some 23), none, .nilCheck, [.t 22]⟩, ⟨(some 24), none, (.fieldAddr 0), [.t 23]⟩, ⟨(some 25), none, (.fieldAddr 1), [.t 24]⟩, ⟨(some 26), none, (.load 1 false), [.t 25]⟩, ⟨(some 27), none, .move, [.t 1]⟩, ⟨(some 28), none, (.build [(.int .i64 0), (.int .i64 0), (.int .i64 0)] [(0, 1), (1, 1), (2, 1)]), [.c (.int .i64 1), .t 26, .t 27]⟩, ⟨(some 29), none, (.buildSlice 3 [(.int .i64 0), (.int .i64 0), (.int .i64 0)] [(0, 3)]), [.t 28]⟩, ⟨(some 30), none, (.append 3 24), [.t 21, .t 29]⟩, ⟨(some 31), none, .nilCheck, [.t 17]⟩, ⟨(some 32), none, (.fieldAddr 3), [.t 31]⟩, ⟨none, none, (.store 1), [.t 32, .t 30]⟩] (some [0, 0, 2, 6, 14, 0, 32, 96, 224, 480, 0, 2016, 4064, 8190, 16383, 32767, 65535]) [0, 1])
  (.seq (.region [⟨(some 33), none, .move, [.t 0]⟩, ⟨(some 34), none, .move, [.t 0]⟩, ⟨(some 35), none, .nilCheck, [.t 34]⟩, ⟨(some 36), none, (.fieldAddr 0), [.t 35]⟩, ⟨(some 37), none, (.fieldAddr 0), [.t 36]⟩, ⟨(some 38), none, (.load 1 false), [.t 37]⟩, ⟨(some 39), none, .move, [.t 0]⟩, ⟨(some 40), none, .nilCheck, [.t 39]⟩, ⟨(some 41), none, (.fieldAddr 0), [.t 40]⟩, ⟨(some 42), none, (.fieldAddr 1), [.t 41]⟩, ⟨(some 43), none, (.load 1 false), [.t 42]⟩, ⟨(some 44), none, .move, [.t 1]⟩, ⟨(some 45), none, (.buildSlice 1 [(.int .i64 0)] [(0, 1)]), [.t 44]⟩, ⟨(some 46), none, .call, [.c (.fn (.func 33) [] []), .t 38, .t 43, .t 45]⟩, ⟨(some 47), none, .nilCheck, [.t 33]⟩, ⟨(some 48), none, (.fieldAddr 0), [.t 47]⟩, ⟨(some 49), none, (.fieldAddr 0), [.t 48]⟩, ⟨none, none, (.store 1), [.t 49, .t 46]⟩] (some [0, 0, 2, 6, 14, 30, 0, 64, 192, 448, 960, 0, 2048, 8190, 16383, 32767, 65535, 131071]) [0])
  (.seq (.region [⟨(some 50), none, .move, [.t 0]⟩, ⟨(some 51), none, .nilCheck, [.t 50]⟩, ⟨(some 52), none, (.fieldAddr 0), [.t 51]⟩, ⟨(some 53), none, (.fieldAddr 1), [.t 52]⟩, ⟨(some 54), none, (.load 1 false), [.t 53]⟩, ⟨(some 55), none, (.bin .add .num), [.t 54, .c (.int .i64 1)]⟩, ⟨(some 56), none, .nilCheck, [.t 50]⟩, ⟨(some 57), none, (.fieldAddr 0), [.t 56]⟩, ⟨(some 58), none, (.fieldAddr 1), [.t 57]⟩, ⟨none, none, (.store 1), [.t 58, .t 55]⟩] none [])
  (.seq (.region [⟨(some 4), none, .move, [.c (.bool true)]⟩] none [4])
  .ret))))))⟩
theorem ok27 : FunOk Try.prog 27 c27 := ⟨⟨Try.f27, _, Try.func27, rfl, by kernel_rfl, by kernel_rfl, by kernel_rfl, by kernel_rfl⟩, by decide⟩
/-- slices.Reverse[[]int,int] -/
def c35 : AFun := ⟨1, 28, [],
  (.seq (.region [⟨(some 4), none, .move, [.t 0]⟩, ⟨(some 5), none, (.len .slice), [.t 4]⟩, ⟨(some 6), none, (.bin .sub .num), [.t 5, .c (.int .i64 1)]⟩, ⟨(some 2), none, .move, [.c (.int .i64 0)]⟩, ⟨(some 3), none, .move, [.t 6]⟩] none [0, 2, 3])
  (.block 0 (.loop [0, 2, 3] (.seq (.seq (.region [⟨(some 7), none, .move, [.t 2]⟩, ⟨(some 8), none, .move, [.t 3]⟩, ⟨(some 9), none, (.bin .lss .num), [.t 7, .t 8]⟩] none [0, 2, 3, 9])
  (.cond (.t 9) .skip
  (.exit 0)))
  (.seq (.block 1 (.region [⟨(some 14), none, .move, [.t 0]⟩, ⟨(some 15), none, .move, [.t 2]⟩, ⟨(some 16), none, .move, [.t 0]⟩, ⟨(some 17), none, .move, [.t 3]⟩, ⟨(some 18), none, .move, [.t 0]⟩, ⟨(some 19), none, .move, [.t 3]⟩, ⟨(some 20), none, (.indexAddr 1), [.t 18, .t 19]⟩, ⟨(some 21), none, (.load 1 false), [.t 20]⟩, ⟨(some 22), none, .move, [.t 0]⟩, ⟨(some 23), none, .move, [.t 2]⟩, ⟨(some 24), none, (.indexAddr 1), [.t 22, .t 23]⟩, ⟨(some 25), none, (.load 1 false), [.t 24]⟩, ⟨(some 26), none, (.indexAddr 1), [.t 14, .t 15]⟩, ⟨none, none, (.store 1), [.t 26, .t 21]⟩, ⟨(some 27), none, (.indexAddr 1), [.t 16, .t 17]⟩, ⟨none, none, (.store 1), [.t 27, .t 25]⟩] (some [0, 0, 0, 0, 0, 0, 48, 112, 0, 0, 768, 1792, 4083, 8179, 16383, 32767]) [0, 2, 3]))
  (.region [⟨(some 10), none, .move, [.t 2]⟩, ⟨(some 11), none, (.bin .add .num), [.t 10, .c (.int .i64 1)]⟩, ⟨(some 12), none, .move, [.t 3]⟩, ⟨(some 13), none, (.bin .sub .num), [.t 12, .c (.int .i64 1)]⟩, ⟨(some 2), none, .move, [.t 11]⟩, ⟨(some 3), none, .move, [.t 13]⟩] none [0, 2, 3]))))))⟩
theorem ok35 : FunOk Try.prog 35 c35 := ⟨⟨Try.f35, _, Try.func35, rfl, by kernel_rfl, by kernel_rfl, by kernel_rfl, by kernel_rfl⟩, by decide⟩
/-- slices.IndexFunc[[]int,int] -/
def c36 : AFun := ⟨2, 19, [.tmp 4],
  (.seq (.region [⟨(some 4), none, .move, [.c (.int .i64 0)]⟩] none [0, 1])
  (.seq (.seq (.region [⟨(some 6), none, .move, [.t 0]⟩, ⟨(some 7), none, (.len .slice), [.t 6]⟩, ⟨(some 8), none, .move, [.c (.int .i64 0)]⟩] none [0, 1, 7, 8])
  (.block 0 (.loop [0, 1, 7, 8] (.seq (.region [⟨(some 9), none, (.bin .lss .num), [.t 8, .t 7]⟩] none [0, 1, 7, 8, 9])
  (.seq (.cond (.t 9) .skip
  (.exit 0))
  (.seq (.block 1 (.seq (.region [⟨(some 10), none, .move, [.t 8]⟩, ⟨(some 5), none, .move, [.t 10]⟩] none [0, 1, 5, 7, 8])
  (.seq (.region [⟨(some 11), none, .move, [.t 1]⟩, ⟨(some 12), none, .move, [.t 0]⟩, ⟨(some 13), none, .move, [.t 5]⟩, ⟨(some 14), none, (.indexAddr 1), [.t 12, .t 13]⟩, ⟨(some 15), none, (.load 1 false), [.t 14]⟩, ⟨(some 16), none, .call, [.t 11, .t 15]⟩] none [0, 1, 5, 7, 8, 16])
  (.cond (.t 16) (.seq (.region [⟨(some 17), none, .move, [.t 5]⟩, ⟨(some 4), none, .move, [.t 17]⟩] none [4])
  .ret)
  .skip))))
  (.region [⟨(some 18), none, (.bin .add .num), [.t 8, .c (.int .i64 1)]⟩, ⟨(some 8), none, .move, [.t 18]⟩] none [0, 1, 7, 8])))))))
  (.seq (.region [⟨(some 4), none, .move, [.c (.int .i64 (-1))]⟩] none [4])
  .ret)))⟩
theorem ok36 : FunOk Try.prog 36 c36 := ⟨⟨Try.f36, _, Try.func36, rfl, by kernel_rfl, by kernel_rfl, by kernel_rfl, by kernel_rfl⟩, by decide⟩
/-- duet/edit.Word$1 -/
def c37 : AFun := ⟨2, 8, [.tmp 3],
  (.seq (.region [⟨(some 3), none, .move, [.c (.bool false)]⟩] none [0, 1])
  (.seq (.region [⟨(some 4), none, .move, [.t 0]⟩, ⟨(some 5), none, .call, [.c (.fn (.func 38) [] []), .t 4]⟩, ⟨(some 6), none, (.load 1 false), [.t 1]⟩, ⟨(some 7), none, (.bin .neq .bool), [.t 5, .t 6]⟩, ⟨(some 3), none, .move, [.t 7]⟩] (some [0, 1, 0, 7, 15]) [3])
  .ret))⟩
theorem ok37 : FunOk Try.prog 37 c37 := ⟨⟨Try.f37, _, Try.func37, rfl, by kernel_rfl, by kernel_rfl, by kernel_rfl, by kernel_rfl⟩, by decide⟩
/-- duet/edit.isLetter -/
def c38 : AFun := ⟨1, 27, [.tmp 2],
  (.seq (.region [⟨(some 2), none, .move, [.c (.bool false)]⟩] none [0])
  (.seq (.region [⟨(some 3), none, .move, [.t 0]⟩, ⟨(some 4), none, (.bin .geq .num), [.t 3, .c (.int .i64 48)]⟩, ⟨(some 5), none, .move, [.t 4]⟩, ⟨(some 6), (some (5, true)), .move, [.t 0]⟩, ⟨(some 7), (some (5, true)), (.bin .leq .num), [.t 6, .c (.int .i64 57)]⟩, ⟨(some 8), none, .pick, [.t 5, .t 7, .c (.bool false)]⟩, ⟨(some 9), none, .move, [.t 8]⟩, ⟨(some 10), (some (9, false)), .move, [.t 0]⟩, ⟨(some 11), (some (9, false)), (.bin .or .num), [.t 10, .c (.int .i64 32)]⟩, ⟨(some 12), (some (9, false)), (.bin .geq .num), [.t 11, .c (.int .i64 97)]⟩, ⟨(some 13), (some (9, false)), .move, [.t 12]⟩, ⟨(some 14), (some (13, true)), .move, [.t 0]⟩, ⟨(some 15), (some (13, true)), (.bin .or .num), [.t 14, .c (.int .i64 32)]⟩, ⟨(some 16), (some (13, true)), (.bin .leq .num), [.t 15, .c (.int .i64 122)]⟩, ⟨(some 17), (some (9, false)), .pick, [.t 13, .t 16, .c (.bool false)]⟩, ⟨(some 18), none, .pick, [.t 9, .c (.bool true), .t 17]⟩, ⟨(some 19), none, .move, [.t 18]⟩, ⟨(some 20), (some (19, false)), .move, [.t 0]⟩, ⟨(some 21), (some (19, false)), (.bin .eql .num), [.t 20, .c (.int .i64 95)]⟩, ⟨(some 22), none, .pick, [.t 19, .c (.bool true), .t 21]⟩, ⟨(some 23), none, .move, [.t 22]⟩, ⟨(some 24), (some (23, false)), .move, [.t 0]⟩, ⟨(some 25), (some (23, false)), (.bin .gtr .num), [.t 24, .c (.int .i64 127)]⟩, ⟨(some 26), none, .pick, [.t 23, .c (.bool true), .t 25]⟩, ⟨(some 2), none, .move, [.t 26]⟩] none [2])
  .ret))⟩
theorem ok38 : FunOk Try.prog 38 c38 := ⟨⟨Try.f38, _, Try.func38, rfl, by kernel_rfl, by kernel_rfl, by kernel_rfl, by kernel_rfl⟩, by decide⟩
/-- duet/mesg.Rune -/
def c40 : AFun := ⟨1, 22, [.tmp 2],
  (.seq (.region [⟨(some 2), none, .move, [.c (.bool false)]⟩] none [0])
  (.seq (.block 0 (.seq (.seq (.region [⟨(some 4), none, .move, [.t 0]⟩, ⟨(some 5), none, (.bin .lss .num), [.t 4, .c (.int .i64 32)]⟩, ⟨(some 6), none, .move, [.t 5]⟩, ⟨(some 7), (some (6, false)), .move, [.t 0]⟩, ⟨(some 8), (some (6, false)), (.bin .gtr .num), [.t 7, .c (.int .i64 1114111)]⟩, ⟨(some 9), none, .pick, [.t 6, .c (.bool true), .t 8]⟩, ⟨(some 3), none, .move, [.t 9]⟩] none [0, 3])
  (.cond (.t 3) .skip
  (.seq (.region [⟨(some 10), none, .move, [.t 0]⟩, ⟨(some 11), none, (.bin .geq .num), [.t 10, .c (.int .i64 127)]⟩, ⟨(some 12), none, .move, [.t 11]⟩, ⟨(some 13), (some (12, true)), .move, [.t 0]⟩, ⟨(some 14), (some (12, true)), (.bin .leq .num), [.t 13, .c (.int .i64 159)]⟩, ⟨(some 15), none, .pick, [.t 12, .t 14, .c (.bool false)]⟩, ⟨(some 3), none, .move, [.t 15]⟩] none [0, 3])
  (.cond (.t 3) .skip
  (.region [⟨(some 16), none, .move, [.t 0]⟩, ⟨(some 17), none, (.bin .geq .num), [.t 16, .c (.int .i64 55296)]⟩, ⟨(some 18), none, .move, [.t 17]⟩, ⟨(some 19), (some (18, true)), .move, [.t 0]⟩, ⟨(some 20), (some (18, true)), (.bin .leq .num), [.t 19, .c (.int .i64 57343)]⟩, ⟨(some 21), none, .pick, [.t 18, .t 20, .c (.bool false)]⟩, ⟨(some 3), none, .move, [.t 21]⟩] none [3])))))
  (.cond (.t 3) (.seq (.region [⟨(some 2), none, .move, [.c (.bool false)]⟩] none [2])
  .ret)
  .skip)))
  (.seq (.region [⟨(some 2), none, .move, [.c (.bool true)]⟩] none [2])
  .ret)))⟩
theorem ok40 : FunOk Try.prog 40 c40 := ⟨⟨Try.f40, _, Try.func40, rfl, by kernel_rfl, by kernel_rfl, by kernel_rfl, by kernel_rfl⟩, by decide⟩
/-- (*duet/edit.work).home -/
def c43 : AFun := ⟨1, 6, [],
  (.region [⟨(some 2), none, .move, [.t 0]⟩, ⟨(some 3), none, .nilCheck, [.t 2]⟩, ⟨(some 4), none, (.fieldAddr 0), [.t 3]⟩, ⟨(some 5), none, (.fieldAddr 1), [.t 4]⟩, ⟨none, none, (.store 1), [.t 5, .c (.int .i64 0)]⟩] none [])⟩
theorem ok43 : FunOk Try.prog 43 c43 := ⟨⟨Try.f43, _, Try.func43, rfl, by kernel_rfl, by kernel_rfl, by kernel_rfl, by kernel_rfl⟩, by decide⟩
/-- (*duet/edit.work).end -/
def c44 : AFun := ⟨1, 12, [],
  (.region [⟨(some 2), none, .move, [.t 0]⟩, ⟨(some 3), none, .move, [.t 0]⟩, ⟨(some 4), none, .nilCheck, [.t 3]⟩, ⟨(some 5), none, (.fieldAddr 0), [.t 4]⟩, ⟨(some 6), none, (.fieldAddr 0), [.t 5]⟩, ⟨(some 7), none, (.load 1 false), [.t 6]⟩, ⟨(some 8), none, (.len .slice), [.t 7]⟩, ⟨(some 9), none, .nilCheck, [.t 2]⟩, ⟨(some 10), none, (.fieldAddr 0), [.t 9]⟩, ⟨(some 11), none, (.fieldAddr 1), [.t 10]⟩, ⟨none, none, (.store 1), [.t 11, .t 8]⟩] none [])⟩
theorem ok44 : FunOk Try.prog 44 c44 := ⟨⟨Try.f44, _, Try.func44, rfl, by kernel_rfl, by kernel_rfl, by kernel_rfl, by kernel_rfl⟩, by decide⟩
/-- (*duet/edit.work).left -/
def c45 : AFun := ⟨1, 18, [],
  (.region [⟨(some 2), none, .move, [.t 0]⟩, ⟨(some 3), none, .move, [.t 0]⟩, ⟨(some 4), none, .nilCheck, [.t 3]⟩, ⟨(some 5), none, (.fieldAddr 0), [.t 4]⟩, ⟨(some 6), none, (.fieldAddr 0), [.t 5]⟩, ⟨(some 7), none, (.load 1 false), [.t 6]⟩, ⟨(some 8), none, .move, [.t 0]⟩, ⟨(some 9), none, .nilCheck, [.t 8]⟩, ⟨(some 10), none, (.fieldAddr 0), [.t 9]⟩, ⟨(some 11), none, (.fieldAddr 1), [.t 10]⟩, ⟨(some 12), none, (.load 1 false), [.t 11]⟩, ⟨(some 13), none, (.bin .sub .num), [.t 12, .c (.int .i64 1)]⟩, ⟨(some 14), none, .call, [.c (.fn (.func 26) [] []), .t 7, .t 13]⟩, ⟨(some 15), none, .nilCheck, [.t 2]⟩, ⟨(some 16), none, (.fieldAddr 0), [.t 15]⟩, ⟨(some 17), none, (.fieldAddr 1), [.t 16]⟩, ⟨none, none, (.store 1), [.t 17, .t 14]⟩] (some [0, 0, 2, 6, 14, 30, 0, 64, 192, 448, 960, 1984, 4094, 8191, 16383, 32767, 65535]) [])⟩
theorem ok45 : FunOk Try.prog 45 c45 := ⟨⟨Try.f45, _, Try.func45, rfl, by kernel_rfl, by kernel_rfl, by kernel_rfl, by kernel_rfl⟩, by decide⟩
/-- (*duet/edit.work).right -/
def c46 : AFun := ⟨1, 18, [],
  (.region [⟨(some 2), none, .move, [.t 0]⟩, ⟨(some 3), none, .move, [.t 0]⟩, ⟨(some 4), none, .nilCheck, [.t 3]⟩, ⟨(some 5), none, (.fieldAddr 0), [.t 4]⟩, ⟨(some 6), none, (.fieldAddr 0), [.t 5]⟩, ⟨(some 7), none, (.load 1 false), [.t 6]⟩, ⟨(some 8), none, .move, [.t 0]⟩, ⟨(some 9), none, .nilCheck, [.t 8]⟩, ⟨(some 10), none, (.fieldAddr 0), [.t 9]⟩, ⟨(some 11), none, (.fieldAddr 1), [.t 10]⟩, ⟨(some 12), none, (.load 1 false), [.t 11]⟩, ⟨(some 13), none, (.bin .add .num), [.t 12, .c (.int .i64 1)]⟩, ⟨(some 14), none, .call, [.c (.fn (.func 26) [] []), .t 7, .t 13]⟩, ⟨(some 15), none, .nilCheck, [.t 2]⟩, ⟨(some 16), none, (.fieldAddr 0), [.t 15]⟩, ⟨(some 17), none, (.fieldAddr 1), [.t 16]⟩, ⟨none, none, (.store 1), [.t 17, .t 14]⟩] (some [0, 0, 2, 6, 14, 30, 0, 64, 192, 448, 960, 1984, 4094, 8191, 16383, 32767, 65535]) [])⟩
theorem ok46 : FunOk Try.prog 46 c46 := ⟨⟨Try.f46, _, Try.func46, rfl, by kernel_rfl, by kernel_rfl, by kernel_rfl, by kernel_rfl⟩, by decide⟩
/-- (*duet/edit.work).rub -/
def c47 : AFun := ⟨1, 21, [],
  (.region [⟨(some 2), none, .move, [.t 0]⟩, ⟨(some 3), none, .move, [.t 0]⟩, ⟨(some 4), none, .nilCheck, [.t 3]⟩, ⟨(some 5), none, (.fieldAddr 0), [.t 4]⟩, ⟨(some 6), none, (.fieldAddr 0), [.t 5]⟩, ⟨(some 7), none, (.load 1 false), [.t 6]⟩, ⟨(some 8), none, .move, [.t 0]⟩, ⟨(some 9), none, .nilCheck, [.t 8]⟩, ⟨(some 10), none, (.fieldAddr 0), [.t 9]⟩, ⟨(some 11), none, (.fieldAddr 1), [.t 10]⟩, ⟨(some 12), none, (.load 1 false), [.t 11]⟩, ⟨(some 13), none, (.bin .sub .num), [.t 12, .c (.int .i64 1)]⟩, ⟨(some 14), none, .call, [.c (.fn (.func 26) [] []), .t 7, .t 13]⟩, ⟨(some 15), none, .move, [.t 0]⟩, ⟨(some 16), none, .nilCheck, [.t 15]⟩, ⟨(some 17), none, (.fieldAddr 0), [.t 16]⟩, ⟨(some 18), none, (.fieldAddr 1), [.t 17]⟩, ⟨(some 19), none, (.load 1 false), [.t 18]⟩, ⟨(some 20), none, .call, [.c (.fn (.func 62) [] []), .t 2, .t 14, .t 19]⟩] (some [0, 0, 2, 6, 14, 30, 0, 64, 192, 448, 960, 1984, 4094, 0, 8192, 24576, 57344, 122880, 262143]) [])⟩
theorem ok47 : FunOk Try.prog 47 c47 := ⟨⟨Try.f47, _, Try.func47, rfl, by kernel_rfl, by kernel_rfl, by kernel_rfl, by kernel_rfl⟩, by decide⟩
/-- (*duet/edit.work).del -/
def c48 : AFun := ⟨1, 21, [],
  (.region [⟨(some 2), none, .move, [.t 0]⟩, ⟨(some 3), none, .move, [.t 0]⟩, ⟨(some 4), none, .nilCheck, [.t 3]⟩, ⟨(some 5), none, (.fieldAddr 0), [.t 4]⟩, ⟨(some 6), none, (.fieldAddr 1), [.t 5]⟩, ⟨(some 7), none, (.load 1 false), [.t 6]⟩, ⟨(some 8), none, .move, [.t 0]⟩, ⟨(some 9), none, .nilCheck, [.t 8]⟩, ⟨(some 10), none, (.fieldAddr 0), [.t 9]⟩, ⟨(some 11), none, (.fieldAddr 0), [.t 10]⟩, ⟨(some 12), none, (.load 1 false), [.t 11]⟩, ⟨(some 13), none, .move, [.t 0]⟩, ⟨(some 14), none, .nilCheck, [.t 13]⟩, ⟨(some 15), none, (.fieldAddr 0), [.t 14]⟩, ⟨(some 16), none, (.fieldAddr 1), [.t 15]⟩, ⟨(some 17), none, (.load 1 false), [.t 16]⟩, ⟨(some 18), none, (.bin .add .num), [.t 17, .c (.int .i64 1)]⟩, ⟨(some 19), none, .call, [.c (.fn (.func 26) [] []), .t 12, .t 18]⟩, ⟨(some 20), none, .call, [.c (.fn (.func 62) [] []), .t 2, .t 7, .t 19]⟩] (some [0, 0, 2, 6, 14, 30, 0, 64, 192, 448, 960, 0, 2048, 6144, 14336, 30720, 63488, 131008, 262143]) [])⟩
theorem ok48 : FunOk Try.prog 48 c48 := ⟨⟨Try.f48, _, Try.func48, rfl, by kernel_rfl, by kernel_rfl, by kernel_rfl, by kernel_rfl⟩, by decide⟩
/-- (*duet/edit.work).killOn -/
def c49 : AFun := ⟨1, 15, [],
  (.region [⟨(some 2), none, .move, [.t 0]⟩, ⟨(some 3), none, .move, [.t 0]⟩, ⟨(some 4), none, .nilCheck, [.t 3]⟩, ⟨(some 5), none, (.fieldAddr 0), [.t 4]⟩, ⟨(some 6), none, (.fieldAddr 1), [.t 5]⟩, ⟨(some 7), none, (.load 1 false), [.t 6]⟩, ⟨(some 8), none, .move, [.t 0]⟩, ⟨(some 9), none, .nilCheck, [.t 8]⟩, ⟨(some 10), none, (.fieldAddr 0), [.t 9]⟩, ⟨(some 11), none, (.fieldAddr 0), [.t 10]⟩, ⟨(some 12), none, (.load 1 false), [.t 11]⟩, ⟨(some 13), none, (.len .slice), [.t 12]⟩, ⟨(some 14), none, .call, [.c (.fn (.func 63) [] []), .t 2, .t 7, .t 13]⟩] (some [0, 0, 2, 6, 14, 30, 0, 64, 192, 448, 960, 1984, 4095]) [])⟩
theorem ok49 : FunOk Try.prog 49 c49 := ⟨⟨Try.f49, _, Try.func49, rfl, by kernel_rfl, by kernel_rfl, by kernel_rfl, by kernel_rfl⟩, by decide⟩
/-- (*duet/edit.work).killBack -/
def c50 : AFun := ⟨1, 9, [],
  (.region [⟨(some 2), none, .move, [.t 0]⟩, ⟨(some 3), none, .move, [.t 0]⟩, ⟨(some 4), none, .nilCheck, [.t 3]⟩, ⟨(some 5), none, (.fieldAddr 0), [.t 4]⟩, ⟨(some 6), none, (.fieldAddr 1), [.t 5]⟩, ⟨(some 7), none, (.load 1 false), [.t 6]⟩, ⟨(some 8), none, .call, [.c (.fn (.func 63) [] []), .t 2, .c (.int .i64 0), .t 7]⟩] none [])⟩
theorem ok50 : FunOk Try.prog 50 c50 := ⟨⟨Try.f50, _, Try.func50, rfl, by kernel_rfl, by kernel_rfl, by kernel_rfl, by kernel_rfl⟩, by decide⟩
/-- (*duet/edit.work).killWord -/
def c51 : AFun := ⟨1, 20, [],
  (.region [⟨(some 2), none, .move, [.t 0]⟩, ⟨(some 3), none, .move, [.t 0]⟩, ⟨(some 4), none, .nilCheck, [.t 3]⟩, ⟨(some 5), none, (.fieldAddr 0), [.t 4]⟩, ⟨(some 6), none, (.fieldAddr 0), [.t 5]⟩, ⟨(some 7), none, (.load 1 false), [.t 6]⟩, ⟨(some 8), none, .move, [.t 0]⟩, ⟨(some 9), none, .nilCheck, [.t 8]⟩, ⟨(some 10), none, (.fieldAddr 0), [.t 9]⟩, ⟨(some 11), none, (.fieldAddr 1), [.t 10]⟩, ⟨(some 12), none, (.load 1 false), [.t 11]⟩, ⟨(some 13), none, .call, [.c (.fn (.func 22) [] []), .t 7, .t 12, .c (.bool true)]⟩, ⟨(some 14), none, .move, [.t 0]⟩, ⟨(some 15), none, .nilCheck, [.t 14]⟩, ⟨(some 16), none, (.fieldAddr 0), [.t 15]⟩, ⟨(some 17), none, (.fieldAddr 1), [.t 16]⟩, ⟨(some 18), none, (.load 1 false), [.t 17]⟩, ⟨(some 19), none, .call, [.c (.fn (.func 63) [] []), .t 2, .t 13, .t 18]⟩] (some [0, 0, 2, 6, 14, 30, 0, 64, 192, 448, 960, 2046, 0, 4096, 12288, 28672, 61440, 131071]) [])⟩
theorem ok51 : FunOk Try.prog 51 c51 := ⟨⟨Try.f51, _, Try.func51, rfl, by kernel_rfl, by kernel_rfl, by kernel_rfl, by kernel_rfl⟩, by decide⟩
/-- (*duet/edit.work).yank -/
def c52 : AFun := ⟨1, 19, [],
  (.seq (.region [⟨(some 4), none, .move, [.t 0]⟩, ⟨(some 5), none, .nilCheck, [.t 4]⟩, ⟨(some 6), none, (.fieldAddr 0), [.t 5]⟩, ⟨(some 7), none, (.fieldAddr 2), [.t 6]⟩, ⟨(some 8), none, (.load 1 false), [.t 7]⟩, ⟨(some 9), none, (.len .slice), [.t 8]⟩, ⟨(some 10), none, .move, [.c (.int .i64 0)]⟩] none [0, 8, 9, 10])
  (.block 0 (.loop [0, 8, 9, 10] (.seq (.region [⟨(some 11), none, (.bin .lss .num), [.t 10, .t 9]⟩] none [0, 8, 9, 10, 11])
  (.seq (.cond (.t 11) .skip
  (.exit 0))
  (.seq (.block 1 (.seq (.region [⟨(some 12), none, (.indexAddr 1), [.t 8, .t 10]⟩, ⟨(some 13), none, (.load 1 false), [.t 12]⟩, ⟨(some 3), none, .move, [.t 13]⟩] none [0, 3, 8, 9, 10])
  (.seq (.region [⟨(some 14), none, .move, [.t 0]⟩, ⟨(some 15), none, .move, [.t 3]⟩, ⟨(some 16), none, .call, [.c (.fn (.func 27) [] []), .t 14, .t 15]⟩, ⟨(some 17), none, (.un .not), [.t 16]⟩] none [0, 8, 9, 10, 17])
  (.cond (.t 17) (.exit 0)
  .skip))))
  (.region [⟨(some 18), none, (.bin .add .num), [.t 10, .c (.int .i64 1)]⟩, ⟨(some 10), none, .move, [.t 18]⟩] none [0, 8, 9, 10])))))))⟩
theorem ok52 : FunOk Try.prog 52 c52 := ⟨⟨Try.f52, _, Try.func52, rfl, by kernel_rfl, by kernel_rfl, by kernel_rfl, by kernel_rfl⟩, by decide⟩
/-- (*duet/edit.work).swap -/
def c53 : AFun := ⟨1, 67, [],
  (.seq (.seq (.region [⟨(some 4), none, .move, [.t 0]⟩, ⟨(some 5), none, .nilCheck, [.t 4]⟩, ⟨(some 6), none, (.fieldAddr 0), [.t 5]⟩, ⟨(some 7), none, (.fieldAddr 0), [.t 6]⟩, ⟨(some 8), none, (.load 1 false), [.t 7]⟩, ⟨(some 9), none, (.len .slice), [.t 8]⟩, ⟨(some 10), none, (.bin .lss .num), [.t 9, .c (.int .i64 2)]⟩, ⟨(some 11), none, .move, [.t 10]⟩, ⟨(some 12), (some (11, false)), .move, [.t 0]⟩, ⟨(some 13), (some (11, false)), .nilCheck, [.t 12]⟩, ⟨(some 14), (some (11, false)), (.fieldAddr 0), [.t 13]⟩, ⟨(some 15), (some (11, false)), (.fieldAddr 1), [.t 14]⟩, ⟨(some 16), (some (11, false)), (.load 1 false), [.t 15]⟩, ⟨(some 17), (some (11, false)), (.bin .eql .num), [.t 16, .c (.int .i64 0)]⟩, ⟨(some 18), none, .pick, [.t 11, .c (.bool true), .t 17]⟩] none [0, 18])
  (.cond (.t 18) .ret
  .skip))
  (.seq (.region [⟨(some 19), none, .move, [.t 0]⟩, ⟨(some 20), none, .nilCheck, [.t 19]⟩, ⟨(some 21), none, (.fieldAddr 0), [.t 20]⟩, ⟨(some 22), none, (.fieldAddr 1), [.t 21]⟩, ⟨(some 23), none, (.load 1 false), [.t 22]⟩, ⟨(some 24), none, .move, [.t 0]⟩, ⟨(some 25), none, .nilCheck, [.t 24]⟩, ⟨(some 26), none, (.fieldAddr 0), [.t 25]⟩, ⟨(some 27), none, (.fieldAddr 0), [.t 26]⟩, ⟨(some 28), none, (.load 1 false), [.t 27]⟩, ⟨(some 29), none, (.len .slice), [.t 28]⟩, ⟨(some 30), none, (.bin .sub .num), [.t 29, .c (.int .i64 1)]⟩, ⟨(some 31), none, .min, [.t 23, .t 30]⟩, ⟨(some 2), none, .move, [.t 31]⟩] (some [0, 1, 3, 7, 15, 0, 32, 96, 224, 480, 992, 2016, 4095, 8191]) [0, 2])
  (.seq (.seq (.region [⟨(some 32), none, .move, [.t 0]⟩, ⟨(some 33), none, .nilCheck, [.t 32]⟩, ⟨(some 34), none, (.fieldAddr 0), [.t 33]⟩, ⟨(some 35), none, (.fieldAddr 0), [.t 34]⟩, ⟨(some 36), none, (.load 1 false), [.t 35]⟩, ⟨(some 37), none, (.len .slice), [.t 36]⟩, ⟨(some 38), none, (.bin .gtr .num), [.t 37, .c (.int .i64 1000)]⟩, ⟨(some 39), none, .move, [.t 38]⟩, ⟨(some 40), (some (39, false)), .move, [.t 0]⟩, ⟨(some 41), (some (39, false)), .nilCheck, [.t 40]⟩, ⟨(some 42), (some (39, false)), (.fieldAddr 0), [.t 41]⟩, ⟨(some 43), (some (39, false)), (.fieldAddr 0), [.t 42]⟩, ⟨(some 44), (some (39, false)), (.load 1 false), [.t 43]⟩, ⟨(some 45), (some (39, false)), .move, [.t 2]⟩, ⟨(some 46), (some (39, false)), (.bin .sub .num), [.t 45, .c (.int .i64 1)]⟩, ⟨(some 47), (some (39, false)), (.indexAddr 1), [.t 44, .t 46]⟩, ⟨(some 48), (some (39, false)), (.load 1 false), [.t 47]⟩, ⟨(some 49), (some (39, false)), .call, [.c (.fn (.func 40) [] []), .t 48]⟩, ⟨(some 50), (some (39, false)), (.un .not), [.t 49]⟩, ⟨(some 51), none, .pick, [.t 39, .c (.bool true), .t 50]⟩] none [0, 2, 51])
  (.cond (.t 51) .ret
  .skip))
  (.seq (.region [⟨(some 52), none, .move, [.t 0]⟩, ⟨(some 53), none, .move, [.t 2]⟩, ⟨(some 54), none, (.bin .sub .num), [.t 53, .c (.int .i64 1)]⟩, ⟨(some 55), none, .move, [.t 2]⟩, ⟨(some 56), none, .call, [.c (.fn (.func 62) [] []), .t 52, .t 54, .t 55]⟩, ⟨(some 3), none, .move, [.t 56]⟩] none [0, 2, 3])
  (.seq (.region [⟨(some 57), none, .move, [.t 0]⟩, ⟨(some 58), none, .move, [.t 2]⟩, ⟨(some 59), none, .nilCheck, [.t 57]⟩, ⟨(some 60), none, (.fieldAddr 0), [.t 59]⟩, ⟨(some 61), none, (.fieldAddr 1), [.t 60]⟩, ⟨none, none, (.store 1), [.t 61, .t 58]⟩] none [0, 3])
  (.region [⟨(some 62), none, .move, [.t 0]⟩, ⟨(some 63), none, .move, [.t 3]⟩, ⟨(some 64), none, (.indexAddr 1), [.t 63, .c (.int .i64 0)]⟩, ⟨(some 65), none, (.load 1 false), [.t 64]⟩, ⟨(some 66), none, .call, [.c (.fn (.func 27) [] []), .t 62, .t 65]⟩] none []))))))⟩
theorem ok53 : FunOk Try.prog 53 c53 := ⟨⟨Try.f53, _, Try.func53, rfl, by kernel_rfl, by kernel_rfl, by kernel_rfl, by kernel_rfl⟩, by decide⟩
/-- (*duet/edit.work).wordBack -/
def c54 : AFun := ⟨1, 17, [],
  (.region [⟨(some 2), none, .move, [.t 0]⟩, ⟨(some 3), none, .move, [.t 0]⟩, ⟨(some 4), none, .nilCheck, [.t 3]⟩, ⟨(some 5), none, (.fieldAddr 0), [.t 4]⟩, ⟨(some 6), none, (.fieldAddr 0), [.t 5]⟩, ⟨(some 7), none, (.load 1 false), [.t 6]⟩, ⟨(some 8), none, .move, [.t 0]⟩, ⟨(some 9), none, .nilCheck, [.t 8]⟩, ⟨(some 10), none, (.fieldAddr 0), [.t 9]⟩, ⟨(some 11), none, (.fieldAddr 1), [.t 10]⟩, ⟨(some 12), none, (.load 1 false), [.t 11]⟩, ⟨(some 13), none, .call, [.c (.fn (.func 22) [] []), .t 7, .t 12, .c (.bool true)]⟩, ⟨(some 14), none, .nilCheck, [.t 2]⟩, ⟨(some 15), none, (.fieldAddr 0), [.t 14]⟩, ⟨(some 16), none, (.fieldAddr 1), [.t 15]⟩, ⟨none, none, (.store 1), [.t 16, .t 13]⟩] (some [0, 0, 2, 6, 14, 30, 0, 64, 192, 448, 960, 2046, 4095, 8191, 16383, 32767]) [])⟩
theorem ok54 : FunOk Try.prog 54 c54 := ⟨⟨Try.f54, _, Try.func54, rfl, by kernel_rfl, by kernel_rfl, by kernel_rfl, by kernel_rfl⟩, by decide⟩
/-- (*duet/edit.work).wordOn -/
def c55 : AFun := ⟨1, 17, [],
  (.region [⟨(some 2), none, .move, [.t 0]⟩, ⟨(some 3), none, .move, [.t 0]⟩, ⟨(some 4), none, .nilCheck, [.t 3]⟩, ⟨(some 5), none, (.fieldAddr 0), [.t 4]⟩, ⟨(some 6), none, (.fieldAddr 0), [.t 5]⟩, ⟨(some 7), none, (.load 1 false), [.t 6]⟩, ⟨(some 8), none, .move, [.t 0]⟩, ⟨(some 9), none, .nilCheck, [.t 8]⟩, ⟨(some 10), none, (.fieldAddr 0), [.t 9]⟩, ⟨(some 11), none, (.fieldAddr 1), [.t 10]⟩, ⟨(some 12), none, (.load 1 false), [.t 11]⟩, ⟨(some 13), none, .call, [.c (.fn (.func 22) [] []), .t 7, .t 12, .c (.bool false)]⟩, ⟨(some 14), none, .nilCheck, [.t 2]⟩, ⟨(some 15), none, (.fieldAddr 0), [.t 14]⟩, ⟨(some 16), none, (.fieldAddr 1), [.t 15]⟩, ⟨none, none, (.store 1), [.t 16, .t 13]⟩] (some [0, 0, 2, 6, 14, 30, 0, 64, 192, 448, 960, 2046, 4095, 8191, 16383, 32767]) [])⟩
theorem ok55 : FunOk Try.prog 55 c55 := ⟨⟨Try.f55, _, Try.func55, rfl, by kernel_rfl, by kernel_rfl, by kernel_rfl, by kernel_rfl⟩, by decide⟩
/-- (*duet/edit.work).killNext -/
def c56 : AFun := ⟨1, 20, [],
  (.region [⟨(some 2), none, .move, [.t 0]⟩, ⟨(some 3), none, .move, [.t 0]⟩, ⟨(some 4), none, .nilCheck, [.t 3]⟩, ⟨(some 5), none, (.fieldAddr 0), [.t 4]⟩, ⟨(some 6), none, (.fieldAddr 1), [.t 5]⟩, ⟨(some 7), none, (.load 1 false), [.t 6]⟩, ⟨(some 8), none, .move, [.t 0]⟩, ⟨(some 9), none, .nilCheck, [.t 8]⟩, ⟨(some 10), none, (.fieldAddr 0), [.t 9]⟩, ⟨(some 11), none, (.fieldAddr 0), [.t 10]⟩, ⟨(some 12), none, (.load 1 false), [.t 11]⟩, ⟨(some 13), none, .move, [.t 0]⟩, ⟨(some 14), none, .nilCheck, [.t 13]⟩, ⟨(some 15), none, (.fieldAddr 0), [.t 14]⟩, ⟨(some 16), none, (.fieldAddr 1), [.t 15]⟩, ⟨(some 17), none, (.load 1 false), [.t 16]⟩, ⟨(some 18), none, .call, [.c (.fn (.func 22) [] []), .t 12, .t 17, .c (.bool false)]⟩, ⟨(some 19), none, .call, [.c (.fn (.func 63) [] []), .t 2, .t 7, .t 18]⟩] (some [0, 0, 2, 6, 14, 30, 0, 64, 192, 448, 960, 0, 2048, 6144, 14336, 30720, 65472, 131071]) [])⟩
theorem ok56 : FunOk Try.prog 56 c56 := ⟨⟨Try.f56, _, Try.func56, rfl, by kernel_rfl, by kernel_rfl, by kernel_rfl, by kernel_rfl⟩, by decide⟩
/-- (*duet/edit.work).cut -/
def c62 : AFun := ⟨3, 59, [.tmp 6],
  (.seq (.region [⟨(some 6), none, .move, [.c .nils]⟩] none [0, 1, 2])
  (.seq (.region [⟨(some 10), none, .move, [.t 0]⟩, ⟨(some 11), none, .nilCheck, [.t 10]⟩, ⟨(some 12), none, (.fieldAddr 0), [.t 11]⟩, ⟨(some 13), none, (.fieldAddr 0), [.t 12]⟩, ⟨(some 14), none, (.load 1 false), [.t 13]⟩, ⟨(some 15), none, .move, [.t 1]⟩, ⟨(some 16), none, .move, [.t 2]⟩, ⟨(some 17), none, (.slice 1 true true false), [.t 14, .t 15, .t 16]⟩, ⟨(some 18), none, .call, [.c (.fn (.func 25) [] []), .t 17]⟩, ⟨(some 7), none, .move, [.t 18]⟩] none [0, 1, 2, 7])
  (.seq (.seq (.region [⟨(some 19), none, .move, [.t 7]⟩, ⟨(some 20), none, (.len .slice), [.t 19]⟩, ⟨(some 21), none, .move, [.c (.int .i64 0)]⟩] none [0, 1, 2, 7, 19, 20, 21])
  (.block 0 (.loop [0, 1, 2, 7, 19, 20, 21] (.seq (.region [⟨(some 22), none, (.bin .lss .num), [.t 21, .t 20]⟩] none [0, 1, 2, 7, 19, 20, 21, 22])
  (.seq (.cond (.t 22) .skip
  (.exit 0))
  (.seq (.block 1 (.seq (.region [⟨(some 23), none, (.indexAddr 1), [.t 19, .t 21]⟩, ⟨(some 24), none, (.load 1 false), [.t 23]⟩, ⟨(some 9), none, .move, [.t 24]⟩] none [0, 1, 2, 7, 9, 19, 20, 21])
  (.region [⟨(some 25), none, .move, [.t 0]⟩, ⟨(some 26), none, .move, [.t 0]⟩, ⟨(some 27), none, .nilCheck, [.t 26]⟩, ⟨(some 28), none, (.fieldAddr 3), [.t 27]⟩, ⟨(some 29), none, (.load 1 false), [.t 28]⟩, ⟨(some 30), none, .move, [.t 1]⟩, ⟨(some 31), none, .move, [.t 9]⟩, ⟨(some 32), none, (.build [(.int .i64 0), (.int .i64 0), (.int .i64 0)] [(0, 1), (1, 1), (2, 1)]), [.c (.int .i64 2), .t 30, .t 31]⟩, ⟨(some 33), none, (.buildSlice 3 [(.int .i64 0), (.int .i64 0), (.int .i64 0)] [(0, 3)]), [.t 32]⟩, ⟨(some 34), none, (.append 3 24), [.t 29, .t 33]⟩, ⟨(some 35), none, .nilCheck, [.t 25]⟩, ⟨(some 36), none, (.fieldAddr 3), [.t 35]⟩, ⟨none, none, (.store 1), [.t 36, .t 34]⟩] none [0, 1, 2, 7, 19, 20, 21])))
  (.region [⟨(some 37), none, (.bin .add .num), [.t 21, .c (.int .i64 1)]⟩, ⟨(some 21), none, .move, [.t 37]⟩] none [0, 1, 2, 7, 19, 20, 21])))))))
  (.seq (.seq (.region [⟨(some 38), none, .move, [.t 7]⟩, ⟨(some 39), none, (.len .slice), [.t 38]⟩, ⟨(some 40), none, (.bin .gtr .num), [.t 39, .c (.int .i64 0)]⟩] none [0, 1, 2, 7, 40])
  (.cond (.t 40) (.seq (.region [⟨(some 41), none, .move, [.t 0]⟩, ⟨(some 42), none, .move, [.t 0]⟩, ⟨(some 43), none, .nilCheck, [.t 42]⟩, ⟨(some 44), none, (.fieldAddr 0), [.t 43]⟩, ⟨(some 45), none, (.fieldAddr 0), [.t 44]⟩, ⟨(some 46), none, (.load 1 false), [.t 45]⟩, ⟨(some 47), none, .move, [.t 1]⟩, ⟨(some 48), none, .move, [.t 2]⟩, ⟨(some 49), none, .call, [.c (.fn (.func 34) [] []), .t 46, .t 47, .t 48]⟩, ⟨(some 50), none, .nilCheck, [.t 41]⟩, ⟨(some 51), none, (.fieldAddr 0), [.t 50]⟩, ⟨(some 52), none, (.fieldAddr 0), [.t 51]⟩, ⟨none, none, (.store 1), [.t 52, .t 49]⟩] none [0, 1, 7])
  (.region [⟨(some 53), none, .move, [.t 0]⟩, ⟨(some 54), none, .move, [.t 1]⟩, ⟨(some 55), none, .nilCheck, [.t 53]⟩, ⟨(some 56), none, (.fieldAddr 0), [.t 55]⟩, ⟨(some 57), none, (.fieldAddr 1), [.t 56]⟩, ⟨none, none, (.store 1), [.t 57, .t 54]⟩] none [7]))
  .skip))
  (.seq (.region [⟨(some 58), none, .move, [.t 7]⟩, ⟨(some 6), none, .move, [.t 58]⟩] none [6])
  .ret)))))⟩
theorem ok62 : FunOk Try.prog 62 c62 := ⟨⟨Try.f62, _, Try.func62, rfl, by kernel_rfl, by kernel_rfl, by kernel_rfl, by kernel_rfl⟩, by decide⟩
/-- (*duet/edit.work).kill -/
def c63 : AFun := ⟨3, 19, [],
  (.seq (.region [⟨(some 7), none, .move, [.t 0]⟩, ⟨(some 8), none, .move, [.t 1]⟩, ⟨(some 9), none, .move, [.t 2]⟩, ⟨(some 10), none, .call, [.c (.fn (.func 62) [] []), .t 7, .t 8, .t 9]⟩, ⟨(some 6), none, .move, [.t 10]⟩] none [0, 6])
  (.seq (.region [⟨(some 11), none, .move, [.t 6]⟩, ⟨(some 12), none, (.len .slice), [.t 11]⟩, ⟨(some 13), none, (.bin .gtr .num), [.t 12, .c (.int .i64 0)]⟩] none [0, 6, 13])
  (.cond (.t 13) (.region [⟨(some 14), none, .move, [.t 0]⟩, ⟨(some 15), none, .move, [.t 6]⟩, ⟨(some 16), none, .nilCheck, [.t 14]⟩, ⟨(some 17), none, (.fieldAddr 0), [.t 16]⟩, ⟨(some 18), none, (.fieldAddr 2), [.t 17]⟩, ⟨none, none, (.store 1), [.t 18, .t 15]⟩] none [])
  .skip)))⟩
theorem ok63 : FunOk Try.prog 63 c63 := ⟨⟨Try.f63, _, Try.func63, rfl, by kernel_rfl, by kernel_rfl, by kernel_rfl, by kernel_rfl⟩, by decide⟩
def tblL : List (Nat × AFun) := [(11, c11), (12, c12), (18, c18), (21, c21), (22, c22), (24, c24), (25, c25), (26, c26), (27, c27), (35, c35), (36, c36), (37, c37), (38, c38), (40, c40), (43, c43), (44, c44), (45, c45), (46, c46), (47, c47), (48, c48), (49, c49), (50, c50), (51, c51), (52, c52), (53, c53), (54, c54), (55, c55), (56, c56), (62, c62), (63, c63)]
def tbl (f : Nat) : Option AFun := tblL.lookup f
theorem tbl_ok : ∀ f A, tbl f = some A → FunOk Try.prog f A := lookup_ok (by
  simp only [tblL, List.forall_mem_cons]
  exact ⟨ok11, ok12, ok18, ok21, ok22, ok24, ok25, ok26, ok27, ok35, ok36, ok37, ok38, ok40, ok43, ok44, ok45, ok46, ok47, ok48, ok49, ok50, ok51, ok52, ok53, ok54, ok55, ok56, ok62, ok63, by simp⟩)
theorem run_ok (fuel d : Nat) : CallOk Try.prog (arunX extE tbl fuel d) := arunX_ok Try.mixed extE_ok tbl_ok fuel d
end Go.Proofs.Ytbngfbpegdcpkaa.RunC1
/-! The examples of layer 18 are as told. -/
namespace Go.Proofs.Ytbngfbpegdcpkaa
set_option linter.unusedVariables false
set_option linter.unusedSimpArgs false
set_option maxRecDepth 100000
theorem live18 : Pure Try.prog 11 [] (.bool true) := pure_run (RunC1.run_ok 1000 20) rfl (by kernel_rfl)
end Go.Proofs.Ytbngfbpegdcpkaa
/-! The shape of a number, and of a list of numbers. -/
namespace Go.Proofs.Ytbngfbpegdcpkaa
set_option linter.unusedVariables false
set_option linter.unusedSimpArgs false
set_option maxRecDepth 100000
def I64 (i : Int) : Prop := -9223372036854775808 ≤ i ∧ i ≤ 9223372036854775807
/-- a list of whole numbers as rows -/
def intRows (l : List Int) : List (List AV) := l.map fun x => [.int .i64 x]
inductive KnowAV : AV → List Int → Prop
  | row (l : List Int) : l.length ≤ maxLen → (∀ x ∈ l, I64 x) → KnowAV (.isl 1 (intRows l)) l
theorem int_shape {n : Nat} {xs : List AV} (h : shapeOf Try.prog (n + 1) 3 xs) : ∃ i, xs = [.int .i64 i] ∧ I64 i := by
  simp only [shapeOf, Try.underlying3] at h
  obtain ⟨i, rfl, h1, h2⟩ := h
  exact ⟨i, rfl, by simpa [IntKind.min, IntKind.signed, IntKind.bits] using h1, by simpa [IntKind.max, IntKind.signed, IntKind.bits] using h2⟩
theorem rows_ints {n : Nat} : ∀ {rows : List (List AV)}, (∀ r ∈ rows, shapeOf Try.prog (n + 1) 3 r) → ∃ l, rows = intRows l ∧ ∀ x ∈ l, I64 x
  | [], _ => ⟨[], rfl, by simp⟩
  | r :: rows, h => by
    obtain ⟨i, rfl, hi⟩ := int_shape (h r (by simp))
    obtain ⟨l, rfl, hl⟩ := rows_ints (rows := rows) (fun r hr => h r (by simp [hr]))
    exact ⟨i :: l, rfl, by simpa using ⟨hi, hl⟩⟩
theorem ints_shape {n : Nat} {xs : List AV} (h : shapeOf Try.prog (n + 2) 22 xs) : ∃ k l, xs = [k] ∧ KnowAV k l := by
  simp only [shapeOf, Try.underlying22] at h
  obtain ⟨rows, rfl, h1, h2⟩ := h
  · obtain ⟨l, rfl, hl⟩ := rows_ints (n := n) h2
    have : Try.prog.cellsOf 3 = 1 := by kernel_rfl
    rw [this]
    exact ⟨_, l, rfl, .row l (by simpa [intRows] using h1) hl⟩
end Go.Proofs.Ytbngfbpegdcpkaa
/-! Joined texts. -/
namespace Go.Proofs.Ytbngfbpegdcpkaa
set_option linter.unusedVariables false
set_option linter.unusedSimpArgs false
set_option maxRecDepth 100000
/-! The laws of layer 18: are two lists the same; is a state small; a key. -/
section
theorem same_pure (a b : List Int) (ha : a.length ≤ 1000000000) : Pure Try.prog 21 [il a, il b] (.bool (decide (a = b))) := by
  refine pure_vc Try.mixed ok21 rfl (fun q => ?_)
  simp only [params, Nat.zero_add, Nat.reduceAdd]
  repeat' (first | (simp (disch := omega) only [sel_t, sel_f, sel_dt, sel_df, sel_nt, sel_nf, v_lss, v_leq, v_gtr, v_geq, v_eql, v_neq, v_add, v_sub, v_not, v_min, v_max, v_pick_t, v_pick_f, v_ext0, v_ext1, v_ext2, v_len_isl, List.length_map, v_len_nils, v_len_sl0, v_len_sl, v_ix_map, v_ix_sl, v_nil_ptr, v_nil_iptr, v_fa_ptr, v_fa_iptr, cell_0, cell_s, cell_a2, cell_a3, cell_a7, cell_a10, v_load_map, v_load_r1, v_call_fn, v_call_fnS, v_load_H, ldH_one, ldH_map, v_store_H, stH_one, upd_same, upd_cons_ne, upd_nil, v_box, v_fld, eqs_nils, eqs_sl, v_eqs_ii, v_neqs_ii, sel_andt, sel_andf, sel_nandt, sel_nandf, encI, Int.toNat_natCast, lq_e, lq_r, Bool.not_true, Bool.not_false, Bool.false_eq_true, reduceIte, decide_true, decide_false, v_build_fill, v_buildS_fill, fill_nil, fill_cons, AV.cells, putL, chunk, List.length_cons, List.length_nil, Nat.reduceAdd, Nat.reduceDiv, Nat.reduceMod, List.take_succ_cons, List.take_zero, List.take_nil, List.drop_succ_cons, List.drop_zero, List.drop_nil, List.cons_append, List.nil_append, List.append_nil, List.all_cons, List.all_nil, AV.one, Nat.reduceLeDiff, and_self, and_true, true_and, Nat.zero_add, ne_eq, Nat.succ_ne_zero, not_false_eq_true, Bool.and_self, Nat.reduceEqDiff, Nat.le_refl, res21, q21_0_ret, q21_0_e0, vt21, vt21_1, vt21_2, V21, V21_1, V21_2, k21_0, k21_1, k21_2, k21_3, k21_5, k21_6, k21_7, k21_8, k21_4, k21_9]) | (refine sel_d (fun _ => ?_) (fun _ => ?_)) | (refine sel_n (fun _ => ?_) (fun _ => ?_)) | (refine sel_and (fun _ => ?_) (fun _ => ?_)) | (refine sel_nand (fun _ => ?_) (fun _ => ?_)) | (refine And.intro (clash_quiet rfl) ?_) | (refine eqs_isl (fun _ => ?_) ?_) | (exfalso; omega; done))
  · rename_i hlen
    refine vp1 (congrArg AV.bool ?_)
    have : a ≠ b := fun e => hlen (by rw [e])
    simp [this]
  · rename_i hlen
    refine vloop (fun n r H c => ∃ i : Nat, r = [(0, il a), (1, il b), (5, .int .i64 i)] ∧ H = (fun _ => none) ∧ i ≤ a.length ∧ n = a.length - i ∧ ∀ k, k < i → nth a k = nth b k) a.length ⟨0, rfl, rfl, by omega, rfl, fun k hk => by omega⟩ ?_
    rintro n r H c ⟨i, rfl, rfl, hi, rfl, hk⟩
    repeat' (first | (simp (disch := omega) only [sel_t, sel_f, sel_dt, sel_df, sel_nt, sel_nf, v_lss, v_leq, v_gtr, v_geq, v_eql, v_neq, v_add, v_sub, v_not, v_min, v_max, v_pick_t, v_pick_f, v_ext0, v_ext1, v_ext2, v_len_isl, List.length_map, v_len_nils, v_len_sl0, v_len_sl, v_ix_map, v_ix_sl, v_nil_ptr, v_nil_iptr, v_fa_ptr, v_fa_iptr, cell_0, cell_s, cell_a2, cell_a3, cell_a7, cell_a10, v_load_map, v_load_r1, v_call_fn, v_call_fnS, v_load_H, ldH_one, ldH_map, v_store_H, stH_one, upd_same, upd_cons_ne, upd_nil, v_box, v_fld, eqs_nils, eqs_sl, v_eqs_ii, v_neqs_ii, sel_andt, sel_andf, sel_nandt, sel_nandf, encI, Int.toNat_natCast, lq_e, lq_r, Bool.not_true, Bool.not_false, Bool.false_eq_true, reduceIte, decide_true, decide_false, v_build_fill, v_buildS_fill, fill_nil, fill_cons, AV.cells, putL, chunk, List.length_cons, List.length_nil, Nat.reduceAdd, Nat.reduceDiv, Nat.reduceMod, List.take_succ_cons, List.take_zero, List.take_nil, List.drop_succ_cons, List.drop_zero, List.drop_nil, List.cons_append, List.nil_append, List.append_nil, List.all_cons, List.all_nil, AV.one, Nat.reduceLeDiff, and_self, and_true, true_and, Nat.zero_add, ne_eq, Nat.succ_ne_zero, not_false_eq_true, Bool.and_self, Nat.reduceEqDiff, Nat.le_refl, res21, q21_0_ret, q21_0_e0, vt21, vt21_1, vt21_2, V21, V21_1, V21_2, k21_0, k21_1, k21_2, k21_3, k21_5, k21_6, k21_7, k21_8, k21_4, k21_9]) | (refine sel_d (fun _ => ?_) (fun _ => ?_)) | (refine sel_n (fun _ => ?_) (fun _ => ?_)) | (refine sel_and (fun _ => ?_) (fun _ => ?_)) | (refine sel_nand (fun _ => ?_) (fun _ => ?_)) | (refine And.intro (clash_quiet rfl) ?_) | (refine eqs_isl (fun _ => ?_) ?_) | (exfalso; omega; done))
    · rename_i h1 h2
      refine vp1 (congrArg AV.bool ?_)
      have : a ≠ b := fun e => by rw [e] at h2; exact h2 rfl
      simp [this]
    · rename_i h1 h2
      refine lq_n (a.length - (i + 1)) (by omega) ⟨i + 1, rfl, rfl, by omega, rfl, fun k hk' => ?_⟩
      rcases Nat.lt_or_ge k i with h3 | h3
      · exact hk k h3
      · rw [show k = i by omega]; exact h2
    · have : a = b := nth_ext (by omega) (fun k hkl => hk k (by omega))
      subst this
      exact vp1 (by simp)
theorem same_refl (a : List Int) (ha : a.length ≤ 1000000000) : Pure Try.prog 21 [il a, il a] (.bool true) := by
  have h := same_pure a a ha
  rwa [decide_eq_true rfl] at h
def fewB (l kl : List Int) : Bool := decide (l.length ≤ 1100) && decide (kl.length ≤ 1100)
theorem few_pure (l kl : List Int) (a : Int) : Pure Try.prog 10 [.agg [il l, .int .i64 a, il kl]] (.bool (fewB l kl)) := by
  refine pure_vc Try.mixed ok10 rfl (fun q => ?_)
  simp only [params, Nat.zero_add, Nat.reduceAdd]
  repeat' (first | (simp (disch := omega) only [sel_t, sel_f, sel_dt, sel_df, sel_nt, sel_nf, v_lss, v_leq, v_gtr, v_geq, v_eql, v_neq, v_add, v_sub, v_not, v_min, v_max, v_pick_t, v_pick_f, v_ext0, v_ext1, v_ext2, v_len_isl, List.length_map, v_len_nils, v_len_sl0, v_len_sl, v_ix_map, v_ix_sl, v_nil_ptr, v_nil_iptr, v_fa_ptr, v_fa_iptr, cell_0, cell_s, cell_a2, cell_a3, cell_a7, cell_a10, v_load_map, v_load_r1, v_call_fn, v_call_fnS, v_load_H, ldH_one, ldH_map, v_store_H, stH_one, upd_same, upd_cons_ne, upd_nil, v_box, v_fld, eqs_nils, eqs_sl, v_eqs_ii, v_neqs_ii, sel_andt, sel_andf, sel_nandt, sel_nandf, encI, Int.toNat_natCast, lq_e, lq_r, Bool.not_true, Bool.not_false, Bool.false_eq_true, reduceIte, decide_true, decide_false, v_build_fill, v_buildS_fill, fill_nil, fill_cons, AV.cells, putL, chunk, List.length_cons, List.length_nil, Nat.reduceAdd, Nat.reduceDiv, Nat.reduceMod, List.take_succ_cons, List.take_zero, List.take_nil, List.drop_succ_cons, List.drop_zero, List.drop_nil, List.cons_append, List.nil_append, List.append_nil, List.all_cons, List.all_nil, AV.one, Nat.reduceLeDiff, and_self, and_true, true_and, Nat.zero_add, ne_eq, Nat.succ_ne_zero, not_false_eq_true, Bool.and_self, Nat.reduceEqDiff, Nat.le_refl, res10, vt10, V10, k10_0, k10_1, k10_2, k10_3]) | (refine sel_d (fun _ => ?_) (fun _ => ?_)) | (refine sel_n (fun _ => ?_) (fun _ => ?_)) | (refine sel_and (fun _ => ?_) (fun _ => ?_)) | (refine sel_nand (fun _ => ?_) (fun _ => ?_)) | (refine And.intro (clash_quiet rfl) ?_) | (refine eqs_isl (fun _ => ?_) ?_) | (exfalso; omega; done))
  · refine vp1 (congrArg AV.bool ?_)
    rename_i h
    have h' : l.length ≤ 1100 := by omega
    simp [fewB, h']
    omega
  · refine vp1 (congrArg AV.bool ?_)
    rename_i h
    have h' : ¬ l.length ≤ 1100 := by omega
    simp [fewB, h']
theorem key_pure (k r : Int) : Pure Try.prog 13 [.agg [.int .i64 k, .int .i64 r]] (.agg [.int .i64 k, .int .i64 r]) := by
  refine pure_vc Try.mixed ok13 rfl (fun q => ?_)
  simp only [params, Nat.zero_add, Nat.reduceAdd]
  repeat' (first | (simp (disch := omega) only [sel_t, sel_f, sel_dt, sel_df, sel_nt, sel_nf, v_lss, v_leq, v_gtr, v_geq, v_eql, v_neq, v_add, v_sub, v_not, v_min, v_max, v_pick_t, v_pick_f, v_ext0, v_ext1, v_ext2, v_len_isl, List.length_map, v_len_nils, v_len_sl0, v_len_sl, v_ix_map, v_ix_sl, v_nil_ptr, v_nil_iptr, v_fa_ptr, v_fa_iptr, cell_0, cell_s, cell_a2, cell_a3, cell_a7, cell_a10, v_load_map, v_load_r1, v_call_fn, v_call_fnS, v_load_H, ldH_one, ldH_map, v_store_H, stH_one, upd_same, upd_cons_ne, upd_nil, v_box, v_fld, eqs_nils, eqs_sl, v_eqs_ii, v_neqs_ii, sel_andt, sel_andf, sel_nandt, sel_nandf, encI, Int.toNat_natCast, lq_e, lq_r, Bool.not_true, Bool.not_false, Bool.false_eq_true, reduceIte, decide_true, decide_false, v_build_fill, v_buildS_fill, fill_nil, fill_cons, AV.cells, putL, chunk, List.length_cons, List.length_nil, Nat.reduceAdd, Nat.reduceDiv, Nat.reduceMod, List.take_succ_cons, List.take_zero, List.take_nil, List.drop_succ_cons, List.drop_zero, List.drop_nil, List.cons_append, List.nil_append, List.append_nil, List.all_cons, List.all_nil, AV.one, Nat.reduceLeDiff, and_self, and_true, true_and, Nat.zero_add, ne_eq, Nat.succ_ne_zero, not_false_eq_true, Bool.and_self, Nat.reduceEqDiff, Nat.le_refl, res13, vt13, V13]) | (refine sel_d (fun _ => ?_) (fun _ => ?_)) | (refine sel_n (fun _ => ?_) (fun _ => ?_)) | (refine sel_and (fun _ => ?_) (fun _ => ?_)) | (refine sel_nand (fun _ => ?_) (fun _ => ?_)) | (refine And.intro (clash_quiet rfl) ?_) | (refine eqs_isl (fun _ => ?_) ?_) | (exfalso; omega; done))
  exact vpc1 upd_same rfl (.refl _)
theorem ldH_at {n e j i : Nat} {g : Bool} {rows : List (List AV)} {r : List AV} {l : Lab} {KL : AV → Option (List Lab) → Prop} (h : rows[i]? = some r) : vLdH n g (some (.rows e rows)) l e i j KL = vCell n g r j fun x => KL x (some [l]) := by simp [vLdH, h]
theorem fr_none {Z : Lab → Prop} {H : Heap} {x y : AV} : Fr Z H (.agg [x, y, .nils]) (.agg [x, y, il []]) := Fr.agg3 (.refl _) (.refl _) (.nils 1)
theorem doR_mk {l kl : List Int} {p : Nat} {A : List (Int × Int × Int)} : doR ⟨l, p, kl, A⟩ = .tuple [.agg [il l, .int .i64 p, il kl], .isl 3 (A.map encA)] := rfl
theorem do_left (l kl : List Int) (a : Int) : doS l a kl 7 0 = ⟨l, heldN l.length (heldN l.length a - 1), kl, []⟩ := rfl
theorem do_right (l kl : List Int) (a : Int) : doS l a kl 6 0 = ⟨l, heldN l.length (heldN l.length a + 1), kl, []⟩ := rfl
theorem do_home (l kl : List Int) (a : Int) : doS l a kl 8 0 = ⟨l, 0, kl, []⟩ := rfl
theorem do_endk (l kl : List Int) (a : Int) : doS l a kl 9 0 = ⟨l, l.length, kl, []⟩ := rfl
theorem do_wback (l kl : List Int) (a : Int) : doS l a kl 3 98 = ⟨l, (wordBack l (heldN l.length (heldN l.length a : Nat))).toNat, kl, []⟩ := rfl
theorem do_won (l kl : List Int) (a : Int) : doS l a kl 3 102 = ⟨l, wordOn l (heldN l.length (heldN l.length a : Nat)), kl, []⟩ := rfl
end
/-! The shapes of a state and of a key. -/
section
theorem bool_shape {n : Nat} {xs : List AV} (h : shapeOf Try.prog (n + 1) 4 xs) : ∃ b, xs = [.bool b] := by
  simp only [shapeOf, Try.underlying4] at h
  exact h
theorem state_shape {n : Nat} {xs : List AV} (h : shapeOf Try.prog (n + 3) 24 xs) : ∃ l a kl, xs = [.isl 1 (intRows l), .int .i64 a, .isl 1 (intRows kl)] ∧ I64 a := by
  unfold shapeOf at h
  simp only [Try.underlying24, shapeFs] at h
  obtain ⟨a, x, rfl, _, h1, b, y, rfl, _, h2, c, z, rfl, _, h3, rfl⟩ := h
  obtain ⟨k, l, rfl, g1⟩ := ints_shape h1
  obtain ⟨i, rfl, g2⟩ := int_shape h2
  obtain ⟨k2, l2, rfl, g3⟩ := ints_shape h3
  cases g1
  cases g3
  exact ⟨_, i, _, rfl, g2⟩
theorem key_shape {n : Nat} {xs : List AV} (h : shapeOf Try.prog (n + 2) 26 xs) : ∃ k r, xs = [.int .i64 k, .int .i64 r] ∧ I64 k ∧ I64 r := by
  unfold shapeOf at h
  simp only [Try.underlying26, shapeFs] at h
  obtain ⟨a, x, rfl, _, h1, b, y, rfl, _, h2, rfl⟩ := h
  obtain ⟨i, rfl, hi⟩ := int_shape h1
  obtain ⟨j, rfl, hj⟩ := int_shape h2
  exact ⟨i, j, rfl, hi, hj⟩
theorem il_intRows {l : List Int} : AV.isl 1 (intRows l) = il l := rfl
theorem par_state {x y z : AV} : parOf Try.prog 24 [x, y, z] = .agg [x, y, z] := by simp [parOf, Try.underlying24]
theorem par_key {x y : AV} : parOf Try.prog 26 [x, y] = .agg [x, y] := by simp [parOf, Try.underlying26]
theorem par_int {x : AV} : parOf Try.prog 3 [x] = x := by simp [parOf, Try.underlying3]
theorem par_ints {x : AV} : parOf Try.prog 22 [x] = x := by simp [parOf, Try.underlying22]
end
/-- onto one's own, what another row holds; the labels to come stay free -/
theorem app_own_f {H : Heap} {p : Lab} {KK : KF} {x y : AV} {e b c k : Nat} {rows src : List (List AV)} {ls : List Lab} (h : Own H x e rows) (hs : aRows e y H = some (src, ls)) (hf : Fresh p c H) (hc : c ≤ k) (he : 0 < e) (h1 : (rows.length + src.length) * b ≤ 140737488355328) (h2 : rows.length + src.length ≤ 4611686018427387904)
    (hk : ∀ x' H' l f, Own H' x' e (rows ++ src) → Fresh p (k + 1) H' → KeepBut x H H' → KK x' H' l f) : vGen (.append e b) [x, y] H (k :: p) KK := by
  have hq : H (k :: p) = none := hf.at hc
  have hfn : ∀ o, Fresh p (k + 1) (upd [(k :: p, o)] H) := fun o j s hj => by
    simp only [Ytbngfbpegdcpkaa.upd, if_neg (app_ne (p := p) (s := s) (show j ≠ k by omega))]
    exact hf j s (by omega)
  by_cases hne : src = []
  · subst hne
    refine ⟨.pure x, ?_, hk x H [] (some []) (by simpa using h) (hf.mono (by omega)) (fun k o hk _ => hk)⟩
    rcases h with ⟨rfl, rfl⟩ | ⟨l, rfl, hl⟩ <;> simp [aop, aAppend, hs]
  · have hn : src.isEmpty = false := by cases src <;> simp at hne ⊢
    rcases h with ⟨rfl, rfl⟩ | ⟨l, rfl, hl⟩
    · refine ⟨⟨.sl (k :: p) e 0 src.length, [(k :: p, some (.rows e src))], some ls⟩, ?_, hk _ _ _ _ (.inr ⟨k :: p, by simp, by simp [upd]⟩) (hfn _) (fun j o hk' _ => ?_)⟩
      · simp only [List.length_nil, Nat.zero_add] at h1 h2
        simp [aop, aAppend, hs, hn, he, h1, h2]
        exact fun h => absurd h hne
      · simp only [upd]
        rw [if_neg (fun e => by rw [e, hq] at hk'; cases hk')]; exact hk'
    · refine ⟨⟨.sl (k :: p) e 0 (rows.length + src.length), [(k :: p, some (.rows e (rows ++ src))), (l, none)], some (l :: ls)⟩, ?_, hk _ _ _ _ (.inr ⟨k :: p, by simp, by simp [upd]⟩) (fun j s hj => ?_) (fun j o hk' hx => ?_)⟩
      · simp [aop, aAppend, hs, hn, hl, he, h1, h2]
        exact fun h => absurd h hne
      · simp only [upd, if_neg (app_ne (p := p) (s := s) (show j ≠ k by omega))]
        rw [hf j s (by omega)]; split <;> rfl
      · simp only [upd]
        rw [if_neg (fun e => by rw [e, hq] at hk'; cases hk'), if_neg (fun e' => hx e 0 rows.length (by rw [e']))]; exact hk'
end Go.Proofs.Ytbngfbpegdcpkaa
/-! What is owed of functions of the program, as formulas. -/
namespace Go.Proofs.Ytbngfbpegdcpkaa
set_option maxRecDepth 100000
set_option linter.unusedVariables false
set_option linter.unusedSimpArgs false
def b18_1 : ACode := (.seq (.region [⟨(some 13), none, (.bin .lss .num), [.t 12, .t 11]⟩] none [0, 10, 11, 12, 13])
  (.seq (.cond (.t 13) .skip
  (.exit 0))
  (.seq (.block 1 (.seq (.region [⟨(some 14), none, (.indexAddr 3), [.t 10, .t 12]⟩, ⟨(some 15), none, (.load 3 true), [.t 14]⟩, ⟨(some 7), none, (.alloc [(.int .i64 0), (.int .i64 0), (.int .i64 0)]), []⟩, ⟨none, none, (.store 3), [.t 7, .t 15]⟩] none [0, 7, 10, 11, 12])
  (.block 2 (.seq (.region [⟨(some 17), none, (.fieldAddr 1), [.t 7]⟩, ⟨(some 18), none, (.load 1 false), [.t 17]⟩, ⟨(some 19), none, (.bin .lss .num), [.t 18, .c (.int .i64 0)]⟩, ⟨(some 20), none, .move, [.t 19]⟩, ⟨(some 21), (some (20, false)), (.fieldAddr 1), [.t 7]⟩, ⟨(some 22), (some (20, false)), (.load 1 false), [.t 21]⟩, ⟨(some 23), (some (20, false)), .move, [.t 0]⟩, ⟨(some 24), (some (20, false)), (.len .slice), [.t 23]⟩, ⟨(some 25), (some (20, false)), (.bin .gtr .num), [.t 22, .t 24]⟩, ⟨(some 26), none, .pick, [.t 20, .c (.bool true), .t 25]⟩, ⟨(some 16), none, .move, [.t 26]⟩] none [0, 7, 10, 11, 12, 16])
  (.cond (.t 16) (.seq (.region [⟨(some 4), none, .move, [.c .nils]⟩, ⟨(some 5), none, .move, [.c (.bool false)]⟩] none [4, 5])
  .ret)
  (.seq (.region [⟨(some 28), none, (.fieldAddr 0), [.t 7]⟩, ⟨(some 29), none, (.load 1 false), [.t 28]⟩, ⟨(some 30), none, (.bin .eql .num), [.t 29, .c (.int .i64 1)]⟩, ⟨(some 27), none, .move, [.t 30]⟩] none [0, 7, 10, 11, 12, 27])
  (.cond (.t 27) (.region [⟨(some 31), none, .move, [.t 0]⟩, ⟨(some 32), none, (.fieldAddr 1), [.t 7]⟩, ⟨(some 33), none, (.load 1 false), [.t 32]⟩, ⟨(some 34), none, (.fieldAddr 2), [.t 7]⟩, ⟨(some 35), none, (.load 1 false), [.t 34]⟩, ⟨(some 36), none, (.buildSlice 1 [(.int .i64 0)] [(0, 1)]), [.t 35]⟩, ⟨(some 37), none, .call, [.c (.fn (.func 33) [] []), .t 31, .t 33, .t 36]⟩, ⟨(some 0), none, .move, [.t 37]⟩] none [0, 10, 11, 12])
  (.seq (.region [⟨(some 39), none, (.fieldAddr 0), [.t 7]⟩, ⟨(some 40), none, (.load 1 false), [.t 39]⟩, ⟨(some 41), none, (.bin .eql .num), [.t 40, .c (.int .i64 2)]⟩, ⟨(some 42), none, .move, [.t 41]⟩, ⟨(some 43), (some (42, true)), (.fieldAddr 1), [.t 7]⟩, ⟨(some 44), (some (42, true)), (.load 1 false), [.t 43]⟩, ⟨(some 45), (some (42, true)), .move, [.t 0]⟩, ⟨(some 46), (some (42, true)), (.len .slice), [.t 45]⟩, ⟨(some 47), (some (42, true)), (.bin .lss .num), [.t 44, .t 46]⟩, ⟨(some 48), none, .pick, [.t 42, .t 47, .c (.bool false)]⟩, ⟨(some 38), none, .move, [.t 48]⟩] none [0, 7, 10, 11, 12, 38])
  (.cond (.t 38) (.region [⟨(some 49), none, .move, [.t 0]⟩, ⟨(some 50), none, (.fieldAddr 1), [.t 7]⟩, ⟨(some 51), none, (.load 1 false), [.t 50]⟩, ⟨(some 52), none, (.fieldAddr 1), [.t 7]⟩, ⟨(some 53), none, (.load 1 false), [.t 52]⟩, ⟨(some 54), none, (.bin .add .num), [.t 53, .c (.int .i64 1)]⟩, ⟨(some 55), none, .call, [.c (.fn (.func 34) [] []), .t 49, .t 51, .t 54]⟩, ⟨(some 0), none, .move, [.t 55]⟩] none [0, 10, 11, 12])
  (.seq (.region [⟨(some 4), none, .move, [.c .nils]⟩, ⟨(some 5), none, .move, [.c (.bool false)]⟩] none [4, 5])
  .ret))))))))))
  (.region [⟨(some 56), none, (.bin .add .num), [.t 12, .c (.int .i64 1)]⟩, ⟨(some 12), none, .move, [.t 56]⟩] none [0, 10, 11, 12]))))
def l18_1 : ACode := .loop [0, 10, 11, 12] b18_1
def r18_2 : ACode := (.seq (.region [⟨(some 57), none, .move, [.t 0]⟩, ⟨(some 4), none, .move, [.t 57]⟩, ⟨(some 5), none, .move, [.c (.bool true)]⟩] none [4, 5])
  .ret)
/-- duet/edit.Apply -/
def c18 : AFun := ⟨2, 58, [.tmp 4, .tmp 5],
  (.seq (.region [⟨(some 4), none, .move, [.c .nils]⟩, ⟨(some 5), none, .move, [.c (.bool false)]⟩] none [0, 1])
  (.seq (.region [⟨(some 8), none, .move, [.t 0]⟩, ⟨(some 9), none, .call, [.c (.fn (.func 25) [] []), .t 8]⟩, ⟨(some 0), none, .move, [.t 9]⟩] none [0, 1])
  (.seq (.seq (.region [⟨(some 10), none, .move, [.t 1]⟩, ⟨(some 11), none, (.len .slice), [.t 10]⟩, ⟨(some 12), none, .move, [.c (.int .i64 0)]⟩] none [0, 10, 11, 12])
  (.block 0 l18_1)) r18_2)))⟩
theorem ok18 : FunOk Try.prog 18 c18 := ⟨⟨Try.f18, _, Try.func18, rfl, by kernel_rfl, by kernel_rfl, by kernel_rfl, by kernel_rfl⟩, by decide⟩
theorem res18 : c18.res = [.tmp 4, .tmp 5] := rfl
def q18_0 (P : Program) (p : Lab) (Q : VPost) : VPost := (vblockQ 0 (vseqQ (vc P p r18_2 Q) Q))
theorem q18_0_ret (P : Program) (p : Lab) (Q : VPost) (r : RL) (H : Heap) (c : Nat) : q18_0 P p Q .ret r H c = Q .ret r H c := rfl
def V18 (P : Program) (p : Lab) (Q : VPost) (x0 x1 : AV) (H : Heap) (c : Nat) : Prop :=
  vCall true P 25 [x0] H ((c + 3) :: p) (fun v9_3 H3 l3 f3 =>
  vLen x1 fun v11_6 =>
  vc P p l18_1 (q18_0 P p Q) [(0, v9_3), (10, x1), (11, v11_6), (12, (.int .i64 0))] H3 (c + 8))
theorem vt18 (P : Program) (p : Lab) (Q : VPost) (x0 x1 : AV) (H : Heap) (c : Nat) : vc P p c18.body Q [(0, x0), (1, x1)] H c = V18 P p Q x0 x1 H c := by kernel_rfl
def k18_1 (P : Program) (p : Lab) (Q : VPost) (y0 : AV) (y7 : AV) (y10 : AV) (y11 : AV) (y12 : AV) (H : Heap) (c : Nat) : Prop :=
  Q .ret [(4, .nils), (5, (.bool false))] H (c + 2)
def k18_2 (P : Program) (p : Lab) (Q : VPost) (H12 : Heap) (y0 : AV) (y10 : AV) (y11 : AV) (y12 : AV) (c : Nat) (_ : Unit) : Prop :=
  (k18_1 P p Q y0 (.ptr ((c + 2) :: p) 3 0 0) y10 y11 y12 H12 (c + 15))
def k18_4 (P : Program) (p : Lab) (Q : VPost)  (H : Heap) (c : Nat) : Prop :=
  Q .ret [(4, .nils), (5, (.bool false))] H c
def k18_5 (P : Program) (p : Lab) (Q : VPost) (H : Heap) (c : Nat) (_ : Unit) : Prop :=
  (k18_4 P p Q  H (c + 2))
def k18_8 (P : Program) (p : Lab) (Q : VPost) (y10 : AV) (y11 : AV) (y12 : AV) (c : Nat) (v37_40 : AV) (H40 : Heap) (l40 : List Lab) (f40 : Option (List Lab)) : Prop :=
  vBin .add .num y12 (.int .i64 1) fun v56_42 =>
  Q .normal [(0, v37_40), (10, y10), (11, y11), (12, v56_42)] H40 (c + 10)
def k18_7 (P : Program) (p : Lab) (Q : VPost) (y0 : AV) (y7 : AV) (y10 : AV) (y11 : AV) (y12 : AV) (H : Heap) (c : Nat) : Prop :=
  vFA 1 y7 fun v32_35 =>
  vLoad 1 false v32_35 H fun v33_36 _ =>
  vFA 2 y7 fun v34_37 =>
  vLoad 1 false v34_37 H fun v35_38 _ =>
  vBuildS 1 [(.int .i64 0)] [(0, 1)] [v35_38] fun w39 n39 =>
  (fun (H39 : Heap) =>
  vCall true P 33 [y0, v33_36, (.sl ((c + 5) :: p) 1 0 n39)] H39 ((c + 6) :: p) (k18_8 P p Q y10 y11 y12 c)) (upd [(((c + 5) :: p), some (.rows 1 w39))] H)
def k18_9 (P : Program) (p : Lab) (Q : VPost) (y0 : AV) (y7 : AV) (y10 : AV) (y11 : AV) (y12 : AV) (H : Heap) (c : Nat) (_ : Unit) : Prop :=
  (k18_7 P p Q y0 y7 y10 y11 y12 H (c + 4))
def k18_13 (P : Program) (p : Lab) (Q : VPost) (y10 : AV) (y11 : AV) (y12 : AV) (c : Nat) (v55_61 : AV) (H61 : Heap) (l61 : List Lab) (f61 : Option (List Lab)) : Prop :=
  vBin .add .num y12 (.int .i64 1) fun v56_63 =>
  Q .normal [(0, v55_61), (10, y10), (11, y11), (12, v56_63)] H61 (c + 10)
def k18_12 (P : Program) (p : Lab) (Q : VPost) (y0 : AV) (y7 : AV) (y10 : AV) (y11 : AV) (y12 : AV) (H : Heap) (c : Nat) : Prop :=
  vFA 1 y7 fun v50_56 =>
  vLoad 1 false v50_56 H fun v51_57 _ =>
  vFA 1 y7 fun v52_58 =>
  vLoad 1 false v52_58 H fun v53_59 _ =>
  vBin .add .num v53_59 (.int .i64 1) fun v54_60 =>
  vCall true P 34 [y0, v51_57, v54_60] H ((c + 6) :: p) (k18_13 P p Q y10 y11 y12 c)
def k18_14 (P : Program) (p : Lab) (Q : VPost) (y0 : AV) (y7 : AV) (y10 : AV) (y11 : AV) (y12 : AV) (H : Heap) (c : Nat) (_ : Unit) : Prop :=
  (k18_12 P p Q y0 y7 y10 y11 y12 H c)
def k18_15 (P : Program) (p : Lab) (Q : VPost) (H : Heap) (c : Nat) (_ : Unit) : Prop :=
  (k18_4 P p Q  H (c + 2))
def k18_11 (P : Program) (p : Lab) (Q : VPost) (y0 : AV) (y7 : AV) (y10 : AV) (y11 : AV) (y12 : AV) (y38 : AV) (H : Heap) (c : Nat) : Prop :=
  vSel y38
  (k18_14 P p Q y0 y7 y10 y11 y12 H c)
  (k18_15 P p Q H c)
def k18_16 (P : Program) (p : Lab) (Q : VPost) (y0 : AV) (y7 : AV) (y10 : AV) (y11 : AV) (y12 : AV) (H : Heap) (c : Nat) (_ : Unit) : Prop :=
  vFA 1 y7 fun v43_48 =>
  vLoad 1 false v43_48 H fun v44_49 _ =>
  vLen y0 fun v46_51 =>
  vBin .lss .num v44_49 v46_51 fun v47_52 =>
  (k18_11 P p Q y0 y7 y10 y11 y12 v47_52 H (c + 11))
def k18_17 (P : Program) (p : Lab) (Q : VPost) (y0 : AV) (y7 : AV) (y10 : AV) (y11 : AV) (y12 : AV) (H : Heap) (c : Nat) : Prop :=
  Q .ret [(4, .nils), (5, (.bool false))] H (c + 2)
def k18_18 (P : Program) (p : Lab) (Q : VPost) (y0 : AV) (y7 : AV) (y10 : AV) (y11 : AV) (y12 : AV) (H : Heap) (c : Nat) (_ : Unit) : Prop :=
  (k18_17 P p Q y0 y7 y10 y11 y12 H (c + 11))
def k18_10 (P : Program) (p : Lab) (Q : VPost) (y0 : AV) (y7 : AV) (y10 : AV) (y11 : AV) (y12 : AV) (H : Heap) (c : Nat) : Prop :=
  vFA 0 y7 fun v39_44 =>
  vLoad 1 false v39_44 H fun v40_45 _ =>
  vBin .eql .num v40_45 (.int .i64 2) fun v41_46 =>
  vSel v41_46
  (k18_16 P p Q y0 y7 y10 y11 y12 H c)
  (k18_18 P p Q y0 y7 y10 y11 y12 H c)
def k18_19 (P : Program) (p : Lab) (Q : VPost) (y0 : AV) (y7 : AV) (y10 : AV) (y11 : AV) (y12 : AV) (H : Heap) (c : Nat) (_ : Unit) : Prop :=
  (k18_10 P p Q y0 y7 y10 y11 y12 H (c + 4))
def k18_6 (P : Program) (p : Lab) (Q : VPost) (y0 : AV) (y7 : AV) (y10 : AV) (y11 : AV) (y12 : AV) (H : Heap) (c : Nat) : Prop :=
  vFA 0 y7 fun v28_30 =>
  vLoad 1 false v28_30 H fun v29_31 _ =>
  vBin .eql .num v29_31 (.int .i64 1) fun v30_32 =>
  vSel v30_32
  (k18_9 P p Q y0 y7 y10 y11 y12 H c)
  (k18_19 P p Q y0 y7 y10 y11 y12 H c)
def k18_20 (P : Program) (p : Lab) (Q : VPost) (y0 : AV) (y7 : AV) (y10 : AV) (y11 : AV) (y12 : AV) (H : Heap) (c : Nat) (_ : Unit) : Prop :=
  (k18_6 P p Q y0 y7 y10 y11 y12 H c)
def k18_3 (P : Program) (p : Lab) (Q : VPost) (y0 : AV) (y7 : AV) (y10 : AV) (y11 : AV) (y12 : AV) (y16 : AV) (H : Heap) (c : Nat) : Prop :=
  vSel y16
  (k18_5 P p Q H c)
  (k18_20 P p Q y0 y7 y10 y11 y12 H c)
def k18_21 (P : Program) (p : Lab) (Q : VPost) (H12 : Heap) (y0 : AV) (y10 : AV) (y11 : AV) (y12 : AV) (c : Nat) (_ : Unit) : Prop :=
  vFA 1 (.ptr ((c + 2) :: p) 3 0 0) fun v21_21 =>
  vLoad 1 false v21_21 H12 fun v22_22 _ =>
  vLen y0 fun v24_24 =>
  vBin .gtr .num v22_22 v24_24 fun v25_25 =>
  (k18_3 P p Q y0 (.ptr ((c + 2) :: p) 3 0 0) y10 y11 y12 v25_25 H12 (c + 15))
def k18_22 (P : Program) (p : Lab) (Q : VPost) (y0 : AV) (y10 : AV) (y11 : AV) (y12 : AV) (c : Nat) (v_12 : AV) (H12 : Heap) (l12 : List Lab) (f12 : Option (List Lab)) : Prop :=
  vFA 1 (.ptr ((c + 2) :: p) 3 0 0) fun v17_13 =>
  vLoad 1 false v17_13 H12 fun v18_14 _ =>
  vBin .lss .num v18_14 (.int .i64 0) fun v19_15 =>
  vSel v19_15
  (k18_2 P p Q H12 y0 y10 y11 y12 c)
  (k18_21 P p Q H12 y0 y10 y11 y12 c)
def k18_0 (P : Program) (p : Lab) (Q : VPost) (y0 : AV) (y10 : AV) (y11 : AV) (y12 : AV) (y13 : AV) (H : Heap) (c : Nat) : Prop :=
  vIx 3 y10 y12 fun v14_9 =>
  vLoad 3 true v14_9 H fun v15_10 _ =>
  (fun (H11 : Heap) =>
  vGen (.store 3) [(.ptr ((c + 2) :: p) 3 0 0), v15_10] H11 ((c + 3) :: p) (k18_22 P p Q y0 y10 y11 y12 c)) (upd [(((c + 2) :: p), some (.rows 3 [[(.int .i64 0), (.int .i64 0), (.int .i64 0)]]))] H)
def k18_23 (P : Program) (p : Lab) (Q : VPost) (v13_8 : AV) (x0 : AV) (x10 : AV) (x11 : AV) (x12 : AV) (H : Heap) (c : Nat) (_ : Unit) : Prop :=
  (k18_0 P p Q x0 x10 x11 x12 v13_8 H (c + 1))
def V18_1 (P : Program) (p : Lab) (Q : VPost) (x0 x10 x11 x12 : AV) (H : Heap) (c : Nat) : Prop :=
  vBin .lss .num x12 x11 fun v13_8 =>
  vSel v13_8
  (k18_23 P p Q v13_8 x0 x10 x11 x12 H c)
  (fun _ =>
  Q (.exit 0) [(0, x0), (10, x10), (11, x11), (12, x12), (13, v13_8)] H (c + 1))
theorem vt18_1 (P : Program) (p : Lab) (Q : VPost) (x0 x10 x11 x12 : AV) (H : Heap) (c : Nat) : vc P p b18_1 Q [(0, x0), (10, x10), (11, x11), (12, x12)] H c = V18_1 P p Q x0 x10 x11 x12 H c := by kernel_rfl
theorem q18_0_e0 (P : Program) (p : Lab) (Q : VPost) (r : RL) (H : Heap) (c : Nat) : q18_0 P p Q (.exit 0) r H c = (vc P p r18_2 Q r H c) := rfl
def V18_2 (P : Program) (p : Lab) (Q : VPost) (x0 x10 x11 x12 x13 : AV) (H : Heap) (c : Nat) : Prop :=
  Q .ret [(4, x0), (5, (.bool true))] H (c + 3)
theorem vt18_2 (P : Program) (p : Lab) (Q : VPost) (x0 x10 x11 x12 x13 : AV) (H : Heap) (c : Nat) : vc P p r18_2 Q [(0, x0), (10, x10), (11, x11), (12, x12), (13, x13)] H c = V18_2 P p Q x0 x10 x11 x12 x13 H c := by kernel_rfl


/-- duet/duetlaw18.EditActs -/
def c5 : AFun := ⟨2, 66, [.tmp 4],
  (.seq (.region [⟨(some 2), none, .box, [.t 0]⟩, ⟨(some 3), none, .box, [.t 1]⟩, ⟨(some 4), none, .move, [.c (.bool false)]⟩] none [2, 3])
  (.seq (.seq (.region [⟨(some 9), none, (.load 3 true), [.t 2]⟩, ⟨(some 10), none, .call, [.c (.fn (.func 10) [] []), .t 9]⟩, ⟨(some 11), none, (.un .not), [.t 10]⟩] none [2, 3, 11])
  (.cond (.t 11) (.seq (.region [⟨(some 12), none, .call, [.c (.fn (.func 11) [] [])]⟩, ⟨(some 4), none, .move, [.t 12]⟩] none [4])
  .ret)
  .skip))
  (.seq (.region [⟨(some 14), none, (.fieldAddr 0), [.t 2]⟩, ⟨(some 15), none, (.load 1 false), [.t 14]⟩, ⟨(some 16), none, (.fieldAddr 1), [.t 2]⟩, ⟨(some 17), none, (.load 1 false), [.t 16]⟩, ⟨(some 18), none, (.fieldAddr 2), [.t 2]⟩, ⟨(some 19), none, (.load 1 false), [.t 18]⟩, ⟨(some 20), none, (.build [.nils, (.int .i64 0), .nils] [(0, 1), (1, 1), (2, 1)]), [.t 15, .t 17, .t 19]⟩, ⟨(some 21), none, (.load 2 true), [.t 3]⟩, ⟨(some 22), none, .call, [.c (.fn (.func 13) [] []), .t 21]⟩, ⟨(some 23), none, .call, [.c (.fn (.func 12) [] []), .t 20, .t 22]⟩, ⟨(some 13), none, .move, [.t 23]⟩, ⟨(some 24), none, (.extract 0), [.t 13]⟩, ⟨(some 25), none, (.extract 1), [.t 13]⟩, ⟨(some 5), none, (.alloc [.nils, (.int .i64 0), .nils]), []⟩, ⟨none, none, (.store 3), [.t 5, .t 24]⟩, ⟨(some 6), none, .move, [.t 25]⟩] (some [0, 1, 0, 4, 0, 16, 63, 0, 128, 511, 1023, 2047, 2047, 0, 12287, 32767]) [2, 5, 6])
  (.seq (.region [⟨(some 27), none, (.fieldAddr 0), [.t 2]⟩, ⟨(some 28), none, (.load 1 false), [.t 27]⟩, ⟨(some 29), none, .move, [.t 6]⟩, ⟨(some 30), none, .call, [.c (.fn (.func 18) [] []), .t 28, .t 29]⟩, ⟨(some 26), none, .move, [.t 30]⟩, ⟨(some 31), none, (.extract 0), [.t 26]⟩, ⟨(some 32), none, (.extract 1), [.t 26]⟩, ⟨(some 7), none, .move, [.t 31]⟩, ⟨(some 8), none, .move, [.t 32]⟩] none [2, 5, 7, 8])
  (.seq (.region [⟨(some 33), none, .move, [.t 8]⟩, ⟨(some 34), none, .move, [.t 33]⟩, ⟨(some 35), (some (34, true)), .move, [.t 7]⟩, ⟨(some 36), (some (34, true)), (.fieldAddr 0), [.t 5]⟩, ⟨(some 37), (some (34, true)), (.load 1 false), [.t 36]⟩, ⟨(some 38), (some (34, true)), .call, [.c (.fn (.func 21) [] []), .t 35, .t 37]⟩, ⟨(some 39), none, .pick, [.t 34, .t 38, .c (.bool false)]⟩, ⟨(some 40), none, .move, [.t 39]⟩, ⟨(some 41), (some (40, true)), (.fieldAddr 1), [.t 5]⟩, ⟨(some 42), (some (40, true)), (.load 1 false), [.t 41]⟩, ⟨(some 43), (some (40, true)), (.bin .geq .num), [.t 42, .c (.int .i64 0)]⟩, ⟨(some 44), none, .pick, [.t 40, .t 43, .c (.bool false)]⟩, ⟨(some 45), none, .move, [.t 44]⟩, ⟨(some 46), (some (45, true)), (.fieldAddr 1), [.t 5]⟩, ⟨(some 47), (some (45, true)), (.load 1 false), [.t 46]⟩, ⟨(some 48), (some (45, true)), (.fieldAddr 0), [.t 5]⟩, ⟨(some 49), (some (45, true)), (.load 1 false), [.t 48]⟩, ⟨(some 50), (some (45, true)), (.len .slice), [.t 49]⟩, ⟨(some 51), (some (45, true)), (.bin .leq .num), [.t 47, .t 50]⟩, ⟨(some 52), none, .pick, [.t 45, .t 51, .c (.bool false)]⟩, ⟨(some 53), none, .move, [.t 52]⟩, ⟨(some 54), (some (53, true)), (.fieldAddr 0), [.t 5]⟩, ⟨(some 55), (some (53, true)), (.load 1 false), [.t 54]⟩, ⟨(some 56), (some (53, true)), (.len .slice), [.t 55]⟩, ⟨(some 57), (some (53, true)), (.fieldAddr 0), [.t 2]⟩, ⟨(some 58), (some (53, true)), (.load 1 false), [.t 57]⟩, ⟨(some 59), (some (53, true)), (.len .slice), [.t 58]⟩, ⟨(some 60), (some (53, true)), .max, [.c (.int .i64 1000), .t 59]⟩, ⟨(some 61), (some (53, true)), (.bin .leq .num), [.t 56, .t 60]⟩, ⟨(some 62), none, .pick, [.t 53, .t 61, .c (.bool false)]⟩, ⟨(some 63), none, .move, [.t 62]⟩, ⟨(some 64), (some (63, true)), .call, [.c (.fn (.func 11) [] [])]⟩, ⟨(some 65), none, .pick, [.t 63, .t 64, .c (.bool false)]⟩, ⟨(some 4), none, .move, [.t 65]⟩] none [4])
  .ret)))))⟩
theorem ok5 : FunOk Try.prog 5 c5 := ⟨⟨Try.f5, _, Try.func5, rfl, by kernel_rfl, by kernel_rfl, by kernel_rfl, by kernel_rfl⟩, by decide⟩
theorem res5 : c5.res = [.tmp 4] := rfl
def k5_0 (P : Program) (p : Lab) (Q : VPost) (y4 : AV) (H : Heap) (c : Nat) : Prop :=
  Q .ret [(4, y4)] H c
def k5_1 (P : Program) (p : Lab) (Q : VPost) (c : Nat) (v12_6 : AV) (H6 : Heap) (l6 : List Lab) (f6 : Option (List Lab)) : Prop :=
  (k5_0 P p Q v12_6 H6 (c + 8))
def k5_2 (P : Program) (p : Lab) (Q : VPost) (H4 : Heap) (c : Nat) (_ : Unit) : Prop :=
  vCall true P 11 [] H4 ((c + 6) :: p) (k5_1 P p Q c)
def k5_8 (P : Program) (p : Lab) (Q : VPost) (y4 : AV) (H : Heap) (c : Nat) : Prop :=
  Q .ret [(4, y4)] H c
def k5_9 (P : Program) (p : Lab) (Q : VPost) (c : Nat) (v64_64 : AV) (H64 : Heap) (l64 : List Lab) (f64 : Option (List Lab)) : Prop :=
  (k5_8 P p Q v64_64 H64 (c + 5))
def k5_10 (P : Program) (p : Lab) (Q : VPost) (H : Heap) (c : Nat) (_ : Unit) : Prop :=
  vCall false P 11 [] H ((c + 2) :: p) (k5_9 P p Q c)
def k5_11 (P : Program) (p : Lab) (Q : VPost)  (H : Heap) (c : Nat) : Prop :=
  Q .ret [(4, (.bool false))] H c
def k5_12 (P : Program) (p : Lab) (Q : VPost) (H : Heap) (c : Nat) (_ : Unit) : Prop :=
  (k5_11 P p Q  H (c + 5))
def k5_7 (P : Program) (p : Lab) (Q : VPost) (y61 : AV) (H : Heap) (c : Nat) : Prop :=
  vSel y61
  (k5_10 P p Q H c)
  (k5_12 P p Q H c)
def k5_13 (P : Program) (p : Lab) (Q : VPost) (y2 : AV) (y5 : AV) (H : Heap) (c : Nat) (_ : Unit) : Prop :=
  vFA 0 y5 fun v54_54 =>
  vLoad 1 false v54_54 H fun v55_55 _ =>
  vLen v55_55 fun v56_56 =>
  vFA 0 y2 fun v57_57 =>
  vLoad 1 false v57_57 H fun v58_58 _ =>
  vLen v58_58 fun v59_59 =>
  vMax (.int .i64 1000) v59_59 fun v60_60 =>
  vBin .leq .num v56_56 v60_60 fun v61_61 =>
  (k5_7 P p Q v61_61 H (c + 10))
def k5_14 (P : Program) (p : Lab) (Q : VPost)  (H : Heap) (c : Nat) : Prop :=
  (k5_11 P p Q  H (c + 5))
def k5_15 (P : Program) (p : Lab) (Q : VPost) (H : Heap) (c : Nat) (_ : Unit) : Prop :=
  (k5_14 P p Q  H (c + 10))
def k5_6 (P : Program) (p : Lab) (Q : VPost) (y2 : AV) (y5 : AV) (y51 : AV) (H : Heap) (c : Nat) : Prop :=
  vSel y51
  (k5_13 P p Q y2 y5 H c)
  (k5_15 P p Q H c)
def k5_16 (P : Program) (p : Lab) (Q : VPost) (y2 : AV) (y5 : AV) (H : Heap) (c : Nat) (_ : Unit) : Prop :=
  vFA 1 y5 fun v46_46 =>
  vLoad 1 false v46_46 H fun v47_47 _ =>
  vFA 0 y5 fun v48_48 =>
  vLoad 1 false v48_48 H fun v49_49 _ =>
  vLen v49_49 fun v50_50 =>
  vBin .leq .num v47_47 v50_50 fun v51_51 =>
  (k5_6 P p Q y2 y5 v51_51 H (c + 8))
def k5_18 (P : Program) (p : Lab) (Q : VPost)  (H : Heap) (c : Nat) : Prop :=
  (k5_11 P p Q  H (c + 5))
def k5_17 (P : Program) (p : Lab) (Q : VPost) (y2 : AV) (y5 : AV) (H : Heap) (c : Nat) : Prop :=
  (k5_18 P p Q  H (c + 10))
def k5_19 (P : Program) (p : Lab) (Q : VPost) (y2 : AV) (y5 : AV) (H : Heap) (c : Nat) (_ : Unit) : Prop :=
  (k5_17 P p Q y2 y5 H (c + 8))
def k5_5 (P : Program) (p : Lab) (Q : VPost) (y2 : AV) (y5 : AV) (y43 : AV) (H : Heap) (c : Nat) : Prop :=
  vSel y43
  (k5_16 P p Q y2 y5 H c)
  (k5_19 P p Q y2 y5 H c)
def k5_20 (P : Program) (p : Lab) (Q : VPost) (y2 : AV) (y5 : AV) (H : Heap) (c : Nat) (_ : Unit) : Prop :=
  vFA 1 y5 fun v41_41 =>
  vLoad 1 false v41_41 H fun v42_42 _ =>
  vBin .geq .num v42_42 (.int .i64 0) fun v43_43 =>
  (k5_5 P p Q y2 y5 v43_43 H (c + 5))
def k5_23 (P : Program) (p : Lab) (Q : VPost)  (H : Heap) (c : Nat) : Prop :=
  (k5_11 P p Q  H (c + 5))
def k5_22 (P : Program) (p : Lab) (Q : VPost) (y2 : AV) (y5 : AV) (H : Heap) (c : Nat) : Prop :=
  (k5_23 P p Q  H (c + 10))
def k5_21 (P : Program) (p : Lab) (Q : VPost) (y2 : AV) (y5 : AV) (H : Heap) (c : Nat) : Prop :=
  (k5_22 P p Q y2 y5 H (c + 8))
def k5_24 (P : Program) (p : Lab) (Q : VPost) (y2 : AV) (y5 : AV) (H : Heap) (c : Nat) (_ : Unit) : Prop :=
  (k5_21 P p Q y2 y5 H (c + 5))
def k5_4 (P : Program) (p : Lab) (Q : VPost) (y2 : AV) (y5 : AV) (y38 : AV) (H : Heap) (c : Nat) : Prop :=
  vSel y38
  (k5_20 P p Q y2 y5 H c)
  (k5_24 P p Q y2 y5 H c)
def k5_25 (P : Program) (p : Lab) (Q : VPost) (y2 : AV) (c : Nat) (v38_38 : AV) (H38 : Heap) (l38 : List Lab) (f38 : Option (List Lab)) : Prop :=
  (k5_4 P p Q y2 (.ptr ((c + 13) :: p) 3 0 0) v38_38 H38 (c + 31))
def k5_26 (P : Program) (p : Lab) (Q : VPost) (v31_29 : AV) (H27 : Heap) (y2 : AV) (c : Nat) (_ : Unit) : Prop :=
  vFA 0 (.ptr ((c + 13) :: p) 3 0 0) fun v36_36 =>
  vLoad 1 false v36_36 H27 fun v37_37 _ =>
  vCall false P 21 [v31_29, v37_37] H27 ((c + 30) :: p) (k5_25 P p Q y2 c)
def k5_30 (P : Program) (p : Lab) (Q : VPost)  (H : Heap) (c : Nat) : Prop :=
  (k5_11 P p Q  H (c + 5))
def k5_29 (P : Program) (p : Lab) (Q : VPost) (y2 : AV) (y5 : AV) (H : Heap) (c : Nat) : Prop :=
  (k5_30 P p Q  H (c + 10))
def k5_28 (P : Program) (p : Lab) (Q : VPost) (y2 : AV) (y5 : AV) (H : Heap) (c : Nat) : Prop :=
  (k5_29 P p Q y2 y5 H (c + 8))
def k5_27 (P : Program) (p : Lab) (Q : VPost) (y2 : AV) (y5 : AV) (H : Heap) (c : Nat) : Prop :=
  (k5_28 P p Q y2 y5 H (c + 5))
def k5_31 (P : Program) (p : Lab) (Q : VPost) (H27 : Heap) (y2 : AV) (c : Nat) (_ : Unit) : Prop :=
  (k5_27 P p Q y2 (.ptr ((c + 13) :: p) 3 0 0) H27 (c + 31))
def k5_32 (P : Program) (p : Lab) (Q : VPost) (y2 : AV) (c : Nat) (v30_27 : AV) (H27 : Heap) (l27 : List Lab) (f27 : Option (List Lab)) : Prop :=
  vExt 0 v30_27 fun v31_29 =>
  vExt 1 v30_27 fun v32_30 =>
  vSel v32_30
  (k5_26 P p Q v31_29 H27 y2 c)
  (k5_31 P p Q H27 y2 c)
def k5_33 (P : Program) (p : Lab) (Q : VPost) (v25_20 : AV) (l17 : List Lab) (f17 : Option (List Lab)) (l16 : List Lab) (f16 : Option (List Lab)) (f15 : Option (List Lab)) (f13 : Option (List Lab)) (f11 : Option (List Lab)) (f9 : Option (List Lab)) (y2 : AV) (c : Nat) (v_22 : AV) (H22 : Heap) (l22 : List Lab) (f22 : Option (List Lab)) : Prop :=
  clashFree [0, 1, 0, 4, 0, 16, 63, 0, 128, 511, 1023, 2047, 2047, 0, 12287, 32767] (addTr 1 [] ((c + 1) :: p) f9 (addTr 3 [] ((c + 3) :: p) f11 (addTr 5 [] ((c + 5) :: p) f13 (addTr 7 [] ((c + 7) :: p) f15 (addTr 8 l16 ((c + 8) :: p) f16 (addTr 9 l17 ((c + 9) :: p) f17 (addTr 13 [((c + 13) :: p)] ((c + 13) :: p) (some []) (addTr 14 l22 ((c + 14) :: p) f22 [])))))))) ∧
  vFA 0 y2 fun v27_24 =>
  vLoad 1 false v27_24 H22 fun v28_25 _ =>
  vCall true P 18 [v28_25, v25_20] H22 ((c + 19) :: p) (k5_32 P p Q y2 c)
def k5_34 (P : Program) (p : Lab) (Q : VPost) (l16 : List Lab) (f16 : Option (List Lab)) (f15 : Option (List Lab)) (f13 : Option (List Lab)) (f11 : Option (List Lab)) (f9 : Option (List Lab)) (y2 : AV) (c : Nat) (v23_17 : AV) (H17 : Heap) (l17 : List Lab) (f17 : Option (List Lab)) : Prop :=
  vExt 0 v23_17 fun v24_19 =>
  vExt 1 v23_17 fun v25_20 =>
  (fun (H21 : Heap) =>
  vGen (.store 3) [(.ptr ((c + 13) :: p) 3 0 0), v24_19] H21 ((c + 14) :: p) (k5_33 P p Q v25_20 l17 f17 l16 f16 f15 f13 f11 f9 y2 c)) (upd [(((c + 13) :: p), some (.rows 3 [[.nils, (.int .i64 0), .nils]]))] H17)
def k5_35 (P : Program) (p : Lab) (Q : VPost) (f15 : Option (List Lab)) (v20_14 : AV) (f13 : Option (List Lab)) (f11 : Option (List Lab)) (f9 : Option (List Lab)) (y2 : AV) (c : Nat) (v22_16 : AV) (H16 : Heap) (l16 : List Lab) (f16 : Option (List Lab)) : Prop :=
  vCall false P 12 [v20_14, v22_16] H16 ((c + 9) :: p) (k5_34 P p Q l16 f16 f15 f13 f11 f9 y2 c)
def k5_3 (P : Program) (p : Lab) (Q : VPost) (y2 : AV) (y3 : AV) (y11 : AV) (H : Heap) (c : Nat) : Prop :=
  vFA 0 y2 fun v14_8 =>
  vLoad 1 false v14_8 H fun v15_9 f9 =>
  vFA 1 y2 fun v16_10 =>
  vLoad 1 false v16_10 H fun v17_11 f11 =>
  vFA 2 y2 fun v18_12 =>
  vLoad 1 false v18_12 H fun v19_13 f13 =>
  vBuild [.nils, (.int .i64 0), .nils] [(0, 1), (1, 1), (2, 1)] [v15_9, v17_11, v19_13] fun v20_14 =>
  vLoad 2 true y3 H fun v21_15 f15 =>
  vCall false P 13 [v21_15] H ((c + 8) :: p) (k5_35 P p Q f15 v20_14 f13 f11 f9 y2 c)
def k5_36 (P : Program) (p : Lab) (Q : VPost) (v11_5 : AV) (H4 : Heap) (w1 : List AV) (w0 : List AV) (c : Nat) (_ : Unit) : Prop :=
  (k5_3 P p Q (.ptr (c :: p) w0.length 0 0) (.ptr ((c + 1) :: p) w1.length 0 0) v11_5 H4 (c + 6))
def k5_37 (P : Program) (p : Lab) (Q : VPost) (w1 : List AV) (w0 : List AV) (c : Nat) (v10_4 : AV) (H4 : Heap) (l4 : List Lab) (f4 : Option (List Lab)) : Prop :=
  vNot v10_4 fun v11_5 =>
  vSel v11_5
  (k5_2 P p Q H4 c)
  (k5_36 P p Q v11_5 H4 w1 w0 c)
def V5 (P : Program) (p : Lab) (Q : VPost) (x0 x1 : AV) (H : Heap) (c : Nat) : Prop :=
  vBox x0 fun w0 =>
  (fun (H0 : Heap) =>
  vBox x1 fun w1 =>
  (fun (H1 : Heap) =>
  vLoad 3 true (.ptr (c :: p) w0.length 0 0) H1 fun v9_3 _ =>
  vCall true P 10 [v9_3] H1 ((c + 4) :: p) (k5_37 P p Q w1 w0 c)) (upd [(((c + 1) :: p), some (.rows w1.length [w1]))] H0)) (upd [((c :: p), some (.rows w0.length [w0]))] H)
theorem vt5 (P : Program) (p : Lab) (Q : VPost) (x0 x1 : AV) (H : Heap) (c : Nat) : vc P p c5.body Q [(0, x0), (1, x1)] H c = V5 P p Q x0 x1 H c := by kernel_rfl



end Go.Proofs.Ytbngfbpegdcpkaa
/-! Acts that are done to a line: Apply. -/
namespace Go.Proofs.Ytbngfbpegdcpkaa
set_option linter.unusedVariables false
set_option linter.unusedSimpArgs false
set_option maxRecDepth 100000
abbrev ActV := Int × Int × Int
def delI (l : List Int) (i : Nat) : List Int := l.take i ++ l.drop (i + 1)
def actL (l : List Int) (a : ActV) : Option (List Int) :=
  if a.2.1 < 0 ∨ (l.length : Int) < a.2.1 then none
  else if a.1 = 1 then some (insI l a.2.1.toNat a.2.2)
  else if a.1 = 2 ∧ a.2.1 < l.length then some (delI l a.2.1.toNat) else none
def applyL (l : List Int) : List ActV → Option (List Int)
  | [] => some l
  | a :: A => (actL l a).bind fun l' => applyL l' A
def appR : Option (List Int) → AV
  | some l => .tuple [il l, .bool true]
  | none => .tuple [il [], .bool false]
theorem drop_nthA {l : List ActV} {i : Nat} (h : i < l.length) : l.drop i = nth l i :: l.drop (i + 1) := by
  rw [List.drop_eq_getElem_cons h]
  simp [nth, List.getD_eq_getElem?_getD, h]
theorem delI_len {l : List Int} {i : Nat} (h : i < l.length) : (delI l i).length = l.length - 1 := by simp [delI]; omega
theorem vp_none {t u c : Nat} {H : Heap} (hn : u ≠ t) : VP [.tmp t, .tmp u] (appR none) .ret [(t, .nils), (u, .bool false)] H c :=
  ⟨.inr rfl, .tuple [.nils, .bool false], by simp [aRes, aResL, aRes1, rget, hn], Fr.two (.nils 1) (.refl _)⟩
theorem delete_one {H : Heap} {q : Lab} {x : AV} {l : List Int} {i : Nat} (h : ListE H x l) (hi : i < l.length) (hl : l.length ≤ 1000000000) :
    ∃ u f, SoundRes Try.prog 34 [x, .int .i64 i, .int .i64 ((i + 1 : Nat) : Int)] H q ⟨.sl q 1 0 (delI l i).length, (q, some (.rows 1 ((delI l i).map encI))) :: u, f⟩ := by
  rcases h with ⟨rfl, rfl⟩ | ⟨lab, rfl, h⟩
  · simp at hi
  · have := delete_sl (q := q) h (off := 0) (n := l.length) (i := i) (j := i + 1) (by simp) (by omega) hi (by omega)
    have e : ((l.map encI).drop 0).take i ++ ((l.map encI).drop (0 + (i + 1))).take (l.length - (i + 1)) = (delI l i).map encI := by
      rw [Nat.zero_add, List.drop_zero, List.take_of_length_le (l := (l.map encI).drop (i + 1)) (by simp)]
      simp [delI, List.map_take, List.map_drop]
    rw [e, show i + (l.length - (i + 1)) = (delI l i).length by rw [delI_len hi]; omega] at this
    exact ⟨_, _, this⟩
theorem apply_pure (l : List Int) (A : List ActV) (hl : l.length ≤ 1000000) (hA : A.length ≤ 1000000) : Pure Try.prog 18 [il l, .isl 3 (A.map encA)] (appR (applyL l A)) := by
  refine pure_vc Try.mixed ok18 rfl (fun q => ?_)
  simp only [params, Nat.zero_add, Nat.reduceAdd]
  rw [vt18]
  unfold V18
  obtain ⟨x0, u0, hc0, hx0, _, _, _⟩ := clone_det (H := fun _ => none) (q := 3 :: q) l (by omega)
  refine call_res_gen hc0 (Fresh.empty (c := 3)) (fun H0 hH0 hF0 => ?_)
  obtain rfl : H0 = upd u0 fun _ => none := funext hH0
  simp (disch := omega) only [sel_t, sel_f, sel_dt, sel_df, sel_nt, sel_nf, v_lss, v_leq, v_gtr, v_geq, v_eql, v_neq, v_add, v_sub, v_not, v_min, v_max, v_pick_t, v_pick_f, v_ext0, v_ext1, v_ext2, v_len_isl, List.length_map, v_len_nils, v_len_sl0, v_len_sl, v_ix_map, v_ix_sl, v_nil_ptr, v_nil_iptr, v_fa_ptr, v_fa_iptr, cell_0, cell_s, cell_a2, cell_a3, cell_a7, cell_a10, v_load_map, v_load_r1, v_call_fn, v_call_fnS, v_load_H, ldH_one, ldH_map, v_store_H, stH_one, upd_same, upd_cons_ne, upd_nil, v_box, v_fld, eqs_nils, eqs_sl, v_eqs_ii, v_neqs_ii, sel_andt, sel_andf, sel_nandt, sel_nandf, encI, Int.toNat_natCast, lq_e, lq_r, Bool.not_true, Bool.not_false, Bool.false_eq_true, reduceIte, decide_true, decide_false, v_build_fill, v_buildS_fill, fill_nil, fill_cons, AV.cells, putL, chunk, List.length_cons, List.length_nil, Nat.reduceAdd, Nat.reduceDiv, Nat.reduceMod, List.take_succ_cons, List.take_zero, List.take_nil, List.drop_succ_cons, List.drop_zero, List.drop_nil, List.cons_append, List.nil_append, List.append_nil, List.all_cons, List.all_nil, AV.one, Nat.reduceLeDiff, and_self, and_true, true_and, Nat.zero_add, ne_eq, Nat.succ_ne_zero, not_false_eq_true, Bool.and_self, Nat.reduceEqDiff, Nat.le_refl, res18, q18_0_ret, q18_0_e0, vt18, vt18_1, vt18_2, V18, V18_1, V18_2, k18_1, k18_2, k18_4, k18_5, k18_8, k18_7, k18_9, k18_13, k18_12, k18_14, k18_15, k18_11, k18_16, k18_17, k18_18, k18_10, k18_19, k18_6, k18_20, k18_3, k18_21, k18_22, k18_0, k18_23, encA]
  refine vloop (fun m r H c => ∃ (i : Nat) (x : AV) (li : List Int), r = [(0, x), (10, .isl 3 (A.map encA)), (11, .int .i64 A.length), (12, .int .i64 i)] ∧ i ≤ A.length ∧ m = A.length - i ∧ ListE H x li ∧ Fresh q c H ∧ li.length ≤ l.length + i ∧ applyL l A = applyL li (A.drop i)) A.length ⟨0, x0, l, rfl, Nat.zero_le _, rfl, hx0, hF0.mono (by omega), Nat.le_refl _, rfl⟩ ?_
  rintro m r H c ⟨i, x, li, rfl, hi, rfl, hx, hF, hlen, hap⟩
  simp (disch := omega) only [sel_t, sel_f, sel_dt, sel_df, sel_nt, sel_nf, v_lss, v_leq, v_gtr, v_geq, v_eql, v_neq, v_add, v_sub, v_not, v_min, v_max, v_pick_t, v_pick_f, v_ext0, v_ext1, v_ext2, v_len_isl, List.length_map, v_len_nils, v_len_sl0, v_len_sl, v_ix_map, v_ix_sl, v_nil_ptr, v_nil_iptr, v_fa_ptr, v_fa_iptr, cell_0, cell_s, cell_a2, cell_a3, cell_a7, cell_a10, v_load_map, v_load_r1, v_call_fn, v_call_fnS, v_load_H, ldH_one, ldH_map, v_store_H, stH_one, upd_same, upd_cons_ne, upd_nil, v_box, v_fld, eqs_nils, eqs_sl, v_eqs_ii, v_neqs_ii, sel_andt, sel_andf, sel_nandt, sel_nandf, encI, Int.toNat_natCast, lq_e, lq_r, Bool.not_true, Bool.not_false, Bool.false_eq_true, reduceIte, decide_true, decide_false, v_build_fill, v_buildS_fill, fill_nil, fill_cons, AV.cells, putL, chunk, List.length_cons, List.length_nil, Nat.reduceAdd, Nat.reduceDiv, Nat.reduceMod, List.take_succ_cons, List.take_zero, List.take_nil, List.drop_succ_cons, List.drop_zero, List.drop_nil, List.cons_append, List.nil_append, List.append_nil, List.all_cons, List.all_nil, AV.one, Nat.reduceLeDiff, and_self, and_true, true_and, Nat.zero_add, ne_eq, Nat.succ_ne_zero, not_false_eq_true, Bool.and_self, Nat.reduceEqDiff, Nat.le_refl, res18, q18_0_ret, q18_0_e0, vt18, vt18_1, vt18_2, V18, V18_1, V18_2, k18_1, k18_2, k18_4, k18_5, k18_8, k18_7, k18_9, k18_13, k18_12, k18_14, k18_15, k18_11, k18_16, k18_17, k18_18, k18_10, k18_19, k18_6, k18_20, k18_3, k18_21, k18_22, k18_0, k18_23, encA]
  refine sel_d (fun hlt => ?_) (fun hge => ?_)
  · have hi' : i < A.length := by omega
    rw [drop_nthA hi', applyL] at hap
    simp (disch := omega) only [sel_t, sel_f, sel_dt, sel_df, sel_nt, sel_nf, v_lss, v_leq, v_gtr, v_geq, v_eql, v_neq, v_add, v_sub, v_not, v_min, v_max, v_pick_t, v_pick_f, v_ext0, v_ext1, v_ext2, v_len_isl, List.length_map, v_len_nils, v_len_sl0, v_len_sl, v_ix_map, v_ix_sl, v_nil_ptr, v_nil_iptr, v_fa_ptr, v_fa_iptr, cell_0, cell_s, cell_a2, cell_a3, cell_a7, cell_a10, v_load_map, v_load_r1, v_call_fn, v_call_fnS, v_load_H, ldH_one, ldH_map, v_store_H, stH_one, upd_same, upd_cons_ne, upd_nil, v_box, v_fld, eqs_nils, eqs_sl, v_eqs_ii, v_neqs_ii, sel_andt, sel_andf, sel_nandt, sel_nandf, encI, Int.toNat_natCast, lq_e, lq_r, Bool.not_true, Bool.not_false, Bool.false_eq_true, reduceIte, decide_true, decide_false, v_build_fill, v_buildS_fill, fill_nil, fill_cons, AV.cells, putL, chunk, List.length_cons, List.length_nil, Nat.reduceAdd, Nat.reduceDiv, Nat.reduceMod, List.take_succ_cons, List.take_zero, List.take_nil, List.drop_succ_cons, List.drop_zero, List.drop_nil, List.cons_append, List.nil_append, List.append_nil, List.all_cons, List.all_nil, AV.one, Nat.reduceLeDiff, and_self, and_true, true_and, Nat.zero_add, ne_eq, Nat.succ_ne_zero, not_false_eq_true, Bool.and_self, Nat.reduceEqDiff, Nat.le_refl, res18, q18_0_ret, q18_0_e0, vt18, vt18_1, vt18_2, V18, V18_1, V18_2, k18_1, k18_2, k18_4, k18_5, k18_8, k18_7, k18_9, k18_13, k18_12, k18_14, k18_15, k18_11, k18_16, k18_17, k18_18, k18_10, k18_19, k18_6, k18_20, k18_3, k18_21, k18_22, k18_0, k18_23, encA, hx.len]
    generalize nth A i = a at hap ⊢
    obtain ⟨k, p, v⟩ := a
    simp only at hap ⊢
    have hx' : ListE (upd [((c + 1 + 2) :: q, some (.rows 3 [[.int .i64 k, .int .i64 p, .int .i64 v]]))] (upd [((c + 1 + 2) :: q, some (.rows 3 [[.int .i64 0, .int .i64 0, .int .i64 0]]))] H)) x li := hx.mono fun lab n e hk => by
      have hne : lab ≠ (c + 1 + 2) :: q := fun e => by rw [e, hF.at (by omega)] at hk; cases hk
      rw [upd_ne hne, upd_nil, upd_ne hne, upd_nil]; exact hk
    have hF' : Fresh q (c + 4) (upd [((c + 1 + 2) :: q, some (.rows 3 [[.int .i64 k, .int .i64 p, .int .i64 v]]))] (upd [((c + 1 + 2) :: q, some (.rows 3 [[.int .i64 0, .int .i64 0, .int .i64 0]]))] H)) := (hF.upd (d := c + 4) (by omega) (by omega)).upd (by omega) (by omega)
    have hp' : upd [((c + 1 + 2) :: q, some (.rows 3 [[.int .i64 k, .int .i64 p, .int .i64 v]]))] (upd [((c + 1 + 2) :: q, some (.rows 3 [[.int .i64 0, .int .i64 0, .int .i64 0]]))] H) ((c + 1 + 2) :: q) = some (.rows 3 [[.int .i64 k, .int .i64 p, .int .i64 v]]) := upd_same
    generalize upd [((c + 1 + 2) :: q, some (.rows 3 [[.int .i64 k, .int .i64 p, .int .i64 v]]))] (upd [((c + 1 + 2) :: q, some (.rows 3 [[.int .i64 0, .int .i64 0, .int .i64 0]]))] H) = HA at *
    refine sel_d (fun hneg => ?_) (fun hneg => ?_)
    · have : actL li (k, p, v) = none := by simp only [actL]; rw [if_pos (.inl hneg)]
      rw [this] at hap
      rw [hap]
      exact vp_none (c := 0) (by decide)
    simp (disch := omega) only [sel_t, sel_f, sel_dt, sel_df, sel_nt, sel_nf, v_lss, v_leq, v_gtr, v_geq, v_eql, v_neq, v_add, v_sub, v_not, v_min, v_max, v_pick_t, v_pick_f, v_ext0, v_ext1, v_ext2, v_len_isl, List.length_map, v_len_nils, v_len_sl0, v_len_sl, v_ix_map, v_ix_sl, v_nil_ptr, v_nil_iptr, v_fa_ptr, v_fa_iptr, cell_0, cell_s, cell_a2, cell_a3, cell_a7, cell_a10, v_load_map, v_load_r1, v_call_fn, v_call_fnS, v_load_H, ldH_one, ldH_map, v_store_H, stH_one, upd_same, upd_cons_ne, upd_nil, v_box, v_fld, eqs_nils, eqs_sl, v_eqs_ii, v_neqs_ii, sel_andt, sel_andf, sel_nandt, sel_nandf, encI, Int.toNat_natCast, lq_e, lq_r, Bool.not_true, Bool.not_false, Bool.false_eq_true, reduceIte, decide_true, decide_false, v_build_fill, v_buildS_fill, fill_nil, fill_cons, AV.cells, putL, chunk, List.length_cons, List.length_nil, Nat.reduceAdd, Nat.reduceDiv, Nat.reduceMod, List.take_succ_cons, List.take_zero, List.take_nil, List.drop_succ_cons, List.drop_zero, List.drop_nil, List.cons_append, List.nil_append, List.append_nil, List.all_cons, List.all_nil, AV.one, Nat.reduceLeDiff, and_self, and_true, true_and, Nat.zero_add, ne_eq, Nat.succ_ne_zero, not_false_eq_true, Bool.and_self, Nat.reduceEqDiff, Nat.le_refl, res18, q18_0_ret, q18_0_e0, vt18, vt18_1, vt18_2, V18, V18_1, V18_2, k18_1, k18_2, k18_4, k18_5, k18_8, k18_7, k18_9, k18_13, k18_12, k18_14, k18_15, k18_11, k18_16, k18_17, k18_18, k18_10, k18_19, k18_6, k18_20, k18_3, k18_21, k18_22, k18_0, k18_23, encA, hp', hx.len]
    refine sel_d (fun hbig => ?_) (fun hbig => ?_)
    · have : actL li (k, p, v) = none := by simp only [actL]; rw [if_pos (.inr hbig)]
      rw [this] at hap
      rw [hap]
      exact vp_none (c := 0) (by decide)
    simp (disch := omega) only [sel_t, sel_f, sel_dt, sel_df, sel_nt, sel_nf, v_lss, v_leq, v_gtr, v_geq, v_eql, v_neq, v_add, v_sub, v_not, v_min, v_max, v_pick_t, v_pick_f, v_ext0, v_ext1, v_ext2, v_len_isl, List.length_map, v_len_nils, v_len_sl0, v_len_sl, v_ix_map, v_ix_sl, v_nil_ptr, v_nil_iptr, v_fa_ptr, v_fa_iptr, cell_0, cell_s, cell_a2, cell_a3, cell_a7, cell_a10, v_load_map, v_load_r1, v_call_fn, v_call_fnS, v_load_H, ldH_one, ldH_map, v_store_H, stH_one, upd_same, upd_cons_ne, upd_nil, v_box, v_fld, eqs_nils, eqs_sl, v_eqs_ii, v_neqs_ii, sel_andt, sel_andf, sel_nandt, sel_nandf, encI, Int.toNat_natCast, lq_e, lq_r, Bool.not_true, Bool.not_false, Bool.false_eq_true, reduceIte, decide_true, decide_false, v_build_fill, v_buildS_fill, fill_nil, fill_cons, AV.cells, putL, chunk, List.length_cons, List.length_nil, Nat.reduceAdd, Nat.reduceDiv, Nat.reduceMod, List.take_succ_cons, List.take_zero, List.take_nil, List.drop_succ_cons, List.drop_zero, List.drop_nil, List.cons_append, List.nil_append, List.append_nil, List.all_cons, List.all_nil, AV.one, Nat.reduceLeDiff, and_self, and_true, true_and, Nat.zero_add, ne_eq, Nat.succ_ne_zero, not_false_eq_true, Bool.and_self, Nat.reduceEqDiff, Nat.le_refl, res18, q18_0_ret, q18_0_e0, vt18, vt18_1, vt18_2, V18, V18_1, V18_2, k18_1, k18_2, k18_4, k18_5, k18_8, k18_7, k18_9, k18_13, k18_12, k18_14, k18_15, k18_11, k18_16, k18_17, k18_18, k18_10, k18_19, k18_6, k18_20, k18_3, k18_21, k18_22, k18_0, k18_23, encA, hp', hx.len]
    obtain ⟨n, rfl⟩ : ∃ n : Nat, p = n := ⟨p.toNat, by omega⟩
    have hno : ¬ ((n : Int) < 0 ∨ (li.length : Int) < n) := by omega
    refine sel_d (fun hk1 => ?_) (fun hk1 => ?_)
    · have ha : actL li (k, (n : Int), v) = some (insI li n v) := by simp only [actL]; rw [if_neg hno, if_pos hk1, Int.toNat_natCast]
      rw [ha, Option.bind_some] at hap
      simp (disch := omega) only [sel_t, sel_f, sel_dt, sel_df, sel_nt, sel_nf, v_lss, v_leq, v_gtr, v_geq, v_eql, v_neq, v_add, v_sub, v_not, v_min, v_max, v_pick_t, v_pick_f, v_ext0, v_ext1, v_ext2, v_len_isl, List.length_map, v_len_nils, v_len_sl0, v_len_sl, v_ix_map, v_ix_sl, v_nil_ptr, v_nil_iptr, v_fa_ptr, v_fa_iptr, cell_0, cell_s, cell_a2, cell_a3, cell_a7, cell_a10, v_load_map, v_load_r1, v_call_fn, v_call_fnS, v_load_H, ldH_one, ldH_map, v_store_H, stH_one, upd_same, upd_cons_ne, upd_nil, v_box, v_fld, eqs_nils, eqs_sl, v_eqs_ii, v_neqs_ii, sel_andt, sel_andf, sel_nandt, sel_nandf, encI, Int.toNat_natCast, lq_e, lq_r, Bool.not_true, Bool.not_false, Bool.false_eq_true, reduceIte, decide_true, decide_false, v_build_fill, v_buildS_fill, fill_nil, fill_cons, AV.cells, putL, chunk, List.length_cons, List.length_nil, Nat.reduceAdd, Nat.reduceDiv, Nat.reduceMod, List.take_succ_cons, List.take_zero, List.take_nil, List.drop_succ_cons, List.drop_zero, List.drop_nil, List.cons_append, List.nil_append, List.append_nil, List.all_cons, List.all_nil, AV.one, Nat.reduceLeDiff, and_self, and_true, true_and, Nat.zero_add, ne_eq, Nat.succ_ne_zero, not_false_eq_true, Bool.and_self, Nat.reduceEqDiff, Nat.le_refl, res18, q18_0_ret, q18_0_e0, vt18, vt18_1, vt18_2, V18, V18_1, V18_2, k18_1, k18_2, k18_4, k18_5, k18_8, k18_7, k18_9, k18_13, k18_12, k18_14, k18_15, k18_11, k18_16, k18_17, k18_18, k18_10, k18_19, k18_6, k18_20, k18_3, k18_21, k18_22, k18_0, k18_23, encA, hp', hx.len]
      have hbox : ListE (upd [((c + 1 + 15 + 4 + 5) :: q, some (.rows 1 [[.int .i64 v]]))] HA) x li := hx'.mono fun lab n e hk => by
        rw [upd_ne (fun e => by rw [e, hF'.at (by omega)] at hk; cases hk)]; exact hk
      have hxn : ∀ m, x ≠ .sl ((c + 1 + 15 + 4 + 5) :: q) 1 0 m := fun m e => by
        rcases hx' with ⟨h1, _⟩ | ⟨lab, h1, h2⟩ <;> rw [h1] at e <;> cases e
        rw [hF'.at (by omega)] at h2; cases h2
      obtain ⟨u, f, hin, _⟩ := insert_le (q := (c + 1 + 15 + 4 + 6) :: q) (c := v) (i := n) hbox (by omega) upd_same hxn (by omega)
      refine call_res_gen hin ((hF'.upd (by omega) (by omega)).mono (by omega : c + 26 ≤ _)) (fun H2 hH2 hF2 => ?_)
      simp (disch := omega) only [sel_t, sel_f, sel_dt, sel_df, sel_nt, sel_nf, v_lss, v_leq, v_gtr, v_geq, v_eql, v_neq, v_add, v_sub, v_not, v_min, v_max, v_pick_t, v_pick_f, v_ext0, v_ext1, v_ext2, v_len_isl, List.length_map, v_len_nils, v_len_sl0, v_len_sl, v_ix_map, v_ix_sl, v_nil_ptr, v_nil_iptr, v_fa_ptr, v_fa_iptr, cell_0, cell_s, cell_a2, cell_a3, cell_a7, cell_a10, v_load_map, v_load_r1, v_call_fn, v_call_fnS, v_load_H, ldH_one, ldH_map, v_store_H, stH_one, upd_same, upd_cons_ne, upd_nil, v_box, v_fld, eqs_nils, eqs_sl, v_eqs_ii, v_neqs_ii, sel_andt, sel_andf, sel_nandt, sel_nandf, encI, Int.toNat_natCast, lq_e, lq_r, Bool.not_true, Bool.not_false, Bool.false_eq_true, reduceIte, decide_true, decide_false, v_build_fill, v_buildS_fill, fill_nil, fill_cons, AV.cells, putL, chunk, List.length_cons, List.length_nil, Nat.reduceAdd, Nat.reduceDiv, Nat.reduceMod, List.take_succ_cons, List.take_zero, List.take_nil, List.drop_succ_cons, List.drop_zero, List.drop_nil, List.cons_append, List.nil_append, List.append_nil, List.all_cons, List.all_nil, AV.one, Nat.reduceLeDiff, and_self, and_true, true_and, Nat.zero_add, ne_eq, Nat.succ_ne_zero, not_false_eq_true, Bool.and_self, Nat.reduceEqDiff, Nat.le_refl, res18, q18_0_ret, q18_0_e0, vt18, vt18_1, vt18_2, V18, V18_1, V18_2, k18_1, k18_2, k18_4, k18_5, k18_8, k18_7, k18_9, k18_13, k18_12, k18_14, k18_15, k18_11, k18_16, k18_17, k18_18, k18_10, k18_19, k18_6, k18_20, k18_3, k18_21, k18_22, k18_0, k18_23, encA]
      have hil := insI_len (l := li) (i := n) (c := v) (by omega)
      refine lq_n (A.length - (i + 1)) (by omega) ⟨i + 1, .sl ((c + 1 + 15 + 4 + 6) :: q) 1 0 (li.length + 1), insI li n v, rfl, by omega, rfl, .inr ⟨_, by rw [hil], by rw [hH2, upd_same]⟩, hF2.mono (by omega), by omega, hap⟩
    · simp (disch := omega) only [sel_t, sel_f, sel_dt, sel_df, sel_nt, sel_nf, v_lss, v_leq, v_gtr, v_geq, v_eql, v_neq, v_add, v_sub, v_not, v_min, v_max, v_pick_t, v_pick_f, v_ext0, v_ext1, v_ext2, v_len_isl, List.length_map, v_len_nils, v_len_sl0, v_len_sl, v_ix_map, v_ix_sl, v_nil_ptr, v_nil_iptr, v_fa_ptr, v_fa_iptr, cell_0, cell_s, cell_a2, cell_a3, cell_a7, cell_a10, v_load_map, v_load_r1, v_call_fn, v_call_fnS, v_load_H, ldH_one, ldH_map, v_store_H, stH_one, upd_same, upd_cons_ne, upd_nil, v_box, v_fld, eqs_nils, eqs_sl, v_eqs_ii, v_neqs_ii, sel_andt, sel_andf, sel_nandt, sel_nandf, encI, Int.toNat_natCast, lq_e, lq_r, Bool.not_true, Bool.not_false, Bool.false_eq_true, reduceIte, decide_true, decide_false, v_build_fill, v_buildS_fill, fill_nil, fill_cons, AV.cells, putL, chunk, List.length_cons, List.length_nil, Nat.reduceAdd, Nat.reduceDiv, Nat.reduceMod, List.take_succ_cons, List.take_zero, List.take_nil, List.drop_succ_cons, List.drop_zero, List.drop_nil, List.cons_append, List.nil_append, List.append_nil, List.all_cons, List.all_nil, AV.one, Nat.reduceLeDiff, and_self, and_true, true_and, Nat.zero_add, ne_eq, Nat.succ_ne_zero, not_false_eq_true, Bool.and_self, Nat.reduceEqDiff, Nat.le_refl, res18, q18_0_ret, q18_0_e0, vt18, vt18_1, vt18_2, V18, V18_1, V18_2, k18_1, k18_2, k18_4, k18_5, k18_8, k18_7, k18_9, k18_13, k18_12, k18_14, k18_15, k18_11, k18_16, k18_17, k18_18, k18_10, k18_19, k18_6, k18_20, k18_3, k18_21, k18_22, k18_0, k18_23, encA, hp', hx.len]
      refine sel_d (fun hk2 => ?_) (fun hk2 => ?_)
      · simp (disch := omega) only [sel_t, sel_f, sel_dt, sel_df, sel_nt, sel_nf, v_lss, v_leq, v_gtr, v_geq, v_eql, v_neq, v_add, v_sub, v_not, v_min, v_max, v_pick_t, v_pick_f, v_ext0, v_ext1, v_ext2, v_len_isl, List.length_map, v_len_nils, v_len_sl0, v_len_sl, v_ix_map, v_ix_sl, v_nil_ptr, v_nil_iptr, v_fa_ptr, v_fa_iptr, cell_0, cell_s, cell_a2, cell_a3, cell_a7, cell_a10, v_load_map, v_load_r1, v_call_fn, v_call_fnS, v_load_H, ldH_one, ldH_map, v_store_H, stH_one, upd_same, upd_cons_ne, upd_nil, v_box, v_fld, eqs_nils, eqs_sl, v_eqs_ii, v_neqs_ii, sel_andt, sel_andf, sel_nandt, sel_nandf, encI, Int.toNat_natCast, lq_e, lq_r, Bool.not_true, Bool.not_false, Bool.false_eq_true, reduceIte, decide_true, decide_false, v_build_fill, v_buildS_fill, fill_nil, fill_cons, AV.cells, putL, chunk, List.length_cons, List.length_nil, Nat.reduceAdd, Nat.reduceDiv, Nat.reduceMod, List.take_succ_cons, List.take_zero, List.take_nil, List.drop_succ_cons, List.drop_zero, List.drop_nil, List.cons_append, List.nil_append, List.append_nil, List.all_cons, List.all_nil, AV.one, Nat.reduceLeDiff, and_self, and_true, true_and, Nat.zero_add, ne_eq, Nat.succ_ne_zero, not_false_eq_true, Bool.and_self, Nat.reduceEqDiff, Nat.le_refl, res18, q18_0_ret, q18_0_e0, vt18, vt18_1, vt18_2, V18, V18_1, V18_2, k18_1, k18_2, k18_4, k18_5, k18_8, k18_7, k18_9, k18_13, k18_12, k18_14, k18_15, k18_11, k18_16, k18_17, k18_18, k18_10, k18_19, k18_6, k18_20, k18_3, k18_21, k18_22, k18_0, k18_23, encA, hp', hx.len]
        refine sel_d (fun hlt => ?_) (fun hlt => ?_)
        · have ha : actL li (k, (n : Int), v) = some (delI li n) := by simp only [actL]; rw [if_neg hno, if_neg hk1, if_pos ⟨hk2, hlt⟩, Int.toNat_natCast]
          rw [ha, Option.bind_some] at hap
          simp (disch := omega) only [sel_t, sel_f, sel_dt, sel_df, sel_nt, sel_nf, v_lss, v_leq, v_gtr, v_geq, v_eql, v_neq, v_add, v_sub, v_not, v_min, v_max, v_pick_t, v_pick_f, v_ext0, v_ext1, v_ext2, v_len_isl, List.length_map, v_len_nils, v_len_sl0, v_len_sl, v_ix_map, v_ix_sl, v_nil_ptr, v_nil_iptr, v_fa_ptr, v_fa_iptr, cell_0, cell_s, cell_a2, cell_a3, cell_a7, cell_a10, v_load_map, v_load_r1, v_call_fn, v_call_fnS, v_load_H, ldH_one, ldH_map, v_store_H, stH_one, upd_same, upd_cons_ne, upd_nil, v_box, v_fld, eqs_nils, eqs_sl, v_eqs_ii, v_neqs_ii, sel_andt, sel_andf, sel_nandt, sel_nandf, encI, Int.toNat_natCast, lq_e, lq_r, Bool.not_true, Bool.not_false, Bool.false_eq_true, reduceIte, decide_true, decide_false, v_build_fill, v_buildS_fill, fill_nil, fill_cons, AV.cells, putL, chunk, List.length_cons, List.length_nil, Nat.reduceAdd, Nat.reduceDiv, Nat.reduceMod, List.take_succ_cons, List.take_zero, List.take_nil, List.drop_succ_cons, List.drop_zero, List.drop_nil, List.cons_append, List.nil_append, List.append_nil, List.all_cons, List.all_nil, AV.one, Nat.reduceLeDiff, and_self, and_true, true_and, Nat.zero_add, ne_eq, Nat.succ_ne_zero, not_false_eq_true, Bool.and_self, Nat.reduceEqDiff, Nat.le_refl, res18, q18_0_ret, q18_0_e0, vt18, vt18_1, vt18_2, V18, V18_1, V18_2, k18_1, k18_2, k18_4, k18_5, k18_8, k18_7, k18_9, k18_13, k18_12, k18_14, k18_15, k18_11, k18_16, k18_17, k18_18, k18_10, k18_19, k18_6, k18_20, k18_3, k18_21, k18_22, k18_0, k18_23, encA, hp', hx.len]
          obtain ⟨u, f, hde⟩ := delete_one (q := (c + 1 + 15 + 4 + 11 + 6) :: q) (i := n) hx' (by omega) (by omega)
          rw [show (n : Int) + 1 = ((n + 1 : Nat) : Int) by omega]
          refine call_res_gen hde (hF'.mono (by omega)) (fun H2 hH2 hF2 => ?_)
          simp (disch := omega) only [sel_t, sel_f, sel_dt, sel_df, sel_nt, sel_nf, v_lss, v_leq, v_gtr, v_geq, v_eql, v_neq, v_add, v_sub, v_not, v_min, v_max, v_pick_t, v_pick_f, v_ext0, v_ext1, v_ext2, v_len_isl, List.length_map, v_len_nils, v_len_sl0, v_len_sl, v_ix_map, v_ix_sl, v_nil_ptr, v_nil_iptr, v_fa_ptr, v_fa_iptr, cell_0, cell_s, cell_a2, cell_a3, cell_a7, cell_a10, v_load_map, v_load_r1, v_call_fn, v_call_fnS, v_load_H, ldH_one, ldH_map, v_store_H, stH_one, upd_same, upd_cons_ne, upd_nil, v_box, v_fld, eqs_nils, eqs_sl, v_eqs_ii, v_neqs_ii, sel_andt, sel_andf, sel_nandt, sel_nandf, encI, Int.toNat_natCast, lq_e, lq_r, Bool.not_true, Bool.not_false, Bool.false_eq_true, reduceIte, decide_true, decide_false, v_build_fill, v_buildS_fill, fill_nil, fill_cons, AV.cells, putL, chunk, List.length_cons, List.length_nil, Nat.reduceAdd, Nat.reduceDiv, Nat.reduceMod, List.take_succ_cons, List.take_zero, List.take_nil, List.drop_succ_cons, List.drop_zero, List.drop_nil, List.cons_append, List.nil_append, List.append_nil, List.all_cons, List.all_nil, AV.one, Nat.reduceLeDiff, and_self, and_true, true_and, Nat.zero_add, ne_eq, Nat.succ_ne_zero, not_false_eq_true, Bool.and_self, Nat.reduceEqDiff, Nat.le_refl, res18, q18_0_ret, q18_0_e0, vt18, vt18_1, vt18_2, V18, V18_1, V18_2, k18_1, k18_2, k18_4, k18_5, k18_8, k18_7, k18_9, k18_13, k18_12, k18_14, k18_15, k18_11, k18_16, k18_17, k18_18, k18_10, k18_19, k18_6, k18_20, k18_3, k18_21, k18_22, k18_0, k18_23, encA]
          have hdl := delI_len (l := li) (i := n) (by omega)
          refine lq_n (A.length - (i + 1)) (by omega) ⟨i + 1, .sl ((c + 1 + 15 + 4 + 11 + 6) :: q) 1 0 (delI li n).length, delI li n, rfl, by omega, rfl, .inr ⟨_, rfl, by rw [hH2, upd_same]⟩, hF2.mono (by omega), by omega, hap⟩
        · have : actL li (k, (n : Int), v) = none := by simp only [actL]; rw [if_neg hno, if_neg hk1, if_neg (fun h => hlt h.2)]
          rw [this] at hap
          rw [hap]
          exact vp_none (c := 0) (by decide)
      · have : actL li (k, (n : Int), v) = none := by simp only [actL]; rw [if_neg hno, if_neg hk1, if_neg (fun h => hk2 h.1)]
        rw [this] at hap
        rw [hap]
        exact vp_none (c := 0) (by decide)
  · obtain rfl : i = A.length := by omega
    rw [hap, List.drop_length, applyL]
    exact ⟨.inr rfl, .tuple [x, .bool true], by simp [aRes, aResL, aRes1, rget], Fr.two hx.fr (.refl _)⟩
end Go.Proofs.Ytbngfbpegdcpkaa
/-! The abstract machine: one's own memory given away to a function that only reckons. -/
namespace Go.Proofs.Ytbngfbpegdcpkaa
set_option linter.unusedVariables false
set_option linter.unusedSimpArgs false
theorem callC_mono {P : Program} {f : FuncId} {args : Array Value} {w : World} {K K' : Value → World → Prop} (hk : ∀ v w', K v w' → K' v w') (h : callC P f args w K) : callC P f args w K' :=
  Calls.mono h (by rintro e w' ⟨v, rfl, h'⟩; exact ⟨v, rfl, hk _ _ h'⟩)
theorem FrLs.rep {H : Heap} {Z : Lab → Prop} {ρ : Locs} {R : Imm} {w : World} (hR : Rep H ρ R w) (he : Ext ρ ρ R (frozenR Z ρ R w)) : ∀ {xs ys : List AV} {vs : List Value}, FrLs Z H xs ys → RepL ρ R xs vs → RepL ρ (frozenR Z ρ R w) ys vs
  | [], _, vs, .nil, h => by
    have := h.nil_inv; subst this; exact .nil
  | x :: xs, _, vs, .cons h hs, hv => by
    obtain ⟨v, us, rfl, h1, h2⟩ := hv.head
    exact .cons (fr_rep hR he h h1) (FrLs.rep hR he hs h2)
theorem give_res {P : Program} {f : Nat} {xs xs' : List AV} {y : AV} {H : Heap} {q : Lab} {ls : List Lab} (h : Pure P f xs' y) (hfr : FrLs (fun l => l ∈ ls ∧ H l ≠ none) H xs xs') (hls : ∀ l ∈ ls, H l ≠ none) : SoundRes P f xs H q ⟨y, ls.map (fun l => (l, none)), none⟩ := by
  have hhas : ∀ l, Chg.has (ls.map fun l => (l, (none : Option AO))) l → l ∈ ls := fun l ⟨p, hp, e⟩ => by
    obtain ⟨k, hk, rfl⟩ := List.mem_map.1 hp
    exact e ▸ hk
  have hnone : ∀ l o, upd (ls.map fun l => (l, (none : Option AO))) H l = some o → l ∉ ls ∧ H l = some o := fun l o hl => by
    by_cases hm : l ∈ ls
    · exfalso
      have : Chg.has (ls.map fun l => (l, (none : Option AO))) l := ⟨(l, none), List.mem_map.2 ⟨l, hm, rfl⟩, rfl⟩
      have hall : ∀ (ks : List Lab), l ∈ ks → upd (ks.map fun l => (l, (none : Option AO))) H l = none := fun ks => by
        induction ks with
        | nil => intro h; cases h
        | cons k ks ih =>
          intro h
          simp only [List.map_cons, upd]
          split
          · rfl
          · rename_i hne
            exact ih ((List.mem_cons.1 h).resolve_left hne)
      rw [hall ls hm] at hl; cases hl
    · exact ⟨hm, by rwa [upd_not (fun hh => hm (hhas l hh))] at hl⟩
  refine ⟨(h H q).1, fun l hl => .inl (hls l (hhas l hl)), fun ρ R vs hvs w hR hfree => ?_⟩
  have hR : Rep H ρ R w := hR
  have hext : Ext ρ ρ R (frozenR (fun l => l ∈ ls ∧ H l ≠ none) ρ R w) := frozen_ext (fun l L hz hL => by
    obtain ⟨o, ho⟩ := Option.ne_none_iff_exists'.1 hz.2
    exact .inl (hR.dis l o L ho hL))
  have hR1 : Rep (upd (ls.map fun l => (l, (none : Option AO))) H) ρ (frozenR (fun l => l ∈ ls ∧ H l ≠ none) ρ R w) w :=
    rep_frozen hR (fun l o hl => ⟨fun hz => (hnone l o hl).1 hz.1, (hnone l o hl).2⟩) hext (fun l hz L _ => hz.2)
  have hd : Does (fun w K => callC P f vs.toArray w K) (fun _ => none) [] (Under q) ρ (frozenR (fun l => l ∈ ls ∧ H l ≠ none) ρ R w) y := by
    have := (h H q).2.2 ρ (frozenR (fun l => l ∈ ls ∧ H l ≠ none) ρ R w) vs (hfr.rep hR hext hvs)
    simp only [restr_nil] at this
    exact this
  have hd' := Does.frame (C := fun w K => callC P f vs.toArray w K) (G := upd (ls.map fun l => (l, (none : Option AO))) H) (fun w K K' hk hc => callC_mono hk hc) hd (fun l o (e : (none : Option AO) = some o) => by cases e) (fun l hl => absurd hl (not_has_nil l)) w hR1 hfree
  refine callC_mono ?_ hd'
  rintro v w' ⟨ρ', R', hF, hv, hRe⟩
  refine ⟨ρ', R', ?_, hv, hRe⟩
  refine { ext := hext.trans hF.ext, win := fun l L e => ?_, new := fun b O e => ?_, os := hF.os, tape := hF.tape, output := hF.output, size := hF.size, frame := fun b hb hno => hF.frame b hb (fun k o K hk => hno k o K (hnone k o hk).2) }
  · rcases hF.win l L e with h1 | ⟨h2, h3 | ⟨k, o, K, h4, h5, h6⟩⟩
    · exact .inl h1
    · exact .inr ⟨h2, .inl h3⟩
    · exact .inr ⟨h2, .inr ⟨k, o, K, (hnone k o h4).2, h5, h6⟩⟩
  · rcases hF.new b O e with h1 | h1 | ⟨k, o, K, h4, h5, h6⟩
    · unfold frozenR at h1
      split at h1
      · rename_i hx
        obtain ⟨k, K, hk, hK, hb⟩ := hx
        obtain ⟨o', ho'⟩ := Option.ne_none_iff_exists'.1 hk.2
        exact .inr (.inr ⟨k, o', K, ho', hK, hb⟩)
      · exact .inl h1
    · exact .inr (.inl h1)
    · exact .inr (.inr ⟨k, o, K, (hnone k o h4).2, h5, h6⟩)
end Go.Proofs.Ytbngfbpegdcpkaa
/-! What is owed of functions of the program, as formulas. -/
namespace Go.Proofs.Ytbngfbpegdcpkaa
set_option maxRecDepth 100000
set_option linter.unusedVariables false
set_option linter.unusedSimpArgs false
def b20_1 : ACode := (.seq (.seq (.region [⟨(some 13), none, .move, [.t 7]⟩, ⟨(some 14), none, .move, [.t 1]⟩, ⟨(some 15), none, (.len .slice), [.t 14]⟩, ⟨(some 16), none, (.bin .lss .num), [.t 13, .t 15]⟩] none [1, 6, 7, 16])
  (.cond (.t 16) .skip
  (.exit 0)))
  (.seq (.block 1 (.seq (.region [⟨(some 19), none, .move, [.t 1]⟩, ⟨(some 20), none, .move, [.t 7]⟩, ⟨(some 21), none, (.indexAddr 3), [.t 19, .t 20]⟩, ⟨(some 22), none, (.load 3 true), [.t 21]⟩, ⟨(some 8), none, (.alloc [(.int .i64 0), (.int .i64 0), (.int .i64 0)]), []⟩, ⟨none, none, (.store 3), [.t 8, .t 22]⟩] none [1, 6, 7, 8])
  (.seq (.seq (.region [⟨(some 23), none, (.fieldAddr 0), [.t 8]⟩, ⟨(some 24), none, (.load 1 false), [.t 23]⟩, ⟨(some 25), none, (.bin .neq .num), [.t 24, .c (.int .i64 1)]⟩, ⟨(some 26), none, .move, [.t 25]⟩, ⟨(some 27), (some (26, true)), (.fieldAddr 0), [.t 8]⟩, ⟨(some 28), (some (26, true)), (.load 1 false), [.t 27]⟩, ⟨(some 29), (some (26, true)), (.bin .neq .num), [.t 28, .c (.int .i64 2)]⟩, ⟨(some 30), none, .pick, [.t 26, .t 29, .c (.bool false)]⟩, ⟨(some 31), none, .move, [.t 30]⟩, ⟨(some 32), (some (31, false)), (.fieldAddr 1), [.t 8]⟩, ⟨(some 33), (some (31, false)), (.load 1 false), [.t 32]⟩, ⟨(some 34), (some (31, false)), (.bin .lss .num), [.t 33, .c (.int .i64 0)]⟩, ⟨(some 35), none, .pick, [.t 31, .c (.bool true), .t 34]⟩, ⟨(some 36), none, .move, [.t 35]⟩, ⟨(some 37), (some (36, false)), (.fieldAddr 1), [.t 8]⟩, ⟨(some 38), (some (36, false)), (.load 1 false), [.t 37]⟩, ⟨(some 39), (some (36, false)), .move, [.t 6]⟩, ⟨(some 40), (some (36, false)), (.len .slice), [.t 39]⟩, ⟨(some 41), (some (36, false)), (.bin .gtr .num), [.t 38, .t 40]⟩, ⟨(some 42), none, .pick, [.t 36, .c (.bool true), .t 41]⟩, ⟨(some 43), none, .move, [.t 42]⟩, ⟨(some 44), (some (43, false)), (.fieldAddr 0), [.t 8]⟩, ⟨(some 45), (some (43, false)), (.load 1 false), [.t 44]⟩, ⟨(some 46), (some (43, false)), (.bin .eql .num), [.t 45, .c (.int .i64 2)]⟩, ⟨(some 47), (some (43, false)), .move, [.t 46]⟩, ⟨(some 48), (some (47, true)), (.fieldAddr 1), [.t 8]⟩, ⟨(some 49), (some (47, true)), (.load 1 false), [.t 48]⟩, ⟨(some 50), (some (47, true)), .move, [.t 6]⟩, ⟨(some 51), (some (47, true)), (.len .slice), [.t 50]⟩, ⟨(some 52), (some (47, true)), (.bin .eql .num), [.t 49, .t 51]⟩, ⟨(some 53), (some (43, false)), .pick, [.t 47, .t 52, .c (.bool false)]⟩, ⟨(some 54), none, .pick, [.t 43, .c (.bool true), .t 53]⟩] none [1, 6, 7, 8, 54])
  (.cond (.t 54) (.seq (.region [⟨(some 4), none, .move, [.c .nils]⟩, ⟨(some 5), none, .move, [.c (.bool false)]⟩] none [4, 5])
  .ret)
  .skip))
  (.seq (.region [⟨(some 9), none, .move, [.c .nils]⟩] none [1, 6, 7, 8, 9])
  (.seq (.region [⟨(some 55), none, .move, [.t 9]⟩, ⟨(some 56), none, .move, [.t 6]⟩, ⟨(some 57), none, (.fieldAddr 1), [.t 8]⟩, ⟨(some 58), none, (.load 1 false), [.t 57]⟩, ⟨(some 59), none, (.slice 1 false true false), [.t 56, .t 58]⟩, ⟨(some 60), none, (.append 1 8), [.t 55, .t 59]⟩, ⟨(some 9), none, .move, [.t 60]⟩] none [1, 6, 7, 8, 9])
  (.seq (.seq (.region [⟨(some 61), none, (.fieldAddr 0), [.t 8]⟩, ⟨(some 62), none, (.load 1 false), [.t 61]⟩, ⟨(some 63), none, (.bin .eql .num), [.t 62, .c (.int .i64 1)]⟩] none [1, 6, 7, 8, 9, 63])
  (.cond (.t 63) (.seq (.region [⟨(some 64), none, .move, [.t 9]⟩, ⟨(some 65), none, (.fieldAddr 2), [.t 8]⟩, ⟨(some 66), none, (.load 1 false), [.t 65]⟩, ⟨(some 67), none, (.buildSlice 1 [(.int .i64 0)] [(0, 1)]), [.t 66]⟩, ⟨(some 68), none, (.append 1 8), [.t 64, .t 67]⟩, ⟨(some 9), none, .move, [.t 68]⟩] none [1, 6, 7, 8, 9])
  (.region [⟨(some 69), none, .move, [.t 9]⟩, ⟨(some 70), none, .move, [.t 6]⟩, ⟨(some 71), none, (.fieldAddr 1), [.t 8]⟩, ⟨(some 72), none, (.load 1 false), [.t 71]⟩, ⟨(some 73), none, (.slice 1 true false false), [.t 70, .t 72]⟩, ⟨(some 74), none, (.append 1 8), [.t 69, .t 73]⟩, ⟨(some 9), none, .move, [.t 74]⟩] none [1, 7, 9]))
  (.region [⟨(some 75), none, .move, [.t 9]⟩, ⟨(some 76), none, .move, [.t 6]⟩, ⟨(some 77), none, (.fieldAddr 1), [.t 8]⟩, ⟨(some 78), none, (.load 1 false), [.t 77]⟩, ⟨(some 79), none, (.bin .add .num), [.t 78, .c (.int .i64 1)]⟩, ⟨(some 80), none, (.slice 1 true false false), [.t 76, .t 79]⟩, ⟨(some 81), none, (.append 1 8), [.t 75, .t 80]⟩, ⟨(some 9), none, .move, [.t 81]⟩] none [1, 7, 9])))
  (.region [⟨(some 82), none, .move, [.t 9]⟩, ⟨(some 6), none, .move, [.t 82]⟩] none [1, 6, 7])))))))
  (.region [⟨(some 17), none, .move, [.t 7]⟩, ⟨(some 18), none, (.bin .add .num), [.t 17, .c (.int .i64 1)]⟩, ⟨(some 7), none, .move, [.t 18]⟩] none [1, 6, 7])))
def l20_1 : ACode := .loop [1, 6, 7] b20_1
def r20_2 : ACode := (.seq (.region [⟨(some 83), none, .move, [.t 6]⟩, ⟨(some 4), none, .move, [.t 83]⟩, ⟨(some 5), none, .move, [.c (.bool true)]⟩] none [4, 5])
  .ret)
/-- duet/duetref18.Apply -/
def c20 : AFun := ⟨2, 84, [.tmp 4, .tmp 5],
  (.seq (.region [⟨(some 4), none, .move, [.c .nils]⟩, ⟨(some 5), none, .move, [.c (.bool false)]⟩] none [0, 1])
  (.seq (.region [⟨(some 6), none, .move, [.c .nils]⟩] none [0, 1, 6])
  (.seq (.region [⟨(some 10), none, .move, [.t 6]⟩, ⟨(some 11), none, .move, [.t 0]⟩, ⟨(some 12), none, (.append 1 8), [.t 10, .t 11]⟩, ⟨(some 6), none, .move, [.t 12]⟩] none [1, 6])
  (.seq (.seq (.region [⟨(some 7), none, .move, [.c (.int .i64 0)]⟩] none [1, 6, 7])
  (.block 0 l20_1)) r20_2))))⟩
theorem ok20 : FunOk Try.prog 20 c20 := ⟨⟨Try.f20, _, Try.func20, rfl, by kernel_rfl, by kernel_rfl, by kernel_rfl, by kernel_rfl⟩, by decide⟩
theorem res20 : c20.res = [.tmp 4, .tmp 5] := rfl
def q20_0 (P : Program) (p : Lab) (Q : VPost) : VPost := (vblockQ 0 (vseqQ (vc P p r20_2 Q) Q))
theorem q20_0_ret (P : Program) (p : Lab) (Q : VPost) (r : RL) (H : Heap) (c : Nat) : q20_0 P p Q .ret r H c = Q .ret r H c := rfl
def V20 (P : Program) (p : Lab) (Q : VPost) (x0 x1 : AV) (H : Heap) (c : Nat) : Prop :=
  vGen (.append 1 8) [.nils, x0] H ((c + 5) :: p) (fun v12_5 H5 l5 f5 =>
  vc P p l20_1 (q20_0 P p Q) [(1, x1), (6, v12_5), (7, (.int .i64 0))] H5 (c + 8))
theorem vt20 (P : Program) (p : Lab) (Q : VPost) (x0 x1 : AV) (H : Heap) (c : Nat) : vc P p c20.body Q [(0, x0), (1, x1)] H c = V20 P p Q x0 x1 H c := by kernel_rfl
def k20_4 (P : Program) (p : Lab) (Q : VPost) (y1 : AV) (y6 : AV) (y7 : AV) (y8 : AV) (H : Heap) (c : Nat) : Prop :=
  Q .ret [(4, .nils), (5, (.bool false))] H (c + 2)
def k20_3 (P : Program) (p : Lab) (Q : VPost) (y1 : AV) (y6 : AV) (y7 : AV) (y8 : AV) (H : Heap) (c : Nat) : Prop :=
  (k20_4 P p Q y1 y6 y7 y8 H (c + 13))
def k20_2 (P : Program) (p : Lab) (Q : VPost) (y1 : AV) (y6 : AV) (y7 : AV) (y8 : AV) (H : Heap) (c : Nat) : Prop :=
  (k20_3 P p Q y1 y6 y7 y8 H (c + 7))
def k20_5 (P : Program) (p : Lab) (Q : VPost) (y1 : AV) (y6 : AV) (y7 : AV) (y8 : AV) (H : Heap) (c : Nat) (_ : Unit) : Prop :=
  (k20_2 P p Q y1 y6 y7 y8 H (c + 5))
def k20_7 (P : Program) (p : Lab) (Q : VPost) (y1 : AV) (y6 : AV) (y7 : AV) (y8 : AV) (H : Heap) (c : Nat) : Prop :=
  (k20_4 P p Q y1 y6 y7 y8 H (c + 13))
def k20_8 (P : Program) (p : Lab) (Q : VPost) (y1 : AV) (y6 : AV) (y7 : AV) (y8 : AV) (H : Heap) (c : Nat) (_ : Unit) : Prop :=
  (k20_7 P p Q y1 y6 y7 y8 H (c + 7))
def k20_10 (P : Program) (p : Lab) (Q : VPost) (y1 : AV) (y6 : AV) (y7 : AV) (y8 : AV) (H : Heap) (c : Nat) (_ : Unit) : Prop :=
  (k20_4 P p Q y1 y6 y7 y8 H (c + 13))
def k20_12 (P : Program) (p : Lab) (Q : VPost)  (H : Heap) (c : Nat) : Prop :=
  Q .ret [(4, .nils), (5, (.bool false))] H c
def k20_13 (P : Program) (p : Lab) (Q : VPost) (H : Heap) (c : Nat) (_ : Unit) : Prop :=
  (k20_12 P p Q  H (c + 2))
def k20_16 (P : Program) (p : Lab) (Q : VPost) (v68_78 : AV) (y1 : AV) (y7 : AV) (c : Nat) (v73_84 : AV) (H84 : Heap) (l84 : List Lab) (f84 : Option (List Lab)) : Prop :=
  vGen (.append 1 8) [v68_78, v73_84] H84 ((c + 11) :: p) (fun v74_85 H85 l85 f85 =>
  vBin .add .num y7 (.int .i64 1) fun v18_90 =>
  Q .normal [(1, y1), (6, v74_85), (7, v18_90)] H85 (c + 18))
def k20_17 (P : Program) (p : Lab) (Q : VPost) (y1 : AV) (y6 : AV) (y7 : AV) (y8 : AV) (c : Nat) (v68_78 : AV) (H78 : Heap) (l78 : List Lab) (f78 : Option (List Lab)) : Prop :=
  vFA 1 y8 fun v71_82 =>
  vLoad 1 false v71_82 H78 fun v72_83 _ =>
  vGen (.slice 1 true false false) [y6, v72_83] H78 ((c + 10) :: p) (k20_16 P p Q v68_78 y1 y7 c)
def k20_15 (P : Program) (p : Lab) (Q : VPost) (y1 : AV) (y6 : AV) (y7 : AV) (y8 : AV) (y9 : AV) (H : Heap) (c : Nat) : Prop :=
  vFA 2 y8 fun v65_75 =>
  vLoad 1 false v65_75 H fun v66_76 _ =>
  vBuildS 1 [(.int .i64 0)] [(0, 1)] [v66_76] fun w77 n77 =>
  (fun (H77 : Heap) =>
  vGen (.append 1 8) [y9, (.sl ((c + 3) :: p) 1 0 n77)] H77 ((c + 4) :: p) (k20_17 P p Q y1 y6 y7 y8 c)) (upd [(((c + 3) :: p), some (.rows 1 w77))] H)
def k20_18 (P : Program) (p : Lab) (Q : VPost) (v60_69 : AV) (H69 : Heap) (y1 : AV) (y6 : AV) (y7 : AV) (y8 : AV) (c : Nat) (_ : Unit) : Prop :=
  (k20_15 P p Q y1 y6 y7 y8 v60_69 H69 (c + 11))
def k20_20 (P : Program) (p : Lab) (Q : VPost) (y1 : AV) (y7 : AV) (y9 : AV) (c : Nat) (v80_97 : AV) (H97 : Heap) (l97 : List Lab) (f97 : Option (List Lab)) : Prop :=
  vGen (.append 1 8) [y9, v80_97] H97 ((c + 6) :: p) (fun v81_98 H98 l98 f98 =>
  vBin .add .num y7 (.int .i64 1) fun v18_103 =>
  Q .normal [(1, y1), (6, v81_98), (7, v18_103)] H98 (c + 13))
def k20_19 (P : Program) (p : Lab) (Q : VPost) (y1 : AV) (y6 : AV) (y7 : AV) (y8 : AV) (y9 : AV) (H : Heap) (c : Nat) : Prop :=
  vFA 1 y8 fun v77_94 =>
  vLoad 1 false v77_94 H fun v78_95 _ =>
  vBin .add .num v78_95 (.int .i64 1) fun v79_96 =>
  vGen (.slice 1 true false false) [y6, v79_96] H ((c + 5) :: p) (k20_20 P p Q y1 y7 y9 c)
def k20_21 (P : Program) (p : Lab) (Q : VPost) (v60_69 : AV) (H69 : Heap) (y1 : AV) (y6 : AV) (y7 : AV) (y8 : AV) (c : Nat) (_ : Unit) : Prop :=
  (k20_19 P p Q y1 y6 y7 y8 v60_69 H69 (c + 11))
def k20_22 (P : Program) (p : Lab) (Q : VPost) (y1 : AV) (y6 : AV) (y7 : AV) (y8 : AV) (c : Nat) (v60_69 : AV) (H69 : Heap) (l69 : List Lab) (f69 : Option (List Lab)) : Prop :=
  vFA 0 y8 fun v61_71 =>
  vLoad 1 false v61_71 H69 fun v62_72 _ =>
  vBin .eql .num v62_72 (.int .i64 1) fun v63_73 =>
  vSel v63_73
  (k20_18 P p Q v60_69 H69 y1 y6 y7 y8 c)
  (k20_21 P p Q v60_69 H69 y1 y6 y7 y8 c)
def k20_23 (P : Program) (p : Lab) (Q : VPost) (y1 : AV) (y6 : AV) (y7 : AV) (y8 : AV) (c : Nat) (v59_68 : AV) (H68 : Heap) (l68 : List Lab) (f68 : Option (List Lab)) : Prop :=
  vGen (.append 1 8) [.nils, v59_68] H68 ((c + 6) :: p) (k20_22 P p Q y1 y6 y7 y8 c)
def k20_14 (P : Program) (p : Lab) (Q : VPost) (y1 : AV) (y6 : AV) (y7 : AV) (y8 : AV) (y54 : AV) (H : Heap) (c : Nat) : Prop :=
  vFA 1 y8 fun v57_66 =>
  vLoad 1 false v57_66 H fun v58_67 _ =>
  vGen (.slice 1 false true false) [y6, v58_67] H ((c + 5) :: p) (k20_23 P p Q y1 y6 y7 y8 c)
def k20_24 (P : Program) (p : Lab) (Q : VPost) (y1 : AV) (y6 : AV) (y7 : AV) (y8 : AV) (y54 : AV) (H : Heap) (c : Nat) (_ : Unit) : Prop :=
  (k20_14 P p Q y1 y6 y7 y8 y54 H c)
def k20_11 (P : Program) (p : Lab) (Q : VPost) (y1 : AV) (y6 : AV) (y7 : AV) (y8 : AV) (y54 : AV) (H : Heap) (c : Nat) : Prop :=
  vSel y54
  (k20_13 P p Q H c)
  (k20_24 P p Q y1 y6 y7 y8 y54 H c)
def k20_25 (P : Program) (p : Lab) (Q : VPost) (y1 : AV) (y6 : AV) (y7 : AV) (y8 : AV) (H : Heap) (c : Nat) (_ : Unit) : Prop :=
  vFA 1 y8 fun v48_54 =>
  vLoad 1 false v48_54 H fun v49_55 _ =>
  vLen y6 fun v51_57 =>
  vBin .eql .num v49_55 v51_57 fun v52_58 =>
  (k20_11 P p Q y1 y6 y7 y8 v52_58 H (c + 13))
def k20_27 (P : Program) (p : Lab) (Q : VPost) (v60_113 : AV) (H113 : Heap) (y1 : AV) (y6 : AV) (y7 : AV) (y8 : AV) (c : Nat) (_ : Unit) : Prop :=
  (k20_15 P p Q y1 y6 y7 y8 v60_113 H113 (c + 11))
def k20_28 (P : Program) (p : Lab) (Q : VPost) (v60_113 : AV) (H113 : Heap) (y1 : AV) (y6 : AV) (y7 : AV) (y8 : AV) (c : Nat) (_ : Unit) : Prop :=
  (k20_19 P p Q y1 y6 y7 y8 v60_113 H113 (c + 11))
def k20_29 (P : Program) (p : Lab) (Q : VPost) (y1 : AV) (y6 : AV) (y7 : AV) (y8 : AV) (c : Nat) (v60_113 : AV) (H113 : Heap) (l113 : List Lab) (f113 : Option (List Lab)) : Prop :=
  vFA 0 y8 fun v61_115 =>
  vLoad 1 false v61_115 H113 fun v62_116 _ =>
  vBin .eql .num v62_116 (.int .i64 1) fun v63_117 =>
  vSel v63_117
  (k20_27 P p Q v60_113 H113 y1 y6 y7 y8 c)
  (k20_28 P p Q v60_113 H113 y1 y6 y7 y8 c)
def k20_30 (P : Program) (p : Lab) (Q : VPost) (y1 : AV) (y6 : AV) (y7 : AV) (y8 : AV) (c : Nat) (v59_112 : AV) (H112 : Heap) (l112 : List Lab) (f112 : Option (List Lab)) : Prop :=
  vGen (.append 1 8) [.nils, v59_112] H112 ((c + 6) :: p) (k20_29 P p Q y1 y6 y7 y8 c)
def k20_26 (P : Program) (p : Lab) (Q : VPost) (y1 : AV) (y6 : AV) (y7 : AV) (y8 : AV) (H : Heap) (c : Nat) : Prop :=
  vFA 1 y8 fun v57_110 =>
  vLoad 1 false v57_110 H fun v58_111 _ =>
  vGen (.slice 1 false true false) [y6, v58_111] H ((c + 5) :: p) (k20_30 P p Q y1 y6 y7 y8 c)
def k20_31 (P : Program) (p : Lab) (Q : VPost) (y1 : AV) (y6 : AV) (y7 : AV) (y8 : AV) (H : Heap) (c : Nat) (_ : Unit) : Prop :=
  (k20_26 P p Q y1 y6 y7 y8 H (c + 13))
def k20_32 (P : Program) (p : Lab) (Q : VPost) (y1 : AV) (y6 : AV) (y7 : AV) (y8 : AV) (H : Heap) (c : Nat) (_ : Unit) : Prop :=
  vFA 0 y8 fun v44_50 =>
  vLoad 1 false v44_50 H fun v45_51 _ =>
  vBin .eql .num v45_51 (.int .i64 2) fun v46_52 =>
  vSel v46_52
  (k20_25 P p Q y1 y6 y7 y8 H c)
  (k20_31 P p Q y1 y6 y7 y8 H c)
def k20_9 (P : Program) (p : Lab) (Q : VPost) (y1 : AV) (y6 : AV) (y7 : AV) (y8 : AV) (y41 : AV) (H : Heap) (c : Nat) : Prop :=
  vSel y41
  (k20_10 P p Q y1 y6 y7 y8 H c)
  (k20_32 P p Q y1 y6 y7 y8 H c)
def k20_33 (P : Program) (p : Lab) (Q : VPost) (y1 : AV) (y6 : AV) (y7 : AV) (y8 : AV) (H : Heap) (c : Nat) (_ : Unit) : Prop :=
  vFA 1 y8 fun v37_42 =>
  vLoad 1 false v37_42 H fun v38_43 _ =>
  vLen y6 fun v40_45 =>
  vBin .gtr .num v38_43 v40_45 fun v41_46 =>
  (k20_9 P p Q y1 y6 y7 y8 v41_46 H (c + 7))
def k20_6 (P : Program) (p : Lab) (Q : VPost) (y1 : AV) (y6 : AV) (y7 : AV) (y8 : AV) (y34 : AV) (H : Heap) (c : Nat) : Prop :=
  vSel y34
  (k20_8 P p Q y1 y6 y7 y8 H c)
  (k20_33 P p Q y1 y6 y7 y8 H c)
def k20_34 (P : Program) (p : Lab) (Q : VPost) (y1 : AV) (y6 : AV) (y7 : AV) (y8 : AV) (H : Heap) (c : Nat) (_ : Unit) : Prop :=
  vFA 1 y8 fun v32_34 =>
  vLoad 1 false v32_34 H fun v33_35 _ =>
  vBin .lss .num v33_35 (.int .i64 0) fun v34_36 =>
  (k20_6 P p Q y1 y6 y7 y8 v34_36 H (c + 5))
def k20_1 (P : Program) (p : Lab) (Q : VPost) (y1 : AV) (y6 : AV) (y7 : AV) (y8 : AV) (y29 : AV) (H : Heap) (c : Nat) : Prop :=
  vSel y29
  (k20_5 P p Q y1 y6 y7 y8 H c)
  (k20_34 P p Q y1 y6 y7 y8 H c)
def k20_35 (P : Program) (p : Lab) (Q : VPost) (H17 : Heap) (y1 : AV) (y6 : AV) (y7 : AV) (c : Nat) (_ : Unit) : Prop :=
  vFA 0 (.ptr ((c + 4) :: p) 3 0 0) fun v27_22 =>
  vLoad 1 false v27_22 H17 fun v28_23 _ =>
  vBin .neq .num v28_23 (.int .i64 2) fun v29_24 =>
  (k20_1 P p Q y1 y6 y7 (.ptr ((c + 4) :: p) 3 0 0) v29_24 H17 (c + 13))
def k20_38 (P : Program) (p : Lab) (Q : VPost) (y1 : AV) (y6 : AV) (y7 : AV) (y8 : AV) (H : Heap) (c : Nat) : Prop :=
  (k20_4 P p Q y1 y6 y7 y8 H (c + 13))
def k20_39 (P : Program) (p : Lab) (Q : VPost) (y1 : AV) (y6 : AV) (y7 : AV) (y8 : AV) (H : Heap) (c : Nat) (_ : Unit) : Prop :=
  (k20_38 P p Q y1 y6 y7 y8 H (c + 7))
def k20_41 (P : Program) (p : Lab) (Q : VPost) (y1 : AV) (y6 : AV) (y7 : AV) (y8 : AV) (H : Heap) (c : Nat) (_ : Unit) : Prop :=
  (k20_4 P p Q y1 y6 y7 y8 H (c + 13))
def k20_42 (P : Program) (p : Lab) (Q : VPost) (y1 : AV) (y6 : AV) (y7 : AV) (y8 : AV) (H : Heap) (c : Nat) (_ : Unit) : Prop :=
  vFA 1 y8 fun v48_140 =>
  vLoad 1 false v48_140 H fun v49_141 _ =>
  vLen y6 fun v51_143 =>
  vBin .eql .num v49_141 v51_143 fun v52_144 =>
  (k20_11 P p Q y1 y6 y7 y8 v52_144 H (c + 13))
def k20_43 (P : Program) (p : Lab) (Q : VPost) (y1 : AV) (y6 : AV) (y7 : AV) (y8 : AV) (H : Heap) (c : Nat) (_ : Unit) : Prop :=
  (k20_26 P p Q y1 y6 y7 y8 H (c + 13))
def k20_44 (P : Program) (p : Lab) (Q : VPost) (y1 : AV) (y6 : AV) (y7 : AV) (y8 : AV) (H : Heap) (c : Nat) (_ : Unit) : Prop :=
  vFA 0 y8 fun v44_136 =>
  vLoad 1 false v44_136 H fun v45_137 _ =>
  vBin .eql .num v45_137 (.int .i64 2) fun v46_138 =>
  vSel v46_138
  (k20_42 P p Q y1 y6 y7 y8 H c)
  (k20_43 P p Q y1 y6 y7 y8 H c)
def k20_40 (P : Program) (p : Lab) (Q : VPost) (y1 : AV) (y6 : AV) (y7 : AV) (y8 : AV) (y41 : AV) (H : Heap) (c : Nat) : Prop :=
  vSel y41
  (k20_41 P p Q y1 y6 y7 y8 H c)
  (k20_44 P p Q y1 y6 y7 y8 H c)
def k20_45 (P : Program) (p : Lab) (Q : VPost) (y1 : AV) (y6 : AV) (y7 : AV) (y8 : AV) (H : Heap) (c : Nat) (_ : Unit) : Prop :=
  vFA 1 y8 fun v37_128 =>
  vLoad 1 false v37_128 H fun v38_129 _ =>
  vLen y6 fun v40_131 =>
  vBin .gtr .num v38_129 v40_131 fun v41_132 =>
  (k20_40 P p Q y1 y6 y7 y8 v41_132 H (c + 7))
def k20_37 (P : Program) (p : Lab) (Q : VPost) (y1 : AV) (y6 : AV) (y7 : AV) (y8 : AV) (y34 : AV) (H : Heap) (c : Nat) : Prop :=
  vSel y34
  (k20_39 P p Q y1 y6 y7 y8 H c)
  (k20_45 P p Q y1 y6 y7 y8 H c)
def k20_36 (P : Program) (p : Lab) (Q : VPost) (y1 : AV) (y6 : AV) (y7 : AV) (y8 : AV) (H : Heap) (c : Nat) : Prop :=
  vFA 1 y8 fun v32_120 =>
  vLoad 1 false v32_120 H fun v33_121 _ =>
  vBin .lss .num v33_121 (.int .i64 0) fun v34_122 =>
  (k20_37 P p Q y1 y6 y7 y8 v34_122 H (c + 5))
def k20_46 (P : Program) (p : Lab) (Q : VPost) (H17 : Heap) (y1 : AV) (y6 : AV) (y7 : AV) (c : Nat) (_ : Unit) : Prop :=
  (k20_36 P p Q y1 y6 y7 (.ptr ((c + 4) :: p) 3 0 0) H17 (c + 13))
def k20_47 (P : Program) (p : Lab) (Q : VPost) (y1 : AV) (y6 : AV) (y7 : AV) (c : Nat) (v_17 : AV) (H17 : Heap) (l17 : List Lab) (f17 : Option (List Lab)) : Prop :=
  vFA 0 (.ptr ((c + 4) :: p) 3 0 0) fun v23_18 =>
  vLoad 1 false v23_18 H17 fun v24_19 _ =>
  vBin .neq .num v24_19 (.int .i64 1) fun v25_20 =>
  vSel v25_20
  (k20_35 P p Q H17 y1 y6 y7 c)
  (k20_46 P p Q H17 y1 y6 y7 c)
def k20_0 (P : Program) (p : Lab) (Q : VPost) (y1 : AV) (y6 : AV) (y7 : AV) (y16 : AV) (H : Heap) (c : Nat) : Prop :=
  vIx 3 y1 y7 fun v21_14 =>
  vLoad 3 true v21_14 H fun v22_15 _ =>
  (fun (H16 : Heap) =>
  vGen (.store 3) [(.ptr ((c + 4) :: p) 3 0 0), v22_15] H16 ((c + 5) :: p) (k20_47 P p Q y1 y6 y7 c)) (upd [(((c + 4) :: p), some (.rows 3 [[(.int .i64 0), (.int .i64 0), (.int .i64 0)]]))] H)
def k20_48 (P : Program) (p : Lab) (Q : VPost) (v16_11 : AV) (x1 : AV) (x6 : AV) (x7 : AV) (H : Heap) (c : Nat) (_ : Unit) : Prop :=
  (k20_0 P p Q x1 x6 x7 v16_11 H (c + 4))
def V20_1 (P : Program) (p : Lab) (Q : VPost) (x1 x6 x7 : AV) (H : Heap) (c : Nat) : Prop :=
  vLen x1 fun v15_10 =>
  vBin .lss .num x7 v15_10 fun v16_11 =>
  vSel v16_11
  (k20_48 P p Q v16_11 x1 x6 x7 H c)
  (fun _ =>
  Q (.exit 0) [(1, x1), (6, x6), (7, x7), (16, v16_11)] H (c + 4))
theorem vt20_1 (P : Program) (p : Lab) (Q : VPost) (x1 x6 x7 : AV) (H : Heap) (c : Nat) : vc P p b20_1 Q [(1, x1), (6, x6), (7, x7)] H c = V20_1 P p Q x1 x6 x7 H c := by kernel_rfl
theorem q20_0_e0 (P : Program) (p : Lab) (Q : VPost) (r : RL) (H : Heap) (c : Nat) : q20_0 P p Q (.exit 0) r H c = (vc P p r20_2 Q r H c) := rfl
def V20_2 (P : Program) (p : Lab) (Q : VPost) (x1 x6 x7 x16 : AV) (H : Heap) (c : Nat) : Prop :=
  Q .ret [(4, x6), (5, (.bool true))] H (c + 3)
theorem vt20_2 (P : Program) (p : Lab) (Q : VPost) (x1 x6 x7 x16 : AV) (H : Heap) (c : Nat) : vc P p r20_2 Q [(1, x1), (6, x6), (7, x7), (16, x16)] H c = V20_2 P p Q x1 x6 x7 x16 H c := by kernel_rfl



end Go.Proofs.Ytbngfbpegdcpkaa
/-! The document's answer for layer 18: runes, letters, words, acts. -/
namespace Go.Proofs.Ytbngfbpegdcpkaa
set_option linter.unusedVariables false
set_option linter.unusedSimpArgs false
set_option maxRecDepth 100000
theorem rrune_pure (n : Int) : Pure Try.prog 57 [.int .i64 n] (.bool (runeB n)) := by
  refine pure_vc Try.mixed ok57 rfl (fun q => ?_)
  simp only [params, Nat.zero_add, Nat.reduceAdd]
  repeat' (first | (simp (disch := omega) only [sel_t, sel_f, sel_dt, sel_df, sel_nt, sel_nf, v_lss, v_leq, v_gtr, v_geq, v_eql, v_neq, v_add, v_sub, v_not, v_min, v_max, v_pick_t, v_pick_f, v_ext0, v_ext1, v_ext2, v_len_isl, List.length_map, v_len_nils, v_len_sl0, v_len_sl, v_ix_map, v_ix_sl, v_nil_ptr, v_nil_iptr, v_fa_ptr, v_fa_iptr, cell_0, cell_s, cell_a2, cell_a3, cell_a7, cell_a10, v_load_map, v_load_r1, v_call_fn, v_call_fnS, v_load_H, ldH_one, ldH_map, v_store_H, stH_one, upd_same, upd_cons_ne, upd_nil, v_box, v_fld, eqs_nils, eqs_sl, v_eqs_ii, v_neqs_ii, sel_andt, sel_andf, sel_nandt, sel_nandf, encI, Int.toNat_natCast, lq_e, lq_r, Bool.not_true, Bool.not_false, Bool.false_eq_true, reduceIte, decide_true, decide_false, v_build_fill, v_buildS_fill, fill_nil, fill_cons, AV.cells, putL, chunk, List.length_cons, List.length_nil, Nat.reduceAdd, Nat.reduceDiv, Nat.reduceMod, List.take_succ_cons, List.take_zero, List.take_nil, List.drop_succ_cons, List.drop_zero, List.drop_nil, List.cons_append, List.nil_append, List.append_nil, List.all_cons, List.all_nil, AV.one, Nat.reduceLeDiff, and_self, and_true, true_and, Nat.zero_add, ne_eq, Nat.succ_ne_zero, not_false_eq_true, Bool.and_self, Nat.reduceEqDiff, Nat.le_refl, res57, vt57, V57, k57_2, k57_3, k57_4, k57_5, k57_6, k57_7, k57_1, k57_8, k57_10, k57_11, k57_12, k57_13, k57_9, k57_14, k57_15, k57_16, k57_17, k57_0, k57_18, k57_20, k57_19, k57_21]) | (refine sel_d (fun _ => ?_) (fun _ => ?_)) | (refine sel_n (fun _ => ?_) (fun _ => ?_)) | (refine sel_and (fun _ => ?_) (fun _ => ?_)) | (refine sel_nand (fun _ => ?_) (fun _ => ?_)) | (refine And.intro (clash_quiet rfl) ?_) | (refine eqs_isl (fun _ => ?_) ?_) | (exfalso; omega; done))
  all_goals (refine vp1 (congrArg AV.bool ?_); rw [Bool.eq_iff_iff]; simp [runeB]; omega)
def letR (c : Int) : Bool := (decide (48 ≤ c) && decide (c ≤ 57)) || (decide (97 ≤ c) && decide (c ≤ 122)) || (decide (65 ≤ c) && decide (c ≤ 90)) || decide (c = 95) || decide (127 < c)
theorem letR_pure (c : Int) : Pure Try.prog 39 [.int .i64 c] (.bool (letR c)) := by
  refine pure_vc Try.mixed ok39 rfl (fun q => ?_)
  simp only [params, Nat.zero_add, Nat.reduceAdd]
  repeat' (first | (simp (disch := omega) only [sel_t, sel_f, sel_dt, sel_df, sel_nt, sel_nf, v_lss, v_leq, v_gtr, v_geq, v_eql, v_neq, v_add, v_sub, v_not, v_min, v_max, v_pick_t, v_pick_f, v_ext0, v_ext1, v_ext2, v_len_isl, List.length_map, v_len_nils, v_len_sl0, v_len_sl, v_ix_map, v_ix_sl, v_nil_ptr, v_nil_iptr, v_fa_ptr, v_fa_iptr, cell_0, cell_s, cell_a2, cell_a3, cell_a7, cell_a10, v_load_map, v_load_r1, v_call_fn, v_call_fnS, v_load_H, ldH_one, ldH_map, v_store_H, stH_one, upd_same, upd_cons_ne, upd_nil, v_box, v_fld, eqs_nils, eqs_sl, v_eqs_ii, v_neqs_ii, sel_andt, sel_andf, sel_nandt, sel_nandf, encI, Int.toNat_natCast, lq_e, lq_r, Bool.not_true, Bool.not_false, Bool.false_eq_true, reduceIte, decide_true, decide_false, v_build_fill, v_buildS_fill, fill_nil, fill_cons, AV.cells, putL, chunk, List.length_cons, List.length_nil, Nat.reduceAdd, Nat.reduceDiv, Nat.reduceMod, List.take_succ_cons, List.take_zero, List.take_nil, List.drop_succ_cons, List.drop_zero, List.drop_nil, List.cons_append, List.nil_append, List.append_nil, List.all_cons, List.all_nil, AV.one, Nat.reduceLeDiff, and_self, and_true, true_and, Nat.zero_add, ne_eq, Nat.succ_ne_zero, not_false_eq_true, Bool.and_self, Nat.reduceEqDiff, Nat.le_refl, res39, vt39, V39, k39_4, k39_3, k39_2, k39_1, k39_5, k39_8, k39_7, k39_9, k39_11, k39_12, k39_14, k39_15, k39_16, k39_13, k39_17, k39_10, k39_18, k39_21, k39_22, k39_20, k39_19, k39_23, k39_24, k39_6, k39_25, k39_28, k39_29, k39_31, k39_32, k39_30, k39_33, k39_27, k39_34, k39_37, k39_38, k39_36, k39_35, k39_39, k39_26, k39_40, k39_41, k39_0, k39_42, k39_46, k39_45, k39_47, k39_49, k39_50, k39_52, k39_53, k39_51, k39_54, k39_48, k39_55, k39_58, k39_59, k39_57, k39_56, k39_60, k39_61, k39_44, k39_62, k39_65, k39_66, k39_68, k39_69, k39_67, k39_70, k39_64, k39_71, k39_74, k39_75, k39_73, k39_72, k39_76, k39_63, k39_77, k39_43, k39_78]) | (refine sel_d (fun _ => ?_) (fun _ => ?_)) | (refine sel_n (fun _ => ?_) (fun _ => ?_)) | (refine sel_and (fun _ => ?_) (fun _ => ?_)) | (refine sel_nand (fun _ => ?_) (fun _ => ?_)) | (refine And.intro (clash_quiet rfl) ?_) | (refine eqs_isl (fun _ => ?_) ?_) | (exfalso; omega; done))
  all_goals (refine vp1 (congrArg AV.bool ?_); simp [letR]; omega)
theorem or_neg {c : Int} (h : c < 0) (h1 : -9223372036854775808 ≤ c) : or32 c < 0 := by
  unfold or32
  have hn : (BitVec.ofInt 64 c).toNat = (c + 18446744073709551616).toNat := by
    rw [BitVec.toNat_ofInt]
    have : c % ((2 ^ 64 : Nat) : Int) = c + 18446744073709551616 := by omega
    rw [this]
  have h2 : (BitVec.ofInt 64 c).toNat ≤ (BitVec.ofInt 64 c ||| BitVec.ofInt 64 32).toNat := by
    rw [BitVec.toNat_or]; exact Nat.left_le_or
  have h3 := (BitVec.ofInt 64 c ||| BitVec.ofInt 64 32).isLt
  generalize (BitVec.ofInt 64 c ||| BitVec.ofInt 64 32).toNat = m at h2 h3 ⊢
  have h4 : (9223372036854775808 : Nat) ≤ m := by omega
  have h5 : m < 18446744073709551616 := h3
  simp [IntKind.wrap, IntKind.bits, IntKind.signed]
  omega
theorem let_small : ∀ n : Fin 128, letB ((n : Nat) : Int) = letR ((n : Nat) : Int) := by decide +kernel
theorem let_eq {c : Int} (h : -9223372036854775808 ≤ c) : letR c = letB c := by
  by_cases h1 : c < 0
  · have := or_neg h1 h
    have a1 : letR c = false := by simp [letR]; omega
    have a2 : letB c = false := by simp [letB]; omega
    rw [a1, a2]
  · by_cases h2 : 127 < c
    · simp [letR, letB, h2]
    · have := let_small ⟨c.toNat, by omega⟩
      have e : ((c.toNat : Nat) : Int) = c := by omega
      simp only [e] at this
      exact this.symm
theorem app_own_l {H : Heap} {p : Lab} {KK : KF} {x y : AV} {e b c k : Nat} {rows src : List (List AV)} {ls : List Lab} (h : Own H x e rows) (hs : aRows e y H = some (src, ls)) (hf : Fresh p c H) (hc : c ≤ k) (he : 0 < e) (h1 : (rows.length + src.length) * b ≤ 140737488355328) (h2 : rows.length + src.length ≤ 4611686018427387904)
    (hk : ∀ x' H' l f, Own H' x' e (rows ++ src) → Fresh p (k + 1) H' → KeepBut x H H' → (∀ lab ∈ labs x', lab ∈ labs x ∨ lab = k :: p) → KK x' H' l f) : vGen (.append e b) [x, y] H (k :: p) KK := by
  have hq : H (k :: p) = none := hf.at hc
  have hfn : ∀ o, Fresh p (k + 1) (upd [(k :: p, o)] H) := fun o j s hj => by
    simp only [Ytbngfbpegdcpkaa.upd, if_neg (app_ne (p := p) (s := s) (show j ≠ k by omega))]
    exact hf j s (by omega)
  by_cases hne : src = []
  · subst hne
    refine ⟨.pure x, ?_, hk x H [] (some []) (by simpa using h) (hf.mono (by omega)) (fun k o hk _ => hk) (fun _ h => .inl h)⟩
    rcases h with ⟨rfl, rfl⟩ | ⟨l, rfl, hl⟩ <;> simp [aop, aAppend, hs]
  · have hn : src.isEmpty = false := by cases src <;> simp at hne ⊢
    rcases h with ⟨rfl, rfl⟩ | ⟨l, rfl, hl⟩
    · refine ⟨⟨.sl (k :: p) e 0 src.length, [(k :: p, some (.rows e src))], some ls⟩, ?_, hk _ _ _ _ (.inr ⟨k :: p, by simp, by simp [upd]⟩) (hfn _) (fun j o hk' _ => ?_) (fun _ h => .inr (List.mem_singleton.1 h))⟩
      · simp only [List.length_nil, Nat.zero_add] at h1 h2
        simp [aop, aAppend, hs, hn, he, h1, h2]
        exact fun h => absurd h hne
      · simp only [upd]
        rw [if_neg (fun e => by rw [e, hq] at hk'; cases hk')]; exact hk'
    · refine ⟨⟨.sl (k :: p) e 0 (rows.length + src.length), [(k :: p, some (.rows e (rows ++ src))), (l, none)], some (l :: ls)⟩, ?_, hk _ _ _ _ (.inr ⟨k :: p, by simp, by simp [upd]⟩) (fun j s hj => ?_) (fun j o hk' hx => ?_) (fun _ h => .inr (List.mem_singleton.1 h))⟩
      · simp [aop, aAppend, hs, hn, hl, he, h1, h2]
        exact fun h => absurd h hne
      · simp only [upd, if_neg (app_ne (p := p) (s := s) (show j ≠ k by omega))]
        rw [hf j s (by omega)]; split <;> rfl
      · simp only [upd]
        rw [if_neg (fun e => by rw [e, hq] at hk'; cases hk'), if_neg (fun e' => hx e 0 rows.length (by rw [e']))]; exact hk'
/-- a part of one's own, to be read -/
def Part (H : Heap) (x y : AV) (src : List (List AV)) : Prop := ∀ H' : Heap, (∀ lab ∈ labs x, H' lab = H lab) → ∃ ls, aRows 1 y H' = some (src, ls)
theorem own_hi {H : Heap} {q : Lab} {KK : KF} {x : AV} {rows : List (List AV)} {n : Nat} (h : Own H x 1 rows) (hn : n ≤ rows.length) (hk : ∀ y, Part H x y (rows.take n) → KK y H [] (some [])) : vGen (.slice 1 false true false) [x, .int .i64 n] H q KK := by
  rcases h with ⟨rfl, rfl⟩ | ⟨l, rfl, hl⟩
  · obtain rfl : n = 0 := by simpa using hn
    refine ⟨.pure .nils, ?_, hk .nils (fun H' _ => ⟨[], by simp [aRows]⟩)⟩
    simp [aop, aSliceOp, aSlice]
  · refine ⟨.pure (.sl l 1 0 n), ?_, hk (.sl l 1 0 n) (fun H' hH => ?_)⟩
    · simp [aop, aSliceOp, aSlice, hn]
    · by_cases h0 : n = 0
      · subst h0; exact ⟨[], by simp [aRows]⟩
      · refine ⟨[l], ?_⟩
        have := hH l (by simp [labs])
        simp [aRows, h0, this, hl, hn]
theorem own_lo {H : Heap} {q : Lab} {KK : KF} {x : AV} {rows : List (List AV)} {n : Nat} (h : Own H x 1 rows) (hn : n ≤ rows.length) (hk : ∀ y, Part H x y (rows.drop n) → KK y H [] (some [])) : vGen (.slice 1 true false false) [x, .int .i64 n] H q KK := by
  rcases h with ⟨rfl, rfl⟩ | ⟨l, rfl, hl⟩
  · obtain rfl : n = 0 := by simpa using hn
    refine ⟨.pure .nils, ?_, hk .nils (fun H' _ => ⟨[], by simp [aRows]⟩)⟩
    simp [aop, aSliceOp, aSlice, AV.len]
  · have e1 : ((rows.length : Int) - n).toNat = rows.length - n := by omega
    refine ⟨.pure (.sl l 1 n (rows.length - n)), ?_, hk (.sl l 1 n (rows.length - n)) (fun H' hH => ?_)⟩
    · have h2 : (n : Int) ≤ rows.length := by omega
      simp [aop, aSliceOp, aSlice, AV.len, hn, e1]
    · have := hH l (by simp [labs])
      by_cases h0 : rows.length - n = 0
      · refine ⟨[], ?_⟩
        rw [h0, List.drop_eq_nil_iff.2 (by omega)]
        simp [aRows]
      · refine ⟨[l], ?_⟩
        have h3 : n + (rows.length - n) ≤ rows.length := by omega
        have e2 : (rows.drop n).take (rows.length - n) = rows.drop n := List.take_of_length_le (by simp)
        simp [aRows, h0, this, hl, h3, e2]
end Go.Proofs.Ytbngfbpegdcpkaa
/-! The document's answer for layer 18: acts that are done to a line. -/
namespace Go.Proofs.Ytbngfbpegdcpkaa
set_option linter.unusedVariables false
set_option linter.unusedSimpArgs false
set_option maxRecDepth 100000
theorem Own.mono2 {H H' : Heap} {x : AV} {e : Nat} {rows : List (List AV)} (h : Own H x e rows) (hk : ∀ lab ∈ labs x, H' lab = H lab) : Own H' x e rows := by
  rcases h with h | ⟨l, rfl, h⟩
  · exact .inl h
  · exact .inr ⟨l, rfl, by rw [hk l (by simp [labs])]; exact h⟩
theorem nat_lo {H : Heap} {q : Lab} {KK : KF} {x : AV} {a : Int} {n : Nat} (e : a = n) (h : vGen (.slice 1 true false false) [x, .int .i64 (n : Int)] H q KK) : vGen (.slice 1 true false false) [x, .int .i64 a] H q KK := by rw [e]; exact h
theorem actL_none {li : List Int} {k p v : Int} (h : p < 0 ∨ (li.length : Int) < p ∨ (k ≠ 1 ∧ (k ≠ 2 ∨ (li.length : Int) ≤ p))) : actL li (k, p, v) = none := by
  simp only [actL]
  split
  · rfl
  · split
    · exfalso; omega
    · rw [if_neg (by omega)]
theorem rapply_pure (l : List Int) (A : List ActV) (hl : l.length ≤ 1000000) (hA : A.length ≤ 1000000) : Pure Try.prog 20 [il l, .isl 3 (A.map encA)] (appR (applyL l A)) := by
  refine pure_vc Try.mixed ok20 rfl (fun q => ?_)
  simp only [params, Nat.zero_add, Nat.reduceAdd]
  rw [vt20]
  unfold V20
  refine app_own_l (x := .nils) Own.nils rows_isl (Fresh.empty (c := 0)) (Nat.zero_le _) (by decide) (by simp; omega) (by simp; omega) (fun x0 H0 l0 f0 ho0 hf0 hkb0 hlb0 => ?_)
  refine vloop (fun m r H c => ∃ (i : Nat) (x : AV) (li : List Int), r = [(1, .isl 3 (A.map encA)), (6, x), (7, .int .i64 i)] ∧ i ≤ A.length ∧ m = A.length - i ∧ Own H x 1 (li.map encI) ∧ Fresh q c H ∧ li.length ≤ l.length + i ∧ applyL l A = applyL li (A.drop i)) A.length ⟨0, x0, l, rfl, Nat.zero_le _, rfl, by simpa using ho0, hf0.mono (by omega), Nat.le_refl _, rfl⟩ ?_
  rintro m r H c ⟨i, x, li, rfl, hi, rfl, hx, hF, hlen, hap⟩
  have hlx : ∀ {K : AV → Prop}, vLen x K = K (.int .i64 li.length) := by intro K; rw [v_len_own hx, List.length_map]
  simp (disch := omega) only [sel_t, sel_f, sel_dt, sel_df, sel_nt, sel_nf, v_lss, v_leq, v_gtr, v_geq, v_eql, v_neq, v_add, v_sub, v_not, v_min, v_max, v_pick_t, v_pick_f, v_ext0, v_ext1, v_ext2, v_len_isl, List.length_map, v_len_nils, v_len_sl0, v_len_sl, v_ix_map, v_ix_sl, v_nil_ptr, v_nil_iptr, v_fa_ptr, v_fa_iptr, cell_0, cell_s, cell_a2, cell_a3, cell_a7, cell_a10, v_load_map, v_load_r1, v_call_fn, v_call_fnS, v_load_H, ldH_one, ldH_map, v_store_H, stH_one, upd_same, upd_cons_ne, upd_nil, v_box, v_fld, eqs_nils, eqs_sl, v_eqs_ii, v_neqs_ii, sel_andt, sel_andf, sel_nandt, sel_nandf, encI, Int.toNat_natCast, lq_e, lq_r, Bool.not_true, Bool.not_false, Bool.false_eq_true, reduceIte, decide_true, decide_false, v_build_fill, v_buildS_fill, fill_nil, fill_cons, AV.cells, putL, chunk, List.length_cons, List.length_nil, Nat.reduceAdd, Nat.reduceDiv, Nat.reduceMod, List.take_succ_cons, List.take_zero, List.take_nil, List.drop_succ_cons, List.drop_zero, List.drop_nil, List.cons_append, List.nil_append, List.append_nil, List.all_cons, List.all_nil, AV.one, Nat.reduceLeDiff, and_self, and_true, true_and, Nat.zero_add, ne_eq, Nat.succ_ne_zero, not_false_eq_true, Bool.and_self, Nat.reduceEqDiff, Nat.le_refl, res20, q20_0_ret, q20_0_e0, vt20, vt20_1, vt20_2, V20, V20_1, V20_2, k20_4, k20_3, k20_2, k20_5, k20_7, k20_8, k20_10, k20_12, k20_13, k20_16, k20_17, k20_15, k20_18, k20_20, k20_19, k20_21, k20_22, k20_23, k20_14, k20_24, k20_11, k20_25, k20_27, k20_28, k20_29, k20_30, k20_26, k20_31, k20_32, k20_9, k20_33, k20_6, k20_34, k20_1, k20_35, k20_38, k20_39, k20_41, k20_42, k20_43, k20_44, k20_40, k20_45, k20_37, k20_36, k20_46, k20_47, k20_0, k20_48, encA]
  refine sel_d (fun hlt => ?_) (fun hge => ?_)
  · have hi' : i < A.length := by omega
    rw [drop_nthA hi', applyL] at hap
    simp (disch := omega) only [sel_t, sel_f, sel_dt, sel_df, sel_nt, sel_nf, v_lss, v_leq, v_gtr, v_geq, v_eql, v_neq, v_add, v_sub, v_not, v_min, v_max, v_pick_t, v_pick_f, v_ext0, v_ext1, v_ext2, v_len_isl, List.length_map, v_len_nils, v_len_sl0, v_len_sl, v_ix_map, v_ix_sl, v_nil_ptr, v_nil_iptr, v_fa_ptr, v_fa_iptr, cell_0, cell_s, cell_a2, cell_a3, cell_a7, cell_a10, v_load_map, v_load_r1, v_call_fn, v_call_fnS, v_load_H, ldH_one, ldH_map, v_store_H, stH_one, upd_same, upd_cons_ne, upd_nil, v_box, v_fld, eqs_nils, eqs_sl, v_eqs_ii, v_neqs_ii, sel_andt, sel_andf, sel_nandt, sel_nandf, encI, Int.toNat_natCast, lq_e, lq_r, Bool.not_true, Bool.not_false, Bool.false_eq_true, reduceIte, decide_true, decide_false, v_build_fill, v_buildS_fill, fill_nil, fill_cons, AV.cells, putL, chunk, List.length_cons, List.length_nil, Nat.reduceAdd, Nat.reduceDiv, Nat.reduceMod, List.take_succ_cons, List.take_zero, List.take_nil, List.drop_succ_cons, List.drop_zero, List.drop_nil, List.cons_append, List.nil_append, List.append_nil, List.all_cons, List.all_nil, AV.one, Nat.reduceLeDiff, and_self, and_true, true_and, Nat.zero_add, ne_eq, Nat.succ_ne_zero, not_false_eq_true, Bool.and_self, Nat.reduceEqDiff, Nat.le_refl, res20, q20_0_ret, q20_0_e0, vt20, vt20_1, vt20_2, V20, V20_1, V20_2, k20_4, k20_3, k20_2, k20_5, k20_7, k20_8, k20_10, k20_12, k20_13, k20_16, k20_17, k20_15, k20_18, k20_20, k20_19, k20_21, k20_22, k20_23, k20_14, k20_24, k20_11, k20_25, k20_27, k20_28, k20_29, k20_30, k20_26, k20_31, k20_32, k20_9, k20_33, k20_6, k20_34, k20_1, k20_35, k20_38, k20_39, k20_41, k20_42, k20_43, k20_44, k20_40, k20_45, k20_37, k20_36, k20_46, k20_47, k20_0, k20_48, encA, hlx]
    generalize nth A i = a at hap ⊢
    obtain ⟨k, p, v⟩ := a
    simp only at hap ⊢
    have hx' : Own (upd [((c + 4 + 4) :: q, some (.rows 3 [[.int .i64 k, .int .i64 p, .int .i64 v]]))] (upd [((c + 4 + 4) :: q, some (.rows 3 [[.int .i64 0, .int .i64 0, .int .i64 0]]))] H)) x 1 (li.map encI) := hx.mono' fun lab hk => by
      have hne : lab ≠ (c + 4 + 4) :: q := fun e => by rw [e, hF.at (by omega)] at hk; cases hk
      rw [upd_ne hne, upd_nil, upd_ne hne, upd_nil]; exact hk
    have hF' : Fresh q (c + 9) (upd [((c + 4 + 4) :: q, some (.rows 3 [[.int .i64 k, .int .i64 p, .int .i64 v]]))] (upd [((c + 4 + 4) :: q, some (.rows 3 [[.int .i64 0, .int .i64 0, .int .i64 0]]))] H)) := (hF.upd (d := c + 9) (by omega) (by omega)).upd (by omega) (by omega)
    have hp' : upd [((c + 4 + 4) :: q, some (.rows 3 [[.int .i64 k, .int .i64 p, .int .i64 v]]))] (upd [((c + 4 + 4) :: q, some (.rows 3 [[.int .i64 0, .int .i64 0, .int .i64 0]]))] H) ((c + 4 + 4) :: q) = some (.rows 3 [[.int .i64 k, .int .i64 p, .int .i64 v]]) := upd_same
    generalize upd [((c + 4 + 4) :: q, some (.rows 3 [[.int .i64 k, .int .i64 p, .int .i64 v]]))] (upd [((c + 4 + 4) :: q, some (.rows 3 [[.int .i64 0, .int .i64 0, .int .i64 0]]))] H) = HA at *
    have bad : actL li (k, p, v) = none → applyL l A = none := fun e => by rw [hap, e]; rfl
    by_cases c1 : k = 1
    · by_cases c2 : 0 ≤ p ∧ p ≤ li.length
      · obtain ⟨c3, c4⟩ := c2
        repeat' (first | (simp (disch := omega) only [sel_t, sel_f, sel_dt, sel_df, sel_nt, sel_nf, v_lss, v_leq, v_gtr, v_geq, v_eql, v_neq, v_add, v_sub, v_not, v_min, v_max, v_pick_t, v_pick_f, v_ext0, v_ext1, v_ext2, v_len_isl, List.length_map, v_len_nils, v_len_sl0, v_len_sl, v_ix_map, v_ix_sl, v_nil_ptr, v_nil_iptr, v_fa_ptr, v_fa_iptr, cell_0, cell_s, cell_a2, cell_a3, cell_a7, cell_a10, v_load_map, v_load_r1, v_call_fn, v_call_fnS, v_load_H, ldH_one, ldH_map, v_store_H, stH_one, upd_same, upd_cons_ne, upd_nil, v_box, v_fld, eqs_nils, eqs_sl, v_eqs_ii, v_neqs_ii, sel_andt, sel_andf, sel_nandt, sel_nandf, encI, Int.toNat_natCast, lq_e, lq_r, Bool.not_true, Bool.not_false, Bool.false_eq_true, reduceIte, decide_true, decide_false, v_build_fill, v_buildS_fill, fill_nil, fill_cons, AV.cells, putL, chunk, List.length_cons, List.length_nil, Nat.reduceAdd, Nat.reduceDiv, Nat.reduceMod, List.take_succ_cons, List.take_zero, List.take_nil, List.drop_succ_cons, List.drop_zero, List.drop_nil, List.cons_append, List.nil_append, List.append_nil, List.all_cons, List.all_nil, AV.one, Nat.reduceLeDiff, and_self, and_true, true_and, Nat.zero_add, ne_eq, Nat.succ_ne_zero, not_false_eq_true, Bool.and_self, Nat.reduceEqDiff, Nat.le_refl, res20, q20_0_ret, q20_0_e0, vt20, vt20_1, vt20_2, V20, V20_1, V20_2, k20_4, k20_3, k20_2, k20_5, k20_7, k20_8, k20_10, k20_12, k20_13, k20_16, k20_17, k20_15, k20_18, k20_20, k20_19, k20_21, k20_22, k20_23, k20_14, k20_24, k20_11, k20_25, k20_27, k20_28, k20_29, k20_30, k20_26, k20_31, k20_32, k20_9, k20_33, k20_6, k20_34, k20_1, k20_35, k20_38, k20_39, k20_41, k20_42, k20_43, k20_44, k20_40, k20_45, k20_37, k20_36, k20_46, k20_47, k20_0, k20_48, encA, hp', hlx]) | (refine sel_d (fun _ => ?_) (fun _ => ?_)) | (refine sel_n (fun _ => ?_) (fun _ => ?_)) | (exfalso; omega; done))
        obtain ⟨n, rfl⟩ : ∃ n : Nat, p = n := ⟨p.toNat, by omega⟩
        have ha : actL li (k, (n : Int), v) = some (insI li n v) := by simp only [actL]; rw [if_neg (by omega), if_pos c1, Int.toNat_natCast]
        rw [ha, Option.bind_some] at hap
        refine own_hi hx' (by simp; omega) (fun y hy => ?_)
        obtain ⟨ls, hls⟩ := hy HA (fun _ _ => rfl)
        simp (disch := omega) only [sel_t, sel_f, sel_dt, sel_df, sel_nt, sel_nf, v_lss, v_leq, v_gtr, v_geq, v_eql, v_neq, v_add, v_sub, v_not, v_min, v_max, v_pick_t, v_pick_f, v_ext0, v_ext1, v_ext2, v_len_isl, List.length_map, v_len_nils, v_len_sl0, v_len_sl, v_ix_map, v_ix_sl, v_nil_ptr, v_nil_iptr, v_fa_ptr, v_fa_iptr, cell_0, cell_s, cell_a2, cell_a3, cell_a7, cell_a10, v_load_map, v_load_r1, v_call_fn, v_call_fnS, v_load_H, ldH_one, ldH_map, v_store_H, stH_one, upd_same, upd_cons_ne, upd_nil, v_box, v_fld, eqs_nils, eqs_sl, v_eqs_ii, v_neqs_ii, sel_andt, sel_andf, sel_nandt, sel_nandf, encI, Int.toNat_natCast, lq_e, lq_r, Bool.not_true, Bool.not_false, Bool.false_eq_true, reduceIte, decide_true, decide_false, v_build_fill, v_buildS_fill, fill_nil, fill_cons, AV.cells, putL, chunk, List.length_cons, List.length_nil, Nat.reduceAdd, Nat.reduceDiv, Nat.reduceMod, List.take_succ_cons, List.take_zero, List.take_nil, List.drop_succ_cons, List.drop_zero, List.drop_nil, List.cons_append, List.nil_append, List.append_nil, List.all_cons, List.all_nil, AV.one, Nat.reduceLeDiff, and_self, and_true, true_and, Nat.zero_add, ne_eq, Nat.succ_ne_zero, not_false_eq_true, Bool.and_self, Nat.reduceEqDiff, Nat.le_refl, res20, q20_0_ret, q20_0_e0, vt20, vt20_1, vt20_2, V20, V20_1, V20_2, k20_4, k20_3, k20_2, k20_5, k20_7, k20_8, k20_10, k20_12, k20_13, k20_16, k20_17, k20_15, k20_18, k20_20, k20_19, k20_21, k20_22, k20_23, k20_14, k20_24, k20_11, k20_25, k20_27, k20_28, k20_29, k20_30, k20_26, k20_31, k20_32, k20_9, k20_33, k20_6, k20_34, k20_1, k20_35, k20_38, k20_39, k20_41, k20_42, k20_43, k20_44, k20_40, k20_45, k20_37, k20_36, k20_46, k20_47, k20_0, k20_48, encA, hp', hlx]
        refine app_own_l (x := .nils) Own.nils hls hF' (by omega) (by decide) (by simp; omega) (by simp; omega) (fun x1 H1 l1 f1 ho1 hf1 hkb1 hlb1 => ?_)
        have hp1 := hkb1 _ _ hp' (fun _ _ _ e => by cases e)
        simp (disch := omega) only [sel_t, sel_f, sel_dt, sel_df, sel_nt, sel_nf, v_lss, v_leq, v_gtr, v_geq, v_eql, v_neq, v_add, v_sub, v_not, v_min, v_max, v_pick_t, v_pick_f, v_ext0, v_ext1, v_ext2, v_len_isl, List.length_map, v_len_nils, v_len_sl0, v_len_sl, v_ix_map, v_ix_sl, v_nil_ptr, v_nil_iptr, v_fa_ptr, v_fa_iptr, cell_0, cell_s, cell_a2, cell_a3, cell_a7, cell_a10, v_load_map, v_load_r1, v_call_fn, v_call_fnS, v_load_H, ldH_one, ldH_map, v_store_H, stH_one, upd_same, upd_cons_ne, upd_nil, v_box, v_fld, eqs_nils, eqs_sl, v_eqs_ii, v_neqs_ii, sel_andt, sel_andf, sel_nandt, sel_nandf, encI, Int.toNat_natCast, lq_e, lq_r, Bool.not_true, Bool.not_false, Bool.false_eq_true, reduceIte, decide_true, decide_false, v_build_fill, v_buildS_fill, fill_nil, fill_cons, AV.cells, putL, chunk, List.length_cons, List.length_nil, Nat.reduceAdd, Nat.reduceDiv, Nat.reduceMod, List.take_succ_cons, List.take_zero, List.take_nil, List.drop_succ_cons, List.drop_zero, List.drop_nil, List.cons_append, List.nil_append, List.append_nil, List.all_cons, List.all_nil, AV.one, Nat.reduceLeDiff, and_self, and_true, true_and, Nat.zero_add, ne_eq, Nat.succ_ne_zero, not_false_eq_true, Bool.and_self, Nat.reduceEqDiff, Nat.le_refl, res20, q20_0_ret, q20_0_e0, vt20, vt20_1, vt20_2, V20, V20_1, V20_2, k20_4, k20_3, k20_2, k20_5, k20_7, k20_8, k20_10, k20_12, k20_13, k20_16, k20_17, k20_15, k20_18, k20_20, k20_19, k20_21, k20_22, k20_23, k20_14, k20_24, k20_11, k20_25, k20_27, k20_28, k20_29, k20_30, k20_26, k20_31, k20_32, k20_9, k20_33, k20_6, k20_34, k20_1, k20_35, k20_38, k20_39, k20_41, k20_42, k20_43, k20_44, k20_40, k20_45, k20_37, k20_36, k20_46, k20_47, k20_0, k20_48, encA, hp1, hlx]
        have hx1 : ∀ lab ∈ labs x, H1 lab = HA lab ∧ lab ∉ labs x1 := fun lab hl => by
          obtain ⟨o, ho⟩ := Option.ne_none_iff_exists'.1 (hx'.lab hl)
          refine ⟨by rw [ho]; exact hkb1 _ _ ho (fun _ _ _ e => by cases e), fun hm => ?_⟩
          rcases hlb1 lab hm with h | h
          · cases h
          · rw [h, hF'.at (by omega)] at ho; cases ho
        have hx1' : Own H1 x 1 (li.map encI) := hx'.mono2 fun lab hl => (hx1 lab hl).1
        refine app_own_l (ho1.upd hf1 (by omega)) (rows_sl (by exact upd_same) rfl (by decide)) (hf1.upd (d := c + 57) (by omega) (by omega)) (by omega) (by decide) (by simp; omega) (by simp; omega) (fun x2 H2 l2 f2 ho2 hf2 hkb2 hlb2 => ?_)
        have hb1 : ∀ lab o, H1 lab = some o → upd [((c + 4 + 13 + 5 + 7 + 13 + 11 + 3) :: q, some (.rows 1 [[.int .i64 v]]))] H1 lab = some o := fun lab o h => by
          rw [upd_ne (fun e => by rw [e, hf1.at (by omega)] at h; cases h)]; exact h
        have hp2 := hkb2 _ _ (hb1 _ _ hp1) (own_labs ho1 hp1 (by decide))
        have hx2' : Own H2 x 1 (li.map encI) := hx1'.mono2 fun lab hl => by
          obtain ⟨o, ho⟩ := Option.ne_none_iff_exists'.1 (hx1'.lab hl)
          rw [ho]
          exact hkb2 _ _ (hb1 _ _ ho) (fun e j m hx => (hx1 lab hl).2 (by simp [hx, labs]))
        simp (disch := omega) only [sel_t, sel_f, sel_dt, sel_df, sel_nt, sel_nf, v_lss, v_leq, v_gtr, v_geq, v_eql, v_neq, v_add, v_sub, v_not, v_min, v_max, v_pick_t, v_pick_f, v_ext0, v_ext1, v_ext2, v_len_isl, List.length_map, v_len_nils, v_len_sl0, v_len_sl, v_ix_map, v_ix_sl, v_nil_ptr, v_nil_iptr, v_fa_ptr, v_fa_iptr, cell_0, cell_s, cell_a2, cell_a3, cell_a7, cell_a10, v_load_map, v_load_r1, v_call_fn, v_call_fnS, v_load_H, ldH_one, ldH_map, v_store_H, stH_one, upd_same, upd_cons_ne, upd_nil, v_box, v_fld, eqs_nils, eqs_sl, v_eqs_ii, v_neqs_ii, sel_andt, sel_andf, sel_nandt, sel_nandf, encI, Int.toNat_natCast, lq_e, lq_r, Bool.not_true, Bool.not_false, Bool.false_eq_true, reduceIte, decide_true, decide_false, v_build_fill, v_buildS_fill, fill_nil, fill_cons, AV.cells, putL, chunk, List.length_cons, List.length_nil, Nat.reduceAdd, Nat.reduceDiv, Nat.reduceMod, List.take_succ_cons, List.take_zero, List.take_nil, List.drop_succ_cons, List.drop_zero, List.drop_nil, List.cons_append, List.nil_append, List.append_nil, List.all_cons, List.all_nil, AV.one, Nat.reduceLeDiff, and_self, and_true, true_and, Nat.zero_add, ne_eq, Nat.succ_ne_zero, not_false_eq_true, Bool.and_self, Nat.reduceEqDiff, Nat.le_refl, res20, q20_0_ret, q20_0_e0, vt20, vt20_1, vt20_2, V20, V20_1, V20_2, k20_4, k20_3, k20_2, k20_5, k20_7, k20_8, k20_10, k20_12, k20_13, k20_16, k20_17, k20_15, k20_18, k20_20, k20_19, k20_21, k20_22, k20_23, k20_14, k20_24, k20_11, k20_25, k20_27, k20_28, k20_29, k20_30, k20_26, k20_31, k20_32, k20_9, k20_33, k20_6, k20_34, k20_1, k20_35, k20_38, k20_39, k20_41, k20_42, k20_43, k20_44, k20_40, k20_45, k20_37, k20_36, k20_46, k20_47, k20_0, k20_48, encA, hp2, hlx]
        refine own_lo hx2' (by simp; omega) (fun y2 hy2 => ?_)
        obtain ⟨ls2, hls2⟩ := hy2 H2 (fun _ _ => rfl)
        refine app_own_l ho2 hls2 hf2 (by omega) (by decide) (by simp; omega) (by simp; omega) (fun x3 H3 l3 f3 ho3 hf3 _ _ => ?_)
        simp (disch := omega) only [sel_t, sel_f, sel_dt, sel_df, sel_nt, sel_nf, v_lss, v_leq, v_gtr, v_geq, v_eql, v_neq, v_add, v_sub, v_not, v_min, v_max, v_pick_t, v_pick_f, v_ext0, v_ext1, v_ext2, v_len_isl, List.length_map, v_len_nils, v_len_sl0, v_len_sl, v_ix_map, v_ix_sl, v_nil_ptr, v_nil_iptr, v_fa_ptr, v_fa_iptr, cell_0, cell_s, cell_a2, cell_a3, cell_a7, cell_a10, v_load_map, v_load_r1, v_call_fn, v_call_fnS, v_load_H, ldH_one, ldH_map, v_store_H, stH_one, upd_same, upd_cons_ne, upd_nil, v_box, v_fld, eqs_nils, eqs_sl, v_eqs_ii, v_neqs_ii, sel_andt, sel_andf, sel_nandt, sel_nandf, encI, Int.toNat_natCast, lq_e, lq_r, Bool.not_true, Bool.not_false, Bool.false_eq_true, reduceIte, decide_true, decide_false, v_build_fill, v_buildS_fill, fill_nil, fill_cons, AV.cells, putL, chunk, List.length_cons, List.length_nil, Nat.reduceAdd, Nat.reduceDiv, Nat.reduceMod, List.take_succ_cons, List.take_zero, List.take_nil, List.drop_succ_cons, List.drop_zero, List.drop_nil, List.cons_append, List.nil_append, List.append_nil, List.all_cons, List.all_nil, AV.one, Nat.reduceLeDiff, and_self, and_true, true_and, Nat.zero_add, ne_eq, Nat.succ_ne_zero, not_false_eq_true, Bool.and_self, Nat.reduceEqDiff, Nat.le_refl, res20, q20_0_ret, q20_0_e0, vt20, vt20_1, vt20_2, V20, V20_1, V20_2, k20_4, k20_3, k20_2, k20_5, k20_7, k20_8, k20_10, k20_12, k20_13, k20_16, k20_17, k20_15, k20_18, k20_20, k20_19, k20_21, k20_22, k20_23, k20_14, k20_24, k20_11, k20_25, k20_27, k20_28, k20_29, k20_30, k20_26, k20_31, k20_32, k20_9, k20_33, k20_6, k20_34, k20_1, k20_35, k20_38, k20_39, k20_41, k20_42, k20_43, k20_44, k20_40, k20_45, k20_37, k20_36, k20_46, k20_47, k20_0, k20_48, encA]
        have hil := insI_len (l := li) (i := n) (c := v) (by omega)
        have e3 : [] ++ (li.map encI).take n ++ [[AV.int .i64 v]] ++ (li.map encI).drop n = (insI li n v).map encI := by simp [insI, encI, List.map_take, List.map_drop]
        rw [e3] at ho3
        exact lq_n (A.length - (i + 1)) (by omega) ⟨i + 1, x3, insI li n v, rfl, by omega, rfl, ho3, hf3.mono (by omega), by omega, hap⟩
      · have e := bad (actL_none (by omega))
        rw [e]
        repeat' (first | (simp (disch := omega) only [sel_t, sel_f, sel_dt, sel_df, sel_nt, sel_nf, v_lss, v_leq, v_gtr, v_geq, v_eql, v_neq, v_add, v_sub, v_not, v_min, v_max, v_pick_t, v_pick_f, v_ext0, v_ext1, v_ext2, v_len_isl, List.length_map, v_len_nils, v_len_sl0, v_len_sl, v_ix_map, v_ix_sl, v_nil_ptr, v_nil_iptr, v_fa_ptr, v_fa_iptr, cell_0, cell_s, cell_a2, cell_a3, cell_a7, cell_a10, v_load_map, v_load_r1, v_call_fn, v_call_fnS, v_load_H, ldH_one, ldH_map, v_store_H, stH_one, upd_same, upd_cons_ne, upd_nil, v_box, v_fld, eqs_nils, eqs_sl, v_eqs_ii, v_neqs_ii, sel_andt, sel_andf, sel_nandt, sel_nandf, encI, Int.toNat_natCast, lq_e, lq_r, Bool.not_true, Bool.not_false, Bool.false_eq_true, reduceIte, decide_true, decide_false, v_build_fill, v_buildS_fill, fill_nil, fill_cons, AV.cells, putL, chunk, List.length_cons, List.length_nil, Nat.reduceAdd, Nat.reduceDiv, Nat.reduceMod, List.take_succ_cons, List.take_zero, List.take_nil, List.drop_succ_cons, List.drop_zero, List.drop_nil, List.cons_append, List.nil_append, List.append_nil, List.all_cons, List.all_nil, AV.one, Nat.reduceLeDiff, and_self, and_true, true_and, Nat.zero_add, ne_eq, Nat.succ_ne_zero, not_false_eq_true, Bool.and_self, Nat.reduceEqDiff, Nat.le_refl, res20, q20_0_ret, q20_0_e0, vt20, vt20_1, vt20_2, V20, V20_1, V20_2, k20_4, k20_3, k20_2, k20_5, k20_7, k20_8, k20_10, k20_12, k20_13, k20_16, k20_17, k20_15, k20_18, k20_20, k20_19, k20_21, k20_22, k20_23, k20_14, k20_24, k20_11, k20_25, k20_27, k20_28, k20_29, k20_30, k20_26, k20_31, k20_32, k20_9, k20_33, k20_6, k20_34, k20_1, k20_35, k20_38, k20_39, k20_41, k20_42, k20_43, k20_44, k20_40, k20_45, k20_37, k20_36, k20_46, k20_47, k20_0, k20_48, encA, hp', hlx]) | (refine sel_d (fun _ => ?_) (fun _ => ?_)) | (refine sel_n (fun _ => ?_) (fun _ => ?_)) | (exfalso; omega; done))
        all_goals exact vp_none (c := 0) (by decide)
    · by_cases c5 : k = 2
      · by_cases c2 : 0 ≤ p ∧ p < li.length
        · obtain ⟨c3, c4⟩ := c2
          repeat' (first | (simp (disch := omega) only [sel_t, sel_f, sel_dt, sel_df, sel_nt, sel_nf, v_lss, v_leq, v_gtr, v_geq, v_eql, v_neq, v_add, v_sub, v_not, v_min, v_max, v_pick_t, v_pick_f, v_ext0, v_ext1, v_ext2, v_len_isl, List.length_map, v_len_nils, v_len_sl0, v_len_sl, v_ix_map, v_ix_sl, v_nil_ptr, v_nil_iptr, v_fa_ptr, v_fa_iptr, cell_0, cell_s, cell_a2, cell_a3, cell_a7, cell_a10, v_load_map, v_load_r1, v_call_fn, v_call_fnS, v_load_H, ldH_one, ldH_map, v_store_H, stH_one, upd_same, upd_cons_ne, upd_nil, v_box, v_fld, eqs_nils, eqs_sl, v_eqs_ii, v_neqs_ii, sel_andt, sel_andf, sel_nandt, sel_nandf, encI, Int.toNat_natCast, lq_e, lq_r, Bool.not_true, Bool.not_false, Bool.false_eq_true, reduceIte, decide_true, decide_false, v_build_fill, v_buildS_fill, fill_nil, fill_cons, AV.cells, putL, chunk, List.length_cons, List.length_nil, Nat.reduceAdd, Nat.reduceDiv, Nat.reduceMod, List.take_succ_cons, List.take_zero, List.take_nil, List.drop_succ_cons, List.drop_zero, List.drop_nil, List.cons_append, List.nil_append, List.append_nil, List.all_cons, List.all_nil, AV.one, Nat.reduceLeDiff, and_self, and_true, true_and, Nat.zero_add, ne_eq, Nat.succ_ne_zero, not_false_eq_true, Bool.and_self, Nat.reduceEqDiff, Nat.le_refl, res20, q20_0_ret, q20_0_e0, vt20, vt20_1, vt20_2, V20, V20_1, V20_2, k20_4, k20_3, k20_2, k20_5, k20_7, k20_8, k20_10, k20_12, k20_13, k20_16, k20_17, k20_15, k20_18, k20_20, k20_19, k20_21, k20_22, k20_23, k20_14, k20_24, k20_11, k20_25, k20_27, k20_28, k20_29, k20_30, k20_26, k20_31, k20_32, k20_9, k20_33, k20_6, k20_34, k20_1, k20_35, k20_38, k20_39, k20_41, k20_42, k20_43, k20_44, k20_40, k20_45, k20_37, k20_36, k20_46, k20_47, k20_0, k20_48, encA, hp', hlx]) | (refine sel_d (fun _ => ?_) (fun _ => ?_)) | (refine sel_n (fun _ => ?_) (fun _ => ?_)) | (exfalso; omega; done))
          obtain ⟨n, rfl⟩ : ∃ n : Nat, p = n := ⟨p.toNat, by omega⟩
          have ha : actL li (k, (n : Int), v) = some (delI li n) := by simp only [actL]; rw [if_neg (by omega), if_neg c1, if_pos ⟨c5, c4⟩, Int.toNat_natCast]
          rw [ha, Option.bind_some] at hap
          refine own_hi hx' (by simp; omega) (fun y hy => ?_)
          obtain ⟨ls, hls⟩ := hy HA (fun _ _ => rfl)
          simp (disch := omega) only [sel_t, sel_f, sel_dt, sel_df, sel_nt, sel_nf, v_lss, v_leq, v_gtr, v_geq, v_eql, v_neq, v_add, v_sub, v_not, v_min, v_max, v_pick_t, v_pick_f, v_ext0, v_ext1, v_ext2, v_len_isl, List.length_map, v_len_nils, v_len_sl0, v_len_sl, v_ix_map, v_ix_sl, v_nil_ptr, v_nil_iptr, v_fa_ptr, v_fa_iptr, cell_0, cell_s, cell_a2, cell_a3, cell_a7, cell_a10, v_load_map, v_load_r1, v_call_fn, v_call_fnS, v_load_H, ldH_one, ldH_map, v_store_H, stH_one, upd_same, upd_cons_ne, upd_nil, v_box, v_fld, eqs_nils, eqs_sl, v_eqs_ii, v_neqs_ii, sel_andt, sel_andf, sel_nandt, sel_nandf, encI, Int.toNat_natCast, lq_e, lq_r, Bool.not_true, Bool.not_false, Bool.false_eq_true, reduceIte, decide_true, decide_false, v_build_fill, v_buildS_fill, fill_nil, fill_cons, AV.cells, putL, chunk, List.length_cons, List.length_nil, Nat.reduceAdd, Nat.reduceDiv, Nat.reduceMod, List.take_succ_cons, List.take_zero, List.take_nil, List.drop_succ_cons, List.drop_zero, List.drop_nil, List.cons_append, List.nil_append, List.append_nil, List.all_cons, List.all_nil, AV.one, Nat.reduceLeDiff, and_self, and_true, true_and, Nat.zero_add, ne_eq, Nat.succ_ne_zero, not_false_eq_true, Bool.and_self, Nat.reduceEqDiff, Nat.le_refl, res20, q20_0_ret, q20_0_e0, vt20, vt20_1, vt20_2, V20, V20_1, V20_2, k20_4, k20_3, k20_2, k20_5, k20_7, k20_8, k20_10, k20_12, k20_13, k20_16, k20_17, k20_15, k20_18, k20_20, k20_19, k20_21, k20_22, k20_23, k20_14, k20_24, k20_11, k20_25, k20_27, k20_28, k20_29, k20_30, k20_26, k20_31, k20_32, k20_9, k20_33, k20_6, k20_34, k20_1, k20_35, k20_38, k20_39, k20_41, k20_42, k20_43, k20_44, k20_40, k20_45, k20_37, k20_36, k20_46, k20_47, k20_0, k20_48, encA, hp', hlx]
          refine app_own_l (x := .nils) Own.nils hls hF' (by omega) (by decide) (by simp; omega) (by simp; omega) (fun x1 H1 l1 f1 ho1 hf1 hkb1 hlb1 => ?_)
          have hp1 := hkb1 _ _ hp' (fun _ _ _ e => by cases e)
          have hx1' : Own H1 x 1 (li.map encI) := hx'.mono2 fun lab hl => by
            obtain ⟨o, ho⟩ := Option.ne_none_iff_exists'.1 (hx'.lab hl)
            rw [ho]; exact hkb1 _ _ ho (fun _ _ _ e => by cases e)
          simp (disch := omega) only [sel_t, sel_f, sel_dt, sel_df, sel_nt, sel_nf, v_lss, v_leq, v_gtr, v_geq, v_eql, v_neq, v_add, v_sub, v_not, v_min, v_max, v_pick_t, v_pick_f, v_ext0, v_ext1, v_ext2, v_len_isl, List.length_map, v_len_nils, v_len_sl0, v_len_sl, v_ix_map, v_ix_sl, v_nil_ptr, v_nil_iptr, v_fa_ptr, v_fa_iptr, cell_0, cell_s, cell_a2, cell_a3, cell_a7, cell_a10, v_load_map, v_load_r1, v_call_fn, v_call_fnS, v_load_H, ldH_one, ldH_map, v_store_H, stH_one, upd_same, upd_cons_ne, upd_nil, v_box, v_fld, eqs_nils, eqs_sl, v_eqs_ii, v_neqs_ii, sel_andt, sel_andf, sel_nandt, sel_nandf, encI, Int.toNat_natCast, lq_e, lq_r, Bool.not_true, Bool.not_false, Bool.false_eq_true, reduceIte, decide_true, decide_false, v_build_fill, v_buildS_fill, fill_nil, fill_cons, AV.cells, putL, chunk, List.length_cons, List.length_nil, Nat.reduceAdd, Nat.reduceDiv, Nat.reduceMod, List.take_succ_cons, List.take_zero, List.take_nil, List.drop_succ_cons, List.drop_zero, List.drop_nil, List.cons_append, List.nil_append, List.append_nil, List.all_cons, List.all_nil, AV.one, Nat.reduceLeDiff, and_self, and_true, true_and, Nat.zero_add, ne_eq, Nat.succ_ne_zero, not_false_eq_true, Bool.and_self, Nat.reduceEqDiff, Nat.le_refl, res20, q20_0_ret, q20_0_e0, vt20, vt20_1, vt20_2, V20, V20_1, V20_2, k20_4, k20_3, k20_2, k20_5, k20_7, k20_8, k20_10, k20_12, k20_13, k20_16, k20_17, k20_15, k20_18, k20_20, k20_19, k20_21, k20_22, k20_23, k20_14, k20_24, k20_11, k20_25, k20_27, k20_28, k20_29, k20_30, k20_26, k20_31, k20_32, k20_9, k20_33, k20_6, k20_34, k20_1, k20_35, k20_38, k20_39, k20_41, k20_42, k20_43, k20_44, k20_40, k20_45, k20_37, k20_36, k20_46, k20_47, k20_0, k20_48, encA, hp1, hlx]
          refine nat_lo (n := n + 1) (by omega) (own_lo hx1' (by simp; omega) (fun y2 hy2 => ?_))
          obtain ⟨ls2, hls2⟩ := hy2 H1 (fun _ _ => rfl)
          refine app_own_l ho1 hls2 hf1 (by omega) (by decide) (by simp; omega) (by simp; omega) (fun x3 H3 l3 f3 ho3 hf3 _ _ => ?_)
          simp (disch := omega) only [sel_t, sel_f, sel_dt, sel_df, sel_nt, sel_nf, v_lss, v_leq, v_gtr, v_geq, v_eql, v_neq, v_add, v_sub, v_not, v_min, v_max, v_pick_t, v_pick_f, v_ext0, v_ext1, v_ext2, v_len_isl, List.length_map, v_len_nils, v_len_sl0, v_len_sl, v_ix_map, v_ix_sl, v_nil_ptr, v_nil_iptr, v_fa_ptr, v_fa_iptr, cell_0, cell_s, cell_a2, cell_a3, cell_a7, cell_a10, v_load_map, v_load_r1, v_call_fn, v_call_fnS, v_load_H, ldH_one, ldH_map, v_store_H, stH_one, upd_same, upd_cons_ne, upd_nil, v_box, v_fld, eqs_nils, eqs_sl, v_eqs_ii, v_neqs_ii, sel_andt, sel_andf, sel_nandt, sel_nandf, encI, Int.toNat_natCast, lq_e, lq_r, Bool.not_true, Bool.not_false, Bool.false_eq_true, reduceIte, decide_true, decide_false, v_build_fill, v_buildS_fill, fill_nil, fill_cons, AV.cells, putL, chunk, List.length_cons, List.length_nil, Nat.reduceAdd, Nat.reduceDiv, Nat.reduceMod, List.take_succ_cons, List.take_zero, List.take_nil, List.drop_succ_cons, List.drop_zero, List.drop_nil, List.cons_append, List.nil_append, List.append_nil, List.all_cons, List.all_nil, AV.one, Nat.reduceLeDiff, and_self, and_true, true_and, Nat.zero_add, ne_eq, Nat.succ_ne_zero, not_false_eq_true, Bool.and_self, Nat.reduceEqDiff, Nat.le_refl, res20, q20_0_ret, q20_0_e0, vt20, vt20_1, vt20_2, V20, V20_1, V20_2, k20_4, k20_3, k20_2, k20_5, k20_7, k20_8, k20_10, k20_12, k20_13, k20_16, k20_17, k20_15, k20_18, k20_20, k20_19, k20_21, k20_22, k20_23, k20_14, k20_24, k20_11, k20_25, k20_27, k20_28, k20_29, k20_30, k20_26, k20_31, k20_32, k20_9, k20_33, k20_6, k20_34, k20_1, k20_35, k20_38, k20_39, k20_41, k20_42, k20_43, k20_44, k20_40, k20_45, k20_37, k20_36, k20_46, k20_47, k20_0, k20_48, encA]
          have hdl := delI_len (l := li) (i := n) (by omega)
          have e3 : [] ++ (li.map encI).take n ++ (li.map encI).drop (n + 1) = (delI li n).map encI := by simp [delI, List.map_take, List.map_drop]
          rw [e3] at ho3
          exact lq_n (A.length - (i + 1)) (by omega) ⟨i + 1, x3, delI li n, rfl, by omega, rfl, ho3, hf3.mono (by omega), by omega, hap⟩
        · have e := bad (actL_none (by omega))
          rw [e]
          repeat' (first | (simp (disch := omega) only [sel_t, sel_f, sel_dt, sel_df, sel_nt, sel_nf, v_lss, v_leq, v_gtr, v_geq, v_eql, v_neq, v_add, v_sub, v_not, v_min, v_max, v_pick_t, v_pick_f, v_ext0, v_ext1, v_ext2, v_len_isl, List.length_map, v_len_nils, v_len_sl0, v_len_sl, v_ix_map, v_ix_sl, v_nil_ptr, v_nil_iptr, v_fa_ptr, v_fa_iptr, cell_0, cell_s, cell_a2, cell_a3, cell_a7, cell_a10, v_load_map, v_load_r1, v_call_fn, v_call_fnS, v_load_H, ldH_one, ldH_map, v_store_H, stH_one, upd_same, upd_cons_ne, upd_nil, v_box, v_fld, eqs_nils, eqs_sl, v_eqs_ii, v_neqs_ii, sel_andt, sel_andf, sel_nandt, sel_nandf, encI, Int.toNat_natCast, lq_e, lq_r, Bool.not_true, Bool.not_false, Bool.false_eq_true, reduceIte, decide_true, decide_false, v_build_fill, v_buildS_fill, fill_nil, fill_cons, AV.cells, putL, chunk, List.length_cons, List.length_nil, Nat.reduceAdd, Nat.reduceDiv, Nat.reduceMod, List.take_succ_cons, List.take_zero, List.take_nil, List.drop_succ_cons, List.drop_zero, List.drop_nil, List.cons_append, List.nil_append, List.append_nil, List.all_cons, List.all_nil, AV.one, Nat.reduceLeDiff, and_self, and_true, true_and, Nat.zero_add, ne_eq, Nat.succ_ne_zero, not_false_eq_true, Bool.and_self, Nat.reduceEqDiff, Nat.le_refl, res20, q20_0_ret, q20_0_e0, vt20, vt20_1, vt20_2, V20, V20_1, V20_2, k20_4, k20_3, k20_2, k20_5, k20_7, k20_8, k20_10, k20_12, k20_13, k20_16, k20_17, k20_15, k20_18, k20_20, k20_19, k20_21, k20_22, k20_23, k20_14, k20_24, k20_11, k20_25, k20_27, k20_28, k20_29, k20_30, k20_26, k20_31, k20_32, k20_9, k20_33, k20_6, k20_34, k20_1, k20_35, k20_38, k20_39, k20_41, k20_42, k20_43, k20_44, k20_40, k20_45, k20_37, k20_36, k20_46, k20_47, k20_0, k20_48, encA, hp', hlx]) | (refine sel_d (fun _ => ?_) (fun _ => ?_)) | (refine sel_n (fun _ => ?_) (fun _ => ?_)) | (exfalso; omega; done))
          all_goals exact vp_none (c := 0) (by decide)
      · have e := bad (actL_none (by omega))
        rw [e]
        repeat' (first | (simp (disch := omega) only [sel_t, sel_f, sel_dt, sel_df, sel_nt, sel_nf, v_lss, v_leq, v_gtr, v_geq, v_eql, v_neq, v_add, v_sub, v_not, v_min, v_max, v_pick_t, v_pick_f, v_ext0, v_ext1, v_ext2, v_len_isl, List.length_map, v_len_nils, v_len_sl0, v_len_sl, v_ix_map, v_ix_sl, v_nil_ptr, v_nil_iptr, v_fa_ptr, v_fa_iptr, cell_0, cell_s, cell_a2, cell_a3, cell_a7, cell_a10, v_load_map, v_load_r1, v_call_fn, v_call_fnS, v_load_H, ldH_one, ldH_map, v_store_H, stH_one, upd_same, upd_cons_ne, upd_nil, v_box, v_fld, eqs_nils, eqs_sl, v_eqs_ii, v_neqs_ii, sel_andt, sel_andf, sel_nandt, sel_nandf, encI, Int.toNat_natCast, lq_e, lq_r, Bool.not_true, Bool.not_false, Bool.false_eq_true, reduceIte, decide_true, decide_false, v_build_fill, v_buildS_fill, fill_nil, fill_cons, AV.cells, putL, chunk, List.length_cons, List.length_nil, Nat.reduceAdd, Nat.reduceDiv, Nat.reduceMod, List.take_succ_cons, List.take_zero, List.take_nil, List.drop_succ_cons, List.drop_zero, List.drop_nil, List.cons_append, List.nil_append, List.append_nil, List.all_cons, List.all_nil, AV.one, Nat.reduceLeDiff, and_self, and_true, true_and, Nat.zero_add, ne_eq, Nat.succ_ne_zero, not_false_eq_true, Bool.and_self, Nat.reduceEqDiff, Nat.le_refl, res20, q20_0_ret, q20_0_e0, vt20, vt20_1, vt20_2, V20, V20_1, V20_2, k20_4, k20_3, k20_2, k20_5, k20_7, k20_8, k20_10, k20_12, k20_13, k20_16, k20_17, k20_15, k20_18, k20_20, k20_19, k20_21, k20_22, k20_23, k20_14, k20_24, k20_11, k20_25, k20_27, k20_28, k20_29, k20_30, k20_26, k20_31, k20_32, k20_9, k20_33, k20_6, k20_34, k20_1, k20_35, k20_38, k20_39, k20_41, k20_42, k20_43, k20_44, k20_40, k20_45, k20_37, k20_36, k20_46, k20_47, k20_0, k20_48, encA, hp', hlx]) | (refine sel_d (fun _ => ?_) (fun _ => ?_)) | (refine sel_n (fun _ => ?_) (fun _ => ?_)) | (exfalso; omega; done))
        all_goals exact vp_none (c := 0) (by decide)
  · obtain rfl : i = A.length := by omega
    rw [hap, List.drop_length, applyL]
    exact ⟨.inr rfl, .tuple [x, .bool true], by simp [aRes, aResL, aRes1, rget], Fr.two (.of_own hx rowOk_ints) (.refl _)⟩
end Go.Proofs.Ytbngfbpegdcpkaa
/-! The document's answer for layer 18: words. -/
namespace Go.Proofs.Ytbngfbpegdcpkaa
set_option linter.unusedVariables false
set_option linter.unusedSimpArgs false
set_option maxRecDepth 100000
theorem rheld_pure (l : List Int) (a : Int) : Pure Try.prog 29 [il l, .int .i64 a] (.int .i64 (heldN l.length a)) := by
  refine pure_vc Try.mixed ok29 rfl (fun q => ?_)
  simp only [params, Nat.zero_add, Nat.reduceAdd]
  repeat' (first | (simp (disch := omega) only [sel_t, sel_f, sel_dt, sel_df, sel_nt, sel_nf, v_lss, v_leq, v_gtr, v_geq, v_eql, v_neq, v_add, v_sub, v_not, v_min, v_max, v_pick_t, v_pick_f, v_ext0, v_ext1, v_ext2, v_len_isl, List.length_map, v_len_nils, v_len_sl0, v_len_sl, v_ix_map, v_ix_sl, v_nil_ptr, v_nil_iptr, v_fa_ptr, v_fa_iptr, cell_0, cell_s, cell_a2, cell_a3, cell_a7, cell_a10, v_load_map, v_load_r1, v_call_fn, v_call_fnS, v_load_H, ldH_one, ldH_map, v_store_H, stH_one, upd_same, upd_cons_ne, upd_nil, v_box, v_fld, eqs_nils, eqs_sl, v_eqs_ii, v_neqs_ii, sel_andt, sel_andf, sel_nandt, sel_nandf, encI, Int.toNat_natCast, lq_e, lq_r, Bool.not_true, Bool.not_false, Bool.false_eq_true, reduceIte, decide_true, decide_false, v_build_fill, v_buildS_fill, fill_nil, fill_cons, AV.cells, putL, chunk, List.length_cons, List.length_nil, Nat.reduceAdd, Nat.reduceDiv, Nat.reduceMod, List.take_succ_cons, List.take_zero, List.take_nil, List.drop_succ_cons, List.drop_zero, List.drop_nil, List.cons_append, List.nil_append, List.append_nil, List.all_cons, List.all_nil, AV.one, Nat.reduceLeDiff, and_self, and_true, true_and, Nat.zero_add, ne_eq, Nat.succ_ne_zero, not_false_eq_true, Bool.and_self, Nat.reduceEqDiff, Nat.le_refl, res29, vt29, V29]) | (refine sel_d (fun _ => ?_) (fun _ => ?_)) | (refine sel_n (fun _ => ?_) (fun _ => ?_)) | (refine sel_and (fun _ => ?_) (fun _ => ?_)) | (refine sel_nand (fun _ => ?_) (fun _ => ?_)) | (refine And.intro (clash_quiet rfl) ?_) | (refine eqs_isl (fun _ => ?_) ?_) | (exfalso; omega; done))
  rw [heldN_eq]
  exact vp1 rfl
theorem rlet_pure {c : Int} (h : -9223372036854775808 ≤ c) : Pure Try.prog 39 [.int .i64 c] (.bool (letB c)) := by
  rw [← let_eq h]; exact letR_pure c
/-- how far one goes on -/
theorem skip_at {b : Bool} {l : List Int} {a i : Nat} (hi : i ≤ l.length) (ha : a ≤ i) (hk : ∀ k, a ≤ k → k < i → askB b (nth l k) = false) (he : i = l.length ∨ askB b (nth l i) = true) : a + skipN b (l.drop a) = i := by
  have hn : ∀ k, nth (l.drop a) k = nth l (a + k) := fun k => by
    unfold nth; simp [List.getD_eq_getElem?_getD]
  rcases Nat.lt_or_ge i l.length with h | h
  · have h1 : askB b (nth l i) = true := he.resolve_left (by omega)
    have := tw_at (p := fun c => !askB b c) (l := l.drop a) (i := i - a) (by simp; omega) (fun k hk' => by rw [hn]; simp [hk (a + k) (by omega) (by omega)]) (by rw [hn, show a + (i - a) = i by omega]; simp [h1])
    unfold skipN; omega
  · have := tw_all (p := fun c => !askB b c) (l := l.drop a) (fun k hk' => by
      rw [List.length_drop] at hk'
      rw [hn]; simp [hk (a + k) (by omega) (by omega)])
    unfold skipN; rw [this, List.length_drop]; omega
theorem rwordOn_pure (l : List Int) (hl : l.length ≤ 1000000000) (hI : ∀ k, k < l.length → -9223372036854775808 ≤ nth l k) (a : Int) : Pure Try.prog 23 [il l, .int .i64 a, .bool false] (.int .i64 (wordOn l (heldN l.length a))) := by
  refine pure_vc Try.mixed ok23 rfl (fun q => ?_)
  simp only [params, Nat.zero_add, Nat.reduceAdd]
  rw [vt23]
  unfold V23
  refine call_pure (rheld_pure l a) ?_
  have hle := @heldN_le l.length a
  generalize heldN l.length a = a0 at hle ⊢
  simp (disch := omega) only [sel_t, sel_f, sel_dt, sel_df, sel_nt, sel_nf, v_lss, v_leq, v_gtr, v_geq, v_eql, v_neq, v_add, v_sub, v_not, v_min, v_max, v_pick_t, v_pick_f, v_ext0, v_ext1, v_ext2, v_len_isl, List.length_map, v_len_nils, v_len_sl0, v_len_sl, v_ix_map, v_ix_sl, v_nil_ptr, v_nil_iptr, v_fa_ptr, v_fa_iptr, cell_0, cell_s, cell_a2, cell_a3, cell_a7, cell_a10, v_load_map, v_load_r1, v_call_fn, v_call_fnS, v_load_H, ldH_one, ldH_map, v_store_H, stH_one, upd_same, upd_cons_ne, upd_nil, v_box, v_fld, eqs_nils, eqs_sl, v_eqs_ii, v_neqs_ii, sel_andt, sel_andf, sel_nandt, sel_nandf, encI, Int.toNat_natCast, lq_e, lq_r, Bool.not_true, Bool.not_false, Bool.false_eq_true, reduceIte, decide_true, decide_false, v_build_fill, v_buildS_fill, fill_nil, fill_cons, AV.cells, putL, chunk, List.length_cons, List.length_nil, Nat.reduceAdd, Nat.reduceDiv, Nat.reduceMod, List.take_succ_cons, List.take_zero, List.take_nil, List.drop_succ_cons, List.drop_zero, List.drop_nil, List.cons_append, List.nil_append, List.append_nil, List.all_cons, List.all_nil, AV.one, Nat.reduceLeDiff, and_self, and_true, true_and, Nat.zero_add, ne_eq, Nat.succ_ne_zero, not_false_eq_true, Bool.and_self, Nat.reduceEqDiff, Nat.le_refl, res23, q23_0_ret, q23_1_ret, q23_0_e0, q23_1_e4, q23_2_ret, q23_3_ret, q23_2_e2, q23_3_e6, vt23, vt23_1, vt23_6, vt23_2, vt23_7, vt23_3, vt23_8, vt23_4, vt23_9, V23, V23_1, V23_6, V23_2, V23_7, V23_3, V23_8, V23_4, V23_9, k23_0, k23_1, k23_2, k23_4, k23_5, k23_3, k23_6, k23_7, k23_8, k23_9, k23_11, k23_12, k23_10, k23_13, k23_14, k23_15, k23_16, k23_18, k23_19, k23_17, k23_20, k23_21, k23_22, k23_23, k23_25, k23_26, k23_24, k23_27, k23_28, k23_29, k23_30]
  refine vloop (fun n r H c => ∃ i : Nat, r = [(0, il l), (1, .int .i64 i)] ∧ H = (fun _ => none) ∧ a0 ≤ i ∧ i ≤ l.length ∧ n = l.length - i ∧ ∀ k, a0 ≤ k → k < i → askB false (nth l k) = false) (l.length - a0) ⟨a0, rfl, rfl, Nat.le_refl _, hle, rfl, fun k h1 h2 => by omega⟩ ?_
  rintro n r H c ⟨i, rfl, rfl, hi0, hi, rfl, hk⟩
  simp (disch := omega) only [sel_t, sel_f, sel_dt, sel_df, sel_nt, sel_nf, v_lss, v_leq, v_gtr, v_geq, v_eql, v_neq, v_add, v_sub, v_not, v_min, v_max, v_pick_t, v_pick_f, v_ext0, v_ext1, v_ext2, v_len_isl, List.length_map, v_len_nils, v_len_sl0, v_len_sl, v_ix_map, v_ix_sl, v_nil_ptr, v_nil_iptr, v_fa_ptr, v_fa_iptr, cell_0, cell_s, cell_a2, cell_a3, cell_a7, cell_a10, v_load_map, v_load_r1, v_call_fn, v_call_fnS, v_load_H, ldH_one, ldH_map, v_store_H, stH_one, upd_same, upd_cons_ne, upd_nil, v_box, v_fld, eqs_nils, eqs_sl, v_eqs_ii, v_neqs_ii, sel_andt, sel_andf, sel_nandt, sel_nandf, encI, Int.toNat_natCast, lq_e, lq_r, Bool.not_true, Bool.not_false, Bool.false_eq_true, reduceIte, decide_true, decide_false, v_build_fill, v_buildS_fill, fill_nil, fill_cons, AV.cells, putL, chunk, List.length_cons, List.length_nil, Nat.reduceAdd, Nat.reduceDiv, Nat.reduceMod, List.take_succ_cons, List.take_zero, List.take_nil, List.drop_succ_cons, List.drop_zero, List.drop_nil, List.cons_append, List.nil_append, List.append_nil, List.all_cons, List.all_nil, AV.one, Nat.reduceLeDiff, and_self, and_true, true_and, Nat.zero_add, ne_eq, Nat.succ_ne_zero, not_false_eq_true, Bool.and_self, Nat.reduceEqDiff, Nat.le_refl, res23, q23_0_ret, q23_1_ret, q23_0_e0, q23_1_e4, q23_2_ret, q23_3_ret, q23_2_e2, q23_3_e6, vt23, vt23_1, vt23_6, vt23_2, vt23_7, vt23_3, vt23_8, vt23_4, vt23_9, V23, V23_1, V23_6, V23_2, V23_7, V23_3, V23_8, V23_4, V23_9, k23_0, k23_1, k23_2, k23_4, k23_5, k23_3, k23_6, k23_7, k23_8, k23_9, k23_11, k23_12, k23_10, k23_13, k23_14, k23_15, k23_16, k23_18, k23_19, k23_17, k23_20, k23_21, k23_22, k23_23, k23_25, k23_26, k23_24, k23_27, k23_28, k23_29, k23_30]
  -- the second loop, from where the first one ends
  have two : ∀ c, a0 + skipN false (l.drop a0) = i → vc Try.prog q l23_8 (q23_3 Try.prog q (VP [.tmp 6] (.int .i64 (wordOn l a0)))) [(0, il l), (1, .int .i64 i)] (fun _ => none) c := by
    intro c hs
    refine vloop (fun n r H c => ∃ j : Nat, r = [(0, il l), (1, .int .i64 j)] ∧ H = (fun _ => none) ∧ i ≤ j ∧ j ≤ l.length ∧ n = l.length - j ∧ ∀ k, i ≤ k → k < j → askB true (nth l k) = false) (l.length - i) ⟨i, rfl, rfl, Nat.le_refl _, hi, rfl, fun k h1 h2 => by omega⟩ ?_
    rintro n r H c ⟨j, rfl, rfl, hj0, hj, rfl, hk2⟩
    simp (disch := omega) only [sel_t, sel_f, sel_dt, sel_df, sel_nt, sel_nf, v_lss, v_leq, v_gtr, v_geq, v_eql, v_neq, v_add, v_sub, v_not, v_min, v_max, v_pick_t, v_pick_f, v_ext0, v_ext1, v_ext2, v_len_isl, List.length_map, v_len_nils, v_len_sl0, v_len_sl, v_ix_map, v_ix_sl, v_nil_ptr, v_nil_iptr, v_fa_ptr, v_fa_iptr, cell_0, cell_s, cell_a2, cell_a3, cell_a7, cell_a10, v_load_map, v_load_r1, v_call_fn, v_call_fnS, v_load_H, ldH_one, ldH_map, v_store_H, stH_one, upd_same, upd_cons_ne, upd_nil, v_box, v_fld, eqs_nils, eqs_sl, v_eqs_ii, v_neqs_ii, sel_andt, sel_andf, sel_nandt, sel_nandf, encI, Int.toNat_natCast, lq_e, lq_r, Bool.not_true, Bool.not_false, Bool.false_eq_true, reduceIte, decide_true, decide_false, v_build_fill, v_buildS_fill, fill_nil, fill_cons, AV.cells, putL, chunk, List.length_cons, List.length_nil, Nat.reduceAdd, Nat.reduceDiv, Nat.reduceMod, List.take_succ_cons, List.take_zero, List.take_nil, List.drop_succ_cons, List.drop_zero, List.drop_nil, List.cons_append, List.nil_append, List.append_nil, List.all_cons, List.all_nil, AV.one, Nat.reduceLeDiff, and_self, and_true, true_and, Nat.zero_add, ne_eq, Nat.succ_ne_zero, not_false_eq_true, Bool.and_self, Nat.reduceEqDiff, Nat.le_refl, res23, q23_0_ret, q23_1_ret, q23_0_e0, q23_1_e4, q23_2_ret, q23_3_ret, q23_2_e2, q23_3_e6, vt23, vt23_1, vt23_6, vt23_2, vt23_7, vt23_3, vt23_8, vt23_4, vt23_9, V23, V23_1, V23_6, V23_2, V23_7, V23_3, V23_8, V23_4, V23_9, k23_0, k23_1, k23_2, k23_4, k23_5, k23_3, k23_6, k23_7, k23_8, k23_9, k23_11, k23_12, k23_10, k23_13, k23_14, k23_15, k23_16, k23_18, k23_19, k23_17, k23_20, k23_21, k23_22, k23_23, k23_25, k23_26, k23_24, k23_27, k23_28, k23_29, k23_30]
    have fin : (j = l.length ∨ askB true (nth l j) = true) → wordOn l a0 = j := fun he => by
      unfold wordOn
      rw [hs]
      exact skip_at hj hj0 hk2 he
    refine sel_d (fun hlt => ?_) (fun hge => ?_)
    · simp (disch := omega) only [sel_t, sel_f, sel_dt, sel_df, sel_nt, sel_nf, v_lss, v_leq, v_gtr, v_geq, v_eql, v_neq, v_add, v_sub, v_not, v_min, v_max, v_pick_t, v_pick_f, v_ext0, v_ext1, v_ext2, v_len_isl, List.length_map, v_len_nils, v_len_sl0, v_len_sl, v_ix_map, v_ix_sl, v_nil_ptr, v_nil_iptr, v_fa_ptr, v_fa_iptr, cell_0, cell_s, cell_a2, cell_a3, cell_a7, cell_a10, v_load_map, v_load_r1, v_call_fn, v_call_fnS, v_load_H, ldH_one, ldH_map, v_store_H, stH_one, upd_same, upd_cons_ne, upd_nil, v_box, v_fld, eqs_nils, eqs_sl, v_eqs_ii, v_neqs_ii, sel_andt, sel_andf, sel_nandt, sel_nandf, encI, Int.toNat_natCast, lq_e, lq_r, Bool.not_true, Bool.not_false, Bool.false_eq_true, reduceIte, decide_true, decide_false, v_build_fill, v_buildS_fill, fill_nil, fill_cons, AV.cells, putL, chunk, List.length_cons, List.length_nil, Nat.reduceAdd, Nat.reduceDiv, Nat.reduceMod, List.take_succ_cons, List.take_zero, List.take_nil, List.drop_succ_cons, List.drop_zero, List.drop_nil, List.cons_append, List.nil_append, List.append_nil, List.all_cons, List.all_nil, AV.one, Nat.reduceLeDiff, and_self, and_true, true_and, Nat.zero_add, ne_eq, Nat.succ_ne_zero, not_false_eq_true, Bool.and_self, Nat.reduceEqDiff, Nat.le_refl, res23, q23_0_ret, q23_1_ret, q23_0_e0, q23_1_e4, q23_2_ret, q23_3_ret, q23_2_e2, q23_3_e6, vt23, vt23_1, vt23_6, vt23_2, vt23_7, vt23_3, vt23_8, vt23_4, vt23_9, V23, V23_1, V23_6, V23_2, V23_7, V23_3, V23_8, V23_4, V23_9, k23_0, k23_1, k23_2, k23_4, k23_5, k23_3, k23_6, k23_7, k23_8, k23_9, k23_11, k23_12, k23_10, k23_13, k23_14, k23_15, k23_16, k23_18, k23_19, k23_17, k23_20, k23_21, k23_22, k23_23, k23_25, k23_26, k23_24, k23_27, k23_28, k23_29, k23_30]
      refine call_pure (rlet_pure (hI j (by omega))) ?_
      cases hb : letB (nth l j)
      · simp (disch := omega) only [sel_t, sel_f, sel_dt, sel_df, sel_nt, sel_nf, v_lss, v_leq, v_gtr, v_geq, v_eql, v_neq, v_add, v_sub, v_not, v_min, v_max, v_pick_t, v_pick_f, v_ext0, v_ext1, v_ext2, v_len_isl, List.length_map, v_len_nils, v_len_sl0, v_len_sl, v_ix_map, v_ix_sl, v_nil_ptr, v_nil_iptr, v_fa_ptr, v_fa_iptr, cell_0, cell_s, cell_a2, cell_a3, cell_a7, cell_a10, v_load_map, v_load_r1, v_call_fn, v_call_fnS, v_load_H, ldH_one, ldH_map, v_store_H, stH_one, upd_same, upd_cons_ne, upd_nil, v_box, v_fld, eqs_nils, eqs_sl, v_eqs_ii, v_neqs_ii, sel_andt, sel_andf, sel_nandt, sel_nandf, encI, Int.toNat_natCast, lq_e, lq_r, Bool.not_true, Bool.not_false, Bool.false_eq_true, reduceIte, decide_true, decide_false, v_build_fill, v_buildS_fill, fill_nil, fill_cons, AV.cells, putL, chunk, List.length_cons, List.length_nil, Nat.reduceAdd, Nat.reduceDiv, Nat.reduceMod, List.take_succ_cons, List.take_zero, List.take_nil, List.drop_succ_cons, List.drop_zero, List.drop_nil, List.cons_append, List.nil_append, List.append_nil, List.all_cons, List.all_nil, AV.one, Nat.reduceLeDiff, and_self, and_true, true_and, Nat.zero_add, ne_eq, Nat.succ_ne_zero, not_false_eq_true, Bool.and_self, Nat.reduceEqDiff, Nat.le_refl, res23, q23_0_ret, q23_1_ret, q23_0_e0, q23_1_e4, q23_2_ret, q23_3_ret, q23_2_e2, q23_3_e6, vt23, vt23_1, vt23_6, vt23_2, vt23_7, vt23_3, vt23_8, vt23_4, vt23_9, V23, V23_1, V23_6, V23_2, V23_7, V23_3, V23_8, V23_4, V23_9, k23_0, k23_1, k23_2, k23_4, k23_5, k23_3, k23_6, k23_7, k23_8, k23_9, k23_11, k23_12, k23_10, k23_13, k23_14, k23_15, k23_16, k23_18, k23_19, k23_17, k23_20, k23_21, k23_22, k23_23, k23_25, k23_26, k23_24, k23_27, k23_28, k23_29, k23_30]
        rw [fin (.inr (by simp [askB, hb]))]
        exact vp1 rfl
      · simp (disch := omega) only [sel_t, sel_f, sel_dt, sel_df, sel_nt, sel_nf, v_lss, v_leq, v_gtr, v_geq, v_eql, v_neq, v_add, v_sub, v_not, v_min, v_max, v_pick_t, v_pick_f, v_ext0, v_ext1, v_ext2, v_len_isl, List.length_map, v_len_nils, v_len_sl0, v_len_sl, v_ix_map, v_ix_sl, v_nil_ptr, v_nil_iptr, v_fa_ptr, v_fa_iptr, cell_0, cell_s, cell_a2, cell_a3, cell_a7, cell_a10, v_load_map, v_load_r1, v_call_fn, v_call_fnS, v_load_H, ldH_one, ldH_map, v_store_H, stH_one, upd_same, upd_cons_ne, upd_nil, v_box, v_fld, eqs_nils, eqs_sl, v_eqs_ii, v_neqs_ii, sel_andt, sel_andf, sel_nandt, sel_nandf, encI, Int.toNat_natCast, lq_e, lq_r, Bool.not_true, Bool.not_false, Bool.false_eq_true, reduceIte, decide_true, decide_false, v_build_fill, v_buildS_fill, fill_nil, fill_cons, AV.cells, putL, chunk, List.length_cons, List.length_nil, Nat.reduceAdd, Nat.reduceDiv, Nat.reduceMod, List.take_succ_cons, List.take_zero, List.take_nil, List.drop_succ_cons, List.drop_zero, List.drop_nil, List.cons_append, List.nil_append, List.append_nil, List.all_cons, List.all_nil, AV.one, Nat.reduceLeDiff, and_self, and_true, true_and, Nat.zero_add, ne_eq, Nat.succ_ne_zero, not_false_eq_true, Bool.and_self, Nat.reduceEqDiff, Nat.le_refl, res23, q23_0_ret, q23_1_ret, q23_0_e0, q23_1_e4, q23_2_ret, q23_3_ret, q23_2_e2, q23_3_e6, vt23, vt23_1, vt23_6, vt23_2, vt23_7, vt23_3, vt23_8, vt23_4, vt23_9, V23, V23_1, V23_6, V23_2, V23_7, V23_3, V23_8, V23_4, V23_9, k23_0, k23_1, k23_2, k23_4, k23_5, k23_3, k23_6, k23_7, k23_8, k23_9, k23_11, k23_12, k23_10, k23_13, k23_14, k23_15, k23_16, k23_18, k23_19, k23_17, k23_20, k23_21, k23_22, k23_23, k23_25, k23_26, k23_24, k23_27, k23_28, k23_29, k23_30]
        refine lq_n (l.length - (j + 1)) (by omega) ⟨j + 1, rfl, rfl, by omega, by omega, rfl, fun k h1 h2 => ?_⟩
        rcases Nat.lt_or_ge k j with h3 | h3
        · exact hk2 k h1 h3
        · rw [show k = j by omega]; simp [askB, hb]
    · simp (disch := omega) only [sel_t, sel_f, sel_dt, sel_df, sel_nt, sel_nf, v_lss, v_leq, v_gtr, v_geq, v_eql, v_neq, v_add, v_sub, v_not, v_min, v_max, v_pick_t, v_pick_f, v_ext0, v_ext1, v_ext2, v_len_isl, List.length_map, v_len_nils, v_len_sl0, v_len_sl, v_ix_map, v_ix_sl, v_nil_ptr, v_nil_iptr, v_fa_ptr, v_fa_iptr, cell_0, cell_s, cell_a2, cell_a3, cell_a7, cell_a10, v_load_map, v_load_r1, v_call_fn, v_call_fnS, v_load_H, ldH_one, ldH_map, v_store_H, stH_one, upd_same, upd_cons_ne, upd_nil, v_box, v_fld, eqs_nils, eqs_sl, v_eqs_ii, v_neqs_ii, sel_andt, sel_andf, sel_nandt, sel_nandf, encI, Int.toNat_natCast, lq_e, lq_r, Bool.not_true, Bool.not_false, Bool.false_eq_true, reduceIte, decide_true, decide_false, v_build_fill, v_buildS_fill, fill_nil, fill_cons, AV.cells, putL, chunk, List.length_cons, List.length_nil, Nat.reduceAdd, Nat.reduceDiv, Nat.reduceMod, List.take_succ_cons, List.take_zero, List.take_nil, List.drop_succ_cons, List.drop_zero, List.drop_nil, List.cons_append, List.nil_append, List.append_nil, List.all_cons, List.all_nil, AV.one, Nat.reduceLeDiff, and_self, and_true, true_and, Nat.zero_add, ne_eq, Nat.succ_ne_zero, not_false_eq_true, Bool.and_self, Nat.reduceEqDiff, Nat.le_refl, res23, q23_0_ret, q23_1_ret, q23_0_e0, q23_1_e4, q23_2_ret, q23_3_ret, q23_2_e2, q23_3_e6, vt23, vt23_1, vt23_6, vt23_2, vt23_7, vt23_3, vt23_8, vt23_4, vt23_9, V23, V23_1, V23_6, V23_2, V23_7, V23_3, V23_8, V23_4, V23_9, k23_0, k23_1, k23_2, k23_4, k23_5, k23_3, k23_6, k23_7, k23_8, k23_9, k23_11, k23_12, k23_10, k23_13, k23_14, k23_15, k23_16, k23_18, k23_19, k23_17, k23_20, k23_21, k23_22, k23_23, k23_25, k23_26, k23_24, k23_27, k23_28, k23_29, k23_30]
      rw [fin (.inl (by omega))]
      exact vp1 rfl
  refine sel_d (fun hlt => ?_) (fun hge => ?_)
  · simp (disch := omega) only [sel_t, sel_f, sel_dt, sel_df, sel_nt, sel_nf, v_lss, v_leq, v_gtr, v_geq, v_eql, v_neq, v_add, v_sub, v_not, v_min, v_max, v_pick_t, v_pick_f, v_ext0, v_ext1, v_ext2, v_len_isl, List.length_map, v_len_nils, v_len_sl0, v_len_sl, v_ix_map, v_ix_sl, v_nil_ptr, v_nil_iptr, v_fa_ptr, v_fa_iptr, cell_0, cell_s, cell_a2, cell_a3, cell_a7, cell_a10, v_load_map, v_load_r1, v_call_fn, v_call_fnS, v_load_H, ldH_one, ldH_map, v_store_H, stH_one, upd_same, upd_cons_ne, upd_nil, v_box, v_fld, eqs_nils, eqs_sl, v_eqs_ii, v_neqs_ii, sel_andt, sel_andf, sel_nandt, sel_nandf, encI, Int.toNat_natCast, lq_e, lq_r, Bool.not_true, Bool.not_false, Bool.false_eq_true, reduceIte, decide_true, decide_false, v_build_fill, v_buildS_fill, fill_nil, fill_cons, AV.cells, putL, chunk, List.length_cons, List.length_nil, Nat.reduceAdd, Nat.reduceDiv, Nat.reduceMod, List.take_succ_cons, List.take_zero, List.take_nil, List.drop_succ_cons, List.drop_zero, List.drop_nil, List.cons_append, List.nil_append, List.append_nil, List.all_cons, List.all_nil, AV.one, Nat.reduceLeDiff, and_self, and_true, true_and, Nat.zero_add, ne_eq, Nat.succ_ne_zero, not_false_eq_true, Bool.and_self, Nat.reduceEqDiff, Nat.le_refl, res23, q23_0_ret, q23_1_ret, q23_0_e0, q23_1_e4, q23_2_ret, q23_3_ret, q23_2_e2, q23_3_e6, vt23, vt23_1, vt23_6, vt23_2, vt23_7, vt23_3, vt23_8, vt23_4, vt23_9, V23, V23_1, V23_6, V23_2, V23_7, V23_3, V23_8, V23_4, V23_9, k23_0, k23_1, k23_2, k23_4, k23_5, k23_3, k23_6, k23_7, k23_8, k23_9, k23_11, k23_12, k23_10, k23_13, k23_14, k23_15, k23_16, k23_18, k23_19, k23_17, k23_20, k23_21, k23_22, k23_23, k23_25, k23_26, k23_24, k23_27, k23_28, k23_29, k23_30]
    refine call_pure (rlet_pure (hI i (by omega))) ?_
    cases hb : letB (nth l i)
    · simp (disch := omega) only [sel_t, sel_f, sel_dt, sel_df, sel_nt, sel_nf, v_lss, v_leq, v_gtr, v_geq, v_eql, v_neq, v_add, v_sub, v_not, v_min, v_max, v_pick_t, v_pick_f, v_ext0, v_ext1, v_ext2, v_len_isl, List.length_map, v_len_nils, v_len_sl0, v_len_sl, v_ix_map, v_ix_sl, v_nil_ptr, v_nil_iptr, v_fa_ptr, v_fa_iptr, cell_0, cell_s, cell_a2, cell_a3, cell_a7, cell_a10, v_load_map, v_load_r1, v_call_fn, v_call_fnS, v_load_H, ldH_one, ldH_map, v_store_H, stH_one, upd_same, upd_cons_ne, upd_nil, v_box, v_fld, eqs_nils, eqs_sl, v_eqs_ii, v_neqs_ii, sel_andt, sel_andf, sel_nandt, sel_nandf, encI, Int.toNat_natCast, lq_e, lq_r, Bool.not_true, Bool.not_false, Bool.false_eq_true, reduceIte, decide_true, decide_false, v_build_fill, v_buildS_fill, fill_nil, fill_cons, AV.cells, putL, chunk, List.length_cons, List.length_nil, Nat.reduceAdd, Nat.reduceDiv, Nat.reduceMod, List.take_succ_cons, List.take_zero, List.take_nil, List.drop_succ_cons, List.drop_zero, List.drop_nil, List.cons_append, List.nil_append, List.append_nil, List.all_cons, List.all_nil, AV.one, Nat.reduceLeDiff, and_self, and_true, true_and, Nat.zero_add, ne_eq, Nat.succ_ne_zero, not_false_eq_true, Bool.and_self, Nat.reduceEqDiff, Nat.le_refl, res23, q23_0_ret, q23_1_ret, q23_0_e0, q23_1_e4, q23_2_ret, q23_3_ret, q23_2_e2, q23_3_e6, vt23, vt23_1, vt23_6, vt23_2, vt23_7, vt23_3, vt23_8, vt23_4, vt23_9, V23, V23_1, V23_6, V23_2, V23_7, V23_3, V23_8, V23_4, V23_9, k23_0, k23_1, k23_2, k23_4, k23_5, k23_3, k23_6, k23_7, k23_8, k23_9, k23_11, k23_12, k23_10, k23_13, k23_14, k23_15, k23_16, k23_18, k23_19, k23_17, k23_20, k23_21, k23_22, k23_23, k23_25, k23_26, k23_24, k23_27, k23_28, k23_29, k23_30]
      refine lq_n (l.length - (i + 1)) (by omega) ⟨i + 1, rfl, rfl, by omega, by omega, rfl, fun k h1 h2 => ?_⟩
      rcases Nat.lt_or_ge k i with h3 | h3
      · exact hk k h1 h3
      · rw [show k = i by omega]; simp [askB, hb]
    · simp (disch := omega) only [sel_t, sel_f, sel_dt, sel_df, sel_nt, sel_nf, v_lss, v_leq, v_gtr, v_geq, v_eql, v_neq, v_add, v_sub, v_not, v_min, v_max, v_pick_t, v_pick_f, v_ext0, v_ext1, v_ext2, v_len_isl, List.length_map, v_len_nils, v_len_sl0, v_len_sl, v_ix_map, v_ix_sl, v_nil_ptr, v_nil_iptr, v_fa_ptr, v_fa_iptr, cell_0, cell_s, cell_a2, cell_a3, cell_a7, cell_a10, v_load_map, v_load_r1, v_call_fn, v_call_fnS, v_load_H, ldH_one, ldH_map, v_store_H, stH_one, upd_same, upd_cons_ne, upd_nil, v_box, v_fld, eqs_nils, eqs_sl, v_eqs_ii, v_neqs_ii, sel_andt, sel_andf, sel_nandt, sel_nandf, encI, Int.toNat_natCast, lq_e, lq_r, Bool.not_true, Bool.not_false, Bool.false_eq_true, reduceIte, decide_true, decide_false, v_build_fill, v_buildS_fill, fill_nil, fill_cons, AV.cells, putL, chunk, List.length_cons, List.length_nil, Nat.reduceAdd, Nat.reduceDiv, Nat.reduceMod, List.take_succ_cons, List.take_zero, List.take_nil, List.drop_succ_cons, List.drop_zero, List.drop_nil, List.cons_append, List.nil_append, List.append_nil, List.all_cons, List.all_nil, AV.one, Nat.reduceLeDiff, and_self, and_true, true_and, Nat.zero_add, ne_eq, Nat.succ_ne_zero, not_false_eq_true, Bool.and_self, Nat.reduceEqDiff, Nat.le_refl, res23, q23_0_ret, q23_1_ret, q23_0_e0, q23_1_e4, q23_2_ret, q23_3_ret, q23_2_e2, q23_3_e6, vt23, vt23_1, vt23_6, vt23_2, vt23_7, vt23_3, vt23_8, vt23_4, vt23_9, V23, V23_1, V23_6, V23_2, V23_7, V23_3, V23_8, V23_4, V23_9, k23_0, k23_1, k23_2, k23_4, k23_5, k23_3, k23_6, k23_7, k23_8, k23_9, k23_11, k23_12, k23_10, k23_13, k23_14, k23_15, k23_16, k23_18, k23_19, k23_17, k23_20, k23_21, k23_22, k23_23, k23_25, k23_26, k23_24, k23_27, k23_28, k23_29, k23_30]
      exact two _ (skip_at hi hi0 hk (.inr (by simp [askB, hb])))
  · simp (disch := omega) only [sel_t, sel_f, sel_dt, sel_df, sel_nt, sel_nf, v_lss, v_leq, v_gtr, v_geq, v_eql, v_neq, v_add, v_sub, v_not, v_min, v_max, v_pick_t, v_pick_f, v_ext0, v_ext1, v_ext2, v_len_isl, List.length_map, v_len_nils, v_len_sl0, v_len_sl, v_ix_map, v_ix_sl, v_nil_ptr, v_nil_iptr, v_fa_ptr, v_fa_iptr, cell_0, cell_s, cell_a2, cell_a3, cell_a7, cell_a10, v_load_map, v_load_r1, v_call_fn, v_call_fnS, v_load_H, ldH_one, ldH_map, v_store_H, stH_one, upd_same, upd_cons_ne, upd_nil, v_box, v_fld, eqs_nils, eqs_sl, v_eqs_ii, v_neqs_ii, sel_andt, sel_andf, sel_nandt, sel_nandf, encI, Int.toNat_natCast, lq_e, lq_r, Bool.not_true, Bool.not_false, Bool.false_eq_true, reduceIte, decide_true, decide_false, v_build_fill, v_buildS_fill, fill_nil, fill_cons, AV.cells, putL, chunk, List.length_cons, List.length_nil, Nat.reduceAdd, Nat.reduceDiv, Nat.reduceMod, List.take_succ_cons, List.take_zero, List.take_nil, List.drop_succ_cons, List.drop_zero, List.drop_nil, List.cons_append, List.nil_append, List.append_nil, List.all_cons, List.all_nil, AV.one, Nat.reduceLeDiff, and_self, and_true, true_and, Nat.zero_add, ne_eq, Nat.succ_ne_zero, not_false_eq_true, Bool.and_self, Nat.reduceEqDiff, Nat.le_refl, res23, q23_0_ret, q23_1_ret, q23_0_e0, q23_1_e4, q23_2_ret, q23_3_ret, q23_2_e2, q23_3_e6, vt23, vt23_1, vt23_6, vt23_2, vt23_7, vt23_3, vt23_8, vt23_4, vt23_9, V23, V23_1, V23_6, V23_2, V23_7, V23_3, V23_8, V23_4, V23_9, k23_0, k23_1, k23_2, k23_4, k23_5, k23_3, k23_6, k23_7, k23_8, k23_9, k23_11, k23_12, k23_10, k23_13, k23_14, k23_15, k23_16, k23_18, k23_19, k23_17, k23_20, k23_21, k23_22, k23_23, k23_25, k23_26, k23_24, k23_27, k23_28, k23_29, k23_30]
    exact two _ (skip_at hi hi0 hk (.inl (by omega)))
/-- how far one goes back -/
theorem skip_back {b : Bool} {l : List Int} {a i : Nat} (ha : a ≤ l.length) (hi : i ≤ a) (hk : ∀ k, i ≤ k → k < a → askB b (nth l k) = false) (he : i = 0 ∨ askB b (nth l (i - 1)) = true) : skipN b (l.take a).reverse = a - i := by
  have hlen : (l.take a).reverse.length = a := by simp; omega
  have hn : ∀ k, k < a → nth (l.take a).reverse k = nth l (a - 1 - k) := fun k hk => by
    rw [nth_rev (by simp; omega)]
    unfold nth
    simp only [List.getD_eq_getElem?_getD, List.length_take]
    rw [List.getElem?_take_of_lt (by omega)]
    congr 2; omega
  rcases Nat.eq_zero_or_pos i with h | h
  · subst h
    have := tw_all (p := fun c => !askB b c) (l := (l.take a).reverse) (fun k hk' => by
      rw [hlen] at hk'
      rw [hn k hk']; simp [hk (a - 1 - k) (by omega) (by omega)])
    unfold skipN; rw [this, hlen]; omega
  · have h1 : askB b (nth l (i - 1)) = true := he.resolve_left (by omega)
    have := tw_at (p := fun c => !askB b c) (l := (l.take a).reverse) (i := a - i) (by omega) (fun k hk' => by rw [hn k (by omega)]; simp [hk (a - 1 - k) (by omega) (by omega)]) (by rw [hn (a - i) (by omega), show a - 1 - (a - i) = i - 1 by omega]; simp [h1])
    unfold skipN; omega
theorem rwordBack_pure (l : List Int) (hl : l.length ≤ 1000000000) (hI : ∀ k, k < l.length → -9223372036854775808 ≤ nth l k) (a : Int) : Pure Try.prog 23 [il l, .int .i64 a, .bool true] (.int .i64 (wordBack l (heldN l.length a))) := by
  refine pure_vc Try.mixed ok23 rfl (fun q => ?_)
  simp only [params, Nat.zero_add, Nat.reduceAdd]
  rw [vt23]
  unfold V23
  refine call_pure (rheld_pure l a) ?_
  have hle := @heldN_le l.length a
  generalize heldN l.length a = a0 at hle ⊢
  simp (disch := omega) only [sel_t, sel_f, sel_dt, sel_df, sel_nt, sel_nf, v_lss, v_leq, v_gtr, v_geq, v_eql, v_neq, v_add, v_sub, v_not, v_min, v_max, v_pick_t, v_pick_f, v_ext0, v_ext1, v_ext2, v_len_isl, List.length_map, v_len_nils, v_len_sl0, v_len_sl, v_ix_map, v_ix_sl, v_nil_ptr, v_nil_iptr, v_fa_ptr, v_fa_iptr, cell_0, cell_s, cell_a2, cell_a3, cell_a7, cell_a10, v_load_map, v_load_r1, v_call_fn, v_call_fnS, v_load_H, ldH_one, ldH_map, v_store_H, stH_one, upd_same, upd_cons_ne, upd_nil, v_box, v_fld, eqs_nils, eqs_sl, v_eqs_ii, v_neqs_ii, sel_andt, sel_andf, sel_nandt, sel_nandf, encI, Int.toNat_natCast, lq_e, lq_r, Bool.not_true, Bool.not_false, Bool.false_eq_true, reduceIte, decide_true, decide_false, v_build_fill, v_buildS_fill, fill_nil, fill_cons, AV.cells, putL, chunk, List.length_cons, List.length_nil, Nat.reduceAdd, Nat.reduceDiv, Nat.reduceMod, List.take_succ_cons, List.take_zero, List.take_nil, List.drop_succ_cons, List.drop_zero, List.drop_nil, List.cons_append, List.nil_append, List.append_nil, List.all_cons, List.all_nil, AV.one, Nat.reduceLeDiff, and_self, and_true, true_and, Nat.zero_add, ne_eq, Nat.succ_ne_zero, not_false_eq_true, Bool.and_self, Nat.reduceEqDiff, Nat.le_refl, res23, q23_0_ret, q23_1_ret, q23_0_e0, q23_1_e4, q23_2_ret, q23_3_ret, q23_2_e2, q23_3_e6, vt23, vt23_1, vt23_6, vt23_2, vt23_7, vt23_3, vt23_8, vt23_4, vt23_9, V23, V23_1, V23_6, V23_2, V23_7, V23_3, V23_8, V23_4, V23_9, k23_0, k23_1, k23_2, k23_4, k23_5, k23_3, k23_6, k23_7, k23_8, k23_9, k23_11, k23_12, k23_10, k23_13, k23_14, k23_15, k23_16, k23_18, k23_19, k23_17, k23_20, k23_21, k23_22, k23_23, k23_25, k23_26, k23_24, k23_27, k23_28, k23_29, k23_30]
  refine vloop (fun n r H c => ∃ i : Nat, r = [(0, il l), (1, .int .i64 i)] ∧ H = (fun _ => none) ∧ i ≤ a0 ∧ n = i ∧ ∀ k, i ≤ k → k < a0 → askB false (nth l k) = false) a0 ⟨a0, rfl, rfl, Nat.le_refl _, rfl, fun k h1 h2 => by omega⟩ ?_
  rintro n r H c ⟨i, rfl, rfl, hi, rfl, hk⟩
  simp (disch := omega) only [sel_t, sel_f, sel_dt, sel_df, sel_nt, sel_nf, v_lss, v_leq, v_gtr, v_geq, v_eql, v_neq, v_add, v_sub, v_not, v_min, v_max, v_pick_t, v_pick_f, v_ext0, v_ext1, v_ext2, v_len_isl, List.length_map, v_len_nils, v_len_sl0, v_len_sl, v_ix_map, v_ix_sl, v_nil_ptr, v_nil_iptr, v_fa_ptr, v_fa_iptr, cell_0, cell_s, cell_a2, cell_a3, cell_a7, cell_a10, v_load_map, v_load_r1, v_call_fn, v_call_fnS, v_load_H, ldH_one, ldH_map, v_store_H, stH_one, upd_same, upd_cons_ne, upd_nil, v_box, v_fld, eqs_nils, eqs_sl, v_eqs_ii, v_neqs_ii, sel_andt, sel_andf, sel_nandt, sel_nandf, encI, Int.toNat_natCast, lq_e, lq_r, Bool.not_true, Bool.not_false, Bool.false_eq_true, reduceIte, decide_true, decide_false, v_build_fill, v_buildS_fill, fill_nil, fill_cons, AV.cells, putL, chunk, List.length_cons, List.length_nil, Nat.reduceAdd, Nat.reduceDiv, Nat.reduceMod, List.take_succ_cons, List.take_zero, List.take_nil, List.drop_succ_cons, List.drop_zero, List.drop_nil, List.cons_append, List.nil_append, List.append_nil, List.all_cons, List.all_nil, AV.one, Nat.reduceLeDiff, and_self, and_true, true_and, Nat.zero_add, ne_eq, Nat.succ_ne_zero, not_false_eq_true, Bool.and_self, Nat.reduceEqDiff, Nat.le_refl, res23, q23_0_ret, q23_1_ret, q23_0_e0, q23_1_e4, q23_2_ret, q23_3_ret, q23_2_e2, q23_3_e6, vt23, vt23_1, vt23_6, vt23_2, vt23_7, vt23_3, vt23_8, vt23_4, vt23_9, V23, V23_1, V23_6, V23_2, V23_7, V23_3, V23_8, V23_4, V23_9, k23_0, k23_1, k23_2, k23_4, k23_5, k23_3, k23_6, k23_7, k23_8, k23_9, k23_11, k23_12, k23_10, k23_13, k23_14, k23_15, k23_16, k23_18, k23_19, k23_17, k23_20, k23_21, k23_22, k23_23, k23_25, k23_26, k23_24, k23_27, k23_28, k23_29, k23_30]
  have two : ∀ rr c, restrict rr [0, 1] = [(0, il l), (1, .int .i64 n)] → skipN false (l.take a0).reverse = a0 - n → vc Try.prog q l23_3 (q23_2 Try.prog q (vseqQ (vc Try.prog q r23_5 (VP [.tmp 6] (.int .i64 (wordBack l a0)))) (VP [.tmp 6] (.int .i64 (wordBack l a0))))) rr (fun _ => none) c := by
    intro rr c hrr hs
    refine vloop (fun m r H c => ∃ j : Nat, r = [(0, il l), (1, .int .i64 j)] ∧ H = (fun _ => none) ∧ j ≤ n ∧ m = j ∧ ∀ k, j ≤ k → k < n → askB true (nth l k) = false) n ⟨n, hrr, rfl, Nat.le_refl _, rfl, fun k h1 h2 => by omega⟩ ?_
    rintro m r H c ⟨j, rfl, rfl, hj, rfl, hk2⟩
    simp (disch := omega) only [sel_t, sel_f, sel_dt, sel_df, sel_nt, sel_nf, v_lss, v_leq, v_gtr, v_geq, v_eql, v_neq, v_add, v_sub, v_not, v_min, v_max, v_pick_t, v_pick_f, v_ext0, v_ext1, v_ext2, v_len_isl, List.length_map, v_len_nils, v_len_sl0, v_len_sl, v_ix_map, v_ix_sl, v_nil_ptr, v_nil_iptr, v_fa_ptr, v_fa_iptr, cell_0, cell_s, cell_a2, cell_a3, cell_a7, cell_a10, v_load_map, v_load_r1, v_call_fn, v_call_fnS, v_load_H, ldH_one, ldH_map, v_store_H, stH_one, upd_same, upd_cons_ne, upd_nil, v_box, v_fld, eqs_nils, eqs_sl, v_eqs_ii, v_neqs_ii, sel_andt, sel_andf, sel_nandt, sel_nandf, encI, Int.toNat_natCast, lq_e, lq_r, Bool.not_true, Bool.not_false, Bool.false_eq_true, reduceIte, decide_true, decide_false, v_build_fill, v_buildS_fill, fill_nil, fill_cons, AV.cells, putL, chunk, List.length_cons, List.length_nil, Nat.reduceAdd, Nat.reduceDiv, Nat.reduceMod, List.take_succ_cons, List.take_zero, List.take_nil, List.drop_succ_cons, List.drop_zero, List.drop_nil, List.cons_append, List.nil_append, List.append_nil, List.all_cons, List.all_nil, AV.one, Nat.reduceLeDiff, and_self, and_true, true_and, Nat.zero_add, ne_eq, Nat.succ_ne_zero, not_false_eq_true, Bool.and_self, Nat.reduceEqDiff, Nat.le_refl, res23, q23_0_ret, q23_1_ret, q23_0_e0, q23_1_e4, q23_2_ret, q23_3_ret, q23_2_e2, q23_3_e6, vt23, vt23_1, vt23_6, vt23_2, vt23_7, vt23_3, vt23_8, vt23_4, vt23_9, V23, V23_1, V23_6, V23_2, V23_7, V23_3, V23_8, V23_4, V23_9, k23_0, k23_1, k23_2, k23_4, k23_5, k23_3, k23_6, k23_7, k23_8, k23_9, k23_11, k23_12, k23_10, k23_13, k23_14, k23_15, k23_16, k23_18, k23_19, k23_17, k23_20, k23_21, k23_22, k23_23, k23_25, k23_26, k23_24, k23_27, k23_28, k23_29, k23_30]
    have fin : (m = 0 ∨ askB true (nth l (m - 1)) = true) → wordBack l a0 = m := fun he => by
      unfold wordBack wordOn
      rw [List.drop_zero, Nat.zero_add, hs, List.drop_reverse]
      have hlt : (l.take a0).length = a0 := by simp; omega
      rw [hlt, List.take_take, show a0 - (a0 - n) = n by omega, Nat.min_eq_left hi]
      rw [skip_back (by omega) hj hk2 he]
      omega
    refine sel_d (fun hlt => ?_) (fun hge => ?_)
    · simp (disch := omega) only [sel_t, sel_f, sel_dt, sel_df, sel_nt, sel_nf, v_lss, v_leq, v_gtr, v_geq, v_eql, v_neq, v_add, v_sub, v_not, v_min, v_max, v_pick_t, v_pick_f, v_ext0, v_ext1, v_ext2, v_len_isl, List.length_map, v_len_nils, v_len_sl0, v_len_sl, v_ix_map, v_ix_sl, v_nil_ptr, v_nil_iptr, v_fa_ptr, v_fa_iptr, cell_0, cell_s, cell_a2, cell_a3, cell_a7, cell_a10, v_load_map, v_load_r1, v_call_fn, v_call_fnS, v_load_H, ldH_one, ldH_map, v_store_H, stH_one, upd_same, upd_cons_ne, upd_nil, v_box, v_fld, eqs_nils, eqs_sl, v_eqs_ii, v_neqs_ii, sel_andt, sel_andf, sel_nandt, sel_nandf, encI, Int.toNat_natCast, lq_e, lq_r, Bool.not_true, Bool.not_false, Bool.false_eq_true, reduceIte, decide_true, decide_false, v_build_fill, v_buildS_fill, fill_nil, fill_cons, AV.cells, putL, chunk, List.length_cons, List.length_nil, Nat.reduceAdd, Nat.reduceDiv, Nat.reduceMod, List.take_succ_cons, List.take_zero, List.take_nil, List.drop_succ_cons, List.drop_zero, List.drop_nil, List.cons_append, List.nil_append, List.append_nil, List.all_cons, List.all_nil, AV.one, Nat.reduceLeDiff, and_self, and_true, true_and, Nat.zero_add, ne_eq, Nat.succ_ne_zero, not_false_eq_true, Bool.and_self, Nat.reduceEqDiff, Nat.le_refl, res23, q23_0_ret, q23_1_ret, q23_0_e0, q23_1_e4, q23_2_ret, q23_3_ret, q23_2_e2, q23_3_e6, vt23, vt23_1, vt23_6, vt23_2, vt23_7, vt23_3, vt23_8, vt23_4, vt23_9, V23, V23_1, V23_6, V23_2, V23_7, V23_3, V23_8, V23_4, V23_9, k23_0, k23_1, k23_2, k23_4, k23_5, k23_3, k23_6, k23_7, k23_8, k23_9, k23_11, k23_12, k23_10, k23_13, k23_14, k23_15, k23_16, k23_18, k23_19, k23_17, k23_20, k23_21, k23_22, k23_23, k23_25, k23_26, k23_24, k23_27, k23_28, k23_29, k23_30]
      have e1 : ((m : Int) - 1).toNat = m - 1 := by omega
      rw [e1]
      refine call_pure (rlet_pure (hI (m - 1) (by omega))) ?_
      cases hb : letB (nth l (m - 1))
      · simp (disch := omega) only [sel_t, sel_f, sel_dt, sel_df, sel_nt, sel_nf, v_lss, v_leq, v_gtr, v_geq, v_eql, v_neq, v_add, v_sub, v_not, v_min, v_max, v_pick_t, v_pick_f, v_ext0, v_ext1, v_ext2, v_len_isl, List.length_map, v_len_nils, v_len_sl0, v_len_sl, v_ix_map, v_ix_sl, v_nil_ptr, v_nil_iptr, v_fa_ptr, v_fa_iptr, cell_0, cell_s, cell_a2, cell_a3, cell_a7, cell_a10, v_load_map, v_load_r1, v_call_fn, v_call_fnS, v_load_H, ldH_one, ldH_map, v_store_H, stH_one, upd_same, upd_cons_ne, upd_nil, v_box, v_fld, eqs_nils, eqs_sl, v_eqs_ii, v_neqs_ii, sel_andt, sel_andf, sel_nandt, sel_nandf, encI, Int.toNat_natCast, lq_e, lq_r, Bool.not_true, Bool.not_false, Bool.false_eq_true, reduceIte, decide_true, decide_false, v_build_fill, v_buildS_fill, fill_nil, fill_cons, AV.cells, putL, chunk, List.length_cons, List.length_nil, Nat.reduceAdd, Nat.reduceDiv, Nat.reduceMod, List.take_succ_cons, List.take_zero, List.take_nil, List.drop_succ_cons, List.drop_zero, List.drop_nil, List.cons_append, List.nil_append, List.append_nil, List.all_cons, List.all_nil, AV.one, Nat.reduceLeDiff, and_self, and_true, true_and, Nat.zero_add, ne_eq, Nat.succ_ne_zero, not_false_eq_true, Bool.and_self, Nat.reduceEqDiff, Nat.le_refl, res23, q23_0_ret, q23_1_ret, q23_0_e0, q23_1_e4, q23_2_ret, q23_3_ret, q23_2_e2, q23_3_e6, vt23, vt23_1, vt23_6, vt23_2, vt23_7, vt23_3, vt23_8, vt23_4, vt23_9, V23, V23_1, V23_6, V23_2, V23_7, V23_3, V23_8, V23_4, V23_9, k23_0, k23_1, k23_2, k23_4, k23_5, k23_3, k23_6, k23_7, k23_8, k23_9, k23_11, k23_12, k23_10, k23_13, k23_14, k23_15, k23_16, k23_18, k23_19, k23_17, k23_20, k23_21, k23_22, k23_23, k23_25, k23_26, k23_24, k23_27, k23_28, k23_29, k23_30]
        rw [fin (.inr (by simp [askB, hb]))]
        exact vp1 (c := 0) rfl
      · simp (disch := omega) only [sel_t, sel_f, sel_dt, sel_df, sel_nt, sel_nf, v_lss, v_leq, v_gtr, v_geq, v_eql, v_neq, v_add, v_sub, v_not, v_min, v_max, v_pick_t, v_pick_f, v_ext0, v_ext1, v_ext2, v_len_isl, List.length_map, v_len_nils, v_len_sl0, v_len_sl, v_ix_map, v_ix_sl, v_nil_ptr, v_nil_iptr, v_fa_ptr, v_fa_iptr, cell_0, cell_s, cell_a2, cell_a3, cell_a7, cell_a10, v_load_map, v_load_r1, v_call_fn, v_call_fnS, v_load_H, ldH_one, ldH_map, v_store_H, stH_one, upd_same, upd_cons_ne, upd_nil, v_box, v_fld, eqs_nils, eqs_sl, v_eqs_ii, v_neqs_ii, sel_andt, sel_andf, sel_nandt, sel_nandf, encI, Int.toNat_natCast, lq_e, lq_r, Bool.not_true, Bool.not_false, Bool.false_eq_true, reduceIte, decide_true, decide_false, v_build_fill, v_buildS_fill, fill_nil, fill_cons, AV.cells, putL, chunk, List.length_cons, List.length_nil, Nat.reduceAdd, Nat.reduceDiv, Nat.reduceMod, List.take_succ_cons, List.take_zero, List.take_nil, List.drop_succ_cons, List.drop_zero, List.drop_nil, List.cons_append, List.nil_append, List.append_nil, List.all_cons, List.all_nil, AV.one, Nat.reduceLeDiff, and_self, and_true, true_and, Nat.zero_add, ne_eq, Nat.succ_ne_zero, not_false_eq_true, Bool.and_self, Nat.reduceEqDiff, Nat.le_refl, res23, q23_0_ret, q23_1_ret, q23_0_e0, q23_1_e4, q23_2_ret, q23_3_ret, q23_2_e2, q23_3_e6, vt23, vt23_1, vt23_6, vt23_2, vt23_7, vt23_3, vt23_8, vt23_4, vt23_9, V23, V23_1, V23_6, V23_2, V23_7, V23_3, V23_8, V23_4, V23_9, k23_0, k23_1, k23_2, k23_4, k23_5, k23_3, k23_6, k23_7, k23_8, k23_9, k23_11, k23_12, k23_10, k23_13, k23_14, k23_15, k23_16, k23_18, k23_19, k23_17, k23_20, k23_21, k23_22, k23_23, k23_25, k23_26, k23_24, k23_27, k23_28, k23_29, k23_30]
        refine lq_n (m - 1) (by omega) ⟨m - 1, by simp [restrict, rget, show ((m - 1 : Nat) : Int) = (m : Int) - 1 by omega], rfl, by omega, rfl, fun k h1 h2 => ?_⟩
        rcases Nat.lt_or_ge k m with h3 | h3
        · rw [show k = m - 1 by omega]; simp [askB, hb]
        · exact hk2 k h3 h2
    · simp (disch := omega) only [sel_t, sel_f, sel_dt, sel_df, sel_nt, sel_nf, v_lss, v_leq, v_gtr, v_geq, v_eql, v_neq, v_add, v_sub, v_not, v_min, v_max, v_pick_t, v_pick_f, v_ext0, v_ext1, v_ext2, v_len_isl, List.length_map, v_len_nils, v_len_sl0, v_len_sl, v_ix_map, v_ix_sl, v_nil_ptr, v_nil_iptr, v_fa_ptr, v_fa_iptr, cell_0, cell_s, cell_a2, cell_a3, cell_a7, cell_a10, v_load_map, v_load_r1, v_call_fn, v_call_fnS, v_load_H, ldH_one, ldH_map, v_store_H, stH_one, upd_same, upd_cons_ne, upd_nil, v_box, v_fld, eqs_nils, eqs_sl, v_eqs_ii, v_neqs_ii, sel_andt, sel_andf, sel_nandt, sel_nandf, encI, Int.toNat_natCast, lq_e, lq_r, Bool.not_true, Bool.not_false, Bool.false_eq_true, reduceIte, decide_true, decide_false, v_build_fill, v_buildS_fill, fill_nil, fill_cons, AV.cells, putL, chunk, List.length_cons, List.length_nil, Nat.reduceAdd, Nat.reduceDiv, Nat.reduceMod, List.take_succ_cons, List.take_zero, List.take_nil, List.drop_succ_cons, List.drop_zero, List.drop_nil, List.cons_append, List.nil_append, List.append_nil, List.all_cons, List.all_nil, AV.one, Nat.reduceLeDiff, and_self, and_true, true_and, Nat.zero_add, ne_eq, Nat.succ_ne_zero, not_false_eq_true, Bool.and_self, Nat.reduceEqDiff, Nat.le_refl, res23, q23_0_ret, q23_1_ret, q23_0_e0, q23_1_e4, q23_2_ret, q23_3_ret, q23_2_e2, q23_3_e6, vt23, vt23_1, vt23_6, vt23_2, vt23_7, vt23_3, vt23_8, vt23_4, vt23_9, V23, V23_1, V23_6, V23_2, V23_7, V23_3, V23_8, V23_4, V23_9, k23_0, k23_1, k23_2, k23_4, k23_5, k23_3, k23_6, k23_7, k23_8, k23_9, k23_11, k23_12, k23_10, k23_13, k23_14, k23_15, k23_16, k23_18, k23_19, k23_17, k23_20, k23_21, k23_22, k23_23, k23_25, k23_26, k23_24, k23_27, k23_28, k23_29, k23_30]
      rw [fin (.inl (by omega))]
      exact vp1 (c := 0) rfl
  refine sel_d (fun hlt => ?_) (fun hge => ?_)
  · simp (disch := omega) only [sel_t, sel_f, sel_dt, sel_df, sel_nt, sel_nf, v_lss, v_leq, v_gtr, v_geq, v_eql, v_neq, v_add, v_sub, v_not, v_min, v_max, v_pick_t, v_pick_f, v_ext0, v_ext1, v_ext2, v_len_isl, List.length_map, v_len_nils, v_len_sl0, v_len_sl, v_ix_map, v_ix_sl, v_nil_ptr, v_nil_iptr, v_fa_ptr, v_fa_iptr, cell_0, cell_s, cell_a2, cell_a3, cell_a7, cell_a10, v_load_map, v_load_r1, v_call_fn, v_call_fnS, v_load_H, ldH_one, ldH_map, v_store_H, stH_one, upd_same, upd_cons_ne, upd_nil, v_box, v_fld, eqs_nils, eqs_sl, v_eqs_ii, v_neqs_ii, sel_andt, sel_andf, sel_nandt, sel_nandf, encI, Int.toNat_natCast, lq_e, lq_r, Bool.not_true, Bool.not_false, Bool.false_eq_true, reduceIte, decide_true, decide_false, v_build_fill, v_buildS_fill, fill_nil, fill_cons, AV.cells, putL, chunk, List.length_cons, List.length_nil, Nat.reduceAdd, Nat.reduceDiv, Nat.reduceMod, List.take_succ_cons, List.take_zero, List.take_nil, List.drop_succ_cons, List.drop_zero, List.drop_nil, List.cons_append, List.nil_append, List.append_nil, List.all_cons, List.all_nil, AV.one, Nat.reduceLeDiff, and_self, and_true, true_and, Nat.zero_add, ne_eq, Nat.succ_ne_zero, not_false_eq_true, Bool.and_self, Nat.reduceEqDiff, Nat.le_refl, res23, q23_0_ret, q23_1_ret, q23_0_e0, q23_1_e4, q23_2_ret, q23_3_ret, q23_2_e2, q23_3_e6, vt23, vt23_1, vt23_6, vt23_2, vt23_7, vt23_3, vt23_8, vt23_4, vt23_9, V23, V23_1, V23_6, V23_2, V23_7, V23_3, V23_8, V23_4, V23_9, k23_0, k23_1, k23_2, k23_4, k23_5, k23_3, k23_6, k23_7, k23_8, k23_9, k23_11, k23_12, k23_10, k23_13, k23_14, k23_15, k23_16, k23_18, k23_19, k23_17, k23_20, k23_21, k23_22, k23_23, k23_25, k23_26, k23_24, k23_27, k23_28, k23_29, k23_30]
    have e1 : ((n : Int) - 1).toNat = n - 1 := by omega
    rw [e1]
    refine call_pure (rlet_pure (hI (n - 1) (by omega))) ?_
    cases hb : letB (nth l (n - 1))
    · simp (disch := omega) only [sel_t, sel_f, sel_dt, sel_df, sel_nt, sel_nf, v_lss, v_leq, v_gtr, v_geq, v_eql, v_neq, v_add, v_sub, v_not, v_min, v_max, v_pick_t, v_pick_f, v_ext0, v_ext1, v_ext2, v_len_isl, List.length_map, v_len_nils, v_len_sl0, v_len_sl, v_ix_map, v_ix_sl, v_nil_ptr, v_nil_iptr, v_fa_ptr, v_fa_iptr, cell_0, cell_s, cell_a2, cell_a3, cell_a7, cell_a10, v_load_map, v_load_r1, v_call_fn, v_call_fnS, v_load_H, ldH_one, ldH_map, v_store_H, stH_one, upd_same, upd_cons_ne, upd_nil, v_box, v_fld, eqs_nils, eqs_sl, v_eqs_ii, v_neqs_ii, sel_andt, sel_andf, sel_nandt, sel_nandf, encI, Int.toNat_natCast, lq_e, lq_r, Bool.not_true, Bool.not_false, Bool.false_eq_true, reduceIte, decide_true, decide_false, v_build_fill, v_buildS_fill, fill_nil, fill_cons, AV.cells, putL, chunk, List.length_cons, List.length_nil, Nat.reduceAdd, Nat.reduceDiv, Nat.reduceMod, List.take_succ_cons, List.take_zero, List.take_nil, List.drop_succ_cons, List.drop_zero, List.drop_nil, List.cons_append, List.nil_append, List.append_nil, List.all_cons, List.all_nil, AV.one, Nat.reduceLeDiff, and_self, and_true, true_and, Nat.zero_add, ne_eq, Nat.succ_ne_zero, not_false_eq_true, Bool.and_self, Nat.reduceEqDiff, Nat.le_refl, res23, q23_0_ret, q23_1_ret, q23_0_e0, q23_1_e4, q23_2_ret, q23_3_ret, q23_2_e2, q23_3_e6, vt23, vt23_1, vt23_6, vt23_2, vt23_7, vt23_3, vt23_8, vt23_4, vt23_9, V23, V23_1, V23_6, V23_2, V23_7, V23_3, V23_8, V23_4, V23_9, k23_0, k23_1, k23_2, k23_4, k23_5, k23_3, k23_6, k23_7, k23_8, k23_9, k23_11, k23_12, k23_10, k23_13, k23_14, k23_15, k23_16, k23_18, k23_19, k23_17, k23_20, k23_21, k23_22, k23_23, k23_25, k23_26, k23_24, k23_27, k23_28, k23_29, k23_30]
      refine lq_n (n - 1) (by omega) ⟨n - 1, by simp [restrict, rget, show ((n - 1 : Nat) : Int) = (n : Int) - 1 by omega], rfl, by omega, rfl, fun k h1 h2 => ?_⟩
      rcases Nat.lt_or_ge k n with h3 | h3
      · rw [show k = n - 1 by omega]; simp [askB, hb]
      · exact hk k h3 h2
    · simp (disch := omega) only [sel_t, sel_f, sel_dt, sel_df, sel_nt, sel_nf, v_lss, v_leq, v_gtr, v_geq, v_eql, v_neq, v_add, v_sub, v_not, v_min, v_max, v_pick_t, v_pick_f, v_ext0, v_ext1, v_ext2, v_len_isl, List.length_map, v_len_nils, v_len_sl0, v_len_sl, v_ix_map, v_ix_sl, v_nil_ptr, v_nil_iptr, v_fa_ptr, v_fa_iptr, cell_0, cell_s, cell_a2, cell_a3, cell_a7, cell_a10, v_load_map, v_load_r1, v_call_fn, v_call_fnS, v_load_H, ldH_one, ldH_map, v_store_H, stH_one, upd_same, upd_cons_ne, upd_nil, v_box, v_fld, eqs_nils, eqs_sl, v_eqs_ii, v_neqs_ii, sel_andt, sel_andf, sel_nandt, sel_nandf, encI, Int.toNat_natCast, lq_e, lq_r, Bool.not_true, Bool.not_false, Bool.false_eq_true, reduceIte, decide_true, decide_false, v_build_fill, v_buildS_fill, fill_nil, fill_cons, AV.cells, putL, chunk, List.length_cons, List.length_nil, Nat.reduceAdd, Nat.reduceDiv, Nat.reduceMod, List.take_succ_cons, List.take_zero, List.take_nil, List.drop_succ_cons, List.drop_zero, List.drop_nil, List.cons_append, List.nil_append, List.append_nil, List.all_cons, List.all_nil, AV.one, Nat.reduceLeDiff, and_self, and_true, true_and, Nat.zero_add, ne_eq, Nat.succ_ne_zero, not_false_eq_true, Bool.and_self, Nat.reduceEqDiff, Nat.le_refl, res23, q23_0_ret, q23_1_ret, q23_0_e0, q23_1_e4, q23_2_ret, q23_3_ret, q23_2_e2, q23_3_e6, vt23, vt23_1, vt23_6, vt23_2, vt23_7, vt23_3, vt23_8, vt23_4, vt23_9, V23, V23_1, V23_6, V23_2, V23_7, V23_3, V23_8, V23_4, V23_9, k23_0, k23_1, k23_2, k23_4, k23_5, k23_3, k23_6, k23_7, k23_8, k23_9, k23_11, k23_12, k23_10, k23_13, k23_14, k23_15, k23_16, k23_18, k23_19, k23_17, k23_20, k23_21, k23_22, k23_23, k23_25, k23_26, k23_24, k23_27, k23_28, k23_29, k23_30]
      exact two _ _ rfl (skip_back (by omega) hi hk (.inr (by simp [askB, hb])))
  · simp (disch := omega) only [sel_t, sel_f, sel_dt, sel_df, sel_nt, sel_nf, v_lss, v_leq, v_gtr, v_geq, v_eql, v_neq, v_add, v_sub, v_not, v_min, v_max, v_pick_t, v_pick_f, v_ext0, v_ext1, v_ext2, v_len_isl, List.length_map, v_len_nils, v_len_sl0, v_len_sl, v_ix_map, v_ix_sl, v_nil_ptr, v_nil_iptr, v_fa_ptr, v_fa_iptr, cell_0, cell_s, cell_a2, cell_a3, cell_a7, cell_a10, v_load_map, v_load_r1, v_call_fn, v_call_fnS, v_load_H, ldH_one, ldH_map, v_store_H, stH_one, upd_same, upd_cons_ne, upd_nil, v_box, v_fld, eqs_nils, eqs_sl, v_eqs_ii, v_neqs_ii, sel_andt, sel_andf, sel_nandt, sel_nandf, encI, Int.toNat_natCast, lq_e, lq_r, Bool.not_true, Bool.not_false, Bool.false_eq_true, reduceIte, decide_true, decide_false, v_build_fill, v_buildS_fill, fill_nil, fill_cons, AV.cells, putL, chunk, List.length_cons, List.length_nil, Nat.reduceAdd, Nat.reduceDiv, Nat.reduceMod, List.take_succ_cons, List.take_zero, List.take_nil, List.drop_succ_cons, List.drop_zero, List.drop_nil, List.cons_append, List.nil_append, List.append_nil, List.all_cons, List.all_nil, AV.one, Nat.reduceLeDiff, and_self, and_true, true_and, Nat.zero_add, ne_eq, Nat.succ_ne_zero, not_false_eq_true, Bool.and_self, Nat.reduceEqDiff, Nat.le_refl, res23, q23_0_ret, q23_1_ret, q23_0_e0, q23_1_e4, q23_2_ret, q23_3_ret, q23_2_e2, q23_3_e6, vt23, vt23_1, vt23_6, vt23_2, vt23_7, vt23_3, vt23_8, vt23_4, vt23_9, V23, V23_1, V23_6, V23_2, V23_7, V23_3, V23_8, V23_4, V23_9, k23_0, k23_1, k23_2, k23_4, k23_5, k23_3, k23_6, k23_7, k23_8, k23_9, k23_11, k23_12, k23_10, k23_13, k23_14, k23_15, k23_16, k23_18, k23_19, k23_17, k23_20, k23_21, k23_22, k23_23, k23_25, k23_26, k23_24, k23_27, k23_28, k23_29, k23_30]
    exact two _ _ rfl (skip_back (by omega) hi hk (.inl (by omega)))
end Go.Proofs.Ytbngfbpegdcpkaa
/-! What keys do is what their acts do to the line. -/
namespace Go.Proofs.Ytbngfbpegdcpkaa
set_option linter.unusedVariables false
set_option linter.unusedSimpArgs false
set_option maxRecDepth 100000
theorem applyL_app {B : List ActV} : ∀ {A : List ActV} {l : List Int}, applyL l (A ++ B) = (applyL l A).bind fun l' => applyL l' B
  | [], l => rfl
  | a :: A, l => by
    simp only [List.cons_append, applyL]
    cases actL l a with
    | none => rfl
    | some l' => exact applyL_app
theorem delI_take {l : List Int} {f : Nat} (h : f < l.length) : (delI l f).take f = l.take f := by
  have hl : (l.take f).length = f := by simp; omega
  rw [delI]; exact List.take_left' hl
theorem delI_drop {l : List Int} {f n : Nat} (h : f < l.length) : (delI l f).drop (f + n) = l.drop (f + n + 1) := by
  have hl : (l.take f).length = f := by simp; omega
  rw [delI, ← List.drop_drop, List.drop_left' hl, List.drop_drop]
  congr 1; omega
theorem apply_cut {f : Nat} : ∀ {g l : List Int}, f + g.length ≤ l.length → applyL l (g.map fun c => (2, (f : Int), c)) = some (l.take f ++ l.drop (f + g.length))
  | [], l, h => by simp [applyL]
  | c :: g, l, h => by
    simp only [List.length_cons] at h
    have ha : actL l (2, (f : Int), c) = some (delI l f) := by
      have h1 : ¬ ((f : Int) < 0 ∨ (l.length : Int) < f) := by omega
      have h2 : (f : Int) < l.length := by omega
      simp only [actL, if_neg h1]
      rw [if_neg (by decide), if_pos ⟨trivial, h2⟩, Int.toNat_natCast]
    have hd := delI_len (l := l) (i := f) (by omega)
    simp only [List.map_cons, applyL, ha, Option.bind_some]
    rw [apply_cut (by rw [hd]; omega), delI_take (by omega), delI_drop (by omega)]
    simp [Nat.add_assoc]
structure Good (l0 : List Int) (w : Wk) : Prop where
  a : applyL l0 w.acts = some w.line
  p : w.pos ≤ w.line.length
  n : w.line.length ≤ max 1000 l0.length
theorem Good.at {l0 : List Int} {w : Wk} (h : Good l0 w) {n : Nat} (hn : n ≤ w.line.length) : Good l0 { w with pos := n } := ⟨h.a, hn, h.n⟩
theorem Good.put {l0 : List Int} {w : Wk} (h : Good l0 w) {c : Int} : Good l0 (putW w c) := by
  unfold putW
  split
  · rename_i hb
    have hp := h.p
    have hl : w.line.length < 1000 := by simp [putB] at hb; exact hb.1
    have hi := insI_len (c := c) hp
    refine ⟨?_, by simp only [hi]; omega, by simp only [hi]; omega⟩
    have ha : actL w.line (1, (w.pos : Int), c) = some (insI w.line w.pos c) := by
      have h1 : ¬ ((w.pos : Int) < 0 ∨ (w.line.length : Int) < w.pos) := by omega
      simp only [actL, if_neg h1]
      rw [if_pos trivial, Int.toNat_natCast]
    simp only [applyL_app, h.a, Option.bind_some, applyL, ha]
  · exact h
theorem Good.cut {l0 : List Int} {w : Wk} (h : Good l0 w) {f t : Nat} (ht : t ≤ w.line.length) : Good l0 (cutW w f t) := by
  unfold cutW
  split
  · rename_i hlt
    have hg : (cutG w f t).length = t - f := cutG_len (by omega) ht
    refine ⟨?_, by simp; omega, by have := h.n; simp; omega⟩
    simp only [applyL_app, h.a, Option.bind_some]
    rw [apply_cut (by rw [hg]; omega), hg, show f + (t - f) = t by omega]
  · exact h
theorem Good.kill {l0 : List Int} {w : Wk} (h : Good l0 w) {f t : Nat} (ht : t ≤ w.line.length) : Good l0 (killW w f t) := by
  unfold killW
  split
  · have := h.cut (f := f) ht
    exact ⟨this.a, this.p, this.n⟩
  · exact h
theorem Good.yank {l0 : List Int} : ∀ {g : List Int} {w : Wk}, Good l0 w → Good l0 (yankW w g)
  | [], w, h => h
  | c :: g, w, h => by
    unfold yankW
    split
    · exact Good.yank h.put
    · exact h
theorem Good.swap {l0 : List Int} {w : Wk} (h : Good l0 w) : Good l0 (swapW w) := by
  unfold swapW
  split
  · exact h
  · rename_i h1
    split
    · exact h
    · refine ((h.cut (f := _) (t := _) (by omega)).at ?_).put
      have : (Min.min w.pos (w.line.length - 1) - 1) < Min.min w.pos (w.line.length - 1) := by omega
      simp only [cutW, if_pos this]
      simp
      omega
theorem keyT_good {l0 : List Int} : ∀ e ∈ keyT, ∀ w, Good l0 w → Good l0 (e.2.2.2 w) := by
  intro e he w h
  simp only [keyT, List.mem_cons, List.not_mem_nil, or_false] at he
  have hp := h.p
  rcases he with rfl | rfl | rfl | rfl | rfl | rfl | rfl | rfl | rfl | rfl | rfl | rfl | rfl | rfl | rfl | rfl | rfl | rfl | rfl | rfl
  · exact h.at (Nat.zero_le _)
  · exact h.at (Nat.le_refl _)
  · exact h.at heldN_le
  · exact h.at heldN_le
  · exact h.cut hp
  · exact h.cut heldN_le
  · exact h.kill (Nat.le_refl _)
  · exact h.kill hp
  · exact h.kill hp
  · exact h.yank
  · exact h.swap
  · exact h.at (Nat.le_trans (wordBack_nat heldN_le).2 heldN_le)
  · exact h.at (wordOn_le heldN_le)
  · exact h.kill (wordOn_le heldN_le)
  · exact h.kill hp
  · exact h.at heldN_le
  · exact h.at heldN_le
  · exact h.at (Nat.zero_le _)
  · exact h.at (Nat.le_refl _)
  · exact h.cut heldN_le
theorem do_good (l : List Int) (a : Int) (kl : List Int) (k r : Int) : Good l (doS l a kl k r) := by
  have h0 : Good l ⟨l, heldN l.length a, kl, []⟩ := ⟨rfl, heldN_le, by simp only; omega⟩
  unfold doS
  split
  · exact h0.put
  · unfold keyW
    split
    · rename_i e he
      exact keyT_good e (List.mem_of_find?_eq_some he) _ h0
    · exact h0
/-- how many acts -/
def More (w w' : Wk) : Prop := w'.acts.length ≤ w.acts.length + w.line.length + w.kill.length + 2
theorem more_put {w : Wk} {c : Int} : (putW w c).acts.length ≤ w.acts.length + 1 := putW_acts
theorem more_cut {w : Wk} {f t : Nat} : (cutW w f t).acts.length ≤ w.acts.length + w.line.length := by
  unfold cutW
  split
  · simp [cutG]; omega
  · omega
theorem more_kill {w : Wk} {f t : Nat} : (killW w f t).acts.length ≤ w.acts.length + w.line.length := by
  unfold killW
  split
  · exact more_cut
  · omega
theorem more_yank : ∀ {g : List Int} {w : Wk}, (yankW w g).acts.length ≤ w.acts.length + g.length
  | [], w => by simp [yankW]
  | c :: g, w => by
    unfold yankW
    split
    · have h1 := more_yank (g := g) (w := putW w c)
      have h2 := @putW_acts w c
      simp only [List.length_cons]; omega
    · simp only [List.length_cons]; omega
theorem more_swap {w : Wk} : (swapW w).acts.length ≤ w.acts.length + w.line.length + 1 := by
  unfold swapW
  split
  · omega
  · split
    · omega
    · refine Nat.le_trans putW_acts ?_
      have := @more_cut w (Min.min w.pos (w.line.length - 1) - 1) (Min.min w.pos (w.line.length - 1))
      simp only
      omega
theorem keyT_more : ∀ e ∈ keyT, ∀ w, More w (e.2.2.2 w) := by
  intro e he w
  simp only [keyT, List.mem_cons, List.not_mem_nil, or_false] at he
  unfold More
  rcases he with rfl | rfl | rfl | rfl | rfl | rfl | rfl | rfl | rfl | rfl | rfl | rfl | rfl | rfl | rfl | rfl | rfl | rfl | rfl | rfl
  · simp only; omega
  · simp only; omega
  · simp only; omega
  · simp only; omega
  · have := @more_cut w (heldN w.line.length (w.pos - 1)) w.pos; simp only; omega
  · have := @more_cut w w.pos (heldN w.line.length (w.pos + 1)); simp only; omega
  · have := @more_kill w w.pos w.line.length; simp only; omega
  · have := @more_kill w 0 w.pos; simp only; omega
  · have := @more_kill w (wordBack w.line (heldN w.line.length w.pos)).toNat w.pos; simp only; omega
  · have := @more_yank w.kill w; simp only; omega
  · have := @more_swap w; simp only; omega
  · simp only; omega
  · simp only; omega
  · have := @more_kill w w.pos (wordOn w.line (heldN w.line.length w.pos)); simp only; omega
  · have := @more_kill w (wordBack w.line (heldN w.line.length w.pos)).toNat w.pos; simp only; omega
  · simp only; omega
  · simp only; omega
  · simp only; omega
  · simp only; omega
  · have := @more_cut w w.pos (heldN w.line.length (w.pos + 1)); simp only; omega
theorem do_more (l : List Int) (a : Int) (kl : List Int) (k r : Int) : (doS l a kl k r).acts.length ≤ l.length + kl.length + 2 := by
  unfold doS
  split
  · have := @putW_acts ⟨l, heldN l.length a, kl, []⟩ r
    simp only [List.length_nil] at this
    omega
  · unfold keyW
    split
    · rename_i e he
      have := keyT_more e (List.mem_of_find?_eq_some he) ⟨l, heldN l.length a, kl, []⟩
      unfold More at this
      simp only [List.length_nil] at this
      omega
    · simp
theorem acts_law (l kl : List Int) (a k r : Int) : Pure Try.prog 5 [.agg [il l, .int .i64 a, il kl], .agg [.int .i64 k, .int .i64 r]] (.bool true) := by
  refine pure_vc Try.mixed ok5 rfl (fun q => ?_)
  simp only [params, Nat.zero_add, Nat.reduceAdd]
  simp (disch := omega) only [sel_t, sel_f, sel_dt, sel_df, sel_nt, sel_nf, v_lss, v_leq, v_gtr, v_geq, v_eql, v_neq, v_add, v_sub, v_not, v_min, v_max, v_pick_t, v_pick_f, v_ext0, v_ext1, v_ext2, v_len_isl, List.length_map, v_len_nils, v_len_sl0, v_len_sl, v_ix_map, v_ix_sl, v_nil_ptr, v_nil_iptr, v_fa_ptr, v_fa_iptr, cell_0, cell_s, cell_a2, cell_a3, cell_a7, cell_a10, v_load_map, v_load_r1, v_call_fn, v_call_fnS, v_load_H, ldH_one, ldH_map, v_store_H, stH_one, upd_same, upd_cons_ne, upd_nil, v_box, v_fld, eqs_nils, eqs_sl, v_eqs_ii, v_neqs_ii, sel_andt, sel_andf, sel_nandt, sel_nandf, encI, Int.toNat_natCast, lq_e, lq_r, Bool.not_true, Bool.not_false, Bool.false_eq_true, reduceIte, decide_true, decide_false, v_build_fill, v_buildS_fill, fill_nil, fill_cons, AV.cells, putL, chunk, List.length_cons, List.length_nil, Nat.reduceAdd, Nat.reduceDiv, Nat.reduceMod, List.take_succ_cons, List.take_zero, List.take_nil, List.drop_succ_cons, List.drop_zero, List.drop_nil, List.cons_append, List.nil_append, List.append_nil, List.all_cons, List.all_nil, AV.one, Nat.reduceLeDiff, and_self, and_true, true_and, Nat.zero_add, ne_eq, Nat.succ_ne_zero, not_false_eq_true, Bool.and_self, Nat.reduceEqDiff, Nat.le_refl, res5, vt5, V5, k5_0, k5_1, k5_2, k5_8, k5_9, k5_10, k5_11, k5_12, k5_7, k5_13, k5_14, k5_15, k5_6, k5_16, k5_18, k5_17, k5_19, k5_5, k5_20, k5_23, k5_22, k5_21, k5_24, k5_4, k5_25, k5_26, k5_30, k5_29, k5_28, k5_27, k5_31, k5_32, k5_33, k5_34, k5_35, k5_3, k5_36, k5_37]
  refine call_pure (few_pure l kl a) ?_
  cases hfew : fewB l kl
  · (try simp (disch := omega) only [sel_t, sel_f, sel_dt, sel_df, sel_nt, sel_nf, v_lss, v_leq, v_gtr, v_geq, v_eql, v_neq, v_add, v_sub, v_not, v_min, v_max, v_pick_t, v_pick_f, v_ext0, v_ext1, v_ext2, v_len_isl, List.length_map, v_len_nils, v_len_sl0, v_len_sl, v_ix_map, v_ix_sl, v_nil_ptr, v_nil_iptr, v_fa_ptr, v_fa_iptr, cell_0, cell_s, cell_a2, cell_a3, cell_a7, cell_a10, v_load_map, v_load_r1, v_call_fn, v_call_fnS, v_load_H, ldH_one, ldH_map, v_store_H, stH_one, upd_same, upd_cons_ne, upd_nil, v_box, v_fld, eqs_nils, eqs_sl, v_eqs_ii, v_neqs_ii, sel_andt, sel_andf, sel_nandt, sel_nandf, encI, Int.toNat_natCast, lq_e, lq_r, Bool.not_true, Bool.not_false, Bool.false_eq_true, reduceIte, decide_true, decide_false, v_build_fill, v_buildS_fill, fill_nil, fill_cons, AV.cells, putL, chunk, List.length_cons, List.length_nil, Nat.reduceAdd, Nat.reduceDiv, Nat.reduceMod, List.take_succ_cons, List.take_zero, List.take_nil, List.drop_succ_cons, List.drop_zero, List.drop_nil, List.cons_append, List.nil_append, List.append_nil, List.all_cons, List.all_nil, AV.one, Nat.reduceLeDiff, and_self, and_true, true_and, Nat.zero_add, ne_eq, Nat.succ_ne_zero, not_false_eq_true, Bool.and_self, Nat.reduceEqDiff, Nat.le_refl, res5, vt5, V5, k5_0, k5_1, k5_2, k5_8, k5_9, k5_10, k5_11, k5_12, k5_7, k5_13, k5_14, k5_15, k5_6, k5_16, k5_18, k5_17, k5_19, k5_5, k5_20, k5_23, k5_22, k5_21, k5_24, k5_4, k5_25, k5_26, k5_30, k5_29, k5_28, k5_27, k5_31, k5_32, k5_33, k5_34, k5_35, k5_3, k5_36, k5_37]); refine call_pure live18 ?_; (try simp (disch := omega) only [sel_t, sel_f, sel_dt, sel_df, sel_nt, sel_nf, v_lss, v_leq, v_gtr, v_geq, v_eql, v_neq, v_add, v_sub, v_not, v_min, v_max, v_pick_t, v_pick_f, v_ext0, v_ext1, v_ext2, v_len_isl, List.length_map, v_len_nils, v_len_sl0, v_len_sl, v_ix_map, v_ix_sl, v_nil_ptr, v_nil_iptr, v_fa_ptr, v_fa_iptr, cell_0, cell_s, cell_a2, cell_a3, cell_a7, cell_a10, v_load_map, v_load_r1, v_call_fn, v_call_fnS, v_load_H, ldH_one, ldH_map, v_store_H, stH_one, upd_same, upd_cons_ne, upd_nil, v_box, v_fld, eqs_nils, eqs_sl, v_eqs_ii, v_neqs_ii, sel_andt, sel_andf, sel_nandt, sel_nandf, encI, Int.toNat_natCast, lq_e, lq_r, Bool.not_true, Bool.not_false, Bool.false_eq_true, reduceIte, decide_true, decide_false, v_build_fill, v_buildS_fill, fill_nil, fill_cons, AV.cells, putL, chunk, List.length_cons, List.length_nil, Nat.reduceAdd, Nat.reduceDiv, Nat.reduceMod, List.take_succ_cons, List.take_zero, List.take_nil, List.drop_succ_cons, List.drop_zero, List.drop_nil, List.cons_append, List.nil_append, List.append_nil, List.all_cons, List.all_nil, AV.one, Nat.reduceLeDiff, and_self, and_true, true_and, Nat.zero_add, ne_eq, Nat.succ_ne_zero, not_false_eq_true, Bool.and_self, Nat.reduceEqDiff, Nat.le_refl, res5, vt5, V5, k5_0, k5_1, k5_2, k5_8, k5_9, k5_10, k5_11, k5_12, k5_7, k5_13, k5_14, k5_15, k5_6, k5_16, k5_18, k5_17, k5_19, k5_5, k5_20, k5_23, k5_22, k5_21, k5_24, k5_4, k5_25, k5_26, k5_30, k5_29, k5_28, k5_27, k5_31, k5_32, k5_33, k5_34, k5_35, k5_3, k5_36, k5_37]); exact vp1 rfl
  simp only [fewB, Bool.and_eq_true, decide_eq_true_eq] at hfew
  obtain ⟨hl, hkl⟩ := hfew
  simp (disch := omega) only [sel_t, sel_f, sel_dt, sel_df, sel_nt, sel_nf, v_lss, v_leq, v_gtr, v_geq, v_eql, v_neq, v_add, v_sub, v_not, v_min, v_max, v_pick_t, v_pick_f, v_ext0, v_ext1, v_ext2, v_len_isl, List.length_map, v_len_nils, v_len_sl0, v_len_sl, v_ix_map, v_ix_sl, v_nil_ptr, v_nil_iptr, v_fa_ptr, v_fa_iptr, cell_0, cell_s, cell_a2, cell_a3, cell_a7, cell_a10, v_load_map, v_load_r1, v_call_fn, v_call_fnS, v_load_H, ldH_one, ldH_map, v_store_H, stH_one, upd_same, upd_cons_ne, upd_nil, v_box, v_fld, eqs_nils, eqs_sl, v_eqs_ii, v_neqs_ii, sel_andt, sel_andf, sel_nandt, sel_nandf, encI, Int.toNat_natCast, lq_e, lq_r, Bool.not_true, Bool.not_false, Bool.false_eq_true, reduceIte, decide_true, decide_false, v_build_fill, v_buildS_fill, fill_nil, fill_cons, AV.cells, putL, chunk, List.length_cons, List.length_nil, Nat.reduceAdd, Nat.reduceDiv, Nat.reduceMod, List.take_succ_cons, List.take_zero, List.take_nil, List.drop_succ_cons, List.drop_zero, List.drop_nil, List.cons_append, List.nil_append, List.append_nil, List.all_cons, List.all_nil, AV.one, Nat.reduceLeDiff, and_self, and_true, true_and, Nat.zero_add, ne_eq, Nat.succ_ne_zero, not_false_eq_true, Bool.and_self, Nat.reduceEqDiff, Nat.le_refl, res5, vt5, V5, k5_0, k5_1, k5_2, k5_8, k5_9, k5_10, k5_11, k5_12, k5_7, k5_13, k5_14, k5_15, k5_6, k5_16, k5_18, k5_17, k5_19, k5_5, k5_20, k5_23, k5_22, k5_21, k5_24, k5_4, k5_25, k5_26, k5_30, k5_29, k5_28, k5_27, k5_31, k5_32, k5_33, k5_34, k5_35, k5_3, k5_36, k5_37]
  refine call_pure (key_pure k r) ?_
  simp (disch := omega) only [sel_t, sel_f, sel_dt, sel_df, sel_nt, sel_nf, v_lss, v_leq, v_gtr, v_geq, v_eql, v_neq, v_add, v_sub, v_not, v_min, v_max, v_pick_t, v_pick_f, v_ext0, v_ext1, v_ext2, v_len_isl, List.length_map, v_len_nils, v_len_sl0, v_len_sl, v_ix_map, v_ix_sl, v_nil_ptr, v_nil_iptr, v_fa_ptr, v_fa_iptr, cell_0, cell_s, cell_a2, cell_a3, cell_a7, cell_a10, v_load_map, v_load_r1, v_call_fn, v_call_fnS, v_load_H, ldH_one, ldH_map, v_store_H, stH_one, upd_same, upd_cons_ne, upd_nil, v_box, v_fld, eqs_nils, eqs_sl, v_eqs_ii, v_neqs_ii, sel_andt, sel_andf, sel_nandt, sel_nandf, encI, Int.toNat_natCast, lq_e, lq_r, Bool.not_true, Bool.not_false, Bool.false_eq_true, reduceIte, decide_true, decide_false, v_build_fill, v_buildS_fill, fill_nil, fill_cons, AV.cells, putL, chunk, List.length_cons, List.length_nil, Nat.reduceAdd, Nat.reduceDiv, Nat.reduceMod, List.take_succ_cons, List.take_zero, List.take_nil, List.drop_succ_cons, List.drop_zero, List.drop_nil, List.cons_append, List.nil_append, List.append_nil, List.all_cons, List.all_nil, AV.one, Nat.reduceLeDiff, and_self, and_true, true_and, Nat.zero_add, ne_eq, Nat.succ_ne_zero, not_false_eq_true, Bool.and_self, Nat.reduceEqDiff, Nat.le_refl, res5, vt5, V5, k5_0, k5_1, k5_2, k5_8, k5_9, k5_10, k5_11, k5_12, k5_7, k5_13, k5_14, k5_15, k5_6, k5_16, k5_18, k5_17, k5_19, k5_5, k5_20, k5_23, k5_22, k5_21, k5_24, k5_4, k5_25, k5_26, k5_30, k5_29, k5_28, k5_27, k5_31, k5_32, k5_33, k5_34, k5_35, k5_3, k5_36, k5_37]
  refine call_pure (do_pure l (by omega) a kl (by omega) k r) ?_
  have hgood := do_good l a kl k r
  have hmore := do_more l a kl k r
  generalize doS l a kl k r = w at hgood hmore ⊢
  obtain ⟨li, p, ki, A⟩ := w
  obtain ⟨g1, g2, g3⟩ := hgood
  simp only at g1 g2 g3 hmore
  rw [doR_mk]
  simp (disch := omega) only [sel_t, sel_f, sel_dt, sel_df, sel_nt, sel_nf, v_lss, v_leq, v_gtr, v_geq, v_eql, v_neq, v_add, v_sub, v_not, v_min, v_max, v_pick_t, v_pick_f, v_ext0, v_ext1, v_ext2, v_len_isl, List.length_map, v_len_nils, v_len_sl0, v_len_sl, v_ix_map, v_ix_sl, v_nil_ptr, v_nil_iptr, v_fa_ptr, v_fa_iptr, cell_0, cell_s, cell_a2, cell_a3, cell_a7, cell_a10, v_load_map, v_load_r1, v_call_fn, v_call_fnS, v_load_H, ldH_one, ldH_map, v_store_H, stH_one, upd_same, upd_cons_ne, upd_nil, v_box, v_fld, eqs_nils, eqs_sl, v_eqs_ii, v_neqs_ii, sel_andt, sel_andf, sel_nandt, sel_nandf, encI, Int.toNat_natCast, lq_e, lq_r, Bool.not_true, Bool.not_false, Bool.false_eq_true, reduceIte, decide_true, decide_false, v_build_fill, v_buildS_fill, fill_nil, fill_cons, AV.cells, putL, chunk, List.length_cons, List.length_nil, Nat.reduceAdd, Nat.reduceDiv, Nat.reduceMod, List.take_succ_cons, List.take_zero, List.take_nil, List.drop_succ_cons, List.drop_zero, List.drop_nil, List.cons_append, List.nil_append, List.append_nil, List.all_cons, List.all_nil, AV.one, Nat.reduceLeDiff, and_self, and_true, true_and, Nat.zero_add, ne_eq, Nat.succ_ne_zero, not_false_eq_true, Bool.and_self, Nat.reduceEqDiff, Nat.le_refl, res5, vt5, V5, k5_0, k5_1, k5_2, k5_8, k5_9, k5_10, k5_11, k5_12, k5_7, k5_13, k5_14, k5_15, k5_6, k5_16, k5_18, k5_17, k5_19, k5_5, k5_20, k5_23, k5_22, k5_21, k5_24, k5_4, k5_25, k5_26, k5_30, k5_29, k5_28, k5_27, k5_31, k5_32, k5_33, k5_34, k5_35, k5_3, k5_36, k5_37]
  refine ⟨(by (repeat' (first | exact cf_nil | exact allp_nil | refine cf_add ?_ ?_ | refine allp_add ?_ ?_)); all_goals (first | exact Or.inl rfl | exact Or.inl (by decide) | exact Or.inr ⟨by (simp (decide := true) [clash, ne_eq] <;> assumption), by (simp (decide := true) [clash, ne_eq] <;> assumption)⟩)), ?_⟩
  have p2 := apply_pure l A (by omega) (by omega)
  rw [g1, appR] at p2
  refine call_pure p2 ?_
  simp (disch := omega) only [sel_t, sel_f, sel_dt, sel_df, sel_nt, sel_nf, v_lss, v_leq, v_gtr, v_geq, v_eql, v_neq, v_add, v_sub, v_not, v_min, v_max, v_pick_t, v_pick_f, v_ext0, v_ext1, v_ext2, v_len_isl, List.length_map, v_len_nils, v_len_sl0, v_len_sl, v_ix_map, v_ix_sl, v_nil_ptr, v_nil_iptr, v_fa_ptr, v_fa_iptr, cell_0, cell_s, cell_a2, cell_a3, cell_a7, cell_a10, v_load_map, v_load_r1, v_call_fn, v_call_fnS, v_load_H, ldH_one, ldH_map, v_store_H, stH_one, upd_same, upd_cons_ne, upd_nil, v_box, v_fld, eqs_nils, eqs_sl, v_eqs_ii, v_neqs_ii, sel_andt, sel_andf, sel_nandt, sel_nandf, encI, Int.toNat_natCast, lq_e, lq_r, Bool.not_true, Bool.not_false, Bool.false_eq_true, reduceIte, decide_true, decide_false, v_build_fill, v_buildS_fill, fill_nil, fill_cons, AV.cells, putL, chunk, List.length_cons, List.length_nil, Nat.reduceAdd, Nat.reduceDiv, Nat.reduceMod, List.take_succ_cons, List.take_zero, List.take_nil, List.drop_succ_cons, List.drop_zero, List.drop_nil, List.cons_append, List.nil_append, List.append_nil, List.all_cons, List.all_nil, AV.one, Nat.reduceLeDiff, and_self, and_true, true_and, Nat.zero_add, ne_eq, Nat.succ_ne_zero, not_false_eq_true, Bool.and_self, Nat.reduceEqDiff, Nat.le_refl, res5, vt5, V5, k5_0, k5_1, k5_2, k5_8, k5_9, k5_10, k5_11, k5_12, k5_7, k5_13, k5_14, k5_15, k5_6, k5_16, k5_18, k5_17, k5_19, k5_5, k5_20, k5_23, k5_22, k5_21, k5_24, k5_4, k5_25, k5_26, k5_30, k5_29, k5_28, k5_27, k5_31, k5_32, k5_33, k5_34, k5_35, k5_3, k5_36, k5_37]
  refine call_pure (same_refl li (by omega)) ?_
  simp (disch := omega) only [sel_t, sel_f, sel_dt, sel_df, sel_nt, sel_nf, v_lss, v_leq, v_gtr, v_geq, v_eql, v_neq, v_add, v_sub, v_not, v_min, v_max, v_pick_t, v_pick_f, v_ext0, v_ext1, v_ext2, v_len_isl, List.length_map, v_len_nils, v_len_sl0, v_len_sl, v_ix_map, v_ix_sl, v_nil_ptr, v_nil_iptr, v_fa_ptr, v_fa_iptr, cell_0, cell_s, cell_a2, cell_a3, cell_a7, cell_a10, v_load_map, v_load_r1, v_call_fn, v_call_fnS, v_load_H, ldH_one, ldH_map, v_store_H, stH_one, upd_same, upd_cons_ne, upd_nil, v_box, v_fld, eqs_nils, eqs_sl, v_eqs_ii, v_neqs_ii, sel_andt, sel_andf, sel_nandt, sel_nandf, encI, Int.toNat_natCast, lq_e, lq_r, Bool.not_true, Bool.not_false, Bool.false_eq_true, reduceIte, decide_true, decide_false, v_build_fill, v_buildS_fill, fill_nil, fill_cons, AV.cells, putL, chunk, List.length_cons, List.length_nil, Nat.reduceAdd, Nat.reduceDiv, Nat.reduceMod, List.take_succ_cons, List.take_zero, List.take_nil, List.drop_succ_cons, List.drop_zero, List.drop_nil, List.cons_append, List.nil_append, List.append_nil, List.all_cons, List.all_nil, AV.one, Nat.reduceLeDiff, and_self, and_true, true_and, Nat.zero_add, ne_eq, Nat.succ_ne_zero, not_false_eq_true, Bool.and_self, Nat.reduceEqDiff, Nat.le_refl, res5, vt5, V5, k5_0, k5_1, k5_2, k5_8, k5_9, k5_10, k5_11, k5_12, k5_7, k5_13, k5_14, k5_15, k5_6, k5_16, k5_18, k5_17, k5_19, k5_5, k5_20, k5_23, k5_22, k5_21, k5_24, k5_4, k5_25, k5_26, k5_30, k5_29, k5_28, k5_27, k5_31, k5_32, k5_33, k5_34, k5_35, k5_3, k5_36, k5_37, v_max]
  (try simp (disch := omega) only [sel_t, sel_f, sel_dt, sel_df, sel_nt, sel_nf, v_lss, v_leq, v_gtr, v_geq, v_eql, v_neq, v_add, v_sub, v_not, v_min, v_max, v_pick_t, v_pick_f, v_ext0, v_ext1, v_ext2, v_len_isl, List.length_map, v_len_nils, v_len_sl0, v_len_sl, v_ix_map, v_ix_sl, v_nil_ptr, v_nil_iptr, v_fa_ptr, v_fa_iptr, cell_0, cell_s, cell_a2, cell_a3, cell_a7, cell_a10, v_load_map, v_load_r1, v_call_fn, v_call_fnS, v_load_H, ldH_one, ldH_map, v_store_H, stH_one, upd_same, upd_cons_ne, upd_nil, v_box, v_fld, eqs_nils, eqs_sl, v_eqs_ii, v_neqs_ii, sel_andt, sel_andf, sel_nandt, sel_nandf, encI, Int.toNat_natCast, lq_e, lq_r, Bool.not_true, Bool.not_false, Bool.false_eq_true, reduceIte, decide_true, decide_false, v_build_fill, v_buildS_fill, fill_nil, fill_cons, AV.cells, putL, chunk, List.length_cons, List.length_nil, Nat.reduceAdd, Nat.reduceDiv, Nat.reduceMod, List.take_succ_cons, List.take_zero, List.take_nil, List.drop_succ_cons, List.drop_zero, List.drop_nil, List.cons_append, List.nil_append, List.append_nil, List.all_cons, List.all_nil, AV.one, Nat.reduceLeDiff, and_self, and_true, true_and, Nat.zero_add, ne_eq, Nat.succ_ne_zero, not_false_eq_true, Bool.and_self, Nat.reduceEqDiff, Nat.le_refl, res5, vt5, V5, k5_0, k5_1, k5_2, k5_8, k5_9, k5_10, k5_11, k5_12, k5_7, k5_13, k5_14, k5_15, k5_6, k5_16, k5_18, k5_17, k5_19, k5_5, k5_20, k5_23, k5_22, k5_21, k5_24, k5_4, k5_25, k5_26, k5_30, k5_29, k5_28, k5_27, k5_31, k5_32, k5_33, k5_34, k5_35, k5_3, k5_36, k5_37]); refine call_pure live18 ?_; (try simp (disch := omega) only [sel_t, sel_f, sel_dt, sel_df, sel_nt, sel_nf, v_lss, v_leq, v_gtr, v_geq, v_eql, v_neq, v_add, v_sub, v_not, v_min, v_max, v_pick_t, v_pick_f, v_ext0, v_ext1, v_ext2, v_len_isl, List.length_map, v_len_nils, v_len_sl0, v_len_sl, v_ix_map, v_ix_sl, v_nil_ptr, v_nil_iptr, v_fa_ptr, v_fa_iptr, cell_0, cell_s, cell_a2, cell_a3, cell_a7, cell_a10, v_load_map, v_load_r1, v_call_fn, v_call_fnS, v_load_H, ldH_one, ldH_map, v_store_H, stH_one, upd_same, upd_cons_ne, upd_nil, v_box, v_fld, eqs_nils, eqs_sl, v_eqs_ii, v_neqs_ii, sel_andt, sel_andf, sel_nandt, sel_nandf, encI, Int.toNat_natCast, lq_e, lq_r, Bool.not_true, Bool.not_false, Bool.false_eq_true, reduceIte, decide_true, decide_false, v_build_fill, v_buildS_fill, fill_nil, fill_cons, AV.cells, putL, chunk, List.length_cons, List.length_nil, Nat.reduceAdd, Nat.reduceDiv, Nat.reduceMod, List.take_succ_cons, List.take_zero, List.take_nil, List.drop_succ_cons, List.drop_zero, List.drop_nil, List.cons_append, List.nil_append, List.append_nil, List.all_cons, List.all_nil, AV.one, Nat.reduceLeDiff, and_self, and_true, true_and, Nat.zero_add, ne_eq, Nat.succ_ne_zero, not_false_eq_true, Bool.and_self, Nat.reduceEqDiff, Nat.le_refl, res5, vt5, V5, k5_0, k5_1, k5_2, k5_8, k5_9, k5_10, k5_11, k5_12, k5_7, k5_13, k5_14, k5_15, k5_6, k5_16, k5_18, k5_17, k5_19, k5_5, k5_20, k5_23, k5_22, k5_21, k5_24, k5_4, k5_25, k5_26, k5_30, k5_29, k5_28, k5_27, k5_31, k5_32, k5_33, k5_34, k5_35, k5_3, k5_36, k5_37]); exact vp1 rfl
end Go.Proofs.Ytbngfbpegdcpkaa
