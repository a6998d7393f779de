/- Texts of the proof, joined. -/
import Derived.Test.YtbngfbpegdcpkaaQ4
import Derived.Test.YtbngfbpegdcpkaaProg
import Derived.KernelRfl
/-! The program's functions in the abstract machine's terms. -/
namespace Go.Proofs.Ytbngfbpegdcpkaa.RunC1
set_option maxRecDepth 100000
set_option linter.unusedVariables false
set_option linter.unusedSimpArgs false
/-- duet/duetlaw18.live -/
def c11 : AFun := ⟨0, 111, [.tmp 0],
  (.seq (.region [⟨(some 0), none, .move, [.c (.bool false)]⟩] none [])
  (.seq (.region [⟨(some 10), none, .call, [.c (.fn (.func 24) [] []), .c (.str ⟨#[97, 98, 32, 99]⟩)]⟩, ⟨(some 11), none, (.build [.nils, (.int .i64 0), .nils] [(0, 1), (1, 1)]), [.t 10, .c (.int .i64 4)]⟩, ⟨(some 1), none, (.alloc [.nils, (.int .i64 0), .nils]), []⟩, ⟨none, none, (.store 3), [.t 1, .t 11]⟩] none [1])
  (.seq (.region [⟨(some 13), none, (.load 3 true), [.t 1]⟩, ⟨(some 14), none, (.build [(.int .i64 0), (.int .i64 0)] [(0, 1), (1, 1)]), [.c (.int .i64 2), .c (.int .i64 119)]⟩, ⟨(some 15), none, .call, [.c (.fn (.func 12) [] []), .t 13, .t 14]⟩, ⟨(some 12), none, .move, [.t 15]⟩, ⟨(some 16), none, (.extract 0), [.t 12]⟩, ⟨(some 17), none, (.extract 1), [.t 12]⟩, ⟨(some 2), none, (.alloc [.nils, (.int .i64 0), .nils]), []⟩, ⟨none, none, (.store 3), [.t 2, .t 16]⟩, ⟨(some 3), none, .move, [.t 17]⟩] none [1, 2, 3])
  (.seq (.region [⟨(some 19), none, (.load 3 true), [.t 2]⟩, ⟨(some 20), none, (.build [(.int .i64 0), (.int .i64 0)] [(0, 1), (1, 1)]), [.c (.int .i64 2), .c (.int .i64 121)]⟩, ⟨(some 21), none, .call, [.c (.fn (.func 12) [] []), .t 19, .t 20]⟩, ⟨(some 18), none, .move, [.t 21]⟩, ⟨(some 22), none, (.extract 0), [.t 18]⟩, ⟨(some 23), none, (.extract 1), [.t 18]⟩, ⟨(some 4), none, (.alloc [.nils, (.int .i64 0), .nils]), []⟩, ⟨none, none, (.store 3), [.t 4, .t 22]⟩, ⟨(some 5), none, .move, [.t 23]⟩] none [1, 2, 3, 4, 5])
  (.seq (.region [⟨(some 25), none, (.load 3 true), [.t 4]⟩, ⟨(some 26), none, (.build [(.int .i64 0), (.int .i64 0)] [(0, 1), (1, 1)]), [.c (.int .i64 2), .c (.int .i64 116)]⟩, ⟨(some 27), none, .call, [.c (.fn (.func 12) [] []), .t 25, .t 26]⟩, ⟨(some 24), none, .move, [.t 27]⟩, ⟨(some 28), none, (.extract 0), [.t 24]⟩, ⟨(some 29), none, (.extract 1), [.t 24]⟩, ⟨(some 6), none, (.alloc [.nils, (.int .i64 0), .nils]), []⟩, ⟨none, none, (.store 3), [.t 6, .t 28]⟩, ⟨(some 7), none, .move, [.t 29]⟩] none [1, 2, 3, 4, 5, 6, 7])
  (.seq (.region [⟨(some 31), none, (.fieldAddr 0), [.t 1]⟩, ⟨(some 32), none, (.load 1 false), [.t 31]⟩, ⟨(some 33), none, .move, [.t 3]⟩, ⟨(some 34), none, .call, [.c (.fn (.func 18) [] []), .t 32, .t 33]⟩, ⟨(some 30), none, .move, [.t 34]⟩, ⟨(some 35), none, (.extract 0), [.t 30]⟩, ⟨(some 36), none, (.extract 1), [.t 30]⟩, ⟨(some 8), none, .move, [.t 35]⟩, ⟨(some 9), none, .move, [.t 36]⟩] none [1, 2, 3, 4, 5, 6, 7, 8, 9])
  (.seq (.region [⟨(some 37), none, (.fieldAddr 0), [.t 2]⟩, ⟨(some 38), none, (.load 1 false), [.t 37]⟩, ⟨(some 39), none, .call, [.c (.fn (.func 24) [] []), .c (.str ⟨#[97, 98, 32]⟩)]⟩, ⟨(some 40), none, .call, [.c (.fn (.func 21) [] []), .t 38, .t 39]⟩, ⟨(some 41), none, .move, [.t 40]⟩, ⟨(some 42), (some (41, true)), (.fieldAddr 1), [.t 2]⟩, ⟨(some 43), (some (41, true)), (.load 1 false), [.t 42]⟩, ⟨(some 44), (some (41, true)), (.bin .eql .num), [.t 43, .c (.int .i64 3)]⟩, ⟨(some 45), none, .pick, [.t 41, .t 44, .c (.bool false)]⟩, ⟨(some 46), none, .move, [.t 45]⟩, ⟨(some 47), (some (46, true)), (.fieldAddr 2), [.t 2]⟩, ⟨(some 48), (some (46, true)), (.load 1 false), [.t 47]⟩, ⟨(some 49), (some (46, true)), .call, [.c (.fn (.func 24) [] []), .c (.str ⟨#[99]⟩)]⟩, ⟨(some 50), (some (46, true)), .call, [.c (.fn (.func 21) [] []), .t 48, .t 49]⟩, ⟨(some 51), none, .pick, [.t 46, .t 50, .c (.bool false)]⟩, ⟨(some 52), none, .move, [.t 51]⟩, ⟨(some 53), (some (52, true)), .move, [.t 3]⟩, ⟨(some 54), (some (52, true)), (.len .slice), [.t 53]⟩, ⟨(some 55), (some (52, true)), (.bin .eql .num), [.t 54, .c (.int .i64 1)]⟩, ⟨(some 56), none, .pick, [.t 52, .t 55, .c (.bool false)]⟩, ⟨(some 57), none, .move, [.t 56]⟩, ⟨(some 58), (some (57, true)), .move, [.t 5]⟩, ⟨(some 59), (some (57, true)), (.len .slice), [.t 58]⟩, ⟨(some 60), (some (57, true)), (.bin .eql .num), [.t 59, .c (.int .i64 1)]⟩, ⟨(some 61), none, .pick, [.t 57, .t 60, .c (.bool false)]⟩, ⟨(some 62), none, .move, [.t 61]⟩, ⟨(some 63), (some (62, true)), (.fieldAddr 0), [.t 4]⟩, ⟨(some 64), (some (62, true)), (.load 1 false), [.t 63]⟩, ⟨(some 65), (some (62, true)), (.fieldAddr 0), [.t 1]⟩, ⟨(some 66), (some (62, true)), (.load 1 false), [.t 65]⟩, ⟨(some 67), (some (62, true)), .call, [.c (.fn (.func 21) [] []), .t 64, .t 66]⟩, ⟨(some 68), none, .pick, [.t 62, .t 67, .c (.bool false)]⟩, ⟨(some 69), none, .move, [.t 68]⟩, ⟨(some 70), (some (69, true)), (.fieldAddr 1), [.t 4]⟩, ⟨(some 71), (some (69, true)), (.load 1 false), [.t 70]⟩, ⟨(some 72), (some (69, true)), (.bin .eql .num), [.t 71, .c (.int .i64 4)]⟩, ⟨(some 73), none, .pick, [.t 69, .t 72, .c (.bool false)]⟩, ⟨(some 74), none, .move, [.t 73]⟩, ⟨(some 75), (some (74, true)), (.fieldAddr 0), [.t 6]⟩, ⟨(some 76), (some (74, true)), (.load 1 false), [.t 75]⟩, ⟨(some 77), (some (74, true)), .call, [.c (.fn (.func 24) [] []), .c (.str ⟨#[97, 98, 99, 32]⟩)]⟩, ⟨(some 78), (some (74, true)), .call, [.c (.fn (.func 21) [] []), .t 76, .t 77]⟩, ⟨(some 79), none, .pick, [.t 74, .t 78, .c (.bool false)]⟩, ⟨(some 80), none, .move, [.t 79]⟩, ⟨(some 81), (some (80, true)), (.fieldAddr 1), [.t 6]⟩, ⟨(some 82), (some (80, true)), (.load 1 false), [.t 81]⟩, ⟨(some 83), (some (80, true)), (.bin .eql .num), [.t 82, .c (.int .i64 4)]⟩, ⟨(some 84), none, .pick, [.t 80, .t 83, .c (.bool false)]⟩, ⟨(some 85), none, .move, [.t 84]⟩, ⟨(some 86), (some (85, true)), .move, [.t 7]⟩, ⟨(some 87), (some (85, true)), (.len .slice), [.t 86]⟩, ⟨(some 88), (some (85, true)), (.bin .eql .num), [.t 87, .c (.int .i64 2)]⟩, ⟨(some 89), none, .pick, [.t 85, .t 88, .c (.bool false)]⟩, ⟨(some 90), none, .move, [.t 89]⟩, ⟨(some 91), (some (90, true)), .move, [.t 8]⟩, ⟨(some 92), (some (90, true)), (.fieldAddr 0), [.t 2]⟩, ⟨(some 93), (some (90, true)), (.load 1 false), [.t 92]⟩, ⟨(some 94), (some (90, true)), .call, [.c (.fn (.func 21) [] []), .t 91, .t 93]⟩, ⟨(some 95), none, .pick, [.t 90, .t 94, .c (.bool false)]⟩, ⟨(some 96), none, .move, [.t 95]⟩, ⟨(some 97), (some (96, true)), .move, [.t 9]⟩, ⟨(some 98), none, .pick, [.t 96, .t 97, .c (.bool false)]⟩, ⟨(some 99), none, .move, [.t 98]⟩, ⟨(some 100), (some (99, true)), (.fieldAddr 0), [.t 1]⟩, ⟨(some 101), (some (99, true)), (.load 1 false), [.t 100]⟩, ⟨(some 102), (some (99, true)), .call, [.c (.fn (.func 22) [] []), .t 101, .c (.int .i64 4), .c (.bool true)]⟩, ⟨(some 103), (some (99, true)), (.bin .eql .num), [.t 102, .c (.int .i64 3)]⟩, ⟨(some 104), none, .pick, [.t 99, .t 103, .c (.bool false)]⟩, ⟨(some 105), none, .move, [.t 104]⟩, ⟨(some 106), (some (105, true)), (.fieldAddr 0), [.t 1]⟩, ⟨(some 107), (some (105, true)), (.load 1 false), [.t 106]⟩, ⟨(some 108), (some (105, true)), .call, [.c (.fn (.func 22) [] []), .t 107, .c (.int .i64 0), .c (.bool false)]⟩, ⟨(some 109), (some (105, true)), (.bin .eql .num), [.t 108, .c (.int .i64 2)]⟩, ⟨(some 110), none, .pick, [.t 105, .t 109, .c (.bool false)]⟩, ⟨(some 0), none, .move, [.t 110]⟩] (some [0, 1, 0, 7, 15, 31, 63, 127, 255, 511, 1023, 2047, 1023, 8191, 16383, 32767, 65535, 131071, 262143, 524287, 1048575, 2097151, 4194303, 8388607, 16777215, 33554431, 67108863, 134217727, 67108863, 335544319, 1073741823, 2147483647, 4294967295, 8589934591, 17179869183, 34359738367, 68719476735, 137438953471, 274877906943, 549755813887, 274877906943, 2199023255551, 4398046511103, 8796093022207, 17592186044415, 35184372088831, 70368744177663, 140737488355327, 281474976710655, 562949953421311, 1125899906842623, 2251799813685247, 4503599627370495, 9007199254740991, 18014398509481983, 18014398509481983, 54043195528445951, 144115188075855871, 288230376151711743, 576460752303423487, 1152921504606846975, 2305843009213693951, 4611686018427387903, 9223372036854775807, 18446744073709551615, 36893488147419103231, 73786976294838206463, 147573952589676412927, 295147905179352825855, 590295810358705651711, 1180591620717411303423, 2361183241434822606847, 4722366482869645213695, 9444732965739290427391, 18889465931478580854783]) [0])
  .ret)))))))⟩
theorem ok11 : FunOk Try.prog 11 c11 := ⟨⟨Try.f11, _, Try.func11, rfl, by kernel_rfl, by kernel_rfl, by kernel_rfl, by kernel_rfl⟩, by decide⟩
/-- duet/edit.Do -/
def c12 : AFun := ⟨2, 62, [.cell 4 3 true, .tmp 5],
  (.seq (.region [⟨(some 2), none, .box, [.t 0]⟩, ⟨(some 3), none, .box, [.t 1]⟩, ⟨(some 4), none, (.alloc [.nils, (.int .i64 0), .nils]), []⟩, ⟨(some 5), none, .move, [.c .nils]⟩] none [2, 3, 4])
  (.seq (.region [⟨(some 9), none, (.fieldAddr 0), [.t 2]⟩, ⟨(some 10), none, (.load 1 false), [.t 9]⟩, ⟨(some 11), none, .call, [.c (.fn (.func 25) [] []), .t 10]⟩, ⟨(some 12), none, (.fieldAddr 0), [.t 2]⟩, ⟨(some 13), none, (.load 1 false), [.t 12]⟩, ⟨(some 14), none, (.fieldAddr 1), [.t 2]⟩, ⟨(some 15), none, (.load 1 false), [.t 14]⟩, ⟨(some 16), none, .call, [.c (.fn (.func 26) [] []), .t 13, .t 15]⟩, ⟨(some 17), none, (.fieldAddr 2), [.t 2]⟩, ⟨(some 18), none, (.load 1 false), [.t 17]⟩, ⟨(some 19), none, .call, [.c (.fn (.func 25) [] []), .t 18]⟩, ⟨(some 20), none, (.build [.nils, (.int .i64 0), .nils] [(0, 1), (1, 1), (2, 1)]), [.t 11, .t 16, .t 19]⟩, ⟨(some 21), none, (.build [.nils, (.int .i64 0), .nils, .nils] [(0, 3)]), [.t 20]⟩, ⟨(some 22), none, .box, [.t 21]⟩, ⟨(some 6), none, .move, [.t 22]⟩] (some [0, 1, 3, 0, 8, 0, 32, 127, 0, 256, 1023, 2047, 4095, 8191, 16383]) [3, 4, 6])
  (.seq (.seq (.region [⟨(some 23), none, (.fieldAddr 0), [.t 3]⟩, ⟨(some 24), none, (.load 1 false), [.t 23]⟩, ⟨(some 25), none, (.bin .neq .num), [.t 24, .c (.int .i64 1)]⟩, ⟨(some 26), none, .move, [.t 25]⟩, ⟨(some 27), (some (26, true)), (.fieldAddr 0), [.t 3]⟩, ⟨(some 28), (some (26, true)), (.load 1 false), [.t 27]⟩, ⟨(some 29), (some (26, true)), (.bin .neq .num), [.t 28, .c (.int .i64 2)]⟩, ⟨(some 30), none, .pick, [.t 26, .t 29, .c (.bool false)]⟩, ⟨(some 31), none, .move, [.t 30]⟩, ⟨(some 32), (some (31, true)), (.fieldAddr 0), [.t 3]⟩, ⟨(some 33), (some (31, true)), (.load 1 false), [.t 32]⟩, ⟨(some 34), (some (31, true)), (.bin .neq .num), [.t 33, .c (.int .i64 3)]⟩, ⟨(some 35), none, .pick, [.t 31, .t 34, .c (.bool false)]⟩] none [3, 4, 6, 35])
  (.cond (.t 35) (.region [⟨(some 36), none, (.fieldAddr 1), [.t 3]⟩, ⟨none, none, (.store 1), [.t 36, .c (.int .i64 0)]⟩] none [3, 4, 6])
  .skip))
  (.seq (.seq (.region [⟨(some 37), none, (.fieldAddr 0), [.t 3]⟩, ⟨(some 38), none, (.load 1 false), [.t 37]⟩, ⟨(some 39), none, (.bin .eql .num), [.t 38, .c (.int .i64 1)]⟩] none [3, 4, 6, 39])
  (.cond (.t 39) (.region [⟨(some 40), none, .move, [.t 6]⟩, ⟨(some 41), none, (.fieldAddr 1), [.t 3]⟩, ⟨(some 42), none, (.load 1 false), [.t 41]⟩, ⟨(some 43), none, .call, [.c (.fn (.func 27) [] []), .t 40, .t 42]⟩] none [4, 6])
  (.seq (.region [⟨(some 45), none, .call, [.c (.fn (.func 28) [] [])]⟩, ⟨(some 46), none, (.load 2 true), [.t 3]⟩, ⟨(some 47), none, (.lookup true [.int, .int] .nilf true), [.t 45, .t 46]⟩, ⟨(some 44), none, .move, [.t 47]⟩, ⟨(some 48), none, (.extract 0), [.t 44]⟩, ⟨(some 49), none, (.extract 1), [.t 44]⟩, ⟨(some 7), none, .move, [.t 48]⟩, ⟨(some 8), none, .move, [.t 49]⟩] (some [0, 0, 3, 7, 15, 15, 31, 127]) [4, 6, 7, 8])
  (.seq (.region [⟨(some 50), none, .move, [.t 8]⟩] none [4, 6, 7, 50])
  (.cond (.t 50) (.region [⟨(some 51), none, .move, [.t 7]⟩, ⟨(some 52), none, .move, [.t 6]⟩, ⟨(some 53), none, .call, [.t 51, .t 52]⟩] none [4, 6])
  .skip)))))
  (.seq (.region [⟨(some 54), none, .move, [.t 6]⟩, ⟨(some 55), none, .nilCheck, [.t 54]⟩, ⟨(some 56), none, (.fieldAddr 0), [.t 55]⟩, ⟨(some 57), none, (.load 3 true), [.t 56]⟩, ⟨(some 58), none, .move, [.t 6]⟩, ⟨(some 59), none, .nilCheck, [.t 58]⟩, ⟨(some 60), none, (.fieldAddr 3), [.t 59]⟩, ⟨(some 61), none, (.load 1 false), [.t 60]⟩, ⟨none, none, (.store 3), [.t 4, .t 57]⟩, ⟨(some 5), none, .move, [.t 61]⟩] (some [0, 1, 3, 7, 0, 16, 48, 112, 15, 511]) [4, 5])
  .ret)))))⟩
theorem ok12 : FunOk Try.prog 12 c12 := ⟨⟨Try.f12, _, Try.func12, rfl, by kernel_rfl, by kernel_rfl, by kernel_rfl, by kernel_rfl⟩, by decide⟩
/-- duet/edit.Apply -/
def c18 : AFun := ⟨2, 58, [.tmp 4, .tmp 5],
  (.seq (.region [⟨(some 4), none, .move, [.c .nils]⟩, ⟨(some 5), none, .move, [.c (.bool false)]⟩] none [0, 1])
  (.seq (.region [⟨(some 8), none, .move, [.t 0]⟩, ⟨(some 9), none, .call, [.c (.fn (.func 25) [] []), .t 8]⟩, ⟨(some 0), none, .move, [.t 9]⟩] none [0, 1])
  (.seq (.seq (.region [⟨(some 10), none, .move, [.t 1]⟩, ⟨(some 11), none, (.len .slice), [.t 10]⟩, ⟨(some 12), none, .move, [.c (.int .i64 0)]⟩] none [0, 10, 11, 12])
  (.block 0 (.loop [0, 10, 11, 12] (.seq (.region [⟨(some 13), none, (.bin .lss .num), [.t 12, .t 11]⟩] none [0, 10, 11, 12, 13])
  (.seq (.cond (.t 13) .skip
  (.exit 0))
  (.seq (.block 1 (.seq (.region [⟨(some 14), none, (.indexAddr 3), [.t 10, .t 12]⟩, ⟨(some 15), none, (.load 3 true), [.t 14]⟩, ⟨(some 7), none, (.alloc [(.int .i64 0), (.int .i64 0), (.int .i64 0)]), []⟩, ⟨none, none, (.store 3), [.t 7, .t 15]⟩] none [0, 7, 10, 11, 12])
  (.block 2 (.seq (.region [⟨(some 17), none, (.fieldAddr 1), [.t 7]⟩, ⟨(some 18), none, (.load 1 false), [.t 17]⟩, ⟨(some 19), none, (.bin .lss .num), [.t 18, .c (.int .i64 0)]⟩, ⟨(some 20), none, .move, [.t 19]⟩, ⟨(some 21), (some (20, false)), (.fieldAddr 1), [.t 7]⟩, ⟨(some 22), (some (20, false)), (.load 1 false), [.t 21]⟩, ⟨(some 23), (some (20, false)), .move, [.t 0]⟩, ⟨(some 24), (some (20, false)), (.len .slice), [.t 23]⟩, ⟨(some 25), (some (20, false)), (.bin .gtr .num), [.t 22, .t 24]⟩, ⟨(some 26), none, .pick, [.t 20, .c (.bool true), .t 25]⟩, ⟨(some 16), none, .move, [.t 26]⟩] none [0, 7, 10, 11, 12, 16])
  (.cond (.t 16) (.seq (.region [⟨(some 4), none, .move, [.c .nils]⟩, ⟨(some 5), none, .move, [.c (.bool false)]⟩] none [4, 5])
  .ret)
  (.seq (.region [⟨(some 28), none, (.fieldAddr 0), [.t 7]⟩, ⟨(some 29), none, (.load 1 false), [.t 28]⟩, ⟨(some 30), none, (.bin .eql .num), [.t 29, .c (.int .i64 1)]⟩, ⟨(some 27), none, .move, [.t 30]⟩] none [0, 7, 10, 11, 12, 27])
  (.cond (.t 27) (.region [⟨(some 31), none, .move, [.t 0]⟩, ⟨(some 32), none, (.fieldAddr 1), [.t 7]⟩, ⟨(some 33), none, (.load 1 false), [.t 32]⟩, ⟨(some 34), none, (.fieldAddr 2), [.t 7]⟩, ⟨(some 35), none, (.load 1 false), [.t 34]⟩, ⟨(some 36), none, (.buildSlice 1 [(.int .i64 0)] [(0, 1)]), [.t 35]⟩, ⟨(some 37), none, .call, [.c (.fn (.func 33) [] []), .t 31, .t 33, .t 36]⟩, ⟨(some 0), none, .move, [.t 37]⟩] none [0, 10, 11, 12])
  (.seq (.region [⟨(some 39), none, (.fieldAddr 0), [.t 7]⟩, ⟨(some 40), none, (.load 1 false), [.t 39]⟩, ⟨(some 41), none, (.bin .eql .num), [.t 40, .c (.int .i64 2)]⟩, ⟨(some 42), none, .move, [.t 41]⟩, ⟨(some 43), (some (42, true)), (.fieldAddr 1), [.t 7]⟩, ⟨(some 44), (some (42, true)), (.load 1 false), [.t 43]⟩, ⟨(some 45), (some (42, true)), .move, [.t 0]⟩, ⟨(some 46), (some (42, true)), (.len .slice), [.t 45]⟩, ⟨(some 47), (some (42, true)), (.bin .lss .num), [.t 44, .t 46]⟩, ⟨(some 48), none, .pick, [.t 42, .t 47, .c (.bool false)]⟩, ⟨(some 38), none, .move, [.t 48]⟩] none [0, 7, 10, 11, 12, 38])
  (.cond (.t 38) (.region [⟨(some 49), none, .move, [.t 0]⟩, ⟨(some 50), none, (.fieldAddr 1), [.t 7]⟩, ⟨(some 51), none, (.load 1 false), [.t 50]⟩, ⟨(some 52), none, (.fieldAddr 1), [.t 7]⟩, ⟨(some 53), none, (.load 1 false), [.t 52]⟩, ⟨(some 54), none, (.bin .add .num), [.t 53, .c (.int .i64 1)]⟩, ⟨(some 55), none, .call, [.c (.fn (.func 34) [] []), .t 49, .t 51, .t 54]⟩, ⟨(some 0), none, .move, [.t 55]⟩] none [0, 10, 11, 12])
  (.seq (.region [⟨(some 4), none, .move, [.c .nils]⟩, ⟨(some 5), none, .move, [.c (.bool false)]⟩] none [4, 5])
  .ret))))))))))
  (.region [⟨(some 56), none, (.bin .add .num), [.t 12, .c (.int .i64 1)]⟩, ⟨(some 12), none, .move, [.t 56]⟩] none [0, 10, 11, 12])))))))
  (.seq (.region [⟨(some 57), none, .move, [.t 0]⟩, ⟨(some 4), none, .move, [.t 57]⟩, ⟨(some 5), none, .move, [.c (.bool true)]⟩] none [4, 5])
  .ret))))⟩
theorem ok18 : FunOk Try.prog 18 c18 := ⟨⟨Try.f18, _, Try.func18, rfl, by kernel_rfl, by kernel_rfl, by kernel_rfl, by kernel_rfl⟩, by decide⟩
/-- duet/duetref01.Same -/
def c21 : AFun := ⟨2, 26, [.tmp 4],
  (.seq (.region [⟨(some 4), none, .move, [.c (.bool false)]⟩] none [0, 1])
  (.seq (.seq (.region [⟨(some 6), none, .move, [.t 0]⟩, ⟨(some 7), none, (.len .slice), [.t 6]⟩, ⟨(some 8), none, .move, [.t 1]⟩, ⟨(some 9), none, (.len .slice), [.t 8]⟩, ⟨(some 10), none, (.bin .neq .num), [.t 7, .t 9]⟩] none [0, 1, 10])
  (.cond (.t 10) (.seq (.region [⟨(some 4), none, .move, [.c (.bool false)]⟩] none [4])
  .ret)
  .skip))
  (.seq (.seq (.region [⟨(some 5), none, .move, [.c (.int .i64 0)]⟩] none [0, 1, 5])
  (.block 0 (.loop [0, 1, 5] (.seq (.seq (.region [⟨(some 11), none, .move, [.t 5]⟩, ⟨(some 12), none, .move, [.t 0]⟩, ⟨(some 13), none, (.len .slice), [.t 12]⟩, ⟨(some 14), none, (.bin .lss .num), [.t 11, .t 13]⟩] none [0, 1, 5, 14])
  (.cond (.t 14) .skip
  (.exit 0)))
  (.seq (.block 1 (.seq (.region [⟨(some 17), none, .move, [.t 0]⟩, ⟨(some 18), none, .move, [.t 5]⟩, ⟨(some 19), none, (.indexAddr 1), [.t 17, .t 18]⟩, ⟨(some 20), none, (.load 1 false), [.t 19]⟩, ⟨(some 21), none, .move, [.t 1]⟩, ⟨(some 22), none, .move, [.t 5]⟩, ⟨(some 23), none, (.indexAddr 1), [.t 21, .t 22]⟩, ⟨(some 24), none, (.load 1 false), [.t 23]⟩, ⟨(some 25), none, (.bin .neq .num), [.t 20, .t 24]⟩] (some [0, 0, 3, 7, 0, 0, 48, 112, 255]) [0, 1, 5, 25])
  (.cond (.t 25) (.seq (.region [⟨(some 4), none, .move, [.c (.bool false)]⟩] none [4])
  .ret)
  .skip)))
  (.region [⟨(some 15), none, .move, [.t 5]⟩, ⟨(some 16), none, (.bin .add .num), [.t 15, .c (.int .i64 1)]⟩, ⟨(some 5), none, .move, [.t 16]⟩] none [0, 1, 5]))))))
  (.seq (.region [⟨(some 4), none, .move, [.c (.bool true)]⟩] none [4])
  .ret))))⟩
theorem ok21 : FunOk Try.prog 21 c21 := ⟨⟨Try.f21, _, Try.func21, rfl, by kernel_rfl, by kernel_rfl, by kernel_rfl, by kernel_rfl⟩, by decide⟩
/-- duet/edit.Word -/
def c22 : AFun := ⟨3, 45, [.tmp 6],
  (.seq (.region [⟨(some 6), none, .move, [.c (.int .i64 0)]⟩] none [0, 1, 2])
  (.seq (.region [⟨(some 11), none, .move, [.t 0]⟩, ⟨(some 12), none, .move, [.t 1]⟩, ⟨(some 13), none, .call, [.c (.fn (.func 26) [] []), .t 11, .t 12]⟩, ⟨(some 1), none, .move, [.t 13]⟩] none [0, 1, 2])
  (.seq (.seq (.region [⟨(some 14), none, .move, [.t 2]⟩] none [0, 1, 14])
  (.cond (.t 14) (.seq (.region [⟨(some 15), none, .move, [.t 0]⟩, ⟨(some 16), none, .move, [.t 1]⟩, ⟨(some 17), none, (.slice 1 false true false), [.t 15, .t 16]⟩, ⟨(some 18), none, .call, [.c (.fn (.func 25) [] []), .t 17]⟩, ⟨(some 7), none, .move, [.t 18]⟩] none [1, 7])
  (.seq (.region [⟨(some 19), none, .move, [.t 7]⟩, ⟨(some 20), none, .call, [.c (.fn (.func 35) [] []), .t 19]⟩] none [1, 7])
  (.seq (.region [⟨(some 21), none, .move, [.t 1]⟩, ⟨(some 22), none, .move, [.t 7]⟩, ⟨(some 23), none, .call, [.c (.fn (.func 22) [] []), .t 22, .c (.int .i64 0), .c (.bool false)]⟩, ⟨(some 24), none, (.bin .sub .num), [.t 21, .t 23]⟩, ⟨(some 6), none, .move, [.t 24]⟩] none [6])
  .ret)))
  .skip))
  (.seq (.seq (.region [⟨(some 25), none, (.buildSlice 1 [(.bool false), (.bool false)] [(0, 1), (1, 1)]), [.c (.bool false), .c (.bool true)]⟩, ⟨(some 26), none, (.len .slice), [.t 25]⟩, ⟨(some 27), none, .move, [.c (.int .i64 0)]⟩] none [0, 1, 25, 26, 27])
  (.block 0 (.loop [0, 1, 25, 26, 27] (.seq (.region [⟨(some 28), none, (.bin .lss .num), [.t 27, .t 26]⟩] none [0, 1, 25, 26, 27, 28])
  (.seq (.cond (.t 28) .skip
  (.exit 0))
  (.seq (.block 1 (.seq (.region [⟨(some 29), none, (.indexAddr 1), [.t 25, .t 27]⟩, ⟨(some 30), none, (.load 1 false), [.t 29]⟩, ⟨(some 9), none, (.alloc [(.bool false)]), []⟩, ⟨none, none, (.store 1), [.t 9, .t 30]⟩] none [0, 1, 9, 25, 26, 27])
  (.seq (.region [⟨(some 31), none, .move, [.t 0]⟩, ⟨(some 32), none, .move, [.t 1]⟩, ⟨(some 33), none, (.slice 1 true false false), [.t 31, .t 32]⟩, ⟨(some 34), none, (.mkfn (.func 37) 0), [.t 9]⟩, ⟨(some 35), none, .call, [.c (.fn (.func 36) [] []), .t 33, .t 34]⟩, ⟨(some 10), none, .move, [.t 35]⟩] none [0, 1, 10, 25, 26, 27])
  (.seq (.seq (.region [⟨(some 36), none, .move, [.t 10]⟩, ⟨(some 37), none, (.bin .lss .num), [.t 36, .c (.int .i64 0)]⟩] none [0, 1, 10, 25, 26, 27, 37])
  (.cond (.t 37) (.seq (.region [⟨(some 38), none, .move, [.t 0]⟩, ⟨(some 39), none, (.len .slice), [.t 38]⟩, ⟨(some 6), none, .move, [.t 39]⟩] none [6])
  .ret)
  .skip))
  (.region [⟨(some 40), none, .move, [.t 1]⟩, ⟨(some 41), none, .move, [.t 10]⟩, ⟨(some 42), none, (.bin .add .num), [.t 40, .t 41]⟩, ⟨(some 1), none, .move, [.t 42]⟩] none [0, 1, 25, 26, 27])))))
  (.region [⟨(some 43), none, (.bin .add .num), [.t 27, .c (.int .i64 1)]⟩, ⟨(some 27), none, .move, [.t 43]⟩] none [0, 1, 25, 26, 27])))))))
  (.seq (.region [⟨(some 44), none, .move, [.t 1]⟩, ⟨(some 6), none, .move, [.t 44]⟩] none [6])
  .ret)))))⟩
theorem ok22 : FunOk Try.prog 22 c22 := ⟨⟨Try.f22, _, Try.func22, rfl, by kernel_rfl, by kernel_rfl, by kernel_rfl, by kernel_rfl⟩, by decide⟩
/-- duet/duetlaw18.runes -/
def c24 : AFun := ⟨1, 19, [.tmp 2],
  (.seq (.region [⟨(some 2), none, .move, [.c .nils]⟩] none [0])
  (.seq (.region [⟨(some 3), none, .move, [.c .nils]⟩] none [0, 3])
  (.seq (.seq (.region [⟨(some 4), none, .move, [.c (.int .i64 0)]⟩] none [0, 3, 4])
  (.block 0 (.loop [0, 3, 4] (.seq (.seq (.region [⟨(some 5), none, .move, [.t 4]⟩, ⟨(some 6), none, .move, [.t 0]⟩, ⟨(some 7), none, (.len .num), [.t 6]⟩, ⟨(some 8), none, (.bin .lss .num), [.t 5, .t 7]⟩] none [0, 3, 4, 8])
  (.cond (.t 8) .skip
  (.exit 0)))
  (.seq (.block 1 (.region [⟨(some 11), none, .move, [.t 3]⟩, ⟨(some 12), none, .move, [.t 0]⟩, ⟨(some 13), none, .move, [.t 4]⟩, ⟨(some 14), none, .strAt, [.t 12, .t 13]⟩, ⟨(some 15), none, (.conv .i64), [.t 14]⟩, ⟨(some 16), none, (.buildSlice 1 [(.int .i64 0)] [(0, 1)]), [.t 15]⟩, ⟨(some 17), none, (.append 1 8), [.t 11, .t 16]⟩, ⟨(some 3), none, .move, [.t 17]⟩] none [0, 3, 4]))
  (.region [⟨(some 9), none, .move, [.t 4]⟩, ⟨(some 10), none, (.bin .add .num), [.t 9, .c (.int .i64 1)]⟩, ⟨(some 4), none, .move, [.t 10]⟩] none [0, 3, 4]))))))
  (.seq (.region [⟨(some 18), none, .move, [.t 3]⟩, ⟨(some 2), none, .move, [.t 18]⟩] none [2])
  .ret))))⟩
theorem ok24 : FunOk Try.prog 24 c24 := ⟨⟨Try.f24, _, Try.func24, rfl, by kernel_rfl, by kernel_rfl, by kernel_rfl, by kernel_rfl⟩, by decide⟩
/-- slices.Clone[[]int,int] -/
def c25 : AFun := ⟨1, 8, [.tmp 2],
  (.seq (.region [⟨(some 2), none, .move, [.c .nils]⟩] none [0])
  (.seq (.seq (.region [⟨(some 3), none, .move, [.t 0]⟩, ⟨(some 4), none, (.bin .eql .slice), [.t 3, .c .nils]⟩] none [0, 4])
  (.cond (.t 4) (.seq (.region [⟨(some 2), none, .move, [.c .nils]⟩] none [2])
  .ret)
  .skip))
  (.seq (.region [⟨(some 5), none, (.buildSlice 1 [] []), []⟩, ⟨(some 6), none, .move, [.t 0]⟩, ⟨(some 7), none, (.append 1 8), [.t 5, .t 6]⟩, ⟨(some 2), none, .move, [.t 7]⟩] none [2])
  .ret)))⟩
theorem ok25 : FunOk Try.prog 25 c25 := ⟨⟨Try.f25, _, Try.func25, rfl, by kernel_rfl, by kernel_rfl, by kernel_rfl, by kernel_rfl⟩, by decide⟩
/-- duet/edit.held -/
def c26 : AFun := ⟨2, 10, [.tmp 4],
  (.seq (.region [⟨(some 4), none, .move, [.c (.int .i64 0)]⟩] none [0, 1])
  (.seq (.region [⟨(some 5), none, .move, [.t 1]⟩, ⟨(some 6), none, .max, [.t 5, .c (.int .i64 0)]⟩, ⟨(some 7), none, .move, [.t 0]⟩, ⟨(some 8), none, (.len .slice), [.t 7]⟩, ⟨(some 9), none, .min, [.t 6, .t 8]⟩, ⟨(some 4), none, .move, [.t 9]⟩] none [4])
  .ret))⟩
theorem ok26 : FunOk Try.prog 26 c26 := ⟨⟨Try.f26, _, Try.func26, rfl, by kernel_rfl, by kernel_rfl, by kernel_rfl, by kernel_rfl⟩, by decide⟩
/-- (*duet/edit.work).put -/
def c27 : AFun := ⟨2, 59, [.tmp 4],
  (.seq (.region [⟨(some 4), none, .move, [.c (.bool false)]⟩] none [0, 1])
  (.seq (.seq (.region [⟨(some 5), none, .move, [.t 0]⟩, ⟨(some 6), none, .nilCheck, [.t 5]⟩, ⟨(some 7), none, (.fieldAddr 0), [.t 6]⟩, ⟨(some 8), none, (.fieldAddr 0), [.t 7]⟩, ⟨(some 9), none, (.load 1 false), [.t 8]⟩, ⟨(some 10), none, (.len .slice), [.t 9]⟩, ⟨(some 11), none, (.bin .geq .num), [.t 10, .c (.int .i64 1000)]⟩, ⟨(some 12), none, .move, [.t 11]⟩, ⟨(some 13), (some (12, false)), .move, [.t 1]⟩, ⟨(some 14), (some (12, false)), .call, [.c (.fn (.func 40) [] []), .t 13]⟩, ⟨(some 15), (some (12, false)), (.un .not), [.t 14]⟩, ⟨(some 16), none, .pick, [.t 12, .c (.bool true), .t 15]⟩] none [0, 1, 16])
  (.cond (.t 16) (.seq (.region [⟨(some 4), none, .move, [.c (.bool false)]⟩] none [4])
  .ret)
  .skip))
  (.seq (.region [⟨(some 17), none, .move, [.t 0]⟩, ⟨(some 18), none, .move, [.t 0]⟩, ⟨(some 19), none, .nilCheck, [.t 18]⟩, ⟨(some 20), none, (.fieldAddr 3), [.t 19]⟩, ⟨(some 21), none, (.load 1 false), [.t 20]⟩, ⟨(some 22), none, .move, [.t 0]⟩, ⟨(some 23), none, .nilCheck, [.t 22]⟩, ⟨(some 24), none, (.fieldAddr 0), [.t 23]⟩, ⟨(some 25), none, (.fieldAddr 1), [.t 24]⟩, ⟨(some 26), none, (.load 1 false), [.t 25]⟩, ⟨(some 27), none, .move, [.t 1]⟩, ⟨(some 28), none, (.build [(.int .i64 0), (.int .i64 0), (.int .i64 0)] [(0, 1), (1, 1), (2, 1)]), [.c (.int .i64 1), .t 26, .t 27]⟩, ⟨(some 29), none, (.buildSlice 3 [(.int .i64 0), (.int .i64 0), (.int .i64 0)] [(0, 3)]), [.t 28]⟩, ⟨(some 30), none, (.append 3 24), [.t 21, .t 29]⟩, ⟨(some 31), none, .nilCheck, [.t 17]⟩, ⟨(some 32), none, (.fieldAddr 3), [.t 31]⟩, ⟨none, none, (.store 1), [.t 32, .t 30]⟩] (some [0, 0, 2, 6, 14, 0, 32, 96, 224, 480, 0, 2016, 4064, 8190, 16383, 32767, 65535]) [0, 1])
  (.seq (.region [⟨(some 33), none, .move, [.t 0]⟩, ⟨(some 34), none, .move, [.t 0]⟩, ⟨(some 35), none, .nilCheck, [.t 34]⟩, ⟨(some 36), none, (.fieldAddr 0), [.t 35]⟩, ⟨(some 37), none, (.fieldAddr 0), [.t 36]⟩, ⟨(some 38), none, (.load 1 false), [.t 37]⟩, ⟨(some 39), none, .move, [.t 0]⟩, ⟨(some 40), none, .nilCheck, [.t 39]⟩, ⟨(some 41), none, (.fieldAddr 0), [.t 40]⟩, ⟨(some 42), none, (.fieldAddr 1), [.t 41]⟩, ⟨(some 43), none, (.load 1 false), [.t 42]⟩, ⟨(some 44), none, .move, [.t 1]⟩, ⟨(some 45), none, (.buildSlice 1 [(.int .i64 0)] [(0, 1)]), [.t 44]⟩, ⟨(some 46), none, .call, [.c (.fn (.func 33) [] []), .t 38, .t 43, .t 45]⟩, ⟨(some 47), none, .nilCheck, [.t 33]⟩, ⟨(some 48), none, (.fieldAddr 0), [.t 47]⟩, ⟨(some 49), none, (.fieldAddr 0), [.t 48]⟩, ⟨none, none, (.store 1), [.t 49, .t 46]⟩] (some [0, 0, 2, 6, 14, 30, 0, 64, 192, 448, 960, 0, 2048, 8190, 16383, 32767, 65535, 131071]) [0])
  (.seq (.region [⟨(some 50), none, .move, [.t 0]⟩, ⟨(some 51), none, .nilCheck, [.t 50]⟩, ⟨(some 52), none, (.fieldAddr 0), [.t 51]⟩, ⟨(some 53), none, (.fieldAddr 1), [.t 52]⟩, ⟨(some 54), none, (.load 1 false), [.t 53]⟩, ⟨(some 55), none, (.bin .add .num), [.t 54, .c (.int .i64 1)]⟩, ⟨(some 56), none, .nilCheck, [.t 50]⟩, ⟨(some 57), none, (.fieldAddr 0), [.t 56]⟩, ⟨(some 58), none, (.fieldAddr 1), [.t 57]⟩, ⟨none, none, (.store 1), [.t 58, .t 55]⟩] none [])
  (.seq (.region [⟨(some 4), none, .move, [.c (.bool true)]⟩] none [4])
  .ret))))))⟩
theorem ok27 : FunOk Try.prog 27 c27 := ⟨⟨Try.f27, _, Try.func27, rfl, by kernel_rfl, by kernel_rfl, by kernel_rfl, by kernel_rfl⟩, by decide⟩
/-- slices.Reverse[[]int,int] -/
def c35 : AFun := ⟨1, 28, [],
  (.seq (.region [⟨(some 4), none, .move, [.t 0]⟩, ⟨(some 5), none, (.len .slice), [.t 4]⟩, ⟨(some 6), none, (.bin .sub .num), [.t 5, .c (.int .i64 1)]⟩, ⟨(some 2), none, .move, [.c (.int .i64 0)]⟩, ⟨(some 3), none, .move, [.t 6]⟩] none [0, 2, 3])
  (.block 0 (.loop [0, 2, 3] (.seq (.seq (.region [⟨(some 7), none, .move, [.t 2]⟩, ⟨(some 8), none, .move, [.t 3]⟩, ⟨(some 9), none, (.bin .lss .num), [.t 7, .t 8]⟩] none [0, 2, 3, 9])
  (.cond (.t 9) .skip
  (.exit 0)))
  (.seq (.block 1 (.region [⟨(some 14), none, .move, [.t 0]⟩, ⟨(some 15), none, .move, [.t 2]⟩, ⟨(some 16), none, .move, [.t 0]⟩, ⟨(some 17), none, .move, [.t 3]⟩, ⟨(some 18), none, .move, [.t 0]⟩, ⟨(some 19), none, .move, [.t 3]⟩, ⟨(some 20), none, (.indexAddr 1), [.t 18, .t 19]⟩, ⟨(some 21), none, (.load 1 false), [.t 20]⟩, ⟨(some 22), none, .move, [.t 0]⟩, ⟨(some 23), none, .move, [.t 2]⟩, ⟨(some 24), none, (.indexAddr 1), [.t 22, .t 23]⟩, ⟨(some 25), none, (.load 1 false), [.t 24]⟩, ⟨(some 26), none, (.indexAddr 1), [.t 14, .t 15]⟩, ⟨none, none, (.store 1), [.t 26, .t 21]⟩, ⟨(some 27), none, (.indexAddr 1), [.t 16, .t 17]⟩, ⟨none, none, (.store 1), [.t 27, .t 25]⟩] (some [0, 0, 0, 0, 0, 0, 48, 112, 0, 0, 768, 1792, 4083, 8179, 16383, 32767]) [0, 2, 3]))
  (.region [⟨(some 10), none, .move, [.t 2]⟩, ⟨(some 11), none, (.bin .add .num), [.t 10, .c (.int .i64 1)]⟩, ⟨(some 12), none, .move, [.t 3]⟩, ⟨(some 13), none, (.bin .sub .num), [.t 12, .c (.int .i64 1)]⟩, ⟨(some 2), none, .move, [.t 11]⟩, ⟨(some 3), none, .move, [.t 13]⟩] none [0, 2, 3]))))))⟩
theorem ok35 : FunOk Try.prog 35 c35 := ⟨⟨Try.f35, _, Try.func35, rfl, by kernel_rfl, by kernel_rfl, by kernel_rfl, by kernel_rfl⟩, by decide⟩
/-- slices.IndexFunc[[]int,int] -/
def c36 : AFun := ⟨2, 19, [.tmp 4],
  (.seq (.region [⟨(some 4), none, .move, [.c (.int .i64 0)]⟩] none [0, 1])
  (.seq (.seq (.region [⟨(some 6), none, .move, [.t 0]⟩, ⟨(some 7), none, (.len .slice), [.t 6]⟩, ⟨(some 8), none, .move, [.c (.int .i64 0)]⟩] none [0, 1, 7, 8])
  (.block 0 (.loop [0, 1, 7, 8] (.seq (.region [⟨(some 9), none, (.bin .lss .num), [.t 8, .t 7]⟩] none [0, 1, 7, 8, 9])
  (.seq (.cond (.t 9) .skip
  (.exit 0))
  (.seq (.block 1 (.seq (.region [⟨(some 10), none, .move, [.t 8]⟩, ⟨(some 5), none, .move, [.t 10]⟩] none [0, 1, 5, 7, 8])
  (.seq (.region [⟨(some 11), none, .move, [.t 1]⟩, ⟨(some 12), none, .move, [.t 0]⟩, ⟨(some 13), none, .move, [.t 5]⟩, ⟨(some 14), none, (.indexAddr 1), [.t 12, .t 13]⟩, ⟨(some 15), none, (.load 1 false), [.t 14]⟩, ⟨(some 16), none, .call, [.t 11, .t 15]⟩] none [0, 1, 5, 7, 8, 16])
  (.cond (.t 16) (.seq (.region [⟨(some 17), none, .move, [.t 5]⟩, ⟨(some 4), none, .move, [.t 17]⟩] none [4])
  .ret)
  .skip))))
  (.region [⟨(some 18), none, (.bin .add .num), [.t 8, .c (.int .i64 1)]⟩, ⟨(some 8), none, .move, [.t 18]⟩] none [0, 1, 7, 8])))))))
  (.seq (.region [⟨(some 4), none, .move, [.c (.int .i64 (-1))]⟩] none [4])
  .ret)))⟩
theorem ok36 : FunOk Try.prog 36 c36 := ⟨⟨Try.f36, _, Try.func36, rfl, by kernel_rfl, by kernel_rfl, by kernel_rfl, by kernel_rfl⟩, by decide⟩
/-- duet/edit.Word$1 -/
def c37 : AFun := ⟨2, 8, [.tmp 3],
  (.seq (.region [⟨(some 3), none, .move, [.c (.bool false)]⟩] none [0, 1])
  (.seq (.region [⟨(some 4), none, .move, [.t 0]⟩, ⟨(some 5), none, .call, [.c (.fn (.func 38) [] []), .t 4]⟩, ⟨(some 6), none, (.load 1 false), [.t 1]⟩, ⟨(some 7), none, (.bin .neq .bool), [.t 5, .t 6]⟩, ⟨(some 3), none, .move, [.t 7]⟩] (some [0, 1, 0, 7, 15]) [3])
  .ret))⟩
theorem ok37 : FunOk Try.prog 37 c37 := ⟨⟨Try.f37, _, Try.func37, rfl, by kernel_rfl, by kernel_rfl, by kernel_rfl, by kernel_rfl⟩, by decide⟩
/-- duet/edit.isLetter -/
def c38 : AFun := ⟨1, 27, [.tmp 2],
  (.seq (.region [⟨(some 2), none, .move, [.c (.bool false)]⟩] none [0])
  (.seq (.region [⟨(some 3), none, .move, [.t 0]⟩, ⟨(some 4), none, (.bin .geq .num), [.t 3, .c (.int .i64 48)]⟩, ⟨(some 5), none, .move, [.t 4]⟩, ⟨(some 6), (some (5, true)), .move, [.t 0]⟩, ⟨(some 7), (some (5, true)), (.bin .leq .num), [.t 6, .c (.int .i64 57)]⟩, ⟨(some 8), none, .pick, [.t 5, .t 7, .c (.bool false)]⟩, ⟨(some 9), none, .move, [.t 8]⟩, ⟨(some 10), (some (9, false)), .move, [.t 0]⟩, ⟨(some 11), (some (9, false)), (.bin .or .num), [.t 10, .c (.int .i64 32)]⟩, ⟨(some 12), (some (9, false)), (.bin .geq .num), [.t 11, .c (.int .i64 97)]⟩, ⟨(some 13), (some (9, false)), .move, [.t 12]⟩, ⟨(some 14), (some (13, true)), .move, [.t 0]⟩, ⟨(some 15), (some (13, true)), (.bin .or .num), [.t 14, .c (.int .i64 32)]⟩, ⟨(some 16), (some (13, true)), (.bin .leq .num), [.t 15, .c (.int .i64 122)]⟩, ⟨(some 17), (some (9, false)), .pick, [.t 13, .t 16, .c (.bool false)]⟩, ⟨(some 18), none, .pick, [.t 9, .c (.bool true), .t 17]⟩, ⟨(some 19), none, .move, [.t 18]⟩, ⟨(some 20), (some (19, false)), .move, [.t 0]⟩, ⟨(some 21), (some (19, false)), (.bin .eql .num), [.t 20, .c (.int .i64 95)]⟩, ⟨(some 22), none, .pick, [.t 19, .c (.bool true), .t 21]⟩, ⟨(some 23), none, .move, [.t 22]⟩, ⟨(some 24), (some (23, false)), .move, [.t 0]⟩, ⟨(some 25), (some (23, false)), (.bin .gtr .num), [.t 24, .c (.int .i64 127)]⟩, ⟨(some 26), none, .pick, [.t 23, .c (.bool true), .t 25]⟩, ⟨(some 2), none, .move, [.t 26]⟩] none [2])
  .ret))⟩
theorem ok38 : FunOk Try.prog 38 c38 := ⟨⟨Try.f38, _, Try.func38, rfl, by kernel_rfl, by kernel_rfl, by kernel_rfl, by kernel_rfl⟩, by decide⟩
/-- duet/mesg.Rune -/
def c40 : AFun := ⟨1, 22, [.tmp 2],
  (.seq (.region [⟨(some 2), none, .move, [.c (.bool false)]⟩] none [0])
  (.seq (.block 0 (.seq (.seq (.region [⟨(some 4), none, .move, [.t 0]⟩, ⟨(some 5), none, (.bin .lss .num), [.t 4, .c (.int .i64 32)]⟩, ⟨(some 6), none, .move, [.t 5]⟩, ⟨(some 7), (some (6, false)), .move, [.t 0]⟩, ⟨(some 8), (some (6, false)), (.bin .gtr .num), [.t 7, .c (.int .i64 1114111)]⟩, ⟨(some 9), none, .pick, [.t 6, .c (.bool true), .t 8]⟩, ⟨(some 3), none, .move, [.t 9]⟩] none [0, 3])
  (.cond (.t 3) .skip
  (.seq (.region [⟨(some 10), none, .move, [.t 0]⟩, ⟨(some 11), none, (.bin .geq .num), [.t 10, .c (.int .i64 127)]⟩, ⟨(some 12), none, .move, [.t 11]⟩, ⟨(some 13), (some (12, true)), .move, [.t 0]⟩, ⟨(some 14), (some (12, true)), (.bin .leq .num), [.t 13, .c (.int .i64 159)]⟩, ⟨(some 15), none, .pick, [.t 12, .t 14, .c (.bool false)]⟩, ⟨(some 3), none, .move, [.t 15]⟩] none [0, 3])
  (.cond (.t 3) .skip
  (.region [⟨(some 16), none, .move, [.t 0]⟩, ⟨(some 17), none, (.bin .geq .num), [.t 16, .c (.int .i64 55296)]⟩, ⟨(some 18), none, .move, [.t 17]⟩, ⟨(some 19), (some (18, true)), .move, [.t 0]⟩, ⟨(some 20), (some (18, true)), (.bin .leq .num), [.t 19, .c (.int .i64 57343)]⟩, ⟨(some 21), none, .pick, [.t 18, .t 20, .c (.bool false)]⟩, ⟨(some 3), none, .move, [.t 21]⟩] none [3])))))
  (.cond (.t 3) (.seq (.region [⟨(some 2), none, .move, [.c (.bool false)]⟩] none [2])
  .ret)
  .skip)))
  (.seq (.region [⟨(some 2), none, .move, [.c (.bool true)]⟩] none [2])
  .ret)))⟩
theorem ok40 : FunOk Try.prog 40 c40 := ⟨⟨Try.f40, _, Try.func40, rfl, by kernel_rfl, by kernel_rfl, by kernel_rfl, by kernel_rfl⟩, by decide⟩
/-- (*duet/edit.work).home -/
def c43 : AFun := ⟨1, 6, [],
  (.region [⟨(some 2), none, .move, [.t 0]⟩, ⟨(some 3), none, .nilCheck, [.t 2]⟩, ⟨(some 4), none, (.fieldAddr 0), [.t 3]⟩, ⟨(some 5), none, (.fieldAddr 1), [.t 4]⟩, ⟨none, none, (.store 1), [.t 5, .c (.int .i64 0)]⟩] none [])⟩
theorem ok43 : FunOk Try.prog 43 c43 := ⟨⟨Try.f43, _, Try.func43, rfl, by kernel_rfl, by kernel_rfl, by kernel_rfl, by kernel_rfl⟩, by decide⟩
/-- (*duet/edit.work).end -/
def c44 : AFun := ⟨1, 12, [],
  (.region [⟨(some 2), none, .move, [.t 0]⟩, ⟨(some 3), none, .move, [.t 0]⟩, ⟨(some 4), none, .nilCheck, [.t 3]⟩, ⟨(some 5), none, (.fieldAddr 0), [.t 4]⟩, ⟨(some 6), none, (.fieldAddr 0), [.t 5]⟩, ⟨(some 7), none, (.load 1 false), [.t 6]⟩, ⟨(some 8), none, (.len .slice), [.t 7]⟩, ⟨(some 9), none, .nilCheck, [.t 2]⟩, ⟨(some 10), none, (.fieldAddr 0), [.t 9]⟩, ⟨(some 11), none, (.fieldAddr 1), [.t 10]⟩, ⟨none, none, (.store 1), [.t 11, .t 8]⟩] none [])⟩
theorem ok44 : FunOk Try.prog 44 c44 := ⟨⟨Try.f44, _, Try.func44, rfl, by kernel_rfl, by kernel_rfl, by kernel_rfl, by kernel_rfl⟩, by decide⟩
/-- (*duet/edit.work).left -/
def c45 : AFun := ⟨1, 18, [],
  (.region [⟨(some 2), none, .move, [.t 0]⟩, ⟨(some 3), none, .move, [.t 0]⟩, ⟨(some 4), none, .nilCheck, [.t 3]⟩, ⟨(some 5), none, (.fieldAddr 0), [.t 4]⟩, ⟨(some 6), none, (.fieldAddr 0), [.t 5]⟩, ⟨(some 7), none, (.load 1 false), [.t 6]⟩, ⟨(some 8), none, .move, [.t 0]⟩, ⟨(some 9), none, .nilCheck, [.t 8]⟩, ⟨(some 10), none, (.fieldAddr 0), [.t 9]⟩, ⟨(some 11), none, (.fieldAddr 1), [.t 10]⟩, ⟨(some 12), none, (.load 1 false), [.t 11]⟩, ⟨(some 13), none, (.bin .sub .num), [.t 12, .c (.int .i64 1)]⟩, ⟨(some 14), none, .call, [.c (.fn (.func 26) [] []), .t 7, .t 13]⟩, ⟨(some 15), none, .nilCheck, [.t 2]⟩, ⟨(some 16), none, (.fieldAddr 0), [.t 15]⟩, ⟨(some 17), none, (.fieldAddr 1), [.t 16]⟩, ⟨none, none, (.store 1), [.t 17, .t 14]⟩] (some [0, 0, 2, 6, 14, 30, 0, 64, 192, 448, 960, 1984, 4094, 8191, 16383, 32767, 65535]) [])⟩
theorem ok45 : FunOk Try.prog 45 c45 := ⟨⟨Try.f45, _, Try.func45, rfl, by kernel_rfl, by kernel_rfl, by kernel_rfl, by kernel_rfl⟩, by decide⟩
/-- (*duet/edit.work).right -/
def c46 : AFun := ⟨1, 18, [],
  (.region [⟨(some 2), none, .move, [.t 0]⟩, ⟨(some 3), none, .move, [.t 0]⟩, ⟨(some 4), none, .nilCheck, [.t 3]⟩, ⟨(some 5), none, (.fieldAddr 0), [.t 4]⟩, ⟨(some 6), none, (.fieldAddr 0), [.t 5]⟩, ⟨(some 7), none, (.load 1 false), [.t 6]⟩, ⟨(some 8), none, .move, [.t 0]⟩, ⟨(some 9), none, .nilCheck, [.t 8]⟩, ⟨(some 10), none, (.fieldAddr 0), [.t 9]⟩, ⟨(some 11), none, (.fieldAddr 1), [.t 10]⟩, ⟨(some 12), none, (.load 1 false), [.t 11]⟩, ⟨(some 13), none, (.bin .add .num), [.t 12, .c (.int .i64 1)]⟩, ⟨(some 14), none, .call, [.c (.fn (.func 26) [] []), .t 7, .t 13]⟩, ⟨(some 15), none, .nilCheck, [.t 2]⟩, ⟨(some 16), none, (.fieldAddr 0), [.t 15]⟩, ⟨(some 17), none, (.fieldAddr 1), [.t 16]⟩, ⟨none, none, (.store 1), [.t 17, .t 14]⟩] (some [0, 0, 2, 6, 14, 30, 0, 64, 192, 448, 960, 1984, 4094, 8191, 16383, 32767, 65535]) [])⟩
theorem ok46 : FunOk Try.prog 46 c46 := ⟨⟨Try.f46, _, Try.func46, rfl, by kernel_rfl, by kernel_rfl, by kernel_rfl, by kernel_rfl⟩, by decide⟩
/-- (*duet/edit.work).rub -/
def c47 : AFun := ⟨1, 21, [],
  (.region [⟨(some 2), none, .move, [.t 0]⟩, ⟨(some 3), none, .move, [.t 0]⟩, ⟨(some 4), none, .nilCheck, [.t 3]⟩, ⟨(some 5), none, (.fieldAddr 0), [.t 4]⟩, ⟨(some 6), none, (.fieldAddr 0), [.t 5]⟩, ⟨(some 7), none, (.load 1 false), [.t 6]⟩, ⟨(some 8), none, .move, [.t 0]⟩, ⟨(some 9), none, .nilCheck, [.t 8]⟩, ⟨(some 10), none, (.fieldAddr 0), [.t 9]⟩, ⟨(some 11), none, (.fieldAddr 1), [.t 10]⟩, ⟨(some 12), none, (.load 1 false), [.t 11]⟩, ⟨(some 13), none, (.bin .sub .num), [.t 12, .c (.int .i64 1)]⟩, ⟨(some 14), none, .call, [.c (.fn (.func 26) [] []), .t 7, .t 13]⟩, ⟨(some 15), none, .move, [.t 0]⟩, ⟨(some 16), none, .nilCheck, [.t 15]⟩, ⟨(some 17), none, (.fieldAddr 0), [.t 16]⟩, ⟨(some 18), none, (.fieldAddr 1), [.t 17]⟩, ⟨(some 19), none, (.load 1 false), [.t 18]⟩, ⟨(some 20), none, .call, [.c (.fn (.func 62) [] []), .t 2, .t 14, .t 19]⟩] (some [0, 0, 2, 6, 14, 30, 0, 64, 192, 448, 960, 1984, 4094, 0, 8192, 24576, 57344, 122880, 262143]) [])⟩
theorem ok47 : FunOk Try.prog 47 c47 := ⟨⟨Try.f47, _, Try.func47, rfl, by kernel_rfl, by kernel_rfl, by kernel_rfl, by kernel_rfl⟩, by decide⟩
/-- (*duet/edit.work).del -/
def c48 : AFun := ⟨1, 21, [],
  (.region [⟨(some 2), none, .move, [.t 0]⟩, ⟨(some 3), none, .move, [.t 0]⟩, ⟨(some 4), none, .nilCheck, [.t 3]⟩, ⟨(some 5), none, (.fieldAddr 0), [.t 4]⟩, ⟨(some 6), none, (.fieldAddr 1), [.t 5]⟩, ⟨(some 7), none, (.load 1 false), [.t 6]⟩, ⟨(some 8), none, .move, [.t 0]⟩, ⟨(some 9), none, .nilCheck, [.t 8]⟩, ⟨(some 10), none, (.fieldAddr 0), [.t 9]⟩, ⟨(some 11), none, (.fieldAddr 0), [.t 10]⟩, ⟨(some 12), none, (.load 1 false), [.t 11]⟩, ⟨(some 13), none, .move, [.t 0]⟩, ⟨(some 14), none, .nilCheck, [.t 13]⟩, ⟨(some 15), none, (.fieldAddr 0), [.t 14]⟩, ⟨(some 16), none, (.fieldAddr 1), [.t 15]⟩, ⟨(some 17), none, (.load 1 false), [.t 16]⟩, ⟨(some 18), none, (.bin .add .num), [.t 17, .c (.int .i64 1)]⟩, ⟨(some 19), none, .call, [.c (.fn (.func 26) [] []), .t 12, .t 18]⟩, ⟨(some 20), none, .call, [.c (.fn (.func 62) [] []), .t 2, .t 7, .t 19]⟩] (some [0, 0, 2, 6, 14, 30, 0, 64, 192, 448, 960, 0, 2048, 6144, 14336, 30720, 63488, 131008, 262143]) [])⟩
theorem ok48 : FunOk Try.prog 48 c48 := ⟨⟨Try.f48, _, Try.func48, rfl, by kernel_rfl, by kernel_rfl, by kernel_rfl, by kernel_rfl⟩, by decide⟩
/-- (*duet/edit.work).killOn -/
def c49 : AFun := ⟨1, 15, [],
  (.region [⟨(some 2), none, .move, [.t 0]⟩, ⟨(some 3), none, .move, [.t 0]⟩, ⟨(some 4), none, .nilCheck, [.t 3]⟩, ⟨(some 5), none, (.fieldAddr 0), [.t 4]⟩, ⟨(some 6), none, (.fieldAddr 1), [.t 5]⟩, ⟨(some 7), none, (.load 1 false), [.t 6]⟩, ⟨(some 8), none, .move, [.t 0]⟩, ⟨(some 9), none, .nilCheck, [.t 8]⟩, ⟨(some 10), none, (.fieldAddr 0), [.t 9]⟩, ⟨(some 11), none, (.fieldAddr 0), [.t 10]⟩, ⟨(some 12), none, (.load 1 false), [.t 11]⟩, ⟨(some 13), none, (.len .slice), [.t 12]⟩, ⟨(some 14), none, .call, [.c (.fn (.func 63) [] []), .t 2, .t 7, .t 13]⟩] (some [0, 0, 2, 6, 14, 30, 0, 64, 192, 448, 960, 1984, 4095]) [])⟩
theorem ok49 : FunOk Try.prog 49 c49 := ⟨⟨Try.f49, _, Try.func49, rfl, by kernel_rfl, by kernel_rfl, by kernel_rfl, by kernel_rfl⟩, by decide⟩
/-- (*duet/edit.work).killBack -/
def c50 : AFun := ⟨1, 9, [],
  (.region [⟨(some 2), none, .move, [.t 0]⟩, ⟨(some 3), none, .move, [.t 0]⟩, ⟨(some 4), none, .nilCheck, [.t 3]⟩, ⟨(some 5), none, (.fieldAddr 0), [.t 4]⟩, ⟨(some 6), none, (.fieldAddr 1), [.t 5]⟩, ⟨(some 7), none, (.load 1 false), [.t 6]⟩, ⟨(some 8), none, .call, [.c (.fn (.func 63) [] []), .t 2, .c (.int .i64 0), .t 7]⟩] none [])⟩
theorem ok50 : FunOk Try.prog 50 c50 := ⟨⟨Try.f50, _, Try.func50, rfl, by kernel_rfl, by kernel_rfl, by kernel_rfl, by kernel_rfl⟩, by decide⟩
/-- (*duet/edit.work).killWord -/
def c51 : AFun := ⟨1, 20, [],
  (.region [⟨(some 2), none, .move, [.t 0]⟩, ⟨(some 3), none, .move, [.t 0]⟩, ⟨(some 4), none, .nilCheck, [.t 3]⟩, ⟨(some 5), none, (.fieldAddr 0), [.t 4]⟩, ⟨(some 6), none, (.fieldAddr 0), [.t 5]⟩, ⟨(some 7), none, (.load 1 false), [.t 6]⟩, ⟨(some 8), none, .move, [.t 0]⟩, ⟨(some 9), none, .nilCheck, [.t 8]⟩, ⟨(some 10), none, (.fieldAddr 0), [.t 9]⟩, ⟨(some 11), none, (.fieldAddr 1), [.t 10]⟩, ⟨(some 12), none, (.load 1 false), [.t 11]⟩, ⟨(some 13), none, .call, [.c (.fn (.func 22) [] []), .t 7, .t 12, .c (.bool true)]⟩, ⟨(some 14), none, .move, [.t 0]⟩, ⟨(some 15), none, .nilCheck, [.t 14]⟩, ⟨(some 16), none, (.fieldAddr 0), [.t 15]⟩, ⟨(some 17), none, (.fieldAddr 1), [.t 16]⟩, ⟨(some 18), none, (.load 1 false), [.t 17]⟩, ⟨(some 19), none, .call, [.c (.fn (.func 63) [] []), .t 2, .t 13, .t 18]⟩] (some [0, 0, 2, 6, 14, 30, 0, 64, 192, 448, 960, 2046, 0, 4096, 12288, 28672, 61440, 131071]) [])⟩
theorem ok51 : FunOk Try.prog 51 c51 := ⟨⟨Try.f51, _, Try.func51, rfl, by kernel_rfl, by kernel_rfl, by kernel_rfl, by kernel_rfl⟩, by decide⟩
/-- (*duet/edit.work).yank -/
def c52 : AFun := ⟨1, 19, [],
  (.seq (.region [⟨(some 4), none, .move, [.t 0]⟩, ⟨(some 5), none, .nilCheck, [.t 4]⟩, ⟨(some 6), none, (.fieldAddr 0), [.t 5]⟩, ⟨(some 7), none, (.fieldAddr 2), [.t 6]⟩, ⟨(some 8), none, (.load 1 false), [.t 7]⟩, ⟨(some 9), none, (.len .slice), [.t 8]⟩, ⟨(some 10), none, .move, [.c (.int .i64 0)]⟩] none [0, 8, 9, 10])
  (.block 0 (.loop [0, 8, 9, 10] (.seq (.region [⟨(some 11), none, (.bin .lss .num), [.t 10, .t 9]⟩] none [0, 8, 9, 10, 11])
  (.seq (.cond (.t 11) .skip
  (.exit 0))
  (.seq (.block 1 (.seq (.region [⟨(some 12), none, (.indexAddr 1), [.t 8, .t 10]⟩, ⟨(some 13), none, (.load 1 false), [.t 12]⟩, ⟨(some 3), none, .move, [.t 13]⟩] none [0, 3, 8, 9, 10])
  (.seq (.region [⟨(some 14), none, .move, [.t 0]⟩, ⟨(some 15), none, .move, [.t 3]⟩, ⟨(some 16), none, .call, [.c (.fn (.func 27) [] []), .t 14, .t 15]⟩, ⟨(some 17), none, (.un .not), [.t 16]⟩] none [0, 8, 9, 10, 17])
  (.cond (.t 17) (.exit 0)
  .skip))))
  (.region [⟨(some 18), none, (.bin .add .num), [.t 10, .c (.int .i64 1)]⟩, ⟨(some 10), none, .move, [.t 18]⟩] none [0, 8, 9, 10])))))))⟩
theorem ok52 : FunOk Try.prog 52 c52 := ⟨⟨Try.f52, _, Try.func52, rfl, by kernel_rfl, by kernel_rfl, by kernel_rfl, by kernel_rfl⟩, by decide⟩
/-- (*duet/edit.work).swap -/
def c53 : AFun := ⟨1, 67, [],
  (.seq (.seq (.region [⟨(some 4), none, .move, [.t 0]⟩, ⟨(some 5), none, .nilCheck, [.t 4]⟩, ⟨(some 6), none, (.fieldAddr 0), [.t 5]⟩, ⟨(some 7), none, (.fieldAddr 0), [.t 6]⟩, ⟨(some 8), none, (.load 1 false), [.t 7]⟩, ⟨(some 9), none, (.len .slice), [.t 8]⟩, ⟨(some 10), none, (.bin .lss .num), [.t 9, .c (.int .i64 2)]⟩, ⟨(some 11), none, .move, [.t 10]⟩, ⟨(some 12), (some (11, false)), .move, [.t 0]⟩, ⟨(some 13), (some (11, false)), .nilCheck, [.t 12]⟩, ⟨(some 14), (some (11, false)), (.fieldAddr 0), [.t 13]⟩, ⟨(some 15), (some (11, false)), (.fieldAddr 1), [.t 14]⟩, ⟨(some 16), (some (11, false)), (.load 1 false), [.t 15]⟩, ⟨(some 17), (some (11, false)), (.bin .eql .num), [.t 16, .c (.int .i64 0)]⟩, ⟨(some 18), none, .pick, [.t 11, .c (.bool true), .t 17]⟩] none [0, 18])
  (.cond (.t 18) .ret
  .skip))
  (.seq (.region [⟨(some 19), none, .move, [.t 0]⟩, ⟨(some 20), none, .nilCheck, [.t 19]⟩, ⟨(some 21), none, (.fieldAddr 0), [.t 20]⟩, ⟨(some 22), none, (.fieldAddr 1), [.t 21]⟩, ⟨(some 23), none, (.load 1 false), [.t 22]⟩, ⟨(some 24), none, .move, [.t 0]⟩, ⟨(some 25), none, .nilCheck, [.t 24]⟩, ⟨(some 26), none, (.fieldAddr 0), [.t 25]⟩, ⟨(some 27), none, (.fieldAddr 0), [.t 26]⟩, ⟨(some 28), none, (.load 1 false), [.t 27]⟩, ⟨(some 29), none, (.len .slice), [.t 28]⟩, ⟨(some 30), none, (.bin .sub .num), [.t 29, .c (.int .i64 1)]⟩, ⟨(some 31), none, .min, [.t 23, .t 30]⟩, ⟨(some 2), none, .move, [.t 31]⟩] (some [0, 1, 3, 7, 15, 0, 32, 96, 224, 480, 992, 2016, 4095, 8191]) [0, 2])
  (.seq (.seq (.region [⟨(some 32), none, .move, [.t 0]⟩, ⟨(some 33), none, .nilCheck, [.t 32]⟩, ⟨(some 34), none, (.fieldAddr 0), [.t 33]⟩, ⟨(some 35), none, (.fieldAddr 0), [.t 34]⟩, ⟨(some 36), none, (.load 1 false), [.t 35]⟩, ⟨(some 37), none, (.len .slice), [.t 36]⟩, ⟨(some 38), none, (.bin .gtr .num), [.t 37, .c (.int .i64 1000)]⟩, ⟨(some 39), none, .move, [.t 38]⟩, ⟨(some 40), (some (39, false)), .move, [.t 0]⟩, ⟨(some 41), (some (39, false)), .nilCheck, [.t 40]⟩, ⟨(some 42), (some (39, false)), (.fieldAddr 0), [.t 41]⟩, ⟨(some 43), (some (39, false)), (.fieldAddr 0), [.t 42]⟩, ⟨(some 44), (some (39, false)), (.load 1 false), [.t 43]⟩, ⟨(some 45), (some (39, false)), .move, [.t 2]⟩, ⟨(some 46), (some (39, false)), (.bin .sub .num), [.t 45, .c (.int .i64 1)]⟩, ⟨(some 47), (some (39, false)), (.indexAddr 1), [.t 44, .t 46]⟩, ⟨(some 48), (some (39, false)), (.load 1 false), [.t 47]⟩, ⟨(some 49), (some (39, false)), .call, [.c (.fn (.func 40) [] []), .t 48]⟩, ⟨(some 50), (some (39, false)), (.un .not), [.t 49]⟩, ⟨(some 51), none, .pick, [.t 39, .c (.bool true), .t 50]⟩] none [0, 2, 51])
  (.cond (.t 51) .ret
  .skip))
  (.seq (.region [⟨(some 52), none, .move, [.t 0]⟩, ⟨(some 53), none, .move, [.t 2]⟩, ⟨(some 54), none, (.bin .sub .num), [.t 53, .c (.int .i64 1)]⟩, ⟨(some 55), none, .move, [.t 2]⟩, ⟨(some 56), none, .call, [.c (.fn (.func 62) [] []), .t 52, .t 54, .t 55]⟩, ⟨(some 3), none, .move, [.t 56]⟩] none [0, 2, 3])
  (.seq (.region [⟨(some 57), none, .move, [.t 0]⟩, ⟨(some 58), none, .move, [.t 2]⟩, ⟨(some 59), none, .nilCheck, [.t 57]⟩, ⟨(some 60), none, (.fieldAddr 0), [.t 59]⟩, ⟨(some 61), none, (.fieldAddr 1), [.t 60]⟩, ⟨none, none, (.store 1), [.t 61, .t 58]⟩] none [0, 3])
  (.region [⟨(some 62), none, .move, [.t 0]⟩, ⟨(some 63), none, .move, [.t 3]⟩, ⟨(some 64), none, (.indexAddr 1), [.t 63, .c (.int .i64 0)]⟩, ⟨(some 65), none, (.load 1 false), [.t 64]⟩, ⟨(some 66), none, .call, [.c (.fn (.func 27) [] []), .t 62, .t 65]⟩] none []))))))⟩
theorem ok53 : FunOk Try.prog 53 c53 := ⟨⟨Try.f53, _, Try.func53, rfl, by kernel_rfl, by kernel_rfl, by kernel_rfl, by kernel_rfl⟩, by decide⟩
/-- (*duet/edit.work).wordBack -/
def c54 : AFun := ⟨1, 17, [],
  (.region [⟨(some 2), none, .move, [.t 0]⟩, ⟨(some 3), none, .move, [.t 0]⟩, ⟨(some 4), none, .nilCheck, [.t 3]⟩, ⟨(some 5), none, (.fieldAddr 0), [.t 4]⟩, ⟨(some 6), none, (.fieldAddr 0), [.t 5]⟩, ⟨(some 7), none, (.load 1 false), [.t 6]⟩, ⟨(some 8), none, .move, [.t 0]⟩, ⟨(some 9), none, .nilCheck, [.t 8]⟩, ⟨(some 10), none, (.fieldAddr 0), [.t 9]⟩, ⟨(some 11), none, (.fieldAddr 1), [.t 10]⟩, ⟨(some 12), none, (.load 1 false), [.t 11]⟩, ⟨(some 13), none, .call, [.c (.fn (.func 22) [] []), .t 7, .t 12, .c (.bool true)]⟩, ⟨(some 14), none, .nilCheck, [.t 2]⟩, ⟨(some 15), none, (.fieldAddr 0), [.t 14]⟩, ⟨(some 16), none, (.fieldAddr 1), [.t 15]⟩, ⟨none, none, (.store 1), [.t 16, .t 13]⟩] (some [0, 0, 2, 6, 14, 30, 0, 64, 192, 448, 960, 2046, 4095, 8191, 16383, 32767]) [])⟩
theorem ok54 : FunOk Try.prog 54 c54 := ⟨⟨Try.f54, _, Try.func54, rfl, by kernel_rfl, by kernel_rfl, by kernel_rfl, by kernel_rfl⟩, by decide⟩
/-- (*duet/edit.work).wordOn -/
def c55 : AFun := ⟨1, 17, [],
  (.region [⟨(some 2), none, .move, [.t 0]⟩, ⟨(some 3), none, .move, [.t 0]⟩, ⟨(some 4), none, .nilCheck, [.t 3]⟩, ⟨(some 5), none, (.fieldAddr 0), [.t 4]⟩, ⟨(some 6), none, (.fieldAddr 0), [.t 5]⟩, ⟨(some 7), none, (.load 1 false), [.t 6]⟩, ⟨(some 8), none, .move, [.t 0]⟩, ⟨(some 9), none, .nilCheck, [.t 8]⟩, ⟨(some 10), none, (.fieldAddr 0), [.t 9]⟩, ⟨(some 11), none, (.fieldAddr 1), [.t 10]⟩, ⟨(some 12), none, (.load 1 false), [.t 11]⟩, ⟨(some 13), none, .call, [.c (.fn (.func 22) [] []), .t 7, .t 12, .c (.bool false)]⟩, ⟨(some 14), none, .nilCheck, [.t 2]⟩, ⟨(some 15), none, (.fieldAddr 0), [.t 14]⟩, ⟨(some 16), none, (.fieldAddr 1), [.t 15]⟩, ⟨none, none, (.store 1), [.t 16, .t 13]⟩] (some [0, 0, 2, 6, 14, 30, 0, 64, 192, 448, 960, 2046, 4095, 8191, 16383, 32767]) [])⟩
theorem ok55 : FunOk Try.prog 55 c55 := ⟨⟨Try.f55, _, Try.func55, rfl, by kernel_rfl, by kernel_rfl, by kernel_rfl, by kernel_rfl⟩, by decide⟩
/-- (*duet/edit.work).killNext -/
def c56 : AFun := ⟨1, 20, [],
  (.region [⟨(some 2), none, .move, [.t 0]⟩, ⟨(some 3), none, .move, [.t 0]⟩, ⟨(some 4), none, .nilCheck, [.t 3]⟩, ⟨(some 5), none, (.fieldAddr 0), [.t 4]⟩, ⟨(some 6), none, (.fieldAddr 1), [.t 5]⟩, ⟨(some 7), none, (.load 1 false), [.t 6]⟩, ⟨(some 8), none, .move, [.t 0]⟩, ⟨(some 9), none, .nilCheck, [.t 8]⟩, ⟨(some 10), none, (.fieldAddr 0), [.t 9]⟩, ⟨(some 11), none, (.fieldAddr 0), [.t 10]⟩, ⟨(some 12), none, (.load 1 false), [.t 11]⟩, ⟨(some 13), none, .move, [.t 0]⟩, ⟨(some 14), none, .nilCheck, [.t 13]⟩, ⟨(some 15), none, (.fieldAddr 0), [.t 14]⟩, ⟨(some 16), none, (.fieldAddr 1), [.t 15]⟩, ⟨(some 17), none, (.load 1 false), [.t 16]⟩, ⟨(some 18), none, .call, [.c (.fn (.func 22) [] []), .t 12, .t 17, .c (.bool false)]⟩, ⟨(some 19), none, .call, [.c (.fn (.func 63) [] []), .t 2, .t 7, .t 18]⟩] (some [0, 0, 2, 6, 14, 30, 0, 64, 192, 448, 960, 0, 2048, 6144, 14336, 30720, 65472, 131071]) [])⟩
theorem ok56 : FunOk Try.prog 56 c56 := ⟨⟨Try.f56, _, Try.func56, rfl, by kernel_rfl, by kernel_rfl, by kernel_rfl, by kernel_rfl⟩, by decide⟩
/-- (*duet/edit.work).cut -/
def c62 : AFun := ⟨3, 59, [.tmp 6],
  (.seq (.region [⟨(some 6), none, .move, [.c .nils]⟩] none [0, 1, 2])
  (.seq (.region [⟨(some 10), none, .move, [.t 0]⟩, ⟨(some 11), none, .nilCheck, [.t 10]⟩, ⟨(some 12), none, (.fieldAddr 0), [.t 11]⟩, ⟨(some 13), none, (.fieldAddr 0), [.t 12]⟩, ⟨(some 14), none, (.load 1 false), [.t 13]⟩, ⟨(some 15), none, .move, [.t 1]⟩, ⟨(some 16), none, .move, [.t 2]⟩, ⟨(some 17), none, (.slice 1 true true false), [.t 14, .t 15, .t 16]⟩, ⟨(some 18), none, .call, [.c (.fn (.func 25) [] []), .t 17]⟩, ⟨(some 7), none, .move, [.t 18]⟩] none [0, 1, 2, 7])
  (.seq (.seq (.region [⟨(some 19), none, .move, [.t 7]⟩, ⟨(some 20), none, (.len .slice), [.t 19]⟩, ⟨(some 21), none, .move, [.c (.int .i64 0)]⟩] none [0, 1, 2, 7, 19, 20, 21])
  (.block 0 (.loop [0, 1, 2, 7, 19, 20, 21] (.seq (.region [⟨(some 22), none, (.bin .lss .num), [.t 21, .t 20]⟩] none [0, 1, 2, 7, 19, 20, 21, 22])
  (.seq (.cond (.t 22) .skip
  (.exit 0))
  (.seq (.block 1 (.seq (.region [⟨(some 23), none, (.indexAddr 1), [.t 19, .t 21]⟩, ⟨(some 24), none, (.load 1 false), [.t 23]⟩, ⟨(some 9), none, .move, [.t 24]⟩] none [0, 1, 2, 7, 9, 19, 20, 21])
  (.region [⟨(some 25), none, .move, [.t 0]⟩, ⟨(some 26), none, .move, [.t 0]⟩, ⟨(some 27), none, .nilCheck, [.t 26]⟩, ⟨(some 28), none, (.fieldAddr 3), [.t 27]⟩, ⟨(some 29), none, (.load 1 false), [.t 28]⟩, ⟨(some 30), none, .move, [.t 1]⟩, ⟨(some 31), none, .move, [.t 9]⟩, ⟨(some 32), none, (.build [(.int .i64 0), (.int .i64 0), (.int .i64 0)] [(0, 1), (1, 1), (2, 1)]), [.c (.int .i64 2), .t 30, .t 31]⟩, ⟨(some 33), none, (.buildSlice 3 [(.int .i64 0), (.int .i64 0), (.int .i64 0)] [(0, 3)]), [.t 32]⟩, ⟨(some 34), none, (.append 3 24), [.t 29, .t 33]⟩, ⟨(some 35), none, .nilCheck, [.t 25]⟩, ⟨(some 36), none, (.fieldAddr 3), [.t 35]⟩, ⟨none, none, (.store 1), [.t 36, .t 34]⟩] none [0, 1, 2, 7, 19, 20, 21])))
  (.region [⟨(some 37), none, (.bin .add .num), [.t 21, .c (.int .i64 1)]⟩, ⟨(some 21), none, .move, [.t 37]⟩] none [0, 1, 2, 7, 19, 20, 21])))))))
  (.seq (.seq (.region [⟨(some 38), none, .move, [.t 7]⟩, ⟨(some 39), none, (.len .slice), [.t 38]⟩, ⟨(some 40), none, (.bin .gtr .num), [.t 39, .c (.int .i64 0)]⟩] none [0, 1, 2, 7, 40])
  (.cond (.t 40) (.seq (.region [⟨(some 41), none, .move, [.t 0]⟩, ⟨(some 42), none, .move, [.t 0]⟩, ⟨(some 43), none, .nilCheck, [.t 42]⟩, ⟨(some 44), none, (.fieldAddr 0), [.t 43]⟩, ⟨(some 45), none, (.fieldAddr 0), [.t 44]⟩, ⟨(some 46), none, (.load 1 false), [.t 45]⟩, ⟨(some 47), none, .move, [.t 1]⟩, ⟨(some 48), none, .move, [.t 2]⟩, ⟨(some 49), none, .call, [.c (.fn (.func 34) [] []), .t 46, .t 47, .t 48]⟩, ⟨(some 50), none, .nilCheck, [.t 41]⟩, ⟨(some 51), none, (.fieldAddr 0), [.t 50]⟩, ⟨(some 52), none, (.fieldAddr 0), [.t 51]⟩, ⟨none, none, (.store 1), [.t 52, .t 49]⟩] none [0, 1, 7])
  (.region [⟨(some 53), none, .move, [.t 0]⟩, ⟨(some 54), none, .move, [.t 1]⟩, ⟨(some 55), none, .nilCheck, [.t 53]⟩, ⟨(some 56), none, (.fieldAddr 0), [.t 55]⟩, ⟨(some 57), none, (.fieldAddr 1), [.t 56]⟩, ⟨none, none, (.store 1), [.t 57, .t 54]⟩] none [7]))
  .skip))
  (.seq (.region [⟨(some 58), none, .move, [.t 7]⟩, ⟨(some 6), none, .move, [.t 58]⟩] none [6])
  .ret)))))⟩
theorem ok62 : FunOk Try.prog 62 c62 := ⟨⟨Try.f62, _, Try.func62, rfl, by kernel_rfl, by kernel_rfl, by kernel_rfl, by kernel_rfl⟩, by decide⟩
/-- (*duet/edit.work).kill -/
def c63 : AFun := ⟨3, 19, [],
  (.seq (.region [⟨(some 7), none, .move, [.t 0]⟩, ⟨(some 8), none, .move, [.t 1]⟩, ⟨(some 9), none, .move, [.t 2]⟩, ⟨(some 10), none, .call, [.c (.fn (.func 62) [] []), .t 7, .t 8, .t 9]⟩, ⟨(some 6), none, .move, [.t 10]⟩] none [0, 6])
  (.seq (.region [⟨(some 11), none, .move, [.t 6]⟩, ⟨(some 12), none, (.len .slice), [.t 11]⟩, ⟨(some 13), none, (.bin .gtr .num), [.t 12, .c (.int .i64 0)]⟩] none [0, 6, 13])
  (.cond (.t 13) (.region [⟨(some 14), none, .move, [.t 0]⟩, ⟨(some 15), none, .move, [.t 6]⟩, ⟨(some 16), none, .nilCheck, [.t 14]⟩, ⟨(some 17), none, (.fieldAddr 0), [.t 16]⟩, ⟨(some 18), none, (.fieldAddr 2), [.t 17]⟩, ⟨none, none, (.store 1), [.t 18, .t 15]⟩] none [])
  .skip)))⟩
theorem ok63 : FunOk Try.prog 63 c63 := ⟨⟨Try.f63, _, Try.func63, rfl, by kernel_rfl, by kernel_rfl, by kernel_rfl, by kernel_rfl⟩, by decide⟩
def tblL : List (Nat × AFun) := [(11, c11), (12, c12), (18, c18), (21, c21), (22, c22), (24, c24), (25, c25), (26, c26), (27, c27), (35, c35), (36, c36), (37, c37), (38, c38), (40, c40), (43, c43), (44, c44), (45, c45), (46, c46), (47, c47), (48, c48), (49, c49), (50, c50), (51, c51), (52, c52), (53, c53), (54, c54), (55, c55), (56, c56), (62, c62), (63, c63)]
def tbl (f : Nat) : Option AFun := tblL.lookup f
theorem tbl_ok : ∀ f A, tbl f = some A → FunOk Try.prog f A := JZ (by
  simp only [tblL, List.forall_mem_cons]
  exact ⟨ok11, ok12, ok18, ok21, ok22, ok24, ok25, ok26, ok27, ok35, ok36, ok37, ok38, ok40, ok43, ok44, ok45, ok46, ok47, ok48, ok49, ok50, ok51, ok52, ok53, ok54, ok55, ok56, ok62, ok63, by simp⟩)
theorem run_ok (fuel d : Nat) : iS Try.prog (NX Z8 tbl fuel d) := NW Try.mixed extE_ok tbl_ok fuel d
end Go.Proofs.Ytbngfbpegdcpkaa.RunC1
/-! The examples of layer 18 are as told. -/
namespace Go.Proofs.Ytbngfbpegdcpkaa
set_option linter.unusedVariables false
set_option linter.unusedSimpArgs false
set_option maxRecDepth 100000
theorem DL : lV Try.prog 11 [] (.bool true) := pure_run (RunC1.run_ok 1000 20) rfl (by kernel_rfl)
end Go.Proofs.Ytbngfbpegdcpkaa
/-! The shape of a number, and of a list of numbers. -/
namespace Go.Proofs.Ytbngfbpegdcpkaa
set_option linter.unusedVariables false
set_option linter.unusedSimpArgs false
set_option maxRecDepth 100000
def I64 (i : Int) : Prop := -9223372036854775808 ≤ i ∧ i ≤ 9223372036854775807
/-- a list of whole numbers as rows -/
def s8 (l : List Int) : List (List AV) := l.map fun x => [.int .i64 x]
inductive KnowAV : AV → List Int → Prop
  | row (l : List Int) : l.length ≤ maxLen → (∀ x ∈ l, I64 x) → KnowAV (.isl 1 (s8 l)) l
theorem oR {n : Nat} {xs : List AV} (h : a9 Try.prog (n + 1) 3 xs) : ∃ i, xs = [.int .i64 i] ∧ I64 i := by
  simp only [a9, Try.underlying3] at h
  obtain ⟨i, rfl, h1, h2⟩ := h
  exact ⟨i, rfl, by simpa [IntKind.min, IntKind.signed, IntKind.bits] using h1, by simpa [IntKind.max, IntKind.signed, IntKind.bits] using h2⟩
theorem JP {n : Nat} : ∀ {rows : List (List AV)}, (∀ r ∈ rows, a9 Try.prog (n + 1) 3 r) → ∃ l, rows = s8 l ∧ ∀ x ∈ l, I64 x
  | [], _ => ⟨[], rfl, by simp⟩
  | r :: rows, h => by
    obtain ⟨i, rfl, hi⟩ := oR (h r (by simp))
    obtain ⟨l, rfl, hl⟩ := JP (rows := rows) (fun r hr => h r (by simp [hr]))
    exact ⟨i :: l, rfl, by simpa using ⟨hi, hl⟩⟩
theorem vA {n : Nat} {xs : List AV} (h : a9 Try.prog (n + 2) 22 xs) : ∃ k l, xs = [k] ∧ KnowAV k l := by
  simp only [a9, Try.underlying22] at h
  obtain ⟨rows, rfl, h1, h2⟩ := h
  · obtain ⟨l, rfl, hl⟩ := JP (n := n) h2
    have : Try.prog.cellsOf 3 = 1 := by kernel_rfl
    rw [this]
    exact ⟨_, l, rfl, .row l (by simpa [s8] using h1) hl⟩
end Go.Proofs.Ytbngfbpegdcpkaa
/-! Joined texts. -/
namespace Go.Proofs.Ytbngfbpegdcpkaa
set_option linter.unusedVariables false
set_option linter.unusedSimpArgs false
set_option maxRecDepth 100000
/-! The laws of layer 18: are two lists the same; is a state small; a key. -/
section
theorem E4 (a b : List Int) (ha : a.length ≤ 1000000000) : lV Try.prog 21 [il a, il b] (.bool (decide (a = b))) := by
  refine cP Try.mixed ok21 rfl (fun q => ?_)
  simp only [params, Nat.zero_add, Nat.reduceAdd]
  repeat' (first | (simp (disch := omega) only [vsb, aE, reduceIte, AV.cells, putL, aC, Nat.reduceAdd, Nat.reduceDiv, Nat.reduceMod, AV.one, Nat.reduceLeDiff, Nat.reduceEqDiff, XQ, JV, MH, aAh, QR, QQ, V21, WP, WO, V7, V6, V2, V1, VZ, VY, VX, VW, V0, VV]) | (refine aY (fun _ => ?_) (fun _ => ?_)) | (refine jN (fun _ => ?_) (fun _ => ?_)) | (refine cF (fun _ => ?_) (fun _ => ?_)) | (refine bI (fun _ => ?_) (fun _ => ?_)) | (refine And.intro (aV rfl) ?_) | (refine cG (fun _ => ?_) ?_) | (exfalso; omega; done))
  · rename_i hlen
    refine vp1 (congrArg AV.bool ?_)
    have : a ≠ b := fun e => hlen (by rw [e])
    simp [this]
  · rename_i hlen
    refine qH (fun n r H c => ∃ i : Nat, r = [(0, il a), (1, il b), (5, .int .i64 i)] ∧ H = (fun _ => none) ∧ i ≤ a.length ∧ n = a.length - i ∧ ∀ k, k < i → nth a k = nth b k) a.length ⟨0, rfl, rfl, by omega, rfl, fun k hk => by omega⟩ ?_
    rintro n r H c ⟨i, rfl, rfl, hi, rfl, hk⟩
    repeat' (first | (simp (disch := omega) only [vsb, aE, reduceIte, AV.cells, putL, aC, Nat.reduceAdd, Nat.reduceDiv, Nat.reduceMod, AV.one, Nat.reduceLeDiff, Nat.reduceEqDiff, XQ, JV, MH, aAh, QR, QQ, V21, WP, WO, V7, V6, V2, V1, VZ, VY, VX, VW, V0, VV]) | (refine aY (fun _ => ?_) (fun _ => ?_)) | (refine jN (fun _ => ?_) (fun _ => ?_)) | (refine cF (fun _ => ?_) (fun _ => ?_)) | (refine bI (fun _ => ?_) (fun _ => ?_)) | (refine And.intro (aV rfl) ?_) | (refine cG (fun _ => ?_) ?_) | (exfalso; omega; done))
    · rename_i h1 h2
      refine vp1 (congrArg AV.bool ?_)
      have : a ≠ b := fun e => by rw [e] at h2; exact h2 rfl
      simp [this]
    · rename_i h1 h2
      refine w7 (a.length - (i + 1)) (by omega) ⟨i + 1, rfl, rfl, by omega, rfl, fun k hk' => ?_⟩
      rcases Nat.lt_or_ge k i with h3 | h3
      · exact hk k h3
      · rw [show k = i by omega]; exact h2
    · have : a = b := PN (by omega) (fun k hkl => hk k (by omega))
      subst this
      exact vp1 (by simp)
theorem E3 (a : List Int) (ha : a.length ≤ 1000000000) : lV Try.prog 21 [il a, il a] (.bool true) := by
  have h := E4 a a ha
  rwa [decide_eq_true rfl] at h
def OF (l kl : List Int) : Bool := decide (l.length ≤ 1100) && decide (kl.length ≤ 1100)
theorem NM (l kl : List Int) (a : Int) : lV Try.prog 10 [.agg [il l, .int .i64 a, il kl]] (.bool (OF l kl)) := by
  refine cP Try.mixed ok10 rfl (fun q => ?_)
  simp only [params, Nat.zero_add, Nat.reduceAdd]
  repeat' (first | (simp (disch := omega) only [vsb, aE, reduceIte, AV.cells, putL, aC, Nat.reduceAdd, Nat.reduceDiv, Nat.reduceMod, AV.one, Nat.reduceLeDiff, Nat.reduceEqDiff, res10, vt10, V10, ZD, ZC, ZB, ZA]) | (refine aY (fun _ => ?_) (fun _ => ?_)) | (refine jN (fun _ => ?_) (fun _ => ?_)) | (refine cF (fun _ => ?_) (fun _ => ?_)) | (refine bI (fun _ => ?_) (fun _ => ?_)) | (refine And.intro (aV rfl) ?_) | (refine cG (fun _ => ?_) ?_) | (exfalso; omega; done))
  · refine vp1 (congrArg AV.bool ?_)
    rename_i h
    have h' : l.length ≤ 1100 := by omega
    simp [OF, h']
    omega
  · refine vp1 (congrArg AV.bool ?_)
    rename_i h
    have h' : ¬ l.length ≤ 1100 := by omega
    simp [OF, h']
theorem MP (k r : Int) : lV Try.prog 13 [.agg [.int .i64 k, .int .i64 r]] (.agg [.int .i64 k, .int .i64 r]) := by
  refine cP Try.mixed ok13 rfl (fun q => ?_)
  simp only [params, Nat.zero_add, Nat.reduceAdd]
  repeat' (first | (simp (disch := omega) only [vsb, aE, reduceIte, AV.cells, putL, aC, Nat.reduceAdd, Nat.reduceDiv, Nat.reduceMod, AV.one, Nat.reduceLeDiff, Nat.reduceEqDiff, res13, vt13, V13]) | (refine aY (fun _ => ?_) (fun _ => ?_)) | (refine jN (fun _ => ?_) (fun _ => ?_)) | (refine cF (fun _ => ?_) (fun _ => ?_)) | (refine bI (fun _ => ?_) (fun _ => ?_)) | (refine And.intro (aV rfl) ?_) | (refine cG (fun _ => ?_) ?_) | (exfalso; omega; done))
  exact Z3 aK rfl (.refl _)
theorem ldH_at {n e j i : Nat} {g : Bool} {rows : List (List AV)} {r : List AV} {l : Lab} {KL : AV → Option (List Lab) → Prop} (h : rows[i]? = some r) : GI n g (some (.rows e rows)) l e i j KL = j3 n g r j fun x => KL x (some [l]) := by simp [GI, h]
theorem fr_none {Z : Lab → Prop} {H : aB} {x y : AV} : Fr Z H (.agg [x, y, .nils]) (.agg [x, y, il []]) := Fr.agg3 (.refl _) (.refl _) (.nils 1)
theorem WJ {l kl : List Int} {p : Nat} {A : List (Int × Int × Int)} : doR ⟨l, p, kl, A⟩ = .tuple [.agg [il l, .int .i64 p, il kl], .isl 3 (A.map bA)] := rfl
theorem do_left (l kl : List Int) (a : Int) : doS l a kl 7 0 = ⟨l, aR l.length (aR l.length a - 1), kl, []⟩ := rfl
theorem do_right (l kl : List Int) (a : Int) : doS l a kl 6 0 = ⟨l, aR l.length (aR l.length a + 1), kl, []⟩ := rfl
theorem do_home (l kl : List Int) (a : Int) : doS l a kl 8 0 = ⟨l, 0, kl, []⟩ := rfl
theorem do_endk (l kl : List Int) (a : Int) : doS l a kl 9 0 = ⟨l, l.length, kl, []⟩ := rfl
theorem do_wback (l kl : List Int) (a : Int) : doS l a kl 3 98 = ⟨l, (bK l (aR l.length (aR l.length a : Nat))).toNat, kl, []⟩ := rfl
theorem do_won (l kl : List Int) (a : Int) : doS l a kl 3 102 = ⟨l, cH l (aR l.length (aR l.length a : Nat)), kl, []⟩ := rfl
end
/-! The shapes of a state and of a key. -/
section
theorem bool_shape {n : Nat} {xs : List AV} (h : a9 Try.prog (n + 1) 4 xs) : ∃ b, xs = [.bool b] := by
  simp only [a9, Try.underlying4] at h
  exact h
theorem state_shape {n : Nat} {xs : List AV} (h : a9 Try.prog (n + 3) 24 xs) : ∃ l a kl, xs = [.isl 1 (s8 l), .int .i64 a, .isl 1 (s8 kl)] ∧ I64 a := by
  unfold a9 at h
  simp only [Try.underlying24, q5] at h
  obtain ⟨a, x, rfl, _, h1, b, y, rfl, _, h2, c, z, rfl, _, h3, rfl⟩ := h
  obtain ⟨k, l, rfl, g1⟩ := vA h1
  obtain ⟨i, rfl, g2⟩ := oR h2
  obtain ⟨k2, l2, rfl, g3⟩ := vA h3
  cases g1
  cases g3
  exact ⟨_, i, _, rfl, g2⟩
theorem key_shape {n : Nat} {xs : List AV} (h : a9 Try.prog (n + 2) 26 xs) : ∃ k r, xs = [.int .i64 k, .int .i64 r] ∧ I64 k ∧ I64 r := by
  unfold a9 at h
  simp only [Try.underlying26, q5] at h
  obtain ⟨a, x, rfl, _, h1, b, y, rfl, _, h2, rfl⟩ := h
  obtain ⟨i, rfl, hi⟩ := oR h1
  obtain ⟨j, rfl, hj⟩ := oR h2
  exact ⟨i, j, rfl, hi, hj⟩
theorem il_intRows {l : List Int} : AV.isl 1 (s8 l) = il l := rfl
theorem par_state {x y z : AV} : wY Try.prog 24 [x, y, z] = .agg [x, y, z] := by simp [wY, Try.underlying24]
theorem par_key {x y : AV} : wY Try.prog 26 [x, y] = .agg [x, y] := by simp [wY, Try.underlying26]
theorem par_int {x : AV} : wY Try.prog 3 [x] = x := by simp [wY, Try.underlying3]
theorem par_ints {x : AV} : wY Try.prog 22 [x] = x := by simp [wY, Try.underlying22]
end
/-- onto one's own, what another row holds; the labels to come stay free -/
theorem app_own_f {H : aB} {p : Lab} {KK : KF} {x y : AV} {e b c k : Nat} {rows src : List (List AV)} {ls : List Lab} (h : Own H x e rows) (hs : lF e y H = some (src, ls)) (hf : Fresh p c H) (hc : c ≤ k) (he : 0 < e) (h1 : (rows.length + src.length) * b ≤ 140737488355328) (h2 : rows.length + src.length ≤ 4611686018427387904)
    (hk : ∀ x' H' l f, Own H' x' e (rows ++ src) → Fresh p (k + 1) H' → yM x H H' → KK x' H' l f) : aM (.append e b) [x, y] H (k :: p) KK := by
  have hq : H (k :: p) = none := hf.at hc
  have hfn : ∀ o, Fresh p (k + 1) (upd [(k :: p, o)] H) := fun o j s hj => by
    simp only [Ytbngfbpegdcpkaa.upd, if_neg (rV (p := p) (s := s) (show j ≠ k by omega))]
    exact hf j s (by omega)
  by_cases hne : src = []
  · subst hne
    refine ⟨.pure x, ?_, hk x H [] (some []) (by simpa using h) (hf.mono (by omega)) (fun k o hk _ => hk)⟩
    rcases h with ⟨rfl, rfl⟩ | ⟨l, rfl, hl⟩ <;> simp [aop, gI, hs]
  · have hn : src.isEmpty = false := by cases src <;> simp at hne ⊢
    rcases h with ⟨rfl, rfl⟩ | ⟨l, rfl, hl⟩
    · refine ⟨⟨.sl (k :: p) e 0 src.length, [(k :: p, some (.rows e src))], some ls⟩, ?_, hk _ _ _ _ (.inr ⟨k :: p, by simp, by simp [upd]⟩) (hfn _) (fun j o hk' _ => ?_)⟩
      · simp only [List.length_nil, Nat.zero_add] at h1 h2
        simp [aop, gI, hs, hn, he, h1, h2]
        exact fun h => absurd h hne
      · simp only [upd]
        rw [if_neg (fun e => by rw [e, hq] at hk'; cases hk')]; exact hk'
    · refine ⟨⟨.sl (k :: p) e 0 (rows.length + src.length), [(k :: p, some (.rows e (rows ++ src))), (l, none)], some (l :: ls)⟩, ?_, hk _ _ _ _ (.inr ⟨k :: p, by simp, by simp [upd]⟩) (fun j s hj => ?_) (fun j o hk' hx => ?_)⟩
      · simp [aop, gI, hs, hn, hl, he, h1, h2]
        exact fun h => absurd h hne
      · simp only [upd, if_neg (rV (p := p) (s := s) (show j ≠ k by omega))]
        rw [hf j s (by omega)]; split <;> rfl
      · simp only [upd]
        rw [if_neg (fun e => by rw [e, hq] at hk'; cases hk'), if_neg (fun e' => hx e 0 rows.length (by rw [e']))]; exact hk'
end Go.Proofs.Ytbngfbpegdcpkaa
/-! What is owed of functions of the program, as formulas. -/
namespace Go.Proofs.Ytbngfbpegdcpkaa
set_option maxRecDepth 100000
set_option linter.unusedVariables false
set_option linter.unusedSimpArgs false
def ZU : ACode := (.seq (.region [⟨(some 13), none, (.bin .lss .num), [.t 12, .t 11]⟩] none [0, 10, 11, 12, 13])
  (.seq (.cond (.t 13) .skip
  (.exit 0))
  (.seq (.block 1 (.seq (.region [⟨(some 14), none, (.indexAddr 3), [.t 10, .t 12]⟩, ⟨(some 15), none, (.load 3 true), [.t 14]⟩, ⟨(some 7), none, (.alloc [(.int .i64 0), (.int .i64 0), (.int .i64 0)]), []⟩, ⟨none, none, (.store 3), [.t 7, .t 15]⟩] none [0, 7, 10, 11, 12])
  (.block 2 (.seq (.region [⟨(some 17), none, (.fieldAddr 1), [.t 7]⟩, ⟨(some 18), none, (.load 1 false), [.t 17]⟩, ⟨(some 19), none, (.bin .lss .num), [.t 18, .c (.int .i64 0)]⟩, ⟨(some 20), none, .move, [.t 19]⟩, ⟨(some 21), (some (20, false)), (.fieldAddr 1), [.t 7]⟩, ⟨(some 22), (some (20, false)), (.load 1 false), [.t 21]⟩, ⟨(some 23), (some (20, false)), .move, [.t 0]⟩, ⟨(some 24), (some (20, false)), (.len .slice), [.t 23]⟩, ⟨(some 25), (some (20, false)), (.bin .gtr .num), [.t 22, .t 24]⟩, ⟨(some 26), none, .pick, [.t 20, .c (.bool true), .t 25]⟩, ⟨(some 16), none, .move, [.t 26]⟩] none [0, 7, 10, 11, 12, 16])
  (.cond (.t 16) (.seq (.region [⟨(some 4), none, .move, [.c .nils]⟩, ⟨(some 5), none, .move, [.c (.bool false)]⟩] none [4, 5])
  .ret)
  (.seq (.region [⟨(some 28), none, (.fieldAddr 0), [.t 7]⟩, ⟨(some 29), none, (.load 1 false), [.t 28]⟩, ⟨(some 30), none, (.bin .eql .num), [.t 29, .c (.int .i64 1)]⟩, ⟨(some 27), none, .move, [.t 30]⟩] none [0, 7, 10, 11, 12, 27])
  (.cond (.t 27) (.region [⟨(some 31), none, .move, [.t 0]⟩, ⟨(some 32), none, (.fieldAddr 1), [.t 7]⟩, ⟨(some 33), none, (.load 1 false), [.t 32]⟩, ⟨(some 34), none, (.fieldAddr 2), [.t 7]⟩, ⟨(some 35), none, (.load 1 false), [.t 34]⟩, ⟨(some 36), none, (.buildSlice 1 [(.int .i64 0)] [(0, 1)]), [.t 35]⟩, ⟨(some 37), none, .call, [.c (.fn (.func 33) [] []), .t 31, .t 33, .t 36]⟩, ⟨(some 0), none, .move, [.t 37]⟩] none [0, 10, 11, 12])
  (.seq (.region [⟨(some 39), none, (.fieldAddr 0), [.t 7]⟩, ⟨(some 40), none, (.load 1 false), [.t 39]⟩, ⟨(some 41), none, (.bin .eql .num), [.t 40, .c (.int .i64 2)]⟩, ⟨(some 42), none, .move, [.t 41]⟩, ⟨(some 43), (some (42, true)), (.fieldAddr 1), [.t 7]⟩, ⟨(some 44), (some (42, true)), (.load 1 false), [.t 43]⟩, ⟨(some 45), (some (42, true)), .move, [.t 0]⟩, ⟨(some 46), (some (42, true)), (.len .slice), [.t 45]⟩, ⟨(some 47), (some (42, true)), (.bin .lss .num), [.t 44, .t 46]⟩, ⟨(some 48), none, .pick, [.t 42, .t 47, .c (.bool false)]⟩, ⟨(some 38), none, .move, [.t 48]⟩] none [0, 7, 10, 11, 12, 38])
  (.cond (.t 38) (.region [⟨(some 49), none, .move, [.t 0]⟩, ⟨(some 50), none, (.fieldAddr 1), [.t 7]⟩, ⟨(some 51), none, (.load 1 false), [.t 50]⟩, ⟨(some 52), none, (.fieldAddr 1), [.t 7]⟩, ⟨(some 53), none, (.load 1 false), [.t 52]⟩, ⟨(some 54), none, (.bin .add .num), [.t 53, .c (.int .i64 1)]⟩, ⟨(some 55), none, .call, [.c (.fn (.func 34) [] []), .t 49, .t 51, .t 54]⟩, ⟨(some 0), none, .move, [.t 55]⟩] none [0, 10, 11, 12])
  (.seq (.region [⟨(some 4), none, .move, [.c .nils]⟩, ⟨(some 5), none, .move, [.c (.bool false)]⟩] none [4, 5])
  .ret))))))))))
  (.region [⟨(some 56), none, (.bin .add .num), [.t 12, .c (.int .i64 1)]⟩, ⟨(some 12), none, .move, [.t 56]⟩] none [0, 10, 11, 12]))))
def X7 : ACode := .loop [0, 10, 11, 12] ZU
def PG : ACode := (.seq (.region [⟨(some 57), none, .move, [.t 0]⟩, ⟨(some 4), none, .move, [.t 57]⟩, ⟨(some 5), none, .move, [.c (.bool true)]⟩] none [4, 5])
  .ret)
/-- duet/edit.Apply -/
def c18 : AFun := ⟨2, 58, [.tmp 4, .tmp 5],
  (.seq (.region [⟨(some 4), none, .move, [.c .nils]⟩, ⟨(some 5), none, .move, [.c (.bool false)]⟩] none [0, 1])
  (.seq (.region [⟨(some 8), none, .move, [.t 0]⟩, ⟨(some 9), none, .call, [.c (.fn (.func 25) [] []), .t 8]⟩, ⟨(some 0), none, .move, [.t 9]⟩] none [0, 1])
  (.seq (.seq (.region [⟨(some 10), none, .move, [.t 1]⟩, ⟨(some 11), none, (.len .slice), [.t 10]⟩, ⟨(some 12), none, .move, [.c (.int .i64 0)]⟩] none [0, 10, 11, 12])
  (.block 0 X7)) PG)))⟩
theorem ok18 : FunOk Try.prog 18 c18 := ⟨⟨Try.f18, _, Try.func18, rfl, by kernel_rfl, by kernel_rfl, by kernel_rfl, by kernel_rfl⟩, by decide⟩
theorem zO : c18.res = [.tmp 4, .tmp 5] := rfl
def RP (P : Program) (p : Lab) (Q : aA) : aA := (jO 0 (qG (vc P p PG Q) Q))
theorem mM (P : Program) (p : Lab) (Q : aA) (r : RL) (H : aB) (c : Nat) : RP P p Q .ret r H c = Q .ret r H c := rfl
def V18 (P : Program) (p : Lab) (Q : aA) (x0 x1 : AV) (H : aB) (c : Nat) : Prop :=
  aN true P 25 [x0] H ((c + 3) :: p) (fun v9_3 H3 l3 f3 =>
  cS x1 fun v11_6 =>
  vc P p X7 (RP P p Q) [(0, v9_3), (10, x1), (11, v11_6), (12, (.int .i64 0))] H3 (c + 8))
theorem GH (P : Program) (p : Lab) (Q : aA) (x0 x1 : AV) (H : aB) (c : Nat) : vc P p c18.body Q [(0, x0), (1, x1)] H c = V18 P p Q x0 x1 H c := by kernel_rfl
def yZ (P : Program) (p : Lab) (Q : aA) (y0 : AV) (y7 : AV) (y10 : AV) (y11 : AV) (y12 : AV) (H : aB) (c : Nat) : Prop :=
  Q .ret [(4, .nils), (5, (.bool false))] H (c + 2)
def yY (P : Program) (p : Lab) (Q : aA) (H12 : aB) (y0 : AV) (y10 : AV) (y11 : AV) (y12 : AV) (c : Nat) (_ : Unit) : Prop :=
  (yZ P p Q y0 (.ptr ((c + 2) :: p) 3 0 0) y10 y11 y12 H12 (c + 15))
def xJ (P : Program) (p : Lab) (Q : aA)  (H : aB) (c : Nat) : Prop :=
  Q .ret [(4, .nils), (5, (.bool false))] H c
def yW (P : Program) (p : Lab) (Q : aA) (H : aB) (c : Nat) (_ : Unit) : Prop :=
  (xJ P p Q  H (c + 2))
def yT (P : Program) (p : Lab) (Q : aA) (y10 : AV) (y11 : AV) (y12 : AV) (c : Nat) (v37_40 : AV) (H40 : aB) (l40 : List Lab) (f40 : Option (List Lab)) : Prop :=
  aJ .add .num y12 (.int .i64 1) fun v56_42 =>
  Q .normal [(0, v37_40), (10, y10), (11, y11), (12, v56_42)] H40 (c + 10)
def yU (P : Program) (p : Lab) (Q : aA) (y0 : AV) (y7 : AV) (y10 : AV) (y11 : AV) (y12 : AV) (H : aB) (c : Nat) : Prop :=
  vFA 1 y7 fun v32_35 =>
  aF 1 false v32_35 H fun v33_36 _ =>
  vFA 2 y7 fun v34_37 =>
  aF 1 false v34_37 H fun v35_38 _ =>
  jP 1 [(.int .i64 0)] [(0, 1)] [v35_38] fun w39 n39 =>
  (fun (H39 : aB) =>
  aN true P 33 [y0, v33_36, (.sl ((c + 5) :: p) 1 0 n39)] H39 ((c + 6) :: p) (yT P p Q y10 y11 y12 c)) (upd [(((c + 5) :: p), some (.rows 1 w39))] H)
def yS (P : Program) (p : Lab) (Q : aA) (y0 : AV) (y7 : AV) (y10 : AV) (y11 : AV) (y12 : AV) (H : aB) (c : Nat) (_ : Unit) : Prop :=
  (yU P p Q y0 y7 y10 y11 y12 H (c + 4))
def sO (P : Program) (p : Lab) (Q : aA) (y10 : AV) (y11 : AV) (y12 : AV) (c : Nat) (v55_61 : AV) (H61 : aB) (l61 : List Lab) (f61 : Option (List Lab)) : Prop :=
  aJ .add .num y12 (.int .i64 1) fun v56_63 =>
  Q .normal [(0, v55_61), (10, y10), (11, y11), (12, v56_63)] H61 (c + 10)
def sP (P : Program) (p : Lab) (Q : aA) (y0 : AV) (y7 : AV) (y10 : AV) (y11 : AV) (y12 : AV) (H : aB) (c : Nat) : Prop :=
  vFA 1 y7 fun v50_56 =>
  aF 1 false v50_56 H fun v51_57 _ =>
  vFA 1 y7 fun v52_58 =>
  aF 1 false v52_58 H fun v53_59 _ =>
  aJ .add .num v53_59 (.int .i64 1) fun v54_60 =>
  aN true P 34 [y0, v51_57, v54_60] H ((c + 6) :: p) (sO P p Q y10 y11 y12 c)
def sN (P : Program) (p : Lab) (Q : aA) (y0 : AV) (y7 : AV) (y10 : AV) (y11 : AV) (y12 : AV) (H : aB) (c : Nat) (_ : Unit) : Prop :=
  (sP P p Q y0 y7 y10 y11 y12 H c)
def sM (P : Program) (p : Lab) (Q : aA) (H : aB) (c : Nat) (_ : Unit) : Prop :=
  (xJ P p Q  H (c + 2))
def sQ (P : Program) (p : Lab) (Q : aA) (y0 : AV) (y7 : AV) (y10 : AV) (y11 : AV) (y12 : AV) (y38 : AV) (H : aB) (c : Nat) : Prop :=
  aL y38
  (sN P p Q y0 y7 y10 y11 y12 H c)
  (sM P p Q H c)
def sL (P : Program) (p : Lab) (Q : aA) (y0 : AV) (y7 : AV) (y10 : AV) (y11 : AV) (y12 : AV) (H : aB) (c : Nat) (_ : Unit) : Prop :=
  vFA 1 y7 fun v43_48 =>
  aF 1 false v43_48 H fun v44_49 _ =>
  cS y0 fun v46_51 =>
  aJ .lss .num v44_49 v46_51 fun v47_52 =>
  (sQ P p Q y0 y7 y10 y11 y12 v47_52 H (c + 11))
def sK (P : Program) (p : Lab) (Q : aA) (y0 : AV) (y7 : AV) (y10 : AV) (y11 : AV) (y12 : AV) (H : aB) (c : Nat) : Prop :=
  Q .ret [(4, .nils), (5, (.bool false))] H (c + 2)
def sJ (P : Program) (p : Lab) (Q : aA) (y0 : AV) (y7 : AV) (y10 : AV) (y11 : AV) (y12 : AV) (H : aB) (c : Nat) (_ : Unit) : Prop :=
  (sK P p Q y0 y7 y10 y11 y12 H (c + 11))
def sR (P : Program) (p : Lab) (Q : aA) (y0 : AV) (y7 : AV) (y10 : AV) (y11 : AV) (y12 : AV) (H : aB) (c : Nat) : Prop :=
  vFA 0 y7 fun v39_44 =>
  aF 1 false v39_44 H fun v40_45 _ =>
  aJ .eql .num v40_45 (.int .i64 2) fun v41_46 =>
  aL v41_46
  (sL P p Q y0 y7 y10 y11 y12 H c)
  (sJ P p Q y0 y7 y10 y11 y12 H c)
def sI (P : Program) (p : Lab) (Q : aA) (y0 : AV) (y7 : AV) (y10 : AV) (y11 : AV) (y12 : AV) (H : aB) (c : Nat) (_ : Unit) : Prop :=
  (sR P p Q y0 y7 y10 y11 y12 H (c + 4))
def yV (P : Program) (p : Lab) (Q : aA) (y0 : AV) (y7 : AV) (y10 : AV) (y11 : AV) (y12 : AV) (H : aB) (c : Nat) : Prop :=
  vFA 0 y7 fun v28_30 =>
  aF 1 false v28_30 H fun v29_31 _ =>
  aJ .eql .num v29_31 (.int .i64 1) fun v30_32 =>
  aL v30_32
  (yS P p Q y0 y7 y10 y11 y12 H c)
  (sI P p Q y0 y7 y10 y11 y12 H c)
def sH (P : Program) (p : Lab) (Q : aA) (y0 : AV) (y7 : AV) (y10 : AV) (y11 : AV) (y12 : AV) (H : aB) (c : Nat) (_ : Unit) : Prop :=
  (yV P p Q y0 y7 y10 y11 y12 H c)
def yX (P : Program) (p : Lab) (Q : aA) (y0 : AV) (y7 : AV) (y10 : AV) (y11 : AV) (y12 : AV) (y16 : AV) (H : aB) (c : Nat) : Prop :=
  aL y16
  (yW P p Q H c)
  (sH P p Q y0 y7 y10 y11 y12 H c)
def sF (P : Program) (p : Lab) (Q : aA) (H12 : aB) (y0 : AV) (y10 : AV) (y11 : AV) (y12 : AV) (c : Nat) (_ : Unit) : Prop :=
  vFA 1 (.ptr ((c + 2) :: p) 3 0 0) fun v21_21 =>
  aF 1 false v21_21 H12 fun v22_22 _ =>
  cS y0 fun v24_24 =>
  aJ .gtr .num v22_22 v24_24 fun v25_25 =>
  (yX P p Q y0 (.ptr ((c + 2) :: p) 3 0 0) y10 y11 y12 v25_25 H12 (c + 15))
def sE (P : Program) (p : Lab) (Q : aA) (y0 : AV) (y10 : AV) (y11 : AV) (y12 : AV) (c : Nat) (v_12 : AV) (H12 : aB) (l12 : List Lab) (f12 : Option (List Lab)) : Prop :=
  vFA 1 (.ptr ((c + 2) :: p) 3 0 0) fun v17_13 =>
  aF 1 false v17_13 H12 fun v18_14 _ =>
  aJ .lss .num v18_14 (.int .i64 0) fun v19_15 =>
  aL v19_15
  (yY P p Q H12 y0 y10 y11 y12 c)
  (sF P p Q H12 y0 y10 y11 y12 c)
def zA (P : Program) (p : Lab) (Q : aA) (y0 : AV) (y10 : AV) (y11 : AV) (y12 : AV) (y13 : AV) (H : aB) (c : Nat) : Prop :=
  vIx 3 y10 y12 fun v14_9 =>
  aF 3 true v14_9 H fun v15_10 _ =>
  (fun (H11 : aB) =>
  aM (.store 3) [(.ptr ((c + 2) :: p) 3 0 0), v15_10] H11 ((c + 3) :: p) (sE P p Q y0 y10 y11 y12 c)) (upd [(((c + 2) :: p), some (.rows 3 [[(.int .i64 0), (.int .i64 0), (.int .i64 0)]]))] H)
def sD (P : Program) (p : Lab) (Q : aA) (v13_8 : AV) (x0 : AV) (x10 : AV) (x11 : AV) (x12 : AV) (H : aB) (c : Nat) (_ : Unit) : Prop :=
  (zA P p Q x0 x10 x11 x12 v13_8 H (c + 1))
def zE (P : Program) (p : Lab) (Q : aA) (x0 x10 x11 x12 : AV) (H : aB) (c : Nat) : Prop :=
  aJ .lss .num x12 x11 fun v13_8 =>
  aL v13_8
  (sD P p Q v13_8 x0 x10 x11 x12 H c)
  (fun _ =>
  Q (.exit 0) [(0, x0), (10, x10), (11, x11), (12, x12), (13, v13_8)] H (c + 1))
theorem tH (P : Program) (p : Lab) (Q : aA) (x0 x10 x11 x12 : AV) (H : aB) (c : Nat) : vc P p ZU Q [(0, x0), (10, x10), (11, x11), (12, x12)] H c = zE P p Q x0 x10 x11 x12 H c := by kernel_rfl
theorem nT (P : Program) (p : Lab) (Q : aA) (r : RL) (H : aB) (c : Nat) : RP P p Q (.exit 0) r H c = (vc P p PG Q r H c) := rfl
def zD (P : Program) (p : Lab) (Q : aA) (x0 x10 x11 x12 x13 : AV) (H : aB) (c : Nat) : Prop :=
  Q .ret [(4, x0), (5, (.bool true))] H (c + 3)
theorem tG (P : Program) (p : Lab) (Q : aA) (x0 x10 x11 x12 x13 : AV) (H : aB) (c : Nat) : vc P p PG Q [(0, x0), (10, x10), (11, x11), (12, x12), (13, x13)] H c = zD P p Q x0 x10 x11 x12 x13 H c := by kernel_rfl


/-- duet/duetlaw18.EditActs -/
def c5 : AFun := ⟨2, 66, [.tmp 4],
  (.seq (.region [⟨(some 2), none, .box, [.t 0]⟩, ⟨(some 3), none, .box, [.t 1]⟩, ⟨(some 4), none, .move, [.c (.bool false)]⟩] none [2, 3])
  (.seq (.seq (.region [⟨(some 9), none, (.load 3 true), [.t 2]⟩, ⟨(some 10), none, .call, [.c (.fn (.func 10) [] []), .t 9]⟩, ⟨(some 11), none, (.un .not), [.t 10]⟩] none [2, 3, 11])
  (.cond (.t 11) (.seq (.region [⟨(some 12), none, .call, [.c (.fn (.func 11) [] [])]⟩, ⟨(some 4), none, .move, [.t 12]⟩] none [4])
  .ret)
  .skip))
  (.seq (.region [⟨(some 14), none, (.fieldAddr 0), [.t 2]⟩, ⟨(some 15), none, (.load 1 false), [.t 14]⟩, ⟨(some 16), none, (.fieldAddr 1), [.t 2]⟩, ⟨(some 17), none, (.load 1 false), [.t 16]⟩, ⟨(some 18), none, (.fieldAddr 2), [.t 2]⟩, ⟨(some 19), none, (.load 1 false), [.t 18]⟩, ⟨(some 20), none, (.build [.nils, (.int .i64 0), .nils] [(0, 1), (1, 1), (2, 1)]), [.t 15, .t 17, .t 19]⟩, ⟨(some 21), none, (.load 2 true), [.t 3]⟩, ⟨(some 22), none, .call, [.c (.fn (.func 13) [] []), .t 21]⟩, ⟨(some 23), none, .call, [.c (.fn (.func 12) [] []), .t 20, .t 22]⟩, ⟨(some 13), none, .move, [.t 23]⟩, ⟨(some 24), none, (.extract 0), [.t 13]⟩, ⟨(some 25), none, (.extract 1), [.t 13]⟩, ⟨(some 5), none, (.alloc [.nils, (.int .i64 0), .nils]), []⟩, ⟨none, none, (.store 3), [.t 5, .t 24]⟩, ⟨(some 6), none, .move, [.t 25]⟩] (some [0, 1, 0, 4, 0, 16, 63, 0, 128, 511, 1023, 2047, 2047, 0, 12287, 32767]) [2, 5, 6])
  (.seq (.region [⟨(some 27), none, (.fieldAddr 0), [.t 2]⟩, ⟨(some 28), none, (.load 1 false), [.t 27]⟩, ⟨(some 29), none, .move, [.t 6]⟩, ⟨(some 30), none, .call, [.c (.fn (.func 18) [] []), .t 28, .t 29]⟩, ⟨(some 26), none, .move, [.t 30]⟩, ⟨(some 31), none, (.extract 0), [.t 26]⟩, ⟨(some 32), none, (.extract 1), [.t 26]⟩, ⟨(some 7), none, .move, [.t 31]⟩, ⟨(some 8), none, .move, [.t 32]⟩] none [2, 5, 7, 8])
  (.seq (.region [⟨(some 33), none, .move, [.t 8]⟩, ⟨(some 34), none, .move, [.t 33]⟩, ⟨(some 35), (some (34, true)), .move, [.t 7]⟩, ⟨(some 36), (some (34, true)), (.fieldAddr 0), [.t 5]⟩, ⟨(some 37), (some (34, true)), (.load 1 false), [.t 36]⟩, ⟨(some 38), (some (34, true)), .call, [.c (.fn (.func 21) [] []), .t 35, .t 37]⟩, ⟨(some 39), none, .pick, [.t 34, .t 38, .c (.bool false)]⟩, ⟨(some 40), none, .move, [.t 39]⟩, ⟨(some 41), (some (40, true)), (.fieldAddr 1), [.t 5]⟩, ⟨(some 42), (some (40, true)), (.load 1 false), [.t 41]⟩, ⟨(some 43), (some (40, true)), (.bin .geq .num), [.t 42, .c (.int .i64 0)]⟩, ⟨(some 44), none, .pick, [.t 40, .t 43, .c (.bool false)]⟩, ⟨(some 45), none, .move, [.t 44]⟩, ⟨(some 46), (some (45, true)), (.fieldAddr 1), [.t 5]⟩, ⟨(some 47), (some (45, true)), (.load 1 false), [.t 46]⟩, ⟨(some 48), (some (45, true)), (.fieldAddr 0), [.t 5]⟩, ⟨(some 49), (some (45, true)), (.load 1 false), [.t 48]⟩, ⟨(some 50), (some (45, true)), (.len .slice), [.t 49]⟩, ⟨(some 51), (some (45, true)), (.bin .leq .num), [.t 47, .t 50]⟩, ⟨(some 52), none, .pick, [.t 45, .t 51, .c (.bool false)]⟩, ⟨(some 53), none, .move, [.t 52]⟩, ⟨(some 54), (some (53, true)), (.fieldAddr 0), [.t 5]⟩, ⟨(some 55), (some (53, true)), (.load 1 false), [.t 54]⟩, ⟨(some 56), (some (53, true)), (.len .slice), [.t 55]⟩, ⟨(some 57), (some (53, true)), (.fieldAddr 0), [.t 2]⟩, ⟨(some 58), (some (53, true)), (.load 1 false), [.t 57]⟩, ⟨(some 59), (some (53, true)), (.len .slice), [.t 58]⟩, ⟨(some 60), (some (53, true)), .max, [.c (.int .i64 1000), .t 59]⟩, ⟨(some 61), (some (53, true)), (.bin .leq .num), [.t 56, .t 60]⟩, ⟨(some 62), none, .pick, [.t 53, .t 61, .c (.bool false)]⟩, ⟨(some 63), none, .move, [.t 62]⟩, ⟨(some 64), (some (63, true)), .call, [.c (.fn (.func 11) [] [])]⟩, ⟨(some 65), none, .pick, [.t 63, .t 64, .c (.bool false)]⟩, ⟨(some 4), none, .move, [.t 65]⟩] none [4])
  .ret)))))⟩
theorem ok5 : FunOk Try.prog 5 c5 := ⟨⟨Try.f5, _, Try.func5, rfl, by kernel_rfl, by kernel_rfl, by kernel_rfl, by kernel_rfl⟩, by decide⟩
theorem I4 : c5.res = [.tmp 4] := rfl
def IC (P : Program) (p : Lab) (Q : aA) (y4 : AV) (H : aB) (c : Nat) : Prop :=
  Q .ret [(4, y4)] H c
def IB (P : Program) (p : Lab) (Q : aA) (c : Nat) (v12_6 : AV) (H6 : aB) (l6 : List Lab) (f6 : Option (List Lab)) : Prop :=
  (IC P p Q v12_6 H6 (c + 8))
def IA (P : Program) (p : Lab) (Q : aA) (H4 : aB) (c : Nat) (_ : Unit) : Prop :=
  aN true P 11 [] H4 ((c + 6) :: p) (IB P p Q c)
def HU (P : Program) (p : Lab) (Q : aA) (y4 : AV) (H : aB) (c : Nat) : Prop :=
  Q .ret [(4, y4)] H c
def HT (P : Program) (p : Lab) (Q : aA) (c : Nat) (v64_64 : AV) (H64 : aB) (l64 : List Lab) (f64 : Option (List Lab)) : Prop :=
  (HU P p Q v64_64 H64 (c + 5))
def AS (P : Program) (p : Lab) (Q : aA) (H : aB) (c : Nat) (_ : Unit) : Prop :=
  aN false P 11 [] H ((c + 2) :: p) (HT P p Q c)
def tV (P : Program) (p : Lab) (Q : aA)  (H : aB) (c : Nat) : Prop :=
  Q .ret [(4, (.bool false))] H c
def AR (P : Program) (p : Lab) (Q : aA) (H : aB) (c : Nat) (_ : Unit) : Prop :=
  (tV P p Q  H (c + 5))
def HV (P : Program) (p : Lab) (Q : aA) (y61 : AV) (H : aB) (c : Nat) : Prop :=
  aL y61
  (AS P p Q H c)
  (AR P p Q H c)
def AQ (P : Program) (p : Lab) (Q : aA) (y2 : AV) (y5 : AV) (H : aB) (c : Nat) (_ : Unit) : Prop :=
  vFA 0 y5 fun v54_54 =>
  aF 1 false v54_54 H fun v55_55 _ =>
  cS v55_55 fun v56_56 =>
  vFA 0 y2 fun v57_57 =>
  aF 1 false v57_57 H fun v58_58 _ =>
  cS v58_58 fun v59_59 =>
  LG (.int .i64 1000) v59_59 fun v60_60 =>
  aJ .leq .num v56_56 v60_60 fun v61_61 =>
  (HV P p Q v61_61 H (c + 10))
def AP (P : Program) (p : Lab) (Q : aA)  (H : aB) (c : Nat) : Prop :=
  (tV P p Q  H (c + 5))
def AN (P : Program) (p : Lab) (Q : aA) (H : aB) (c : Nat) (_ : Unit) : Prop :=
  (AP P p Q  H (c + 10))
def HW (P : Program) (p : Lab) (Q : aA) (y2 : AV) (y5 : AV) (y51 : AV) (H : aB) (c : Nat) : Prop :=
  aL y51
  (AQ P p Q y2 y5 H c)
  (AN P p Q H c)
def AM (P : Program) (p : Lab) (Q : aA) (y2 : AV) (y5 : AV) (H : aB) (c : Nat) (_ : Unit) : Prop :=
  vFA 1 y5 fun v46_46 =>
  aF 1 false v46_46 H fun v47_47 _ =>
  vFA 0 y5 fun v48_48 =>
  aF 1 false v48_48 H fun v49_49 _ =>
  cS v49_49 fun v50_50 =>
  aJ .leq .num v47_47 v50_50 fun v51_51 =>
  (HW P p Q y2 y5 v51_51 H (c + 8))
def AJ (P : Program) (p : Lab) (Q : aA)  (H : aB) (c : Nat) : Prop :=
  (tV P p Q  H (c + 5))
def AL (P : Program) (p : Lab) (Q : aA) (y2 : AV) (y5 : AV) (H : aB) (c : Nat) : Prop :=
  (AJ P p Q  H (c + 10))
def AI (P : Program) (p : Lab) (Q : aA) (y2 : AV) (y5 : AV) (H : aB) (c : Nat) (_ : Unit) : Prop :=
  (AL P p Q y2 y5 H (c + 8))
def HX (P : Program) (p : Lab) (Q : aA) (y2 : AV) (y5 : AV) (y43 : AV) (H : aB) (c : Nat) : Prop :=
  aL y43
  (AM P p Q y2 y5 H c)
  (AI P p Q y2 y5 H c)
def AH (P : Program) (p : Lab) (Q : aA) (y2 : AV) (y5 : AV) (H : aB) (c : Nat) (_ : Unit) : Prop :=
  vFA 1 y5 fun v41_41 =>
  aF 1 false v41_41 H fun v42_42 _ =>
  aJ .geq .num v42_42 (.int .i64 0) fun v43_43 =>
  (HX P p Q y2 y5 v43_43 H (c + 5))
def AE (P : Program) (p : Lab) (Q : aA)  (H : aB) (c : Nat) : Prop :=
  (tV P p Q  H (c + 5))
def AF (P : Program) (p : Lab) (Q : aA) (y2 : AV) (y5 : AV) (H : aB) (c : Nat) : Prop :=
  (AE P p Q  H (c + 10))
def AG (P : Program) (p : Lab) (Q : aA) (y2 : AV) (y5 : AV) (H : aB) (c : Nat) : Prop :=
  (AF P p Q y2 y5 H (c + 8))
def AD (P : Program) (p : Lab) (Q : aA) (y2 : AV) (y5 : AV) (H : aB) (c : Nat) (_ : Unit) : Prop :=
  (AG P p Q y2 y5 H (c + 5))
def HY (P : Program) (p : Lab) (Q : aA) (y2 : AV) (y5 : AV) (y38 : AV) (H : aB) (c : Nat) : Prop :=
  aL y38
  (AH P p Q y2 y5 H c)
  (AD P p Q y2 y5 H c)
def AC (P : Program) (p : Lab) (Q : aA) (y2 : AV) (c : Nat) (v38_38 : AV) (H38 : aB) (l38 : List Lab) (f38 : Option (List Lab)) : Prop :=
  (HY P p Q y2 (.ptr ((c + 13) :: p) 3 0 0) v38_38 H38 (c + 31))
def AB (P : Program) (p : Lab) (Q : aA) (v31_29 : AV) (H27 : aB) (y2 : AV) (c : Nat) (_ : Unit) : Prop :=
  vFA 0 (.ptr ((c + 13) :: p) 3 0 0) fun v36_36 =>
  aF 1 false v36_36 H27 fun v37_37 _ =>
  aN false P 21 [v31_29, v37_37] H27 ((c + 30) :: p) (AC P p Q y2 c)
def z7 (P : Program) (p : Lab) (Q : aA)  (H : aB) (c : Nat) : Prop :=
  (tV P p Q  H (c + 5))
def z8 (P : Program) (p : Lab) (Q : aA) (y2 : AV) (y5 : AV) (H : aB) (c : Nat) : Prop :=
  (z7 P p Q  H (c + 10))
def z9 (P : Program) (p : Lab) (Q : aA) (y2 : AV) (y5 : AV) (H : aB) (c : Nat) : Prop :=
  (z8 P p Q y2 y5 H (c + 8))
def AA (P : Program) (p : Lab) (Q : aA) (y2 : AV) (y5 : AV) (H : aB) (c : Nat) : Prop :=
  (z9 P p Q y2 y5 H (c + 5))
def z6 (P : Program) (p : Lab) (Q : aA) (H27 : aB) (y2 : AV) (c : Nat) (_ : Unit) : Prop :=
  (AA P p Q y2 (.ptr ((c + 13) :: p) 3 0 0) H27 (c + 31))
def z5 (P : Program) (p : Lab) (Q : aA) (y2 : AV) (c : Nat) (v30_27 : AV) (H27 : aB) (l27 : List Lab) (f27 : Option (List Lab)) : Prop :=
  qX 0 v30_27 fun v31_29 =>
  qX 1 v30_27 fun v32_30 =>
  aL v32_30
  (AB P p Q v31_29 H27 y2 c)
  (z6 P p Q H27 y2 c)
def z4 (P : Program) (p : Lab) (Q : aA) (v25_20 : AV) (l17 : List Lab) (f17 : Option (List Lab)) (l16 : List Lab) (f16 : Option (List Lab)) (f15 : Option (List Lab)) (f13 : Option (List Lab)) (f11 : Option (List Lab)) (f9 : Option (List Lab)) (y2 : AV) (c : Nat) (v_22 : AV) (H22 : aB) (l22 : List Lab) (f22 : Option (List Lab)) : Prop :=
  aI [0, 1, 0, 4, 0, 16, 63, 0, 128, 511, 1023, 2047, 2047, 0, 12287, 32767] (aH 1 [] ((c + 1) :: p) f9 (aH 3 [] ((c + 3) :: p) f11 (aH 5 [] ((c + 5) :: p) f13 (aH 7 [] ((c + 7) :: p) f15 (aH 8 l16 ((c + 8) :: p) f16 (aH 9 l17 ((c + 9) :: p) f17 (aH 13 [((c + 13) :: p)] ((c + 13) :: p) (some []) (aH 14 l22 ((c + 14) :: p) f22 [])))))))) ∧
  vFA 0 y2 fun v27_24 =>
  aF 1 false v27_24 H22 fun v28_25 _ =>
  aN true P 18 [v28_25, v25_20] H22 ((c + 19) :: p) (z5 P p Q y2 c)
def z3 (P : Program) (p : Lab) (Q : aA) (l16 : List Lab) (f16 : Option (List Lab)) (f15 : Option (List Lab)) (f13 : Option (List Lab)) (f11 : Option (List Lab)) (f9 : Option (List Lab)) (y2 : AV) (c : Nat) (v23_17 : AV) (H17 : aB) (l17 : List Lab) (f17 : Option (List Lab)) : Prop :=
  qX 0 v23_17 fun v24_19 =>
  qX 1 v23_17 fun v25_20 =>
  (fun (H21 : aB) =>
  aM (.store 3) [(.ptr ((c + 13) :: p) 3 0 0), v24_19] H21 ((c + 14) :: p) (z4 P p Q v25_20 l17 f17 l16 f16 f15 f13 f11 f9 y2 c)) (upd [(((c + 13) :: p), some (.rows 3 [[.nils, (.int .i64 0), .nils]]))] H17)
def z2 (P : Program) (p : Lab) (Q : aA) (f15 : Option (List Lab)) (v20_14 : AV) (f13 : Option (List Lab)) (f11 : Option (List Lab)) (f9 : Option (List Lab)) (y2 : AV) (c : Nat) (v22_16 : AV) (H16 : aB) (l16 : List Lab) (f16 : Option (List Lab)) : Prop :=
  aN false P 12 [v20_14, v22_16] H16 ((c + 9) :: p) (z3 P p Q l16 f16 f15 f13 f11 f9 y2 c)
def HZ (P : Program) (p : Lab) (Q : aA) (y2 : AV) (y3 : AV) (y11 : AV) (H : aB) (c : Nat) : Prop :=
  vFA 0 y2 fun v14_8 =>
  aF 1 false v14_8 H fun v15_9 f9 =>
  vFA 1 y2 fun v16_10 =>
  aF 1 false v16_10 H fun v17_11 f11 =>
  vFA 2 y2 fun v18_12 =>
  aF 1 false v18_12 H fun v19_13 f13 =>
  gB [.nils, (.int .i64 0), .nils] [(0, 1), (1, 1), (2, 1)] [v15_9, v17_11, v19_13] fun v20_14 =>
  aF 2 true y3 H fun v21_15 f15 =>
  aN false P 13 [v21_15] H ((c + 8) :: p) (z2 P p Q f15 v20_14 f13 f11 f9 y2 c)
def z1 (P : Program) (p : Lab) (Q : aA) (v11_5 : AV) (H4 : aB) (w1 : List AV) (w0 : List AV) (c : Nat) (_ : Unit) : Prop :=
  (HZ P p Q (.ptr (c :: p) w0.length 0 0) (.ptr ((c + 1) :: p) w1.length 0 0) v11_5 H4 (c + 6))
def z0 (P : Program) (p : Lab) (Q : aA) (w1 : List AV) (w0 : List AV) (c : Nat) (v10_4 : AV) (H4 : aB) (l4 : List Lab) (f4 : Option (List Lab)) : Prop :=
  xU v10_4 fun v11_5 =>
  aL v11_5
  (IA P p Q H4 c)
  (z1 P p Q v11_5 H4 w1 w0 c)
def V5 (P : Program) (p : Lab) (Q : aA) (x0 x1 : AV) (H : aB) (c : Nat) : Prop :=
  zI x0 fun w0 =>
  (fun (H0 : aB) =>
  zI x1 fun w1 =>
  (fun (H1 : aB) =>
  aF 3 true (.ptr (c :: p) w0.length 0 0) H1 fun v9_3 _ =>
  aN true P 10 [v9_3] H1 ((c + 4) :: p) (z0 P p Q w1 w0 c)) (upd [(((c + 1) :: p), some (.rows w1.length [w1]))] H0)) (upd [((c :: p), some (.rows w0.length [w0]))] H)
theorem vt5 (P : Program) (p : Lab) (Q : aA) (x0 x1 : AV) (H : aB) (c : Nat) : vc P p c5.body Q [(0, x0), (1, x1)] H c = V5 P p Q x0 x1 H c := by kernel_rfl



end Go.Proofs.Ytbngfbpegdcpkaa
/-! Acts that are done to a line: Apply. -/
namespace Go.Proofs.Ytbngfbpegdcpkaa
set_option linter.unusedVariables false
set_option linter.unusedSimpArgs false
set_option maxRecDepth 100000
abbrev CC := Int × Int × Int
def vG (l : List Int) (i : Nat) : List Int := l.take i ++ l.drop (i + 1)
def rE (l : List Int) (a : CC) : Option (List Int) :=
  if a.2.1 < 0 ∨ (l.length : Int) < a.2.1 then none
  else if a.1 = 1 then some (xK l a.2.1.toNat a.2.2)
  else if a.1 = 2 ∧ a.2.1 < l.length then some (vG l a.2.1.toNat) else none
def gH (l : List Int) : List CC → Option (List Int)
  | [] => some l
  | a :: A => (rE l a).bind fun l' => gH l' A
def OK : Option (List Int) → AV
  | some l => .tuple [il l, .bool true]
  | none => .tuple [il [], .bool false]
theorem KV {l : List CC} {i : Nat} (h : i < l.length) : l.drop i = nth l i :: l.drop (i + 1) := by
  rw [List.drop_eq_getElem_cons h]
  simp [nth, List.getD_eq_getElem?_getD, h]
theorem BL {l : List Int} {i : Nat} (h : i < l.length) : (vG l i).length = l.length - 1 := by simp [vG]; omega
theorem xT {t u c : Nat} {H : aB} (hn : u ≠ t) : VP [.tmp t, .tmp u] (OK none) .ret [(t, .nils), (u, .bool false)] H c :=
  ⟨.inr rfl, .tuple [.nils, .bool false], by simp [j1, iV, nA, bE, hn], Fr.two (.nils 1) (.refl _)⟩
theorem delete_one {H : aB} {q : Lab} {x : AV} {l : List Int} {i : Nat} (h : ListE H x l) (hi : i < l.length) (hl : l.length ≤ 1000000000) :
    ∃ u f, aZ Try.prog 34 [x, .int .i64 i, .int .i64 ((i + 1 : Nat) : Int)] H q ⟨.sl q 1 0 (vG l i).length, (q, some (.rows 1 ((vG l i).map aE))) :: u, f⟩ := by
  rcases h with ⟨rfl, rfl⟩ | ⟨lab, rfl, h⟩
  · simp at hi
  · have := FF (q := q) h (off := 0) (n := l.length) (i := i) (j := i + 1) (by simp) (by omega) hi (by omega)
    have e : ((l.map aE).drop 0).take i ++ ((l.map aE).drop (0 + (i + 1))).take (l.length - (i + 1)) = (vG l i).map aE := by
      rw [Nat.zero_add, List.drop_zero, List.take_of_length_le (l := (l.map aE).drop (i + 1)) (by simp)]
      simp [vG, List.map_take, List.map_drop]
    rw [e, show i + (l.length - (i + 1)) = (vG l i).length by rw [BL hi]; omega] at this
    exact ⟨_, _, this⟩
theorem IT (l : List Int) (A : List CC) (hl : l.length ≤ 1000000) (hA : A.length ≤ 1000000) : lV Try.prog 18 [il l, .isl 3 (A.map bA)] (OK (gH l A)) := by
  refine cP Try.mixed ok18 rfl (fun q => ?_)
  simp only [params, Nat.zero_add, Nat.reduceAdd]
  rw [GH]
  unfold V18
  obtain ⟨x0, u0, hc0, hx0, _, _, _⟩ := FG (H := fun _ => none) (q := 3 :: q) l (by omega)
  refine jZ hc0 (Fresh.empty (c := 3)) (fun H0 hH0 hF0 => ?_)
  obtain rfl : H0 = upd u0 fun _ => none := funext hH0
  simp (disch := omega) only [vsb, aE, reduceIte, AV.cells, putL, aC, Nat.reduceAdd, Nat.reduceDiv, Nat.reduceMod, AV.one, Nat.reduceLeDiff, Nat.reduceEqDiff, zO, mM, nT, GH, tH, tG, V18, zE, zD, yZ, yY, xJ, yW, yT, yU, yS, sO, sP, sN, sM, sQ, sL, sK, sJ, sR, sI, yV, sH, yX, sF, sE, zA, sD, bA]
  refine qH (fun m r H c => ∃ (i : Nat) (x : AV) (li : List Int), r = [(0, x), (10, .isl 3 (A.map bA)), (11, .int .i64 A.length), (12, .int .i64 i)] ∧ i ≤ A.length ∧ m = A.length - i ∧ ListE H x li ∧ Fresh q c H ∧ li.length ≤ l.length + i ∧ gH l A = gH li (A.drop i)) A.length ⟨0, x0, l, rfl, Nat.zero_le _, rfl, hx0, hF0.mono (by omega), Nat.le_refl _, rfl⟩ ?_
  rintro m r H c ⟨i, x, li, rfl, hi, rfl, hx, hF, hlen, hap⟩
  simp (disch := omega) only [vsb, aE, reduceIte, AV.cells, putL, aC, Nat.reduceAdd, Nat.reduceDiv, Nat.reduceMod, AV.one, Nat.reduceLeDiff, Nat.reduceEqDiff, zO, mM, nT, GH, tH, tG, V18, zE, zD, yZ, yY, xJ, yW, yT, yU, yS, sO, sP, sN, sM, sQ, sL, sK, sJ, sR, sI, yV, sH, yX, sF, sE, zA, sD, bA]
  refine aY (fun hlt => ?_) (fun hge => ?_)
  · have hi' : i < A.length := by omega
    rw [KV hi', gH] at hap
    simp (disch := omega) only [vsb, aE, reduceIte, AV.cells, putL, aC, Nat.reduceAdd, Nat.reduceDiv, Nat.reduceMod, AV.one, Nat.reduceLeDiff, Nat.reduceEqDiff, zO, mM, nT, GH, tH, tG, V18, zE, zD, yZ, yY, xJ, yW, yT, yU, yS, sO, sP, sN, sM, sQ, sL, sK, sJ, sR, sI, yV, sH, yX, sF, sE, zA, sD, bA, hx.len]
    generalize nth A i = a at hap ⊢
    obtain ⟨k, p, v⟩ := a
    simp only at hap ⊢
    have hx' : ListE (upd [((c + 1 + 2) :: q, some (.rows 3 [[.int .i64 k, .int .i64 p, .int .i64 v]]))] (upd [((c + 1 + 2) :: q, some (.rows 3 [[.int .i64 0, .int .i64 0, .int .i64 0]]))] H)) x li := hx.mono fun lab n e hk => by
      have hne : lab ≠ (c + 1 + 2) :: q := fun e => by rw [e, hF.at (by omega)] at hk; cases hk
      rw [aP hne, a8, aP hne, a8]; exact hk
    have hF' : Fresh q (c + 4) (upd [((c + 1 + 2) :: q, some (.rows 3 [[.int .i64 k, .int .i64 p, .int .i64 v]]))] (upd [((c + 1 + 2) :: q, some (.rows 3 [[.int .i64 0, .int .i64 0, .int .i64 0]]))] H)) := (hF.upd (d := c + 4) (by omega) (by omega)).upd (by omega) (by omega)
    have hp' : upd [((c + 1 + 2) :: q, some (.rows 3 [[.int .i64 k, .int .i64 p, .int .i64 v]]))] (upd [((c + 1 + 2) :: q, some (.rows 3 [[.int .i64 0, .int .i64 0, .int .i64 0]]))] H) ((c + 1 + 2) :: q) = some (.rows 3 [[.int .i64 k, .int .i64 p, .int .i64 v]]) := aK
    generalize upd [((c + 1 + 2) :: q, some (.rows 3 [[.int .i64 k, .int .i64 p, .int .i64 v]]))] (upd [((c + 1 + 2) :: q, some (.rows 3 [[.int .i64 0, .int .i64 0, .int .i64 0]]))] H) = HA at *
    refine aY (fun hneg => ?_) (fun hneg => ?_)
    · have : rE li (k, p, v) = none := by simp only [rE]; rw [if_pos (.inl hneg)]
      rw [this] at hap
      rw [hap]
      exact xT (c := 0) (by decide)
    simp (disch := omega) only [vsb, aE, reduceIte, AV.cells, putL, aC, Nat.reduceAdd, Nat.reduceDiv, Nat.reduceMod, AV.one, Nat.reduceLeDiff, Nat.reduceEqDiff, zO, mM, nT, GH, tH, tG, V18, zE, zD, yZ, yY, xJ, yW, yT, yU, yS, sO, sP, sN, sM, sQ, sL, sK, sJ, sR, sI, yV, sH, yX, sF, sE, zA, sD, bA, hp', hx.len]
    refine aY (fun hbig => ?_) (fun hbig => ?_)
    · have : rE li (k, p, v) = none := by simp only [rE]; rw [if_pos (.inr hbig)]
      rw [this] at hap
      rw [hap]
      exact xT (c := 0) (by decide)
    simp (disch := omega) only [vsb, aE, reduceIte, AV.cells, putL, aC, Nat.reduceAdd, Nat.reduceDiv, Nat.reduceMod, AV.one, Nat.reduceLeDiff, Nat.reduceEqDiff, zO, mM, nT, GH, tH, tG, V18, zE, zD, yZ, yY, xJ, yW, yT, yU, yS, sO, sP, sN, sM, sQ, sL, sK, sJ, sR, sI, yV, sH, yX, sF, sE, zA, sD, bA, hp', hx.len]
    obtain ⟨n, rfl⟩ : ∃ n : Nat, p = n := ⟨p.toNat, by omega⟩
    have hno : ¬ ((n : Int) < 0 ∨ (li.length : Int) < n) := by omega
    refine aY (fun hk1 => ?_) (fun hk1 => ?_)
    · have ha : rE li (k, (n : Int), v) = some (xK li n v) := by simp only [rE]; rw [if_neg hno, if_pos hk1, Int.toNat_natCast]
      rw [ha, Option.bind_some] at hap
      simp (disch := omega) only [vsb, aE, reduceIte, AV.cells, putL, aC, Nat.reduceAdd, Nat.reduceDiv, Nat.reduceMod, AV.one, Nat.reduceLeDiff, Nat.reduceEqDiff, zO, mM, nT, GH, tH, tG, V18, zE, zD, yZ, yY, xJ, yW, yT, yU, yS, sO, sP, sN, sM, sQ, sL, sK, sJ, sR, sI, yV, sH, yX, sF, sE, zA, sD, bA, hp', hx.len]
      have hbox : ListE (upd [((c + 1 + 15 + 4 + 5) :: q, some (.rows 1 [[.int .i64 v]]))] HA) x li := hx'.mono fun lab n e hk => by
        rw [aP (fun e => by rw [e, hF'.at (by omega)] at hk; cases hk)]; exact hk
      have hxn : ∀ m, x ≠ .sl ((c + 1 + 15 + 4 + 5) :: q) 1 0 m := fun m e => by
        rcases hx' with ⟨h1, _⟩ | ⟨lab, h1, h2⟩ <;> rw [h1] at e <;> cases e
        rw [hF'.at (by omega)] at h2; cases h2
      obtain ⟨u, f, hin, _⟩ := KN (q := (c + 1 + 15 + 4 + 6) :: q) (c := v) (i := n) hbox (by omega) aK hxn (by omega)
      refine jZ hin ((hF'.upd (by omega) (by omega)).mono (by omega : c + 26 ≤ _)) (fun H2 hH2 hF2 => ?_)
      simp (disch := omega) only [vsb, aE, reduceIte, AV.cells, putL, aC, Nat.reduceAdd, Nat.reduceDiv, Nat.reduceMod, AV.one, Nat.reduceLeDiff, Nat.reduceEqDiff, zO, mM, nT, GH, tH, tG, V18, zE, zD, yZ, yY, xJ, yW, yT, yU, yS, sO, sP, sN, sM, sQ, sL, sK, sJ, sR, sI, yV, sH, yX, sF, sE, zA, sD, bA]
      have hil := r9 (l := li) (i := n) (c := v) (by omega)
      refine w7 (A.length - (i + 1)) (by omega) ⟨i + 1, .sl ((c + 1 + 15 + 4 + 6) :: q) 1 0 (li.length + 1), xK li n v, rfl, by omega, rfl, .inr ⟨_, by rw [hil], by rw [hH2, aK]⟩, hF2.mono (by omega), by omega, hap⟩
    · simp (disch := omega) only [vsb, aE, reduceIte, AV.cells, putL, aC, Nat.reduceAdd, Nat.reduceDiv, Nat.reduceMod, AV.one, Nat.reduceLeDiff, Nat.reduceEqDiff, zO, mM, nT, GH, tH, tG, V18, zE, zD, yZ, yY, xJ, yW, yT, yU, yS, sO, sP, sN, sM, sQ, sL, sK, sJ, sR, sI, yV, sH, yX, sF, sE, zA, sD, bA, hp', hx.len]
      refine aY (fun hk2 => ?_) (fun hk2 => ?_)
      · simp (disch := omega) only [vsb, aE, reduceIte, AV.cells, putL, aC, Nat.reduceAdd, Nat.reduceDiv, Nat.reduceMod, AV.one, Nat.reduceLeDiff, Nat.reduceEqDiff, zO, mM, nT, GH, tH, tG, V18, zE, zD, yZ, yY, xJ, yW, yT, yU, yS, sO, sP, sN, sM, sQ, sL, sK, sJ, sR, sI, yV, sH, yX, sF, sE, zA, sD, bA, hp', hx.len]
        refine aY (fun hlt => ?_) (fun hlt => ?_)
        · have ha : rE li (k, (n : Int), v) = some (vG li n) := by simp only [rE]; rw [if_neg hno, if_neg hk1, if_pos ⟨hk2, hlt⟩, Int.toNat_natCast]
          rw [ha, Option.bind_some] at hap
          simp (disch := omega) only [vsb, aE, reduceIte, AV.cells, putL, aC, Nat.reduceAdd, Nat.reduceDiv, Nat.reduceMod, AV.one, Nat.reduceLeDiff, Nat.reduceEqDiff, zO, mM, nT, GH, tH, tG, V18, zE, zD, yZ, yY, xJ, yW, yT, yU, yS, sO, sP, sN, sM, sQ, sL, sK, sJ, sR, sI, yV, sH, yX, sF, sE, zA, sD, bA, hp', hx.len]
          obtain ⟨u, f, hde⟩ := delete_one (q := (c + 1 + 15 + 4 + 11 + 6) :: q) (i := n) hx' (by omega) (by omega)
          rw [show (n : Int) + 1 = ((n + 1 : Nat) : Int) by omega]
          refine jZ hde (hF'.mono (by omega)) (fun H2 hH2 hF2 => ?_)
          simp (disch := omega) only [vsb, aE, reduceIte, AV.cells, putL, aC, Nat.reduceAdd, Nat.reduceDiv, Nat.reduceMod, AV.one, Nat.reduceLeDiff, Nat.reduceEqDiff, zO, mM, nT, GH, tH, tG, V18, zE, zD, yZ, yY, xJ, yW, yT, yU, yS, sO, sP, sN, sM, sQ, sL, sK, sJ, sR, sI, yV, sH, yX, sF, sE, zA, sD, bA]
          have hdl := BL (l := li) (i := n) (by omega)
          refine w7 (A.length - (i + 1)) (by omega) ⟨i + 1, .sl ((c + 1 + 15 + 4 + 11 + 6) :: q) 1 0 (vG li n).length, vG li n, rfl, by omega, rfl, .inr ⟨_, rfl, by rw [hH2, aK]⟩, hF2.mono (by omega), by omega, hap⟩
        · have : rE li (k, (n : Int), v) = none := by simp only [rE]; rw [if_neg hno, if_neg hk1, if_neg (fun h => hlt h.2)]
          rw [this] at hap
          rw [hap]
          exact xT (c := 0) (by decide)
      · have : rE li (k, (n : Int), v) = none := by simp only [rE]; rw [if_neg hno, if_neg hk1, if_neg (fun h => hk2 h.1)]
        rw [this] at hap
        rw [hap]
        exact xT (c := 0) (by decide)
  · obtain rfl : i = A.length := by omega
    rw [hap, List.drop_length, gH]
    exact ⟨.inr rfl, .tuple [x, .bool true], by simp [j1, iV, nA, bE], Fr.two hx.fr (.refl _)⟩
end Go.Proofs.Ytbngfbpegdcpkaa
/-! What is owed of functions of the program, as formulas. -/
namespace Go.Proofs.Ytbngfbpegdcpkaa
set_option maxRecDepth 100000
set_option linter.unusedVariables false
set_option linter.unusedSimpArgs false
def ZS : ACode := (.seq (.seq (.region [⟨(some 13), none, .move, [.t 7]⟩, ⟨(some 14), none, .move, [.t 1]⟩, ⟨(some 15), none, (.len .slice), [.t 14]⟩, ⟨(some 16), none, (.bin .lss .num), [.t 13, .t 15]⟩] none [1, 6, 7, 16])
  (.cond (.t 16) .skip
  (.exit 0)))
  (.seq (.block 1 (.seq (.region [⟨(some 19), none, .move, [.t 1]⟩, ⟨(some 20), none, .move, [.t 7]⟩, ⟨(some 21), none, (.indexAddr 3), [.t 19, .t 20]⟩, ⟨(some 22), none, (.load 3 true), [.t 21]⟩, ⟨(some 8), none, (.alloc [(.int .i64 0), (.int .i64 0), (.int .i64 0)]), []⟩, ⟨none, none, (.store 3), [.t 8, .t 22]⟩] none [1, 6, 7, 8])
  (.seq (.seq (.region [⟨(some 23), none, (.fieldAddr 0), [.t 8]⟩, ⟨(some 24), none, (.load 1 false), [.t 23]⟩, ⟨(some 25), none, (.bin .neq .num), [.t 24, .c (.int .i64 1)]⟩, ⟨(some 26), none, .move, [.t 25]⟩, ⟨(some 27), (some (26, true)), (.fieldAddr 0), [.t 8]⟩, ⟨(some 28), (some (26, true)), (.load 1 false), [.t 27]⟩, ⟨(some 29), (some (26, true)), (.bin .neq .num), [.t 28, .c (.int .i64 2)]⟩, ⟨(some 30), none, .pick, [.t 26, .t 29, .c (.bool false)]⟩, ⟨(some 31), none, .move, [.t 30]⟩, ⟨(some 32), (some (31, false)), (.fieldAddr 1), [.t 8]⟩, ⟨(some 33), (some (31, false)), (.load 1 false), [.t 32]⟩, ⟨(some 34), (some (31, false)), (.bin .lss .num), [.t 33, .c (.int .i64 0)]⟩, ⟨(some 35), none, .pick, [.t 31, .c (.bool true), .t 34]⟩, ⟨(some 36), none, .move, [.t 35]⟩, ⟨(some 37), (some (36, false)), (.fieldAddr 1), [.t 8]⟩, ⟨(some 38), (some (36, false)), (.load 1 false), [.t 37]⟩, ⟨(some 39), (some (36, false)), .move, [.t 6]⟩, ⟨(some 40), (some (36, false)), (.len .slice), [.t 39]⟩, ⟨(some 41), (some (36, false)), (.bin .gtr .num), [.t 38, .t 40]⟩, ⟨(some 42), none, .pick, [.t 36, .c (.bool true), .t 41]⟩, ⟨(some 43), none, .move, [.t 42]⟩, ⟨(some 44), (some (43, false)), (.fieldAddr 0), [.t 8]⟩, ⟨(some 45), (some (43, false)), (.load 1 false), [.t 44]⟩, ⟨(some 46), (some (43, false)), (.bin .eql .num), [.t 45, .c (.int .i64 2)]⟩, ⟨(some 47), (some (43, false)), .move, [.t 46]⟩, ⟨(some 48), (some (47, true)), (.fieldAddr 1), [.t 8]⟩, ⟨(some 49), (some (47, true)), (.load 1 false), [.t 48]⟩, ⟨(some 50), (some (47, true)), .move, [.t 6]⟩, ⟨(some 51), (some (47, true)), (.len .slice), [.t 50]⟩, ⟨(some 52), (some (47, true)), (.bin .eql .num), [.t 49, .t 51]⟩, ⟨(some 53), (some (43, false)), .pick, [.t 47, .t 52, .c (.bool false)]⟩, ⟨(some 54), none, .pick, [.t 43, .c (.bool true), .t 53]⟩] none [1, 6, 7, 8, 54])
  (.cond (.t 54) (.seq (.region [⟨(some 4), none, .move, [.c .nils]⟩, ⟨(some 5), none, .move, [.c (.bool false)]⟩] none [4, 5])
  .ret)
  .skip))
  (.seq (.region [⟨(some 9), none, .move, [.c .nils]⟩] none [1, 6, 7, 8, 9])
  (.seq (.region [⟨(some 55), none, .move, [.t 9]⟩, ⟨(some 56), none, .move, [.t 6]⟩, ⟨(some 57), none, (.fieldAddr 1), [.t 8]⟩, ⟨(some 58), none, (.load 1 false), [.t 57]⟩, ⟨(some 59), none, (.slice 1 false true false), [.t 56, .t 58]⟩, ⟨(some 60), none, (.append 1 8), [.t 55, .t 59]⟩, ⟨(some 9), none, .move, [.t 60]⟩] none [1, 6, 7, 8, 9])
  (.seq (.seq (.region [⟨(some 61), none, (.fieldAddr 0), [.t 8]⟩, ⟨(some 62), none, (.load 1 false), [.t 61]⟩, ⟨(some 63), none, (.bin .eql .num), [.t 62, .c (.int .i64 1)]⟩] none [1, 6, 7, 8, 9, 63])
  (.cond (.t 63) (.seq (.region [⟨(some 64), none, .move, [.t 9]⟩, ⟨(some 65), none, (.fieldAddr 2), [.t 8]⟩, ⟨(some 66), none, (.load 1 false), [.t 65]⟩, ⟨(some 67), none, (.buildSlice 1 [(.int .i64 0)] [(0, 1)]), [.t 66]⟩, ⟨(some 68), none, (.append 1 8), [.t 64, .t 67]⟩, ⟨(some 9), none, .move, [.t 68]⟩] none [1, 6, 7, 8, 9])
  (.region [⟨(some 69), none, .move, [.t 9]⟩, ⟨(some 70), none, .move, [.t 6]⟩, ⟨(some 71), none, (.fieldAddr 1), [.t 8]⟩, ⟨(some 72), none, (.load 1 false), [.t 71]⟩, ⟨(some 73), none, (.slice 1 true false false), [.t 70, .t 72]⟩, ⟨(some 74), none, (.append 1 8), [.t 69, .t 73]⟩, ⟨(some 9), none, .move, [.t 74]⟩] none [1, 7, 9]))
  (.region [⟨(some 75), none, .move, [.t 9]⟩, ⟨(some 76), none, .move, [.t 6]⟩, ⟨(some 77), none, (.fieldAddr 1), [.t 8]⟩, ⟨(some 78), none, (.load 1 false), [.t 77]⟩, ⟨(some 79), none, (.bin .add .num), [.t 78, .c (.int .i64 1)]⟩, ⟨(some 80), none, (.slice 1 true false false), [.t 76, .t 79]⟩, ⟨(some 81), none, (.append 1 8), [.t 75, .t 80]⟩, ⟨(some 9), none, .move, [.t 81]⟩] none [1, 7, 9])))
  (.region [⟨(some 82), none, .move, [.t 9]⟩, ⟨(some 6), none, .move, [.t 82]⟩] none [1, 6, 7])))))))
  (.region [⟨(some 17), none, .move, [.t 7]⟩, ⟨(some 18), none, (.bin .add .num), [.t 17, .c (.int .i64 1)]⟩, ⟨(some 7), none, .move, [.t 18]⟩] none [1, 6, 7])))
def X5 : ACode := .loop [1, 6, 7] ZS
def PE : ACode := (.seq (.region [⟨(some 83), none, .move, [.t 6]⟩, ⟨(some 4), none, .move, [.t 83]⟩, ⟨(some 5), none, .move, [.c (.bool true)]⟩] none [4, 5])
  .ret)
/-- duet/duetref18.Apply -/
def c20 : AFun := ⟨2, 84, [.tmp 4, .tmp 5],
  (.seq (.region [⟨(some 4), none, .move, [.c .nils]⟩, ⟨(some 5), none, .move, [.c (.bool false)]⟩] none [0, 1])
  (.seq (.region [⟨(some 6), none, .move, [.c .nils]⟩] none [0, 1, 6])
  (.seq (.region [⟨(some 10), none, .move, [.t 6]⟩, ⟨(some 11), none, .move, [.t 0]⟩, ⟨(some 12), none, (.append 1 8), [.t 10, .t 11]⟩, ⟨(some 6), none, .move, [.t 12]⟩] none [1, 6])
  (.seq (.seq (.region [⟨(some 7), none, .move, [.c (.int .i64 0)]⟩] none [1, 6, 7])
  (.block 0 X5)) PE))))⟩
theorem ok20 : FunOk Try.prog 20 c20 := ⟨⟨Try.f20, _, Try.func20, rfl, by kernel_rfl, by kernel_rfl, by kernel_rfl, by kernel_rfl⟩, by decide⟩
theorem vL : c20.res = [.tmp 4, .tmp 5] := rfl
def RN (P : Program) (p : Lab) (Q : aA) : aA := (jO 0 (qG (vc P p PE Q) Q))
theorem jR (P : Program) (p : Lab) (Q : aA) (r : RL) (H : aB) (c : Nat) : RN P p Q .ret r H c = Q .ret r H c := rfl
def V20 (P : Program) (p : Lab) (Q : aA) (x0 x1 : AV) (H : aB) (c : Nat) : Prop :=
  aM (.append 1 8) [.nils, x0] H ((c + 5) :: p) (fun v12_5 H5 l5 f5 =>
  vc P p X5 (RN P p Q) [(1, x1), (6, v12_5), (7, (.int .i64 0))] H5 (c + 8))
theorem DD (P : Program) (p : Lab) (Q : aA) (x0 x1 : AV) (H : aB) (c : Nat) : vc P p c20.body Q [(0, x0), (1, x1)] H c = V20 P p Q x0 x1 H c := by kernel_rfl
def q9 (P : Program) (p : Lab) (Q : aA) (y1 : AV) (y6 : AV) (y7 : AV) (y8 : AV) (H : aB) (c : Nat) : Prop :=
  Q .ret [(4, .nils), (5, (.bool false))] H (c + 2)
def u6 (P : Program) (p : Lab) (Q : aA) (y1 : AV) (y6 : AV) (y7 : AV) (y8 : AV) (H : aB) (c : Nat) : Prop :=
  (q9 P p Q y1 y6 y7 y8 H (c + 13))
def u7 (P : Program) (p : Lab) (Q : aA) (y1 : AV) (y6 : AV) (y7 : AV) (y8 : AV) (H : aB) (c : Nat) : Prop :=
  (u6 P p Q y1 y6 y7 y8 H (c + 7))
def u5 (P : Program) (p : Lab) (Q : aA) (y1 : AV) (y6 : AV) (y7 : AV) (y8 : AV) (H : aB) (c : Nat) (_ : Unit) : Prop :=
  (u7 P p Q y1 y6 y7 y8 H (c + 5))
def u3 (P : Program) (p : Lab) (Q : aA) (y1 : AV) (y6 : AV) (y7 : AV) (y8 : AV) (H : aB) (c : Nat) : Prop :=
  (q9 P p Q y1 y6 y7 y8 H (c + 13))
def uZ (P : Program) (p : Lab) (Q : aA) (y1 : AV) (y6 : AV) (y7 : AV) (y8 : AV) (H : aB) (c : Nat) (_ : Unit) : Prop :=
  (u3 P p Q y1 y6 y7 y8 H (c + 7))
def qE (P : Program) (p : Lab) (Q : aA) (y1 : AV) (y6 : AV) (y7 : AV) (y8 : AV) (H : aB) (c : Nat) (_ : Unit) : Prop :=
  (q9 P p Q y1 y6 y7 y8 H (c + 13))
def qD (P : Program) (p : Lab) (Q : aA)  (H : aB) (c : Nat) : Prop :=
  Q .ret [(4, .nils), (5, (.bool false))] H c
def qC (P : Program) (p : Lab) (Q : aA) (H : aB) (c : Nat) (_ : Unit) : Prop :=
  (qD P p Q  H (c + 2))
def qA (P : Program) (p : Lab) (Q : aA) (v68_78 : AV) (y1 : AV) (y7 : AV) (c : Nat) (v73_84 : AV) (H84 : aB) (l84 : List Lab) (f84 : Option (List Lab)) : Prop :=
  aM (.append 1 8) [v68_78, v73_84] H84 ((c + 11) :: p) (fun v74_85 H85 l85 f85 =>
  aJ .add .num y7 (.int .i64 1) fun v18_90 =>
  Q .normal [(1, y1), (6, v74_85), (7, v18_90)] H85 (c + 18))
def p9 (P : Program) (p : Lab) (Q : aA) (y1 : AV) (y6 : AV) (y7 : AV) (y8 : AV) (c : Nat) (v68_78 : AV) (H78 : aB) (l78 : List Lab) (f78 : Option (List Lab)) : Prop :=
  vFA 1 y8 fun v71_82 =>
  aF 1 false v71_82 H78 fun v72_83 _ =>
  aM (.slice 1 true false false) [y6, v72_83] H78 ((c + 10) :: p) (qA P p Q v68_78 y1 y7 c)
def oZ (P : Program) (p : Lab) (Q : aA) (y1 : AV) (y6 : AV) (y7 : AV) (y8 : AV) (y9 : AV) (H : aB) (c : Nat) : Prop :=
  vFA 2 y8 fun v65_75 =>
  aF 1 false v65_75 H fun v66_76 _ =>
  jP 1 [(.int .i64 0)] [(0, 1)] [v66_76] fun w77 n77 =>
  (fun (H77 : aB) =>
  aM (.append 1 8) [y9, (.sl ((c + 3) :: p) 1 0 n77)] H77 ((c + 4) :: p) (p9 P p Q y1 y6 y7 y8 c)) (upd [(((c + 3) :: p), some (.rows 1 w77))] H)
def p8 (P : Program) (p : Lab) (Q : aA) (v60_69 : AV) (H69 : aB) (y1 : AV) (y6 : AV) (y7 : AV) (y8 : AV) (c : Nat) (_ : Unit) : Prop :=
  (oZ P p Q y1 y6 y7 y8 v60_69 H69 (c + 11))
def p7 (P : Program) (p : Lab) (Q : aA) (y1 : AV) (y7 : AV) (y9 : AV) (c : Nat) (v80_97 : AV) (H97 : aB) (l97 : List Lab) (f97 : Option (List Lab)) : Prop :=
  aM (.append 1 8) [y9, v80_97] H97 ((c + 6) :: p) (fun v81_98 H98 l98 f98 =>
  aJ .add .num y7 (.int .i64 1) fun v18_103 =>
  Q .normal [(1, y1), (6, v81_98), (7, v18_103)] H98 (c + 13))
def oY (P : Program) (p : Lab) (Q : aA) (y1 : AV) (y6 : AV) (y7 : AV) (y8 : AV) (y9 : AV) (H : aB) (c : Nat) : Prop :=
  vFA 1 y8 fun v77_94 =>
  aF 1 false v77_94 H fun v78_95 _ =>
  aJ .add .num v78_95 (.int .i64 1) fun v79_96 =>
  aM (.slice 1 true false false) [y6, v79_96] H ((c + 5) :: p) (p7 P p Q y1 y7 y9 c)
def p6 (P : Program) (p : Lab) (Q : aA) (v60_69 : AV) (H69 : aB) (y1 : AV) (y6 : AV) (y7 : AV) (y8 : AV) (c : Nat) (_ : Unit) : Prop :=
  (oY P p Q y1 y6 y7 y8 v60_69 H69 (c + 11))
def pZ (P : Program) (p : Lab) (Q : aA) (y1 : AV) (y6 : AV) (y7 : AV) (y8 : AV) (c : Nat) (v60_69 : AV) (H69 : aB) (l69 : List Lab) (f69 : Option (List Lab)) : Prop :=
  vFA 0 y8 fun v61_71 =>
  aF 1 false v61_71 H69 fun v62_72 _ =>
  aJ .eql .num v62_72 (.int .i64 1) fun v63_73 =>
  aL v63_73
  (p8 P p Q v60_69 H69 y1 y6 y7 y8 c)
  (p6 P p Q v60_69 H69 y1 y6 y7 y8 c)
def pY (P : Program) (p : Lab) (Q : aA) (y1 : AV) (y6 : AV) (y7 : AV) (y8 : AV) (c : Nat) (v59_68 : AV) (H68 : aB) (l68 : List Lab) (f68 : Option (List Lab)) : Prop :=
  aM (.append 1 8) [.nils, v59_68] H68 ((c + 6) :: p) (pZ P p Q y1 y6 y7 y8 c)
def qB (P : Program) (p : Lab) (Q : aA) (y1 : AV) (y6 : AV) (y7 : AV) (y8 : AV) (y54 : AV) (H : aB) (c : Nat) : Prop :=
  vFA 1 y8 fun v57_66 =>
  aF 1 false v57_66 H fun v58_67 _ =>
  aM (.slice 1 false true false) [y6, v58_67] H ((c + 5) :: p) (pY P p Q y1 y6 y7 y8 c)
def pX (P : Program) (p : Lab) (Q : aA) (y1 : AV) (y6 : AV) (y7 : AV) (y8 : AV) (y54 : AV) (H : aB) (c : Nat) (_ : Unit) : Prop :=
  (qB P p Q y1 y6 y7 y8 y54 H c)
def o0 (P : Program) (p : Lab) (Q : aA) (y1 : AV) (y6 : AV) (y7 : AV) (y8 : AV) (y54 : AV) (H : aB) (c : Nat) : Prop :=
  aL y54
  (qC P p Q H c)
  (pX P p Q y1 y6 y7 y8 y54 H c)
def pW (P : Program) (p : Lab) (Q : aA) (y1 : AV) (y6 : AV) (y7 : AV) (y8 : AV) (H : aB) (c : Nat) (_ : Unit) : Prop :=
  vFA 1 y8 fun v48_54 =>
  aF 1 false v48_54 H fun v49_55 _ =>
  cS y6 fun v51_57 =>
  aJ .eql .num v49_55 v51_57 fun v52_58 =>
  (o0 P p Q y1 y6 y7 y8 v52_58 H (c + 13))
def pV (P : Program) (p : Lab) (Q : aA) (v60_113 : AV) (H113 : aB) (y1 : AV) (y6 : AV) (y7 : AV) (y8 : AV) (c : Nat) (_ : Unit) : Prop :=
  (oZ P p Q y1 y6 y7 y8 v60_113 H113 (c + 11))
def pU (P : Program) (p : Lab) (Q : aA) (v60_113 : AV) (H113 : aB) (y1 : AV) (y6 : AV) (y7 : AV) (y8 : AV) (c : Nat) (_ : Unit) : Prop :=
  (oY P p Q y1 y6 y7 y8 v60_113 H113 (c + 11))
def pT (P : Program) (p : Lab) (Q : aA) (y1 : AV) (y6 : AV) (y7 : AV) (y8 : AV) (c : Nat) (v60_113 : AV) (H113 : aB) (l113 : List Lab) (f113 : Option (List Lab)) : Prop :=
  vFA 0 y8 fun v61_115 =>
  aF 1 false v61_115 H113 fun v62_116 _ =>
  aJ .eql .num v62_116 (.int .i64 1) fun v63_117 =>
  aL v63_117
  (pV P p Q v60_113 H113 y1 y6 y7 y8 c)
  (pU P p Q v60_113 H113 y1 y6 y7 y8 c)
def pS (P : Program) (p : Lab) (Q : aA) (y1 : AV) (y6 : AV) (y7 : AV) (y8 : AV) (c : Nat) (v59_112 : AV) (H112 : aB) (l112 : List Lab) (f112 : Option (List Lab)) : Prop :=
  aM (.append 1 8) [.nils, v59_112] H112 ((c + 6) :: p) (pT P p Q y1 y6 y7 y8 c)
def oX (P : Program) (p : Lab) (Q : aA) (y1 : AV) (y6 : AV) (y7 : AV) (y8 : AV) (H : aB) (c : Nat) : Prop :=
  vFA 1 y8 fun v57_110 =>
  aF 1 false v57_110 H fun v58_111 _ =>
  aM (.slice 1 false true false) [y6, v58_111] H ((c + 5) :: p) (pS P p Q y1 y6 y7 y8 c)
def pR (P : Program) (p : Lab) (Q : aA) (y1 : AV) (y6 : AV) (y7 : AV) (y8 : AV) (H : aB) (c : Nat) (_ : Unit) : Prop :=
  (oX P p Q y1 y6 y7 y8 H (c + 13))
def pQ (P : Program) (p : Lab) (Q : aA) (y1 : AV) (y6 : AV) (y7 : AV) (y8 : AV) (H : aB) (c : Nat) (_ : Unit) : Prop :=
  vFA 0 y8 fun v44_50 =>
  aF 1 false v44_50 H fun v45_51 _ =>
  aJ .eql .num v45_51 (.int .i64 2) fun v46_52 =>
  aL v46_52
  (pW P p Q y1 y6 y7 y8 H c)
  (pR P p Q y1 y6 y7 y8 H c)
def uY (P : Program) (p : Lab) (Q : aA) (y1 : AV) (y6 : AV) (y7 : AV) (y8 : AV) (y41 : AV) (H : aB) (c : Nat) : Prop :=
  aL y41
  (qE P p Q y1 y6 y7 y8 H c)
  (pQ P p Q y1 y6 y7 y8 H c)
def pP (P : Program) (p : Lab) (Q : aA) (y1 : AV) (y6 : AV) (y7 : AV) (y8 : AV) (H : aB) (c : Nat) (_ : Unit) : Prop :=
  vFA 1 y8 fun v37_42 =>
  aF 1 false v37_42 H fun v38_43 _ =>
  cS y6 fun v40_45 =>
  aJ .gtr .num v38_43 v40_45 fun v41_46 =>
  (uY P p Q y1 y6 y7 y8 v41_46 H (c + 7))
def u4 (P : Program) (p : Lab) (Q : aA) (y1 : AV) (y6 : AV) (y7 : AV) (y8 : AV) (y34 : AV) (H : aB) (c : Nat) : Prop :=
  aL y34
  (uZ P p Q y1 y6 y7 y8 H c)
  (pP P p Q y1 y6 y7 y8 H c)
def pO (P : Program) (p : Lab) (Q : aA) (y1 : AV) (y6 : AV) (y7 : AV) (y8 : AV) (H : aB) (c : Nat) (_ : Unit) : Prop :=
  vFA 1 y8 fun v32_34 =>
  aF 1 false v32_34 H fun v33_35 _ =>
  aJ .lss .num v33_35 (.int .i64 0) fun v34_36 =>
  (u4 P p Q y1 y6 y7 y8 v34_36 H (c + 5))
def u8 (P : Program) (p : Lab) (Q : aA) (y1 : AV) (y6 : AV) (y7 : AV) (y8 : AV) (y29 : AV) (H : aB) (c : Nat) : Prop :=
  aL y29
  (u5 P p Q y1 y6 y7 y8 H c)
  (pO P p Q y1 y6 y7 y8 H c)
def pN (P : Program) (p : Lab) (Q : aA) (H17 : aB) (y1 : AV) (y6 : AV) (y7 : AV) (c : Nat) (_ : Unit) : Prop :=
  vFA 0 (.ptr ((c + 4) :: p) 3 0 0) fun v27_22 =>
  aF 1 false v27_22 H17 fun v28_23 _ =>
  aJ .neq .num v28_23 (.int .i64 2) fun v29_24 =>
  (u8 P p Q y1 y6 y7 (.ptr ((c + 4) :: p) 3 0 0) v29_24 H17 (c + 13))
def pK (P : Program) (p : Lab) (Q : aA) (y1 : AV) (y6 : AV) (y7 : AV) (y8 : AV) (H : aB) (c : Nat) : Prop :=
  (q9 P p Q y1 y6 y7 y8 H (c + 13))
def pJ (P : Program) (p : Lab) (Q : aA) (y1 : AV) (y6 : AV) (y7 : AV) (y8 : AV) (H : aB) (c : Nat) (_ : Unit) : Prop :=
  (pK P p Q y1 y6 y7 y8 H (c + 7))
def pH (P : Program) (p : Lab) (Q : aA) (y1 : AV) (y6 : AV) (y7 : AV) (y8 : AV) (H : aB) (c : Nat) (_ : Unit) : Prop :=
  (q9 P p Q y1 y6 y7 y8 H (c + 13))
def pG (P : Program) (p : Lab) (Q : aA) (y1 : AV) (y6 : AV) (y7 : AV) (y8 : AV) (H : aB) (c : Nat) (_ : Unit) : Prop :=
  vFA 1 y8 fun v48_140 =>
  aF 1 false v48_140 H fun v49_141 _ =>
  cS y6 fun v51_143 =>
  aJ .eql .num v49_141 v51_143 fun v52_144 =>
  (o0 P p Q y1 y6 y7 y8 v52_144 H (c + 13))
def pF (P : Program) (p : Lab) (Q : aA) (y1 : AV) (y6 : AV) (y7 : AV) (y8 : AV) (H : aB) (c : Nat) (_ : Unit) : Prop :=
  (oX P p Q y1 y6 y7 y8 H (c + 13))
def pE (P : Program) (p : Lab) (Q : aA) (y1 : AV) (y6 : AV) (y7 : AV) (y8 : AV) (H : aB) (c : Nat) (_ : Unit) : Prop :=
  vFA 0 y8 fun v44_136 =>
  aF 1 false v44_136 H fun v45_137 _ =>
  aJ .eql .num v45_137 (.int .i64 2) fun v46_138 =>
  aL v46_138
  (pG P p Q y1 y6 y7 y8 H c)
  (pF P p Q y1 y6 y7 y8 H c)
def pI (P : Program) (p : Lab) (Q : aA) (y1 : AV) (y6 : AV) (y7 : AV) (y8 : AV) (y41 : AV) (H : aB) (c : Nat) : Prop :=
  aL y41
  (pH P p Q y1 y6 y7 y8 H c)
  (pE P p Q y1 y6 y7 y8 H c)
def pD (P : Program) (p : Lab) (Q : aA) (y1 : AV) (y6 : AV) (y7 : AV) (y8 : AV) (H : aB) (c : Nat) (_ : Unit) : Prop :=
  vFA 1 y8 fun v37_128 =>
  aF 1 false v37_128 H fun v38_129 _ =>
  cS y6 fun v40_131 =>
  aJ .gtr .num v38_129 v40_131 fun v41_132 =>
  (pI P p Q y1 y6 y7 y8 v41_132 H (c + 7))
def pL (P : Program) (p : Lab) (Q : aA) (y1 : AV) (y6 : AV) (y7 : AV) (y8 : AV) (y34 : AV) (H : aB) (c : Nat) : Prop :=
  aL y34
  (pJ P p Q y1 y6 y7 y8 H c)
  (pD P p Q y1 y6 y7 y8 H c)
def pM (P : Program) (p : Lab) (Q : aA) (y1 : AV) (y6 : AV) (y7 : AV) (y8 : AV) (H : aB) (c : Nat) : Prop :=
  vFA 1 y8 fun v32_120 =>
  aF 1 false v32_120 H fun v33_121 _ =>
  aJ .lss .num v33_121 (.int .i64 0) fun v34_122 =>
  (pL P p Q y1 y6 y7 y8 v34_122 H (c + 5))
def pC (P : Program) (p : Lab) (Q : aA) (H17 : aB) (y1 : AV) (y6 : AV) (y7 : AV) (c : Nat) (_ : Unit) : Prop :=
  (pM P p Q y1 y6 y7 (.ptr ((c + 4) :: p) 3 0 0) H17 (c + 13))
def pB (P : Program) (p : Lab) (Q : aA) (y1 : AV) (y6 : AV) (y7 : AV) (c : Nat) (v_17 : AV) (H17 : aB) (l17 : List Lab) (f17 : Option (List Lab)) : Prop :=
  vFA 0 (.ptr ((c + 4) :: p) 3 0 0) fun v23_18 =>
  aF 1 false v23_18 H17 fun v24_19 _ =>
  aJ .neq .num v24_19 (.int .i64 1) fun v25_20 =>
  aL v25_20
  (pN P p Q H17 y1 y6 y7 c)
  (pC P p Q H17 y1 y6 y7 c)
def u9 (P : Program) (p : Lab) (Q : aA) (y1 : AV) (y6 : AV) (y7 : AV) (y16 : AV) (H : aB) (c : Nat) : Prop :=
  vIx 3 y1 y7 fun v21_14 =>
  aF 3 true v21_14 H fun v22_15 _ =>
  (fun (H16 : aB) =>
  aM (.store 3) [(.ptr ((c + 4) :: p) 3 0 0), v22_15] H16 ((c + 5) :: p) (pB P p Q y1 y6 y7 c)) (upd [(((c + 4) :: p), some (.rows 3 [[(.int .i64 0), (.int .i64 0), (.int .i64 0)]]))] H)
def pA (P : Program) (p : Lab) (Q : aA) (v16_11 : AV) (x1 : AV) (x6 : AV) (x7 : AV) (H : aB) (c : Nat) (_ : Unit) : Prop :=
  (u9 P p Q x1 x6 x7 v16_11 H (c + 4))
def vF (P : Program) (p : Lab) (Q : aA) (x1 x6 x7 : AV) (H : aB) (c : Nat) : Prop :=
  cS x1 fun v15_10 =>
  aJ .lss .num x7 v15_10 fun v16_11 =>
  aL v16_11
  (pA P p Q v16_11 x1 x6 x7 H c)
  (fun _ =>
  Q (.exit 0) [(1, x1), (6, x6), (7, x7), (16, v16_11)] H (c + 4))
theorem q3 (P : Program) (p : Lab) (Q : aA) (x1 x6 x7 : AV) (H : aB) (c : Nat) : vc P p ZS Q [(1, x1), (6, x6), (7, x7)] H c = vF P p Q x1 x6 x7 H c := by kernel_rfl
theorem lT (P : Program) (p : Lab) (Q : aA) (r : RL) (H : aB) (c : Nat) : RN P p Q (.exit 0) r H c = (vc P p PE Q r H c) := rfl
def vE (P : Program) (p : Lab) (Q : aA) (x1 x6 x7 x16 : AV) (H : aB) (c : Nat) : Prop :=
  Q .ret [(4, x6), (5, (.bool true))] H (c + 3)
theorem q0 (P : Program) (p : Lab) (Q : aA) (x1 x6 x7 x16 : AV) (H : aB) (c : Nat) : vc P p PE Q [(1, x1), (6, x6), (7, x7), (16, x16)] H c = vE P p Q x1 x6 x7 x16 H c := by kernel_rfl



end Go.Proofs.Ytbngfbpegdcpkaa
/-! The document's answer for layer 18: runes, letters, words, acts. -/
namespace Go.Proofs.Ytbngfbpegdcpkaa
set_option linter.unusedVariables false
set_option linter.unusedSimpArgs false
set_option maxRecDepth 100000
theorem HI (n : Int) : lV Try.prog 57 [.int .i64 n] (.bool (yP n)) := by
  refine cP Try.mixed ok57 rfl (fun q => ?_)
  simp only [params, Nat.zero_add, Nat.reduceAdd]
  repeat' (first | (simp (disch := omega) only [vsb, aE, reduceIte, AV.cells, putL, aC, Nat.reduceAdd, Nat.reduceDiv, Nat.reduceMod, AV.one, Nat.reduceLeDiff, Nat.reduceEqDiff, res57, vt57, V57, MV, YF, YE, YD, MU, YC, YG, YB, SD, SC, SB, SA, YA, R9, R8, R7, R6, YH, R5, R3, R4, RZ]) | (refine aY (fun _ => ?_) (fun _ => ?_)) | (refine jN (fun _ => ?_) (fun _ => ?_)) | (refine cF (fun _ => ?_) (fun _ => ?_)) | (refine bI (fun _ => ?_) (fun _ => ?_)) | (refine And.intro (aV rfl) ?_) | (refine cG (fun _ => ?_) ?_) | (exfalso; omega; done))
  all_goals (refine vp1 (congrArg AV.bool ?_); rw [Bool.eq_iff_iff]; simp [yP]; omega)
def N8 (c : Int) : Bool := (decide (48 ≤ c) && decide (c ≤ 57)) || (decide (97 ≤ c) && decide (c ≤ 122)) || (decide (65 ≤ c) && decide (c ≤ 90)) || decide (c = 95) || decide (127 < c)
theorem letR_pure (c : Int) : lV Try.prog 39 [.int .i64 c] (.bool (N8 c)) := by
  refine cP Try.mixed ok39 rfl (fun q => ?_)
  simp only [params, Nat.zero_add, Nat.reduceAdd]
  repeat' (first | (simp (disch := omega) only [vsb, aE, reduceIte, AV.cells, putL, aC, Nat.reduceAdd, Nat.reduceDiv, Nat.reduceMod, AV.one, Nat.reduceLeDiff, Nat.reduceEqDiff, res39, vt39, V39, sW, YX, YY, YZ, YW, YT, YU, YS, U0, UZ, UX, yD, UW, UY, UV, U1, UU, UR, UQ, US, UT, UP, UO, YV, UN, UK, UJ, UH, UG, UI, UF, UL, UE, UB, UA, UC, UD, T9, UM, T8, T7, Y0, T6, T1, T3, T0, TY, TX, TV, TU, TW, TT, TZ, TS, TP, TO, TQ, TR, TN, TM, T4, TL, TI, TH, TF, TE, TG, TD, TJ, TC, S9, S8, TA, TB, S7, TK, S6, T5, S5]) | (refine aY (fun _ => ?_) (fun _ => ?_)) | (refine jN (fun _ => ?_) (fun _ => ?_)) | (refine cF (fun _ => ?_) (fun _ => ?_)) | (refine bI (fun _ => ?_) (fun _ => ?_)) | (refine And.intro (aV rfl) ?_) | (refine cG (fun _ => ?_) ?_) | (exfalso; omega; done))
  all_goals (refine vp1 (congrArg AV.bool ?_); simp [N8]; omega)
theorem or_neg {c : Int} (h : c < 0) (h1 : -9223372036854775808 ≤ c) : RV c < 0 := by
  unfold RV
  have hn : (BitVec.ofInt 64 c).toNat = (c + 18446744073709551616).toNat := by
    rw [BitVec.toNat_ofInt]
    have : c % ((2 ^ 64 : Nat) : Int) = c + 18446744073709551616 := by omega
    rw [this]
  have h2 : (BitVec.ofInt 64 c).toNat ≤ (BitVec.ofInt 64 c ||| BitVec.ofInt 64 32).toNat := by
    rw [BitVec.toNat_or]; exact Nat.left_le_or
  have h3 := (BitVec.ofInt 64 c ||| BitVec.ofInt 64 32).isLt
  generalize (BitVec.ofInt 64 c ||| BitVec.ofInt 64 32).toNat = m at h2 h3 ⊢
  have h4 : (9223372036854775808 : Nat) ≤ m := by omega
  have h5 : m < 18446744073709551616 := h3
  simp [IntKind.wrap, IntKind.bits, IntKind.signed]
  omega
theorem let_small : ∀ n : Fin 128, FD ((n : Nat) : Int) = N8 ((n : Nat) : Int) := by decide +kernel
theorem let_eq {c : Int} (h : -9223372036854775808 ≤ c) : N8 c = FD c := by
  by_cases h1 : c < 0
  · have := or_neg h1 h
    have a1 : N8 c = false := by simp [N8]; omega
    have a2 : FD c = false := by simp [FD]; omega
    rw [a1, a2]
  · by_cases h2 : 127 < c
    · simp [N8, FD, h2]
    · have := let_small ⟨c.toNat, by omega⟩
      have e : ((c.toNat : Nat) : Int) = c := by omega
      simp only [e] at this
      exact this.symm
theorem nM {H : aB} {p : Lab} {KK : KF} {x y : AV} {e b c k : Nat} {rows src : List (List AV)} {ls : List Lab} (h : Own H x e rows) (hs : lF e y H = some (src, ls)) (hf : Fresh p c H) (hc : c ≤ k) (he : 0 < e) (h1 : (rows.length + src.length) * b ≤ 140737488355328) (h2 : rows.length + src.length ≤ 4611686018427387904)
    (hk : ∀ x' H' l f, Own H' x' e (rows ++ src) → Fresh p (k + 1) H' → yM x H H' → (∀ lab ∈ labs x', lab ∈ labs x ∨ lab = k :: p) → KK x' H' l f) : aM (.append e b) [x, y] H (k :: p) KK := by
  have hq : H (k :: p) = none := hf.at hc
  have hfn : ∀ o, Fresh p (k + 1) (upd [(k :: p, o)] H) := fun o j s hj => by
    simp only [Ytbngfbpegdcpkaa.upd, if_neg (rV (p := p) (s := s) (show j ≠ k by omega))]
    exact hf j s (by omega)
  by_cases hne : src = []
  · subst hne
    refine ⟨.pure x, ?_, hk x H [] (some []) (by simpa using h) (hf.mono (by omega)) (fun k o hk _ => hk) (fun _ h => .inl h)⟩
    rcases h with ⟨rfl, rfl⟩ | ⟨l, rfl, hl⟩ <;> simp [aop, gI, hs]
  · have hn : src.isEmpty = false := by cases src <;> simp at hne ⊢
    rcases h with ⟨rfl, rfl⟩ | ⟨l, rfl, hl⟩
    · refine ⟨⟨.sl (k :: p) e 0 src.length, [(k :: p, some (.rows e src))], some ls⟩, ?_, hk _ _ _ _ (.inr ⟨k :: p, by simp, by simp [upd]⟩) (hfn _) (fun j o hk' _ => ?_) (fun _ h => .inr (List.mem_singleton.1 h))⟩
      · simp only [List.length_nil, Nat.zero_add] at h1 h2
        simp [aop, gI, hs, hn, he, h1, h2]
        exact fun h => absurd h hne
      · simp only [upd]
        rw [if_neg (fun e => by rw [e, hq] at hk'; cases hk')]; exact hk'
    · refine ⟨⟨.sl (k :: p) e 0 (rows.length + src.length), [(k :: p, some (.rows e (rows ++ src))), (l, none)], some (l :: ls)⟩, ?_, hk _ _ _ _ (.inr ⟨k :: p, by simp, by simp [upd]⟩) (fun j s hj => ?_) (fun j o hk' hx => ?_) (fun _ h => .inr (List.mem_singleton.1 h))⟩
      · simp [aop, gI, hs, hn, hl, he, h1, h2]
        exact fun h => absurd h hne
      · simp only [upd, if_neg (rV (p := p) (s := s) (show j ≠ k by omega))]
        rw [hf j s (by omega)]; split <;> rfl
      · simp only [upd]
        rw [if_neg (fun e => by rw [e, hq] at hk'; cases hk'), if_neg (fun e' => hx e 0 rows.length (by rw [e']))]; exact hk'
/-- a part of one's own, to be read -/
def aAq (H : aB) (x y : AV) (src : List (List AV)) : Prop := ∀ H' : aB, (∀ lab ∈ labs x, H' lab = H lab) → ∃ ls, lF 1 y H' = some (src, ls)
theorem RT {H : aB} {q : Lab} {KK : KF} {x : AV} {rows : List (List AV)} {n : Nat} (h : Own H x 1 rows) (hn : n ≤ rows.length) (hk : ∀ y, aAq H x y (rows.take n) → KK y H [] (some [])) : aM (.slice 1 false true false) [x, .int .i64 n] H q KK := by
  rcases h with ⟨rfl, rfl⟩ | ⟨l, rfl, hl⟩
  · obtain rfl : n = 0 := by simpa using hn
    refine ⟨.pure .nils, ?_, hk .nils (fun H' _ => ⟨[], by simp [lF]⟩)⟩
    simp [aop, iU, rD]
  · refine ⟨.pure (.sl l 1 0 n), ?_, hk (.sl l 1 0 n) (fun H' hH => ?_)⟩
    · simp [aop, iU, rD, hn]
    · by_cases h0 : n = 0
      · subst h0; exact ⟨[], by simp [lF]⟩
      · refine ⟨[l], ?_⟩
        have := hH l (by simp [labs])
        simp [lF, h0, this, hl, hn]
theorem RS {H : aB} {q : Lab} {KK : KF} {x : AV} {rows : List (List AV)} {n : Nat} (h : Own H x 1 rows) (hn : n ≤ rows.length) (hk : ∀ y, aAq H x y (rows.drop n) → KK y H [] (some [])) : aM (.slice 1 true false false) [x, .int .i64 n] H q KK := by
  rcases h with ⟨rfl, rfl⟩ | ⟨l, rfl, hl⟩
  · obtain rfl : n = 0 := by simpa using hn
    refine ⟨.pure .nils, ?_, hk .nils (fun H' _ => ⟨[], by simp [lF]⟩)⟩
    simp [aop, iU, rD, AV.len]
  · have e1 : ((rows.length : Int) - n).toNat = rows.length - n := by omega
    refine ⟨.pure (.sl l 1 n (rows.length - n)), ?_, hk (.sl l 1 n (rows.length - n)) (fun H' hH => ?_)⟩
    · have h2 : (n : Int) ≤ rows.length := by omega
      simp [aop, iU, rD, AV.len, hn, e1]
    · have := hH l (by simp [labs])
      by_cases h0 : rows.length - n = 0
      · refine ⟨[], ?_⟩
        rw [h0, List.drop_eq_nil_iff.2 (by omega)]
        simp [lF]
      · refine ⟨[l], ?_⟩
        have h3 : n + (rows.length - n) ≤ rows.length := by omega
        have e2 : (rows.drop n).take (rows.length - n) = rows.drop n := List.take_of_length_le (by simp)
        simp [lF, h0, this, hl, h3, e2]
end Go.Proofs.Ytbngfbpegdcpkaa
/-! The document's answer for layer 18: acts that are done to a line. -/
namespace Go.Proofs.Ytbngfbpegdcpkaa
set_option linter.unusedVariables false
set_option linter.unusedSimpArgs false
set_option maxRecDepth 100000
theorem nat_lo {H : aB} {q : Lab} {KK : KF} {x : AV} {a : Int} {n : Nat} (e : a = n) (h : aM (.slice 1 true false false) [x, .int .i64 (n : Int)] H q KK) : aM (.slice 1 true false false) [x, .int .i64 a] H q KK := by rw [e]; exact h
theorem FN {li : List Int} {k p v : Int} (h : p < 0 ∨ (li.length : Int) < p ∨ (k ≠ 1 ∧ (k ≠ 2 ∨ (li.length : Int) ≤ p))) : rE li (k, p, v) = none := by
  simp only [rE]
  split
  · rfl
  · split
    · exfalso; omega
    · rw [if_neg (by omega)]
theorem zP (l : List Int) (A : List CC) (hl : l.length ≤ 1000000) (hA : A.length ≤ 1000000) : lV Try.prog 20 [il l, .isl 3 (A.map bA)] (OK (gH l A)) := by
  refine cP Try.mixed ok20 rfl (fun q => ?_)
  simp only [params, Nat.zero_add, Nat.reduceAdd]
  rw [DD]
  unfold V20
  refine nM (x := .nils) Own.nils wT (Fresh.empty (c := 0)) (Nat.zero_le _) (by decide) (by simp; omega) (by simp; omega) (fun x0 H0 l0 f0 ho0 hf0 hkb0 hlb0 => ?_)
  refine qH (fun m r H c => ∃ (i : Nat) (x : AV) (li : List Int), r = [(1, .isl 3 (A.map bA)), (6, x), (7, .int .i64 i)] ∧ i ≤ A.length ∧ m = A.length - i ∧ Own H x 1 (li.map aE) ∧ Fresh q c H ∧ li.length ≤ l.length + i ∧ gH l A = gH li (A.drop i)) A.length ⟨0, x0, l, rfl, Nat.zero_le _, rfl, by simpa using ho0, hf0.mono (by omega), Nat.le_refl _, rfl⟩ ?_
  rintro m r H c ⟨i, x, li, rfl, hi, rfl, hx, hF, hlen, hap⟩
  have hlx : ∀ {K : AV → Prop}, cS x K = K (.int .i64 li.length) := by intro K; rw [v_len_own hx, List.length_map]
  simp (disch := omega) only [vsb, aE, reduceIte, AV.cells, putL, aC, Nat.reduceAdd, Nat.reduceDiv, Nat.reduceMod, AV.one, Nat.reduceLeDiff, Nat.reduceEqDiff, vL, jR, lT, DD, q3, q0, V20, vF, vE, q9, u6, u7, u5, u3, uZ, qE, qD, qC, qA, p9, oZ, p8, p7, oY, p6, pZ, pY, qB, pX, o0, pW, pV, pU, pT, pS, oX, pR, pQ, uY, pP, u4, pO, u8, pN, pK, pJ, pH, pG, pF, pE, pI, pD, pL, pM, pC, pB, u9, pA, bA]
  refine aY (fun hlt => ?_) (fun hge => ?_)
  · have hi' : i < A.length := by omega
    rw [KV hi', gH] at hap
    simp (disch := omega) only [vsb, aE, reduceIte, AV.cells, putL, aC, Nat.reduceAdd, Nat.reduceDiv, Nat.reduceMod, AV.one, Nat.reduceLeDiff, Nat.reduceEqDiff, vL, jR, lT, DD, q3, q0, V20, vF, vE, q9, u6, u7, u5, u3, uZ, qE, qD, qC, qA, p9, oZ, p8, p7, oY, p6, pZ, pY, qB, pX, o0, pW, pV, pU, pT, pS, oX, pR, pQ, uY, pP, u4, pO, u8, pN, pK, pJ, pH, pG, pF, pE, pI, pD, pL, pM, pC, pB, u9, pA, bA, hlx]
    generalize nth A i = a at hap ⊢
    obtain ⟨k, p, v⟩ := a
    simp only at hap ⊢
    have hx' : Own (upd [((c + 4 + 4) :: q, some (.rows 3 [[.int .i64 k, .int .i64 p, .int .i64 v]]))] (upd [((c + 4 + 4) :: q, some (.rows 3 [[.int .i64 0, .int .i64 0, .int .i64 0]]))] H)) x 1 (li.map aE) := hx.mono' fun lab hk => by
      have hne : lab ≠ (c + 4 + 4) :: q := fun e => by rw [e, hF.at (by omega)] at hk; cases hk
      rw [aP hne, a8, aP hne, a8]; exact hk
    have hF' : Fresh q (c + 9) (upd [((c + 4 + 4) :: q, some (.rows 3 [[.int .i64 k, .int .i64 p, .int .i64 v]]))] (upd [((c + 4 + 4) :: q, some (.rows 3 [[.int .i64 0, .int .i64 0, .int .i64 0]]))] H)) := (hF.upd (d := c + 9) (by omega) (by omega)).upd (by omega) (by omega)
    have hp' : upd [((c + 4 + 4) :: q, some (.rows 3 [[.int .i64 k, .int .i64 p, .int .i64 v]]))] (upd [((c + 4 + 4) :: q, some (.rows 3 [[.int .i64 0, .int .i64 0, .int .i64 0]]))] H) ((c + 4 + 4) :: q) = some (.rows 3 [[.int .i64 k, .int .i64 p, .int .i64 v]]) := aK
    generalize upd [((c + 4 + 4) :: q, some (.rows 3 [[.int .i64 k, .int .i64 p, .int .i64 v]]))] (upd [((c + 4 + 4) :: q, some (.rows 3 [[.int .i64 0, .int .i64 0, .int .i64 0]]))] H) = HA at *
    have bad : rE li (k, p, v) = none → gH l A = none := fun e => by rw [hap, e]; rfl
    by_cases c1 : k = 1
    · by_cases c2 : 0 ≤ p ∧ p ≤ li.length
      · obtain ⟨c3, c4⟩ := c2
        repeat' (first | (simp (disch := omega) only [vsb, aE, reduceIte, AV.cells, putL, aC, Nat.reduceAdd, Nat.reduceDiv, Nat.reduceMod, AV.one, Nat.reduceLeDiff, Nat.reduceEqDiff, vL, jR, lT, DD, q3, q0, V20, vF, vE, q9, u6, u7, u5, u3, uZ, qE, qD, qC, qA, p9, oZ, p8, p7, oY, p6, pZ, pY, qB, pX, o0, pW, pV, pU, pT, pS, oX, pR, pQ, uY, pP, u4, pO, u8, pN, pK, pJ, pH, pG, pF, pE, pI, pD, pL, pM, pC, pB, u9, pA, bA, hp', hlx]) | (refine aY (fun _ => ?_) (fun _ => ?_)) | (refine jN (fun _ => ?_) (fun _ => ?_)) | (exfalso; omega; done))
        obtain ⟨n, rfl⟩ : ∃ n : Nat, p = n := ⟨p.toNat, by omega⟩
        have ha : rE li (k, (n : Int), v) = some (xK li n v) := by simp only [rE]; rw [if_neg (by omega), if_pos c1, Int.toNat_natCast]
        rw [ha, Option.bind_some] at hap
        refine RT hx' (by simp; omega) (fun y hy => ?_)
        obtain ⟨ls, hls⟩ := hy HA (fun _ _ => rfl)
        simp (disch := omega) only [vsb, aE, reduceIte, AV.cells, putL, aC, Nat.reduceAdd, Nat.reduceDiv, Nat.reduceMod, AV.one, Nat.reduceLeDiff, Nat.reduceEqDiff, vL, jR, lT, DD, q3, q0, V20, vF, vE, q9, u6, u7, u5, u3, uZ, qE, qD, qC, qA, p9, oZ, p8, p7, oY, p6, pZ, pY, qB, pX, o0, pW, pV, pU, pT, pS, oX, pR, pQ, uY, pP, u4, pO, u8, pN, pK, pJ, pH, pG, pF, pE, pI, pD, pL, pM, pC, pB, u9, pA, bA, hp', hlx]
        refine nM (x := .nils) Own.nils hls hF' (by omega) (by decide) (by simp; omega) (by simp; omega) (fun x1 H1 l1 f1 ho1 hf1 hkb1 hlb1 => ?_)
        have hp1 := hkb1 _ _ hp' (fun _ _ _ e => by cases e)
        simp (disch := omega) only [vsb, aE, reduceIte, AV.cells, putL, aC, Nat.reduceAdd, Nat.reduceDiv, Nat.reduceMod, AV.one, Nat.reduceLeDiff, Nat.reduceEqDiff, vL, jR, lT, DD, q3, q0, V20, vF, vE, q9, u6, u7, u5, u3, uZ, qE, qD, qC, qA, p9, oZ, p8, p7, oY, p6, pZ, pY, qB, pX, o0, pW, pV, pU, pT, pS, oX, pR, pQ, uY, pP, u4, pO, u8, pN, pK, pJ, pH, pG, pF, pE, pI, pD, pL, pM, pC, pB, u9, pA, bA, hp1, hlx]
        have hx1 : ∀ lab ∈ labs x, H1 lab = HA lab ∧ lab ∉ labs x1 := fun lab hl => by
          obtain ⟨o, ho⟩ := Option.ne_none_iff_exists'.1 (hx'.labn hl)
          refine ⟨by rw [ho]; exact hkb1 _ _ ho (fun _ _ _ e => by cases e), fun hm => ?_⟩
          rcases hlb1 lab hm with h | h
          · cases h
          · rw [h, hF'.at (by omega)] at ho; cases ho
        have hx1' : Own H1 x 1 (li.map aE) := hx'.mono2 fun lab hl => (hx1 lab hl).1
        refine nM (ho1.upd hf1 (by omega)) (rows_sl (by exact aK) rfl (by decide)) (hf1.upd (d := c + 57) (by omega) (by omega)) (by omega) (by decide) (by simp; omega) (by simp; omega) (fun x2 H2 l2 f2 ho2 hf2 hkb2 hlb2 => ?_)
        have hb1 : ∀ lab o, H1 lab = some o → upd [((c + 4 + 13 + 5 + 7 + 13 + 11 + 3) :: q, some (.rows 1 [[.int .i64 v]]))] H1 lab = some o := fun lab o h => by
          rw [aP (fun e => by rw [e, hf1.at (by omega)] at h; cases h)]; exact h
        have hp2 := hkb2 _ _ (hb1 _ _ hp1) (wZ ho1 hp1 (by decide))
        have hx2' : Own H2 x 1 (li.map aE) := hx1'.mono2 fun lab hl => by
          obtain ⟨o, ho⟩ := Option.ne_none_iff_exists'.1 (hx1'.labn hl)
          rw [ho]
          exact hkb2 _ _ (hb1 _ _ ho) (fun e j m hx => (hx1 lab hl).2 (by simp [hx, labs]))
        simp (disch := omega) only [vsb, aE, reduceIte, AV.cells, putL, aC, Nat.reduceAdd, Nat.reduceDiv, Nat.reduceMod, AV.one, Nat.reduceLeDiff, Nat.reduceEqDiff, vL, jR, lT, DD, q3, q0, V20, vF, vE, q9, u6, u7, u5, u3, uZ, qE, qD, qC, qA, p9, oZ, p8, p7, oY, p6, pZ, pY, qB, pX, o0, pW, pV, pU, pT, pS, oX, pR, pQ, uY, pP, u4, pO, u8, pN, pK, pJ, pH, pG, pF, pE, pI, pD, pL, pM, pC, pB, u9, pA, bA, hp2, hlx]
        refine RS hx2' (by simp; omega) (fun y2 hy2 => ?_)
        obtain ⟨ls2, hls2⟩ := hy2 H2 (fun _ _ => rfl)
        refine nM ho2 hls2 hf2 (by omega) (by decide) (by simp; omega) (by simp; omega) (fun x3 H3 l3 f3 ho3 hf3 _ _ => ?_)
        simp (disch := omega) only [vsb, aE, reduceIte, AV.cells, putL, aC, Nat.reduceAdd, Nat.reduceDiv, Nat.reduceMod, AV.one, Nat.reduceLeDiff, Nat.reduceEqDiff, vL, jR, lT, DD, q3, q0, V20, vF, vE, q9, u6, u7, u5, u3, uZ, qE, qD, qC, qA, p9, oZ, p8, p7, oY, p6, pZ, pY, qB, pX, o0, pW, pV, pU, pT, pS, oX, pR, pQ, uY, pP, u4, pO, u8, pN, pK, pJ, pH, pG, pF, pE, pI, pD, pL, pM, pC, pB, u9, pA, bA]
        have hil := r9 (l := li) (i := n) (c := v) (by omega)
        have e3 : [] ++ (li.map aE).take n ++ [[AV.int .i64 v]] ++ (li.map aE).drop n = (xK li n v).map aE := by simp [xK, aE, List.map_take, List.map_drop]
        rw [e3] at ho3
        exact w7 (A.length - (i + 1)) (by omega) ⟨i + 1, x3, xK li n v, rfl, by omega, rfl, ho3, hf3.mono (by omega), by omega, hap⟩
      · have e := bad (FN (by omega))
        rw [e]
        repeat' (first | (simp (disch := omega) only [vsb, aE, reduceIte, AV.cells, putL, aC, Nat.reduceAdd, Nat.reduceDiv, Nat.reduceMod, AV.one, Nat.reduceLeDiff, Nat.reduceEqDiff, vL, jR, lT, DD, q3, q0, V20, vF, vE, q9, u6, u7, u5, u3, uZ, qE, qD, qC, qA, p9, oZ, p8, p7, oY, p6, pZ, pY, qB, pX, o0, pW, pV, pU, pT, pS, oX, pR, pQ, uY, pP, u4, pO, u8, pN, pK, pJ, pH, pG, pF, pE, pI, pD, pL, pM, pC, pB, u9, pA, bA, hp', hlx]) | (refine aY (fun _ => ?_) (fun _ => ?_)) | (refine jN (fun _ => ?_) (fun _ => ?_)) | (exfalso; omega; done))
        all_goals exact xT (c := 0) (by decide)
    · by_cases c5 : k = 2
      · by_cases c2 : 0 ≤ p ∧ p < li.length
        · obtain ⟨c3, c4⟩ := c2
          repeat' (first | (simp (disch := omega) only [vsb, aE, reduceIte, AV.cells, putL, aC, Nat.reduceAdd, Nat.reduceDiv, Nat.reduceMod, AV.one, Nat.reduceLeDiff, Nat.reduceEqDiff, vL, jR, lT, DD, q3, q0, V20, vF, vE, q9, u6, u7, u5, u3, uZ, qE, qD, qC, qA, p9, oZ, p8, p7, oY, p6, pZ, pY, qB, pX, o0, pW, pV, pU, pT, pS, oX, pR, pQ, uY, pP, u4, pO, u8, pN, pK, pJ, pH, pG, pF, pE, pI, pD, pL, pM, pC, pB, u9, pA, bA, hp', hlx]) | (refine aY (fun _ => ?_) (fun _ => ?_)) | (refine jN (fun _ => ?_) (fun _ => ?_)) | (exfalso; omega; done))
          obtain ⟨n, rfl⟩ : ∃ n : Nat, p = n := ⟨p.toNat, by omega⟩
          have ha : rE li (k, (n : Int), v) = some (vG li n) := by simp only [rE]; rw [if_neg (by omega), if_neg c1, if_pos ⟨c5, c4⟩, Int.toNat_natCast]
          rw [ha, Option.bind_some] at hap
          refine RT hx' (by simp; omega) (fun y hy => ?_)
          obtain ⟨ls, hls⟩ := hy HA (fun _ _ => rfl)
          simp (disch := omega) only [vsb, aE, reduceIte, AV.cells, putL, aC, Nat.reduceAdd, Nat.reduceDiv, Nat.reduceMod, AV.one, Nat.reduceLeDiff, Nat.reduceEqDiff, vL, jR, lT, DD, q3, q0, V20, vF, vE, q9, u6, u7, u5, u3, uZ, qE, qD, qC, qA, p9, oZ, p8, p7, oY, p6, pZ, pY, qB, pX, o0, pW, pV, pU, pT, pS, oX, pR, pQ, uY, pP, u4, pO, u8, pN, pK, pJ, pH, pG, pF, pE, pI, pD, pL, pM, pC, pB, u9, pA, bA, hp', hlx]
          refine nM (x := .nils) Own.nils hls hF' (by omega) (by decide) (by simp; omega) (by simp; omega) (fun x1 H1 l1 f1 ho1 hf1 hkb1 hlb1 => ?_)
          have hp1 := hkb1 _ _ hp' (fun _ _ _ e => by cases e)
          have hx1' : Own H1 x 1 (li.map aE) := hx'.mono2 fun lab hl => by
            obtain ⟨o, ho⟩ := Option.ne_none_iff_exists'.1 (hx'.labn hl)
            rw [ho]; exact hkb1 _ _ ho (fun _ _ _ e => by cases e)
          simp (disch := omega) only [vsb, aE, reduceIte, AV.cells, putL, aC, Nat.reduceAdd, Nat.reduceDiv, Nat.reduceMod, AV.one, Nat.reduceLeDiff, Nat.reduceEqDiff, vL, jR, lT, DD, q3, q0, V20, vF, vE, q9, u6, u7, u5, u3, uZ, qE, qD, qC, qA, p9, oZ, p8, p7, oY, p6, pZ, pY, qB, pX, o0, pW, pV, pU, pT, pS, oX, pR, pQ, uY, pP, u4, pO, u8, pN, pK, pJ, pH, pG, pF, pE, pI, pD, pL, pM, pC, pB, u9, pA, bA, hp1, hlx]
          refine nat_lo (n := n + 1) (by omega) (RS hx1' (by simp; omega) (fun y2 hy2 => ?_))
          obtain ⟨ls2, hls2⟩ := hy2 H1 (fun _ _ => rfl)
          refine nM ho1 hls2 hf1 (by omega) (by decide) (by simp; omega) (by simp; omega) (fun x3 H3 l3 f3 ho3 hf3 _ _ => ?_)
          simp (disch := omega) only [vsb, aE, reduceIte, AV.cells, putL, aC, Nat.reduceAdd, Nat.reduceDiv, Nat.reduceMod, AV.one, Nat.reduceLeDiff, Nat.reduceEqDiff, vL, jR, lT, DD, q3, q0, V20, vF, vE, q9, u6, u7, u5, u3, uZ, qE, qD, qC, qA, p9, oZ, p8, p7, oY, p6, pZ, pY, qB, pX, o0, pW, pV, pU, pT, pS, oX, pR, pQ, uY, pP, u4, pO, u8, pN, pK, pJ, pH, pG, pF, pE, pI, pD, pL, pM, pC, pB, u9, pA, bA]
          have hdl := BL (l := li) (i := n) (by omega)
          have e3 : [] ++ (li.map aE).take n ++ (li.map aE).drop (n + 1) = (vG li n).map aE := by simp [vG, List.map_take, List.map_drop]
          rw [e3] at ho3
          exact w7 (A.length - (i + 1)) (by omega) ⟨i + 1, x3, vG li n, rfl, by omega, rfl, ho3, hf3.mono (by omega), by omega, hap⟩
        · have e := bad (FN (by omega))
          rw [e]
          repeat' (first | (simp (disch := omega) only [vsb, aE, reduceIte, AV.cells, putL, aC, Nat.reduceAdd, Nat.reduceDiv, Nat.reduceMod, AV.one, Nat.reduceLeDiff, Nat.reduceEqDiff, vL, jR, lT, DD, q3, q0, V20, vF, vE, q9, u6, u7, u5, u3, uZ, qE, qD, qC, qA, p9, oZ, p8, p7, oY, p6, pZ, pY, qB, pX, o0, pW, pV, pU, pT, pS, oX, pR, pQ, uY, pP, u4, pO, u8, pN, pK, pJ, pH, pG, pF, pE, pI, pD, pL, pM, pC, pB, u9, pA, bA, hp', hlx]) | (refine aY (fun _ => ?_) (fun _ => ?_)) | (refine jN (fun _ => ?_) (fun _ => ?_)) | (exfalso; omega; done))
          all_goals exact xT (c := 0) (by decide)
      · have e := bad (FN (by omega))
        rw [e]
        repeat' (first | (simp (disch := omega) only [vsb, aE, reduceIte, AV.cells, putL, aC, Nat.reduceAdd, Nat.reduceDiv, Nat.reduceMod, AV.one, Nat.reduceLeDiff, Nat.reduceEqDiff, vL, jR, lT, DD, q3, q0, V20, vF, vE, q9, u6, u7, u5, u3, uZ, qE, qD, qC, qA, p9, oZ, p8, p7, oY, p6, pZ, pY, qB, pX, o0, pW, pV, pU, pT, pS, oX, pR, pQ, uY, pP, u4, pO, u8, pN, pK, pJ, pH, pG, pF, pE, pI, pD, pL, pM, pC, pB, u9, pA, bA, hp', hlx]) | (refine aY (fun _ => ?_) (fun _ => ?_)) | (refine jN (fun _ => ?_) (fun _ => ?_)) | (exfalso; omega; done))
        all_goals exact xT (c := 0) (by decide)
  · obtain rfl : i = A.length := by omega
    rw [hap, List.drop_length, gH]
    exact ⟨.inr rfl, .tuple [x, .bool true], by simp [j1, iV, nA, bE], Fr.two (.of_own hx j7) (.refl _)⟩
end Go.Proofs.Ytbngfbpegdcpkaa
/-! The document's answer for layer 18: words. -/
namespace Go.Proofs.Ytbngfbpegdcpkaa
set_option linter.unusedVariables false
set_option linter.unusedSimpArgs false
set_option maxRecDepth 100000
theorem DJ (l : List Int) (a : Int) : lV Try.prog 29 [il l, .int .i64 a] (.int .i64 (aR l.length a)) := by
  refine cP Try.mixed ok29 rfl (fun q => ?_)
  simp only [params, Nat.zero_add, Nat.reduceAdd]
  repeat' (first | (simp (disch := omega) only [vsb, aE, reduceIte, AV.cells, putL, aC, Nat.reduceAdd, Nat.reduceDiv, Nat.reduceMod, AV.one, Nat.reduceLeDiff, Nat.reduceEqDiff, res29, vt29, V29]) | (refine aY (fun _ => ?_) (fun _ => ?_)) | (refine jN (fun _ => ?_) (fun _ => ?_)) | (refine cF (fun _ => ?_) (fun _ => ?_)) | (refine bI (fun _ => ?_) (fun _ => ?_)) | (refine And.intro (aV rfl) ?_) | (refine cG (fun _ => ?_) ?_) | (exfalso; omega; done))
  rw [NH]
  exact vp1 rfl
theorem BX {c : Int} (h : -9223372036854775808 ≤ c) : lV Try.prog 39 [.int .i64 c] (.bool (FD c)) := by
  rw [← let_eq h]; exact letR_pure c
/-- how far one goes on -/
theorem LI {b : Bool} {l : List Int} {a i : Nat} (hi : i ≤ l.length) (ha : a ≤ i) (hk : ∀ k, a ≤ k → k < i → qY b (nth l k) = false) (he : i = l.length ∨ qY b (nth l i) = true) : a + m7 b (l.drop a) = i := by
  have hn : ∀ k, nth (l.drop a) k = nth l (a + k) := fun k => by
    unfold nth; simp [List.getD_eq_getElem?_getD]
  rcases Nat.lt_or_ge i l.length with h | h
  · have h1 : qY b (nth l i) = true := he.resolve_left (by omega)
    have := OQ (p := fun c => !qY b c) (l := l.drop a) (i := i - a) (by simp; omega) (fun k hk' => by rw [hn]; simp [hk (a + k) (by omega) (by omega)]) (by rw [hn, show a + (i - a) = i by omega]; simp [h1])
    unfold m7; omega
  · have := LH (p := fun c => !qY b c) (l := l.drop a) (fun k hk' => by
      rw [List.length_drop] at hk'
      rw [hn]; simp [hk (a + k) (by omega) (by omega)])
    unfold m7; rw [this, List.length_drop]; omega
theorem D4 (l : List Int) (hl : l.length ≤ 1000000000) (hI : ∀ k, k < l.length → -9223372036854775808 ≤ nth l k) (a : Int) : lV Try.prog 23 [il l, .int .i64 a, .bool false] (.int .i64 (cH l (aR l.length a))) := by
  refine cP Try.mixed aAk rfl (fun q => ?_)
  simp only [params, Nat.zero_add, Nat.reduceAdd]
  rw [sZ]
  unfold V23
  refine aO (DJ l a) ?_
  have hle := @cA l.length a
  generalize aR l.length a = a0 at hle ⊢
  simp (disch := omega) only [vsb, aE, reduceIte, AV.cells, putL, aC, Nat.reduceAdd, Nat.reduceDiv, Nat.reduceMod, AV.one, Nat.reduceLeDiff, Nat.reduceEqDiff, oV, bP, bO, cO, cN, bN, bM, cM, cL, sZ, lQ, lL, lP, lK, lO, lJ, lN, lI, V23, oL, oH, oK, oG, oJ, oF, oI, oE, oA, n9, n8, n5, nZ, n7, nY, nX, nW, nV, kT, kS, kU, kR, kQ, kP, kO, kM, kL, kN, kK, kJ, kI, kH, kD, kC, kF, kB, kA, j9, j8]
  refine qH (fun n r H c => ∃ i : Nat, r = [(0, il l), (1, .int .i64 i)] ∧ H = (fun _ => none) ∧ a0 ≤ i ∧ i ≤ l.length ∧ n = l.length - i ∧ ∀ k, a0 ≤ k → k < i → qY false (nth l k) = false) (l.length - a0) ⟨a0, rfl, rfl, Nat.le_refl _, hle, rfl, fun k h1 h2 => by omega⟩ ?_
  rintro n r H c ⟨i, rfl, rfl, hi0, hi, rfl, hk⟩
  simp (disch := omega) only [vsb, aE, reduceIte, AV.cells, putL, aC, Nat.reduceAdd, Nat.reduceDiv, Nat.reduceMod, AV.one, Nat.reduceLeDiff, Nat.reduceEqDiff, oV, bP, bO, cO, cN, bN, bM, cM, cL, sZ, lQ, lL, lP, lK, lO, lJ, lN, lI, V23, oL, oH, oK, oG, oJ, oF, oI, oE, oA, n9, n8, n5, nZ, n7, nY, nX, nW, nV, kT, kS, kU, kR, kQ, kP, kO, kM, kL, kN, kK, kJ, kI, kH, kD, kC, kF, kB, kA, j9, j8]
  -- the second loop, from where the first one ends
  have two : ∀ c, a0 + m7 false (l.drop a0) = i → vc Try.prog q RX (PJ Try.prog q (VP [.tmp 6] (.int .i64 (cH l a0)))) [(0, il l), (1, .int .i64 i)] (fun _ => none) c := by
    intro c hs
    refine qH (fun n r H c => ∃ j : Nat, r = [(0, il l), (1, .int .i64 j)] ∧ H = (fun _ => none) ∧ i ≤ j ∧ j ≤ l.length ∧ n = l.length - j ∧ ∀ k, i ≤ k → k < j → qY true (nth l k) = false) (l.length - i) ⟨i, rfl, rfl, Nat.le_refl _, hi, rfl, fun k h1 h2 => by omega⟩ ?_
    rintro n r H c ⟨j, rfl, rfl, hj0, hj, rfl, hk2⟩
    simp (disch := omega) only [vsb, aE, reduceIte, AV.cells, putL, aC, Nat.reduceAdd, Nat.reduceDiv, Nat.reduceMod, AV.one, Nat.reduceLeDiff, Nat.reduceEqDiff, oV, bP, bO, cO, cN, bN, bM, cM, cL, sZ, lQ, lL, lP, lK, lO, lJ, lN, lI, V23, oL, oH, oK, oG, oJ, oF, oI, oE, oA, n9, n8, n5, nZ, n7, nY, nX, nW, nV, kT, kS, kU, kR, kQ, kP, kO, kM, kL, kN, kK, kJ, kI, kH, kD, kC, kF, kB, kA, j9, j8]
    have fin : (j = l.length ∨ qY true (nth l j) = true) → cH l a0 = j := fun he => by
      unfold cH
      rw [hs]
      exact LI hj hj0 hk2 he
    refine aY (fun hlt => ?_) (fun hge => ?_)
    · simp (disch := omega) only [vsb, aE, reduceIte, AV.cells, putL, aC, Nat.reduceAdd, Nat.reduceDiv, Nat.reduceMod, AV.one, Nat.reduceLeDiff, Nat.reduceEqDiff, oV, bP, bO, cO, cN, bN, bM, cM, cL, sZ, lQ, lL, lP, lK, lO, lJ, lN, lI, V23, oL, oH, oK, oG, oJ, oF, oI, oE, oA, n9, n8, n5, nZ, n7, nY, nX, nW, nV, kT, kS, kU, kR, kQ, kP, kO, kM, kL, kN, kK, kJ, kI, kH, kD, kC, kF, kB, kA, j9, j8]
      refine aO (BX (hI j (by omega))) ?_
      cases hb : FD (nth l j)
      · simp (disch := omega) only [vsb, aE, reduceIte, AV.cells, putL, aC, Nat.reduceAdd, Nat.reduceDiv, Nat.reduceMod, AV.one, Nat.reduceLeDiff, Nat.reduceEqDiff, oV, bP, bO, cO, cN, bN, bM, cM, cL, sZ, lQ, lL, lP, lK, lO, lJ, lN, lI, V23, oL, oH, oK, oG, oJ, oF, oI, oE, oA, n9, n8, n5, nZ, n7, nY, nX, nW, nV, kT, kS, kU, kR, kQ, kP, kO, kM, kL, kN, kK, kJ, kI, kH, kD, kC, kF, kB, kA, j9, j8]
        rw [fin (.inr (by simp [qY, hb]))]
        exact vp1 rfl
      · simp (disch := omega) only [vsb, aE, reduceIte, AV.cells, putL, aC, Nat.reduceAdd, Nat.reduceDiv, Nat.reduceMod, AV.one, Nat.reduceLeDiff, Nat.reduceEqDiff, oV, bP, bO, cO, cN, bN, bM, cM, cL, sZ, lQ, lL, lP, lK, lO, lJ, lN, lI, V23, oL, oH, oK, oG, oJ, oF, oI, oE, oA, n9, n8, n5, nZ, n7, nY, nX, nW, nV, kT, kS, kU, kR, kQ, kP, kO, kM, kL, kN, kK, kJ, kI, kH, kD, kC, kF, kB, kA, j9, j8]
        refine w7 (l.length - (j + 1)) (by omega) ⟨j + 1, rfl, rfl, by omega, by omega, rfl, fun k h1 h2 => ?_⟩
        rcases Nat.lt_or_ge k j with h3 | h3
        · exact hk2 k h1 h3
        · rw [show k = j by omega]; simp [qY, hb]
    · simp (disch := omega) only [vsb, aE, reduceIte, AV.cells, putL, aC, Nat.reduceAdd, Nat.reduceDiv, Nat.reduceMod, AV.one, Nat.reduceLeDiff, Nat.reduceEqDiff, oV, bP, bO, cO, cN, bN, bM, cM, cL, sZ, lQ, lL, lP, lK, lO, lJ, lN, lI, V23, oL, oH, oK, oG, oJ, oF, oI, oE, oA, n9, n8, n5, nZ, n7, nY, nX, nW, nV, kT, kS, kU, kR, kQ, kP, kO, kM, kL, kN, kK, kJ, kI, kH, kD, kC, kF, kB, kA, j9, j8]
      rw [fin (.inl (by omega))]
      exact vp1 rfl
  refine aY (fun hlt => ?_) (fun hge => ?_)
  · simp (disch := omega) only [vsb, aE, reduceIte, AV.cells, putL, aC, Nat.reduceAdd, Nat.reduceDiv, Nat.reduceMod, AV.one, Nat.reduceLeDiff, Nat.reduceEqDiff, oV, bP, bO, cO, cN, bN, bM, cM, cL, sZ, lQ, lL, lP, lK, lO, lJ, lN, lI, V23, oL, oH, oK, oG, oJ, oF, oI, oE, oA, n9, n8, n5, nZ, n7, nY, nX, nW, nV, kT, kS, kU, kR, kQ, kP, kO, kM, kL, kN, kK, kJ, kI, kH, kD, kC, kF, kB, kA, j9, j8]
    refine aO (BX (hI i (by omega))) ?_
    cases hb : FD (nth l i)
    · simp (disch := omega) only [vsb, aE, reduceIte, AV.cells, putL, aC, Nat.reduceAdd, Nat.reduceDiv, Nat.reduceMod, AV.one, Nat.reduceLeDiff, Nat.reduceEqDiff, oV, bP, bO, cO, cN, bN, bM, cM, cL, sZ, lQ, lL, lP, lK, lO, lJ, lN, lI, V23, oL, oH, oK, oG, oJ, oF, oI, oE, oA, n9, n8, n5, nZ, n7, nY, nX, nW, nV, kT, kS, kU, kR, kQ, kP, kO, kM, kL, kN, kK, kJ, kI, kH, kD, kC, kF, kB, kA, j9, j8]
      refine w7 (l.length - (i + 1)) (by omega) ⟨i + 1, rfl, rfl, by omega, by omega, rfl, fun k h1 h2 => ?_⟩
      rcases Nat.lt_or_ge k i with h3 | h3
      · exact hk k h1 h3
      · rw [show k = i by omega]; simp [qY, hb]
    · simp (disch := omega) only [vsb, aE, reduceIte, AV.cells, putL, aC, Nat.reduceAdd, Nat.reduceDiv, Nat.reduceMod, AV.one, Nat.reduceLeDiff, Nat.reduceEqDiff, oV, bP, bO, cO, cN, bN, bM, cM, cL, sZ, lQ, lL, lP, lK, lO, lJ, lN, lI, V23, oL, oH, oK, oG, oJ, oF, oI, oE, oA, n9, n8, n5, nZ, n7, nY, nX, nW, nV, kT, kS, kU, kR, kQ, kP, kO, kM, kL, kN, kK, kJ, kI, kH, kD, kC, kF, kB, kA, j9, j8]
      exact two _ (LI hi hi0 hk (.inr (by simp [qY, hb])))
  · simp (disch := omega) only [vsb, aE, reduceIte, AV.cells, putL, aC, Nat.reduceAdd, Nat.reduceDiv, Nat.reduceMod, AV.one, Nat.reduceLeDiff, Nat.reduceEqDiff, oV, bP, bO, cO, cN, bN, bM, cM, cL, sZ, lQ, lL, lP, lK, lO, lJ, lN, lI, V23, oL, oH, oK, oG, oJ, oF, oI, oE, oA, n9, n8, n5, nZ, n7, nY, nX, nW, nV, kT, kS, kU, kR, kQ, kP, kO, kM, kL, kN, kK, kJ, kI, kH, kD, kC, kF, kB, kA, j9, j8]
    exact two _ (LI hi hi0 hk (.inl (by omega)))
/-- how far one goes back -/
theorem E2 {b : Bool} {l : List Int} {a i : Nat} (ha : a ≤ l.length) (hi : i ≤ a) (hk : ∀ k, i ≤ k → k < a → qY b (nth l k) = false) (he : i = 0 ∨ qY b (nth l (i - 1)) = true) : m7 b (l.take a).reverse = a - i := by
  have hlen : (l.take a).reverse.length = a := by simp; omega
  have hn : ∀ k, k < a → nth (l.take a).reverse k = nth l (a - 1 - k) := fun k hk => by
    rw [PM (by simp; omega)]
    unfold nth
    simp only [List.getD_eq_getElem?_getD, List.length_take]
    rw [List.getElem?_take_of_lt (by omega)]
    congr 2; omega
  rcases Nat.eq_zero_or_pos i with h | h
  · subst h
    have := LH (p := fun c => !qY b c) (l := (l.take a).reverse) (fun k hk' => by
      rw [hlen] at hk'
      rw [hn k hk']; simp [hk (a - 1 - k) (by omega) (by omega)])
    unfold m7; rw [this, hlen]; omega
  · have h1 : qY b (nth l (i - 1)) = true := he.resolve_left (by omega)
    have := OQ (p := fun c => !qY b c) (l := (l.take a).reverse) (i := a - i) (by omega) (fun k hk' => by rw [hn k (by omega)]; simp [hk (a - 1 - k) (by omega) (by omega)]) (by rw [hn (a - i) (by omega), show a - 1 - (a - i) = i - 1 by omega]; simp [h1])
    unfold m7; omega
theorem tL (l : List Int) (hl : l.length ≤ 1000000000) (hI : ∀ k, k < l.length → -9223372036854775808 ≤ nth l k) (a : Int) : lV Try.prog 23 [il l, .int .i64 a, .bool true] (.int .i64 (bK l (aR l.length a))) := by
  refine cP Try.mixed aAk rfl (fun q => ?_)
  simp only [params, Nat.zero_add, Nat.reduceAdd]
  rw [sZ]
  unfold V23
  refine aO (DJ l a) ?_
  have hle := @cA l.length a
  generalize aR l.length a = a0 at hle ⊢
  simp (disch := omega) only [vsb, aE, reduceIte, AV.cells, putL, aC, Nat.reduceAdd, Nat.reduceDiv, Nat.reduceMod, AV.one, Nat.reduceLeDiff, Nat.reduceEqDiff, oV, bP, bO, cO, cN, bN, bM, cM, cL, sZ, lQ, lL, lP, lK, lO, lJ, lN, lI, V23, oL, oH, oK, oG, oJ, oF, oI, oE, oA, n9, n8, n5, nZ, n7, nY, nX, nW, nV, kT, kS, kU, kR, kQ, kP, kO, kM, kL, kN, kK, kJ, kI, kH, kD, kC, kF, kB, kA, j9, j8]
  refine qH (fun n r H c => ∃ i : Nat, r = [(0, il l), (1, .int .i64 i)] ∧ H = (fun _ => none) ∧ i ≤ a0 ∧ n = i ∧ ∀ k, i ≤ k → k < a0 → qY false (nth l k) = false) a0 ⟨a0, rfl, rfl, Nat.le_refl _, rfl, fun k h1 h2 => by omega⟩ ?_
  rintro n r H c ⟨i, rfl, rfl, hi, rfl, hk⟩
  simp (disch := omega) only [vsb, aE, reduceIte, AV.cells, putL, aC, Nat.reduceAdd, Nat.reduceDiv, Nat.reduceMod, AV.one, Nat.reduceLeDiff, Nat.reduceEqDiff, oV, bP, bO, cO, cN, bN, bM, cM, cL, sZ, lQ, lL, lP, lK, lO, lJ, lN, lI, V23, oL, oH, oK, oG, oJ, oF, oI, oE, oA, n9, n8, n5, nZ, n7, nY, nX, nW, nV, kT, kS, kU, kR, kQ, kP, kO, kM, kL, kN, kK, kJ, kI, kH, kD, kC, kF, kB, kA, j9, j8]
  have two : ∀ rr c, restrict rr [0, 1] = [(0, il l), (1, .int .i64 n)] → m7 false (l.take a0).reverse = a0 - n → vc Try.prog q RY (PK Try.prog q (qG (vc Try.prog q MG (VP [.tmp 6] (.int .i64 (bK l a0)))) (VP [.tmp 6] (.int .i64 (bK l a0))))) rr (fun _ => none) c := by
    intro rr c hrr hs
    refine qH (fun m r H c => ∃ j : Nat, r = [(0, il l), (1, .int .i64 j)] ∧ H = (fun _ => none) ∧ j ≤ n ∧ m = j ∧ ∀ k, j ≤ k → k < n → qY true (nth l k) = false) n ⟨n, hrr, rfl, Nat.le_refl _, rfl, fun k h1 h2 => by omega⟩ ?_
    rintro m r H c ⟨j, rfl, rfl, hj, rfl, hk2⟩
    simp (disch := omega) only [vsb, aE, reduceIte, AV.cells, putL, aC, Nat.reduceAdd, Nat.reduceDiv, Nat.reduceMod, AV.one, Nat.reduceLeDiff, Nat.reduceEqDiff, oV, bP, bO, cO, cN, bN, bM, cM, cL, sZ, lQ, lL, lP, lK, lO, lJ, lN, lI, V23, oL, oH, oK, oG, oJ, oF, oI, oE, oA, n9, n8, n5, nZ, n7, nY, nX, nW, nV, kT, kS, kU, kR, kQ, kP, kO, kM, kL, kN, kK, kJ, kI, kH, kD, kC, kF, kB, kA, j9, j8]
    have fin : (m = 0 ∨ qY true (nth l (m - 1)) = true) → bK l a0 = m := fun he => by
      unfold bK cH
      rw [List.drop_zero, Nat.zero_add, hs, List.drop_reverse]
      have hlt : (l.take a0).length = a0 := by simp; omega
      rw [hlt, List.take_take, show a0 - (a0 - n) = n by omega, Nat.min_eq_left hi]
      rw [E2 (by omega) hj hk2 he]
      omega
    refine aY (fun hlt => ?_) (fun hge => ?_)
    · simp (disch := omega) only [vsb, aE, reduceIte, AV.cells, putL, aC, Nat.reduceAdd, Nat.reduceDiv, Nat.reduceMod, AV.one, Nat.reduceLeDiff, Nat.reduceEqDiff, oV, bP, bO, cO, cN, bN, bM, cM, cL, sZ, lQ, lL, lP, lK, lO, lJ, lN, lI, V23, oL, oH, oK, oG, oJ, oF, oI, oE, oA, n9, n8, n5, nZ, n7, nY, nX, nW, nV, kT, kS, kU, kR, kQ, kP, kO, kM, kL, kN, kK, kJ, kI, kH, kD, kC, kF, kB, kA, j9, j8]
      have e1 : ((m : Int) - 1).toNat = m - 1 := by omega
      rw [e1]
      refine aO (BX (hI (m - 1) (by omega))) ?_
      cases hb : FD (nth l (m - 1))
      · simp (disch := omega) only [vsb, aE, reduceIte, AV.cells, putL, aC, Nat.reduceAdd, Nat.reduceDiv, Nat.reduceMod, AV.one, Nat.reduceLeDiff, Nat.reduceEqDiff, oV, bP, bO, cO, cN, bN, bM, cM, cL, sZ, lQ, lL, lP, lK, lO, lJ, lN, lI, V23, oL, oH, oK, oG, oJ, oF, oI, oE, oA, n9, n8, n5, nZ, n7, nY, nX, nW, nV, kT, kS, kU, kR, kQ, kP, kO, kM, kL, kN, kK, kJ, kI, kH, kD, kC, kF, kB, kA, j9, j8]
        rw [fin (.inr (by simp [qY, hb]))]
        exact vp1 (c := 0) rfl
      · simp (disch := omega) only [vsb, aE, reduceIte, AV.cells, putL, aC, Nat.reduceAdd, Nat.reduceDiv, Nat.reduceMod, AV.one, Nat.reduceLeDiff, Nat.reduceEqDiff, oV, bP, bO, cO, cN, bN, bM, cM, cL, sZ, lQ, lL, lP, lK, lO, lJ, lN, lI, V23, oL, oH, oK, oG, oJ, oF, oI, oE, oA, n9, n8, n5, nZ, n7, nY, nX, nW, nV, kT, kS, kU, kR, kQ, kP, kO, kM, kL, kN, kK, kJ, kI, kH, kD, kC, kF, kB, kA, j9, j8]
        refine w7 (m - 1) (by omega) ⟨m - 1, by simp [restrict, bE, show ((m - 1 : Nat) : Int) = (m : Int) - 1 by omega], rfl, by omega, rfl, fun k h1 h2 => ?_⟩
        rcases Nat.lt_or_ge k m with h3 | h3
        · rw [show k = m - 1 by omega]; simp [qY, hb]
        · exact hk2 k h3 h2
    · simp (disch := omega) only [vsb, aE, reduceIte, AV.cells, putL, aC, Nat.reduceAdd, Nat.reduceDiv, Nat.reduceMod, AV.one, Nat.reduceLeDiff, Nat.reduceEqDiff, oV, bP, bO, cO, cN, bN, bM, cM, cL, sZ, lQ, lL, lP, lK, lO, lJ, lN, lI, V23, oL, oH, oK, oG, oJ, oF, oI, oE, oA, n9, n8, n5, nZ, n7, nY, nX, nW, nV, kT, kS, kU, kR, kQ, kP, kO, kM, kL, kN, kK, kJ, kI, kH, kD, kC, kF, kB, kA, j9, j8]
      rw [fin (.inl (by omega))]
      exact vp1 (c := 0) rfl
  refine aY (fun hlt => ?_) (fun hge => ?_)
  · simp (disch := omega) only [vsb, aE, reduceIte, AV.cells, putL, aC, Nat.reduceAdd, Nat.reduceDiv, Nat.reduceMod, AV.one, Nat.reduceLeDiff, Nat.reduceEqDiff, oV, bP, bO, cO, cN, bN, bM, cM, cL, sZ, lQ, lL, lP, lK, lO, lJ, lN, lI, V23, oL, oH, oK, oG, oJ, oF, oI, oE, oA, n9, n8, n5, nZ, n7, nY, nX, nW, nV, kT, kS, kU, kR, kQ, kP, kO, kM, kL, kN, kK, kJ, kI, kH, kD, kC, kF, kB, kA, j9, j8]
    have e1 : ((n : Int) - 1).toNat = n - 1 := by omega
    rw [e1]
    refine aO (BX (hI (n - 1) (by omega))) ?_
    cases hb : FD (nth l (n - 1))
    · simp (disch := omega) only [vsb, aE, reduceIte, AV.cells, putL, aC, Nat.reduceAdd, Nat.reduceDiv, Nat.reduceMod, AV.one, Nat.reduceLeDiff, Nat.reduceEqDiff, oV, bP, bO, cO, cN, bN, bM, cM, cL, sZ, lQ, lL, lP, lK, lO, lJ, lN, lI, V23, oL, oH, oK, oG, oJ, oF, oI, oE, oA, n9, n8, n5, nZ, n7, nY, nX, nW, nV, kT, kS, kU, kR, kQ, kP, kO, kM, kL, kN, kK, kJ, kI, kH, kD, kC, kF, kB, kA, j9, j8]
      refine w7 (n - 1) (by omega) ⟨n - 1, by simp [restrict, bE, show ((n - 1 : Nat) : Int) = (n : Int) - 1 by omega], rfl, by omega, rfl, fun k h1 h2 => ?_⟩
      rcases Nat.lt_or_ge k n with h3 | h3
      · rw [show k = n - 1 by omega]; simp [qY, hb]
      · exact hk k h3 h2
    · simp (disch := omega) only [vsb, aE, reduceIte, AV.cells, putL, aC, Nat.reduceAdd, Nat.reduceDiv, Nat.reduceMod, AV.one, Nat.reduceLeDiff, Nat.reduceEqDiff, oV, bP, bO, cO, cN, bN, bM, cM, cL, sZ, lQ, lL, lP, lK, lO, lJ, lN, lI, V23, oL, oH, oK, oG, oJ, oF, oI, oE, oA, n9, n8, n5, nZ, n7, nY, nX, nW, nV, kT, kS, kU, kR, kQ, kP, kO, kM, kL, kN, kK, kJ, kI, kH, kD, kC, kF, kB, kA, j9, j8]
      exact two _ _ rfl (E2 (by omega) hi hk (.inr (by simp [qY, hb])))
  · simp (disch := omega) only [vsb, aE, reduceIte, AV.cells, putL, aC, Nat.reduceAdd, Nat.reduceDiv, Nat.reduceMod, AV.one, Nat.reduceLeDiff, Nat.reduceEqDiff, oV, bP, bO, cO, cN, bN, bM, cM, cL, sZ, lQ, lL, lP, lK, lO, lJ, lN, lI, V23, oL, oH, oK, oG, oJ, oF, oI, oE, oA, n9, n8, n5, nZ, n7, nY, nX, nW, nV, kT, kS, kU, kR, kQ, kP, kO, kM, kL, kN, kK, kJ, kI, kH, kD, kC, kF, kB, kA, j9, j8]
    exact two _ _ rfl (E2 (by omega) hi hk (.inl (by omega)))
end Go.Proofs.Ytbngfbpegdcpkaa
/-! What is owed of functions of the program, as formulas. -/
namespace Go.Proofs.Ytbngfbpegdcpkaa
set_option maxRecDepth 100000
set_option linter.unusedVariables false
set_option linter.unusedSimpArgs false
/-- duet/duetlaw18.EditDoes -/
def c3 : AFun := ⟨2, 59, [.tmp 4],
  (.seq (.region [⟨(some 2), none, .box, [.t 0]⟩, ⟨(some 3), none, .box, [.t 1]⟩, ⟨(some 4), none, .move, [.c (.bool false)]⟩] none [2, 3])
  (.seq (.seq (.region [⟨(some 10), none, (.load 3 true), [.t 2]⟩, ⟨(some 11), none, .call, [.c (.fn (.func 10) [] []), .t 10]⟩, ⟨(some 12), none, (.un .not), [.t 11]⟩] none [2, 3, 12])
  (.cond (.t 12) (.seq (.region [⟨(some 13), none, .call, [.c (.fn (.func 11) [] [])]⟩, ⟨(some 4), none, .move, [.t 13]⟩] none [4])
  .ret)
  .skip))
  (.seq (.region [⟨(some 14), none, (.fieldAddr 1), [.t 2]⟩, ⟨(some 15), none, (.load 1 false), [.t 14]⟩, ⟨(some 16), none, (.build [.nils, (.int .i64 0), .nils] [(1, 1)]), [.t 15]⟩, ⟨(some 5), none, (.alloc [.nils, (.int .i64 0), .nils]), []⟩, ⟨none, none, (.store 3), [.t 5, .t 16]⟩] none [2, 3, 5])
  (.seq (.region [⟨(some 17), none, (.fieldAddr 0), [.t 5]⟩, ⟨(some 18), none, (.load 1 false), [.t 17]⟩, ⟨(some 19), none, (.fieldAddr 0), [.t 2]⟩, ⟨(some 20), none, (.load 1 false), [.t 19]⟩, ⟨(some 21), none, (.append 1 8), [.t 18, .t 20]⟩, ⟨(some 22), none, (.fieldAddr 0), [.t 5]⟩, ⟨none, none, (.store 1), [.t 22, .t 21]⟩] none [2, 3, 5])
  (.seq (.region [⟨(some 23), none, (.fieldAddr 2), [.t 5]⟩, ⟨(some 24), none, (.load 1 false), [.t 23]⟩, ⟨(some 25), none, (.fieldAddr 2), [.t 2]⟩, ⟨(some 26), none, (.load 1 false), [.t 25]⟩, ⟨(some 27), none, (.append 1 8), [.t 24, .t 26]⟩, ⟨(some 28), none, (.fieldAddr 2), [.t 5]⟩, ⟨none, none, (.store 1), [.t 28, .t 27]⟩] none [2, 3, 5])
  (.seq (.region [⟨(some 30), none, (.load 3 true), [.t 5]⟩, ⟨(some 31), none, (.load 2 true), [.t 3]⟩, ⟨(some 32), none, .call, [.c (.fn (.func 13) [] []), .t 31]⟩, ⟨(some 33), none, .call, [.c (.fn (.func 12) [] []), .t 30, .t 32]⟩, ⟨(some 29), none, .move, [.t 33]⟩, ⟨(some 34), none, (.extract 0), [.t 29]⟩, ⟨(some 35), none, (.extract 1), [.t 29]⟩, ⟨(some 6), none, (.alloc [.nils, (.int .i64 0), .nils]), []⟩, ⟨none, none, (.store 3), [.t 6, .t 34]⟩, ⟨(some 7), none, .move, [.t 35]⟩] (some [0, 0, 2, 7, 15, 31, 31, 0, 191, 511]) [2, 3, 5, 6, 7])
  (.seq (.region [⟨(some 37), none, (.load 3 true), [.t 2]⟩, ⟨(some 38), none, (.load 2 true), [.t 3]⟩, ⟨(some 39), none, .call, [.c (.fn (.func 14) [] []), .t 37, .t 38]⟩, ⟨(some 36), none, .move, [.t 39]⟩, ⟨(some 40), none, (.extract 0), [.t 36]⟩, ⟨(some 41), none, (.extract 1), [.t 36]⟩, ⟨(some 8), none, (.alloc [.nils, (.int .i64 0), .nils]), []⟩, ⟨none, none, (.store 3), [.t 8, .t 40]⟩, ⟨(some 9), none, .move, [.t 41]⟩] none [2, 5, 6, 7, 8, 9])
  (.seq (.region [⟨(some 42), none, (.load 3 true), [.t 6]⟩, ⟨(some 43), none, (.load 3 true), [.t 8]⟩, ⟨(some 44), none, .call, [.c (.fn (.func 15) [] []), .t 42, .t 43]⟩, ⟨(some 45), none, .move, [.t 44]⟩, ⟨(some 46), (some (45, true)), .move, [.t 7]⟩, ⟨(some 47), (some (45, true)), .call, [.c (.fn (.func 17) [] []), .t 46]⟩, ⟨(some 48), (some (45, true)), .move, [.t 9]⟩, ⟨(some 49), (some (45, true)), .call, [.c (.fn (.func 16) [] []), .t 47, .t 48]⟩, ⟨(some 50), none, .pick, [.t 45, .t 49, .c (.bool false)]⟩, ⟨(some 51), none, .move, [.t 50]⟩, ⟨(some 52), (some (51, true)), (.load 3 true), [.t 5]⟩, ⟨(some 53), (some (51, true)), (.load 3 true), [.t 2]⟩, ⟨(some 54), (some (51, true)), .call, [.c (.fn (.func 15) [] []), .t 52, .t 53]⟩, ⟨(some 55), none, .pick, [.t 51, .t 54, .c (.bool false)]⟩, ⟨(some 56), none, .move, [.t 55]⟩, ⟨(some 57), (some (56, true)), .call, [.c (.fn (.func 11) [] [])]⟩, ⟨(some 58), none, .pick, [.t 56, .t 57, .c (.bool false)]⟩, ⟨(some 4), none, .move, [.t 58]⟩] none [4])
  .ret))))))))⟩
theorem ok3 : FunOk Try.prog 3 c3 := ⟨⟨Try.f3, _, Try.func3, rfl, by kernel_rfl, by kernel_rfl, by kernel_rfl, by kernel_rfl⟩, by decide⟩
theorem D9 : c3.res = [.tmp 4] := rfl
def DV (P : Program) (p : Lab) (Q : aA) (y4 : AV) (H : aB) (c : Nat) : Prop :=
  Q .ret [(4, y4)] H c
def DU (P : Program) (p : Lab) (Q : aA) (c : Nat) (v13_6 : AV) (H6 : aB) (l6 : List Lab) (f6 : Option (List Lab)) : Prop :=
  (DV P p Q v13_6 H6 (c + 8))
def DT (P : Program) (p : Lab) (Q : aA) (H4 : aB) (c : Nat) (_ : Unit) : Prop :=
  aN true P 11 [] H4 ((c + 6) :: p) (DU P p Q c)
def DP (P : Program) (p : Lab) (Q : aA) (y4 : AV) (H : aB) (c : Nat) : Prop :=
  Q .ret [(4, y4)] H c
def DN (P : Program) (p : Lab) (Q : aA) (c : Nat) (v57_61 : AV) (H61 : aB) (l61 : List Lab) (f61 : Option (List Lab)) : Prop :=
  (DP P p Q v57_61 H61 (c + 5))
def DM (P : Program) (p : Lab) (Q : aA) (H : aB) (c : Nat) (_ : Unit) : Prop :=
  aN false P 11 [] H ((c + 2) :: p) (DN P p Q c)
def BF (P : Program) (p : Lab) (Q : aA)  (H : aB) (c : Nat) : Prop :=
  Q .ret [(4, (.bool false))] H c
def uX (P : Program) (p : Lab) (Q : aA) (H : aB) (c : Nat) (_ : Unit) : Prop :=
  (BF P p Q  H (c + 5))
def DQ (P : Program) (p : Lab) (Q : aA) (y54 : AV) (H : aB) (c : Nat) : Prop :=
  aL y54
  (DM P p Q H c)
  (uX P p Q H c)
def uW (P : Program) (p : Lab) (Q : aA) (c : Nat) (v54_58 : AV) (H58 : aB) (l58 : List Lab) (f58 : Option (List Lab)) : Prop :=
  (DQ P p Q v54_58 H58 (c + 5))
def uV (P : Program) (p : Lab) (Q : aA) (y2 : AV) (y5 : AV) (H : aB) (c : Nat) (_ : Unit) : Prop :=
  aF 3 true y5 H fun v52_56 _ =>
  aF 3 true y2 H fun v53_57 _ =>
  aN false P 15 [v52_56, v53_57] H ((c + 4) :: p) (uW P p Q c)
def uU (P : Program) (p : Lab) (Q : aA)  (H : aB) (c : Nat) : Prop :=
  (BF P p Q  H (c + 5))
def uT (P : Program) (p : Lab) (Q : aA) (H : aB) (c : Nat) (_ : Unit) : Prop :=
  (uU P p Q  H (c + 5))
def DR (P : Program) (p : Lab) (Q : aA) (y2 : AV) (y5 : AV) (y49 : AV) (H : aB) (c : Nat) : Prop :=
  aL y49
  (uV P p Q y2 y5 H c)
  (uT P p Q H c)
def uS (P : Program) (p : Lab) (Q : aA) (y2 : AV) (c : Nat) (v49_53 : AV) (H53 : aB) (l53 : List Lab) (f53 : Option (List Lab)) : Prop :=
  (DR P p Q y2 (.ptr ((c + 3) :: p) 3 0 0) v49_53 H53 (c + 46))
def uR (P : Program) (p : Lab) (Q : aA) (v41_42 : AV) (y2 : AV) (c : Nat) (v47_51 : AV) (H51 : aB) (l51 : List Lab) (f51 : Option (List Lab)) : Prop :=
  aN false P 16 [v47_51, v41_42] H51 ((c + 45) :: p) (uS P p Q y2 c)
def uQ (P : Program) (p : Lab) (Q : aA) (H48 : aB) (v41_42 : AV) (v35_33 : AV) (y2 : AV) (c : Nat) (_ : Unit) : Prop :=
  aN false P 17 [v35_33] H48 ((c + 43) :: p) (uR P p Q v41_42 y2 c)
def uO (P : Program) (p : Lab) (Q : aA)  (H : aB) (c : Nat) : Prop :=
  (BF P p Q  H (c + 5))
def uP (P : Program) (p : Lab) (Q : aA) (y2 : AV) (y5 : AV) (H : aB) (c : Nat) : Prop :=
  (uO P p Q  H (c + 5))
def uN (P : Program) (p : Lab) (Q : aA) (H48 : aB) (y2 : AV) (c : Nat) (_ : Unit) : Prop :=
  (uP P p Q y2 (.ptr ((c + 3) :: p) 3 0 0) H48 (c + 46))
def uM (P : Program) (p : Lab) (Q : aA) (v41_42 : AV) (v35_33 : AV) (y2 : AV) (c : Nat) (v44_48 : AV) (H48 : aB) (l48 : List Lab) (f48 : Option (List Lab)) : Prop :=
  aL v44_48
  (uQ P p Q H48 v41_42 v35_33 y2 c)
  (uN P p Q H48 y2 c)
def uL (P : Program) (p : Lab) (Q : aA) (v41_42 : AV) (v35_33 : AV) (y2 : AV) (c : Nat) (v_44 : AV) (H44 : aB) (l44 : List Lab) (f44 : Option (List Lab)) : Prop :=
  aF 3 true (.ptr ((c + 26) :: p) 3 0 0) H44 fun v42_46 _ =>
  aF 3 true (.ptr ((c + 35) :: p) 3 0 0) H44 fun v43_47 _ =>
  aN true P 15 [v42_46, v43_47] H44 ((c + 40) :: p) (uM P p Q v41_42 v35_33 y2 c)
def uK (P : Program) (p : Lab) (Q : aA) (v35_33 : AV) (y2 : AV) (c : Nat) (v39_39 : AV) (H39 : aB) (l39 : List Lab) (f39 : Option (List Lab)) : Prop :=
  qX 0 v39_39 fun v40_41 =>
  qX 1 v39_39 fun v41_42 =>
  (fun (H43 : aB) =>
  aM (.store 3) [(.ptr ((c + 35) :: p) 3 0 0), v40_41] H43 ((c + 36) :: p) (uL P p Q v41_42 v35_33 y2 c)) (upd [(((c + 35) :: p), some (.rows 3 [[.nils, (.int .i64 0), .nils]]))] H39)
def uJ (P : Program) (p : Lab) (Q : aA) (v35_33 : AV) (l30 : List Lab) (f30 : Option (List Lab)) (l29 : List Lab) (f29 : Option (List Lab)) (f28 : Option (List Lab)) (f27 : Option (List Lab)) (y2 : AV) (y3 : AV) (c : Nat) (v_35 : AV) (H35 : aB) (l35 : List Lab) (f35 : Option (List Lab)) : Prop :=
  aI [0, 0, 2, 7, 15, 31, 31, 0, 191, 511] (aH 0 [] ((c + 19) :: p) f27 (aH 1 [] ((c + 20) :: p) f28 (aH 2 l29 ((c + 21) :: p) f29 (aH 3 l30 ((c + 22) :: p) f30 (aH 7 [((c + 26) :: p)] ((c + 26) :: p) (some []) (aH 8 l35 ((c + 27) :: p) f35 [])))))) ∧
  aF 3 true y2 H35 fun v37_37 _ =>
  aF 2 true y3 H35 fun v38_38 _ =>
  aN true P 14 [v37_37, v38_38] H35 ((c + 31) :: p) (uK P p Q v35_33 y2 c)
def uI (P : Program) (p : Lab) (Q : aA) (l29 : List Lab) (f29 : Option (List Lab)) (f28 : Option (List Lab)) (f27 : Option (List Lab)) (y2 : AV) (y3 : AV) (c : Nat) (v33_30 : AV) (H30 : aB) (l30 : List Lab) (f30 : Option (List Lab)) : Prop :=
  qX 0 v33_30 fun v34_32 =>
  qX 1 v33_30 fun v35_33 =>
  (fun (H34 : aB) =>
  aM (.store 3) [(.ptr ((c + 26) :: p) 3 0 0), v34_32] H34 ((c + 27) :: p) (uJ P p Q v35_33 l30 f30 l29 f29 f28 f27 y2 y3 c)) (upd [(((c + 26) :: p), some (.rows 3 [[.nils, (.int .i64 0), .nils]]))] H30)
def sV (P : Program) (p : Lab) (Q : aA) (f28 : Option (List Lab)) (v30_27 : AV) (f27 : Option (List Lab)) (y2 : AV) (y3 : AV) (c : Nat) (v32_29 : AV) (H29 : aB) (l29 : List Lab) (f29 : Option (List Lab)) : Prop :=
  aN false P 12 [v30_27, v32_29] H29 ((c + 22) :: p) (uI P p Q l29 f29 f28 f27 y2 y3 c)
def uH (P : Program) (p : Lab) (Q : aA) (y2 : AV) (y3 : AV) (c : Nat) (v_26 : AV) (H26 : aB) (l26 : List Lab) (f26 : Option (List Lab)) : Prop :=
  aF 3 true (.ptr ((c + 3) :: p) 3 0 0) H26 fun v30_27 f27 =>
  aF 2 true y3 H26 fun v31_28 f28 =>
  aN false P 13 [v31_28] H26 ((c + 21) :: p) (sV P p Q f28 v30_27 f27 y2 y3 c)
def uG (P : Program) (p : Lab) (Q : aA) (y2 : AV) (y3 : AV) (c : Nat) (v27_24 : AV) (H24 : aB) (l24 : List Lab) (f24 : Option (List Lab)) : Prop :=
  vFA 2 (.ptr ((c + 3) :: p) 3 0 0) fun v28_25 =>
  aM (.store 1) [v28_25, v27_24] H24 ((c + 18) :: p) (uH P p Q y2 y3 c)
def uF (P : Program) (p : Lab) (Q : aA) (y2 : AV) (y3 : AV) (c : Nat) (v_19 : AV) (H19 : aB) (l19 : List Lab) (f19 : Option (List Lab)) : Prop :=
  vFA 2 (.ptr ((c + 3) :: p) 3 0 0) fun v23_20 =>
  aF 1 false v23_20 H19 fun v24_21 _ =>
  vFA 2 y2 fun v25_22 =>
  aF 1 false v25_22 H19 fun v26_23 _ =>
  aM (.append 1 8) [v24_21, v26_23] H19 ((c + 16) :: p) (uG P p Q y2 y3 c)
def uE (P : Program) (p : Lab) (Q : aA) (y2 : AV) (y3 : AV) (c : Nat) (v21_17 : AV) (H17 : aB) (l17 : List Lab) (f17 : Option (List Lab)) : Prop :=
  vFA 0 (.ptr ((c + 3) :: p) 3 0 0) fun v22_18 =>
  aM (.store 1) [v22_18, v21_17] H17 ((c + 11) :: p) (uF P p Q y2 y3 c)
def uD (P : Program) (p : Lab) (Q : aA) (y2 : AV) (y3 : AV) (c : Nat) (v_12 : AV) (H12 : aB) (l12 : List Lab) (f12 : Option (List Lab)) : Prop :=
  vFA 0 (.ptr ((c + 3) :: p) 3 0 0) fun v17_13 =>
  aF 1 false v17_13 H12 fun v18_14 _ =>
  vFA 0 y2 fun v19_15 =>
  aF 1 false v19_15 H12 fun v20_16 _ =>
  aM (.append 1 8) [v18_14, v20_16] H12 ((c + 9) :: p) (uE P p Q y2 y3 c)
def DS (P : Program) (p : Lab) (Q : aA) (y2 : AV) (y3 : AV) (y12 : AV) (H : aB) (c : Nat) : Prop :=
  vFA 1 y2 fun v14_8 =>
  aF 1 false v14_8 H fun v15_9 _ =>
  gB [.nils, (.int .i64 0), .nils] [(1, 1)] [v15_9] fun v16_10 =>
  (fun (H11 : aB) =>
  aM (.store 3) [(.ptr ((c + 3) :: p) 3 0 0), v16_10] H11 ((c + 4) :: p) (uD P p Q y2 y3 c)) (upd [(((c + 3) :: p), some (.rows 3 [[.nils, (.int .i64 0), .nils]]))] H)
def uC (P : Program) (p : Lab) (Q : aA) (v12_5 : AV) (H4 : aB) (w1 : List AV) (w0 : List AV) (c : Nat) (_ : Unit) : Prop :=
  (DS P p Q (.ptr (c :: p) w0.length 0 0) (.ptr ((c + 1) :: p) w1.length 0 0) v12_5 H4 (c + 6))
def uB (P : Program) (p : Lab) (Q : aA) (w1 : List AV) (w0 : List AV) (c : Nat) (v11_4 : AV) (H4 : aB) (l4 : List Lab) (f4 : Option (List Lab)) : Prop :=
  xU v11_4 fun v12_5 =>
  aL v12_5
  (DT P p Q H4 c)
  (uC P p Q v12_5 H4 w1 w0 c)
def V3 (P : Program) (p : Lab) (Q : aA) (x0 x1 : AV) (H : aB) (c : Nat) : Prop :=
  zI x0 fun w0 =>
  (fun (H0 : aB) =>
  zI x1 fun w1 =>
  (fun (H1 : aB) =>
  aF 3 true (.ptr (c :: p) w0.length 0 0) H1 fun v10_3 _ =>
  aN true P 10 [v10_3] H1 ((c + 4) :: p) (uB P p Q w1 w0 c)) (upd [(((c + 1) :: p), some (.rows w1.length [w1]))] H0)) (upd [((c :: p), some (.rows w0.length [w0]))] H)
theorem vt3 (P : Program) (p : Lab) (Q : aA) (x0 x1 : AV) (H : aB) (c : Nat) : vc P p c3.body Q [(0, x0), (1, x1)] H c = V3 P p Q x0 x1 H c := by kernel_rfl


/-- duet/duetlaw18.EditApplies -/
def c4 : AFun := ⟨1, 63, [.tmp 2],
  (.seq (.region [⟨(some 1), none, .box, [.t 0]⟩, ⟨(some 2), none, .move, [.c (.bool false)]⟩] none [1])
  (.seq (.region [⟨(some 11), none, (.fieldAddr 0), [.t 1]⟩, ⟨(some 12), none, (.load 1 false), [.t 11]⟩, ⟨(some 13), none, (.fieldAddr 1), [.t 1]⟩, ⟨(some 14), none, (.load 1 false), [.t 13]⟩, ⟨(some 15), none, (.fieldAddr 2), [.t 1]⟩, ⟨(some 16), none, (.load 1 false), [.t 15]⟩, ⟨(some 17), none, (.fieldAddr 3), [.t 1]⟩, ⟨(some 18), none, (.load 1 false), [.t 17]⟩, ⟨(some 3), none, .move, [.t 12]⟩, ⟨(some 4), none, .move, [.t 14]⟩, ⟨(some 5), none, .move, [.t 16]⟩, ⟨(some 6), none, .move, [.t 18]⟩] (some [0, 1, 0, 4, 0, 16, 0, 64, 3, 271, 831, 2047]) [3, 4, 5, 6])
  (.seq (.seq (.region [⟨(some 19), none, .move, [.t 3]⟩, ⟨(some 20), none, (.len .slice), [.t 19]⟩, ⟨(some 21), none, (.bin .gtr .num), [.t 20, .c (.int .i64 300)]⟩, ⟨(some 22), none, .move, [.t 21]⟩, ⟨(some 23), (some (22, false)), .move, [.t 4]⟩, ⟨(some 24), (some (22, false)), (.len .slice), [.t 23]⟩, ⟨(some 25), (some (22, false)), (.bin .gtr .num), [.t 24, .c (.int .i64 60)]⟩, ⟨(some 26), none, .pick, [.t 22, .c (.bool true), .t 25]⟩] none [3, 4, 5, 6, 26])
  (.cond (.t 26) (.seq (.region [⟨(some 27), none, .call, [.c (.fn (.func 11) [] [])]⟩, ⟨(some 2), none, .move, [.t 27]⟩] none [2])
  .ret)
  .skip))
  (.seq (.region [⟨(some 29), none, .move, [.t 3]⟩, ⟨(some 30), none, .move, [.t 4]⟩, ⟨(some 31), none, .call, [.c (.fn (.func 19) [] []), .t 30]⟩, ⟨(some 32), none, .call, [.c (.fn (.func 18) [] []), .t 29, .t 31]⟩, ⟨(some 28), none, .move, [.t 32]⟩, ⟨(some 33), none, (.extract 0), [.t 28]⟩, ⟨(some 34), none, (.extract 1), [.t 28]⟩, ⟨(some 7), none, .move, [.t 33]⟩, ⟨(some 8), none, .move, [.t 34]⟩] none [3, 4, 5, 6, 7, 8])
  (.seq (.region [⟨(some 36), none, .move, [.t 3]⟩, ⟨(some 37), none, .move, [.t 4]⟩, ⟨(some 38), none, .call, [.c (.fn (.func 20) [] []), .t 36, .t 37]⟩, ⟨(some 35), none, .move, [.t 38]⟩, ⟨(some 39), none, (.extract 0), [.t 35]⟩, ⟨(some 40), none, (.extract 1), [.t 35]⟩, ⟨(some 9), none, .move, [.t 39]⟩, ⟨(some 10), none, .move, [.t 40]⟩] none [3, 5, 6, 7, 8, 9, 10])
  (.seq (.region [⟨(some 41), none, .move, [.t 7]⟩, ⟨(some 42), none, .move, [.t 9]⟩, ⟨(some 43), none, .call, [.c (.fn (.func 21) [] []), .t 41, .t 42]⟩, ⟨(some 44), none, .move, [.t 43]⟩, ⟨(some 45), (some (44, true)), .move, [.t 8]⟩, ⟨(some 46), (some (44, true)), .move, [.t 10]⟩, ⟨(some 47), (some (44, true)), (.bin .eql .bool), [.t 45, .t 46]⟩, ⟨(some 48), none, .pick, [.t 44, .t 47, .c (.bool false)]⟩, ⟨(some 49), none, .move, [.t 48]⟩, ⟨(some 50), (some (49, true)), .move, [.t 3]⟩, ⟨(some 51), (some (49, true)), .move, [.t 5]⟩, ⟨(some 52), (some (49, true)), .move, [.t 6]⟩, ⟨(some 53), (some (49, true)), .call, [.c (.fn (.func 22) [] []), .t 50, .t 51, .t 52]⟩, ⟨(some 54), (some (49, true)), .move, [.t 3]⟩, ⟨(some 55), (some (49, true)), .move, [.t 5]⟩, ⟨(some 56), (some (49, true)), .move, [.t 6]⟩, ⟨(some 57), (some (49, true)), .call, [.c (.fn (.func 23) [] []), .t 54, .t 55, .t 56]⟩, ⟨(some 58), (some (49, true)), (.bin .eql .num), [.t 53, .t 57]⟩, ⟨(some 59), none, .pick, [.t 49, .t 58, .c (.bool false)]⟩, ⟨(some 60), none, .move, [.t 59]⟩, ⟨(some 61), (some (60, true)), .call, [.c (.fn (.func 11) [] [])]⟩, ⟨(some 62), none, .pick, [.t 60, .t 61, .c (.bool false)]⟩, ⟨(some 2), none, .move, [.t 62]⟩] none [2])
  .ret))))))⟩
theorem ok4 : FunOk Try.prog 4 c4 := ⟨⟨Try.f4, _, Try.func4, rfl, by kernel_rfl, by kernel_rfl, by kernel_rfl, by kernel_rfl⟩, by decide⟩
theorem E6 : c4.res = [.tmp 2] := rfl
def EP (P : Program) (p : Lab) (Q : aA) (y3 : AV) (y4 : AV) (y5 : AV) (y6 : AV) (H : aB) (c : Nat) : Prop :=
  aN true P 11 [] H (c :: p) (fun v27_19 H19 l19 f19 =>
  Q .ret [(2, v27_19)] H19 (c + 2))
def EO (P : Program) (p : Lab) (Q : aA) (v18_9 : AV) (v16_7 : AV) (v14_5 : AV) (v12_3 : AV) (H0 : aB) (c : Nat) (_ : Unit) : Prop :=
  (EP P p Q v12_3 v14_5 v16_7 v18_9 H0 (c + 22))
def EM (P : Program) (p : Lab) (Q : aA) (y2 : AV) (H : aB) (c : Nat) : Prop :=
  Q .ret [(2, y2)] H c
def EL (P : Program) (p : Lab) (Q : aA) (c : Nat) (v27_25 : AV) (H25 : aB) (l25 : List Lab) (f25 : Option (List Lab)) : Prop :=
  (EM P p Q v27_25 H25 (c + 2))
def EK (P : Program) (p : Lab) (Q : aA) (H : aB) (c : Nat) (_ : Unit) : Prop :=
  aN true P 11 [] H (c :: p) (EL P p Q c)
def EG (P : Program) (p : Lab) (Q : aA) (y2 : AV) (H : aB) (c : Nat) : Prop :=
  Q .ret [(2, y2)] H c
def v8 (P : Program) (p : Lab) (Q : aA) (c : Nat) (v61_64 : AV) (H64 : aB) (l64 : List Lab) (f64 : Option (List Lab)) : Prop :=
  (EG P p Q v61_64 H64 (c + 5))
def v7 (P : Program) (p : Lab) (Q : aA) (H : aB) (c : Nat) (_ : Unit) : Prop :=
  aN false P 11 [] H ((c + 2) :: p) (v8 P p Q c)
def sU (P : Program) (p : Lab) (Q : aA)  (H : aB) (c : Nat) : Prop :=
  Q .ret [(2, (.bool false))] H c
def v6 (P : Program) (p : Lab) (Q : aA) (H : aB) (c : Nat) (_ : Unit) : Prop :=
  (sU P p Q  H (c + 5))
def EH (P : Program) (p : Lab) (Q : aA) (y58 : AV) (H : aB) (c : Nat) : Prop :=
  aL y58
  (v7 P p Q H c)
  (v6 P p Q H c)
def v5 (P : Program) (p : Lab) (Q : aA) (v53_56 : AV) (c : Nat) (v57_60 : AV) (H60 : aB) (l60 : List Lab) (f60 : Option (List Lab)) : Prop :=
  aJ .eql .num v53_56 v57_60 fun v58_61 =>
  (EH P p Q v58_61 H60 (c + 11))
def v4 (P : Program) (p : Lab) (Q : aA) (y3 : AV) (y5 : AV) (y6 : AV) (c : Nat) (v53_56 : AV) (H56 : aB) (l56 : List Lab) (f56 : Option (List Lab)) : Prop :=
  aN false P 23 [y3, y5, y6] H56 ((c + 9) :: p) (v5 P p Q v53_56 c)
def v3 (P : Program) (p : Lab) (Q : aA) (y3 : AV) (y5 : AV) (y6 : AV) (H : aB) (c : Nat) (_ : Unit) : Prop :=
  aN false P 22 [y3, y5, y6] H ((c + 5) :: p) (v4 P p Q y3 y5 y6 c)
def vZ (P : Program) (p : Lab) (Q : aA)  (H : aB) (c : Nat) : Prop :=
  (sU P p Q  H (c + 5))
def vY (P : Program) (p : Lab) (Q : aA) (H : aB) (c : Nat) (_ : Unit) : Prop :=
  (vZ P p Q  H (c + 11))
def EI (P : Program) (p : Lab) (Q : aA) (y3 : AV) (y5 : AV) (y6 : AV) (y47 : AV) (H : aB) (c : Nat) : Prop :=
  aL y47
  (v3 P p Q y3 y5 y6 H c)
  (vY P p Q H c)
def vX (P : Program) (p : Lab) (Q : aA) (H46 : aB) (v40_41 : AV) (v34_33 : AV) (y3 : AV) (y5 : AV) (y6 : AV) (c : Nat) (_ : Unit) : Prop :=
  aJ .eql .bool v34_33 v40_41 fun v47_50 =>
  (EI P p Q y3 y5 y6 v47_50 H46 (c + 24))
def vV (P : Program) (p : Lab) (Q : aA)  (H : aB) (c : Nat) : Prop :=
  (sU P p Q  H (c + 5))
def vW (P : Program) (p : Lab) (Q : aA) (y3 : AV) (y5 : AV) (y6 : AV) (H : aB) (c : Nat) : Prop :=
  (vV P p Q  H (c + 11))
def vU (P : Program) (p : Lab) (Q : aA) (H46 : aB) (y3 : AV) (y5 : AV) (y6 : AV) (c : Nat) (_ : Unit) : Prop :=
  (vW P p Q y3 y5 y6 H46 (c + 24))
def vT (P : Program) (p : Lab) (Q : aA) (v40_41 : AV) (v34_33 : AV) (y3 : AV) (y5 : AV) (y6 : AV) (c : Nat) (v43_46 : AV) (H46 : aB) (l46 : List Lab) (f46 : Option (List Lab)) : Prop :=
  aL v43_46
  (vX P p Q H46 v40_41 v34_33 y3 y5 y6 c)
  (vU P p Q H46 y3 y5 y6 c)
def vS (P : Program) (p : Lab) (Q : aA) (v34_33 : AV) (v33_32 : AV) (y3 : AV) (y5 : AV) (y6 : AV) (c : Nat) (v38_38 : AV) (H38 : aB) (l38 : List Lab) (f38 : Option (List Lab)) : Prop :=
  qX 0 v38_38 fun v39_40 =>
  qX 1 v38_38 fun v40_41 =>
  aN true P 21 [v33_32, v39_40] H38 ((c + 19) :: p) (vT P p Q v40_41 v34_33 y3 y5 y6 c)
def vR (P : Program) (p : Lab) (Q : aA) (y3 : AV) (y4 : AV) (y5 : AV) (y6 : AV) (c : Nat) (v32_30 : AV) (H30 : aB) (l30 : List Lab) (f30 : Option (List Lab)) : Prop :=
  qX 0 v32_30 fun v33_32 =>
  qX 1 v32_30 fun v34_33 =>
  aN true P 20 [y3, y4] H30 ((c + 11) :: p) (vS P p Q v34_33 v33_32 y3 y5 y6 c)
def vQ (P : Program) (p : Lab) (Q : aA) (y3 : AV) (y4 : AV) (y5 : AV) (y6 : AV) (c : Nat) (v31_29 : AV) (H29 : aB) (l29 : List Lab) (f29 : Option (List Lab)) : Prop :=
  aN true P 18 [y3, v31_29] H29 ((c + 3) :: p) (vR P p Q y3 y4 y5 y6 c)
def EJ (P : Program) (p : Lab) (Q : aA) (y3 : AV) (y4 : AV) (y5 : AV) (y6 : AV) (y26 : AV) (H : aB) (c : Nat) : Prop :=
  aN true P 19 [y4] H ((c + 2) :: p) (vQ P p Q y3 y4 y5 y6 c)
def vP (P : Program) (p : Lab) (Q : aA) (y3 : AV) (y4 : AV) (y5 : AV) (y6 : AV) (y26 : AV) (H : aB) (c : Nat) (_ : Unit) : Prop :=
  (EJ P p Q y3 y4 y5 y6 y26 H c)
def EN (P : Program) (p : Lab) (Q : aA) (y3 : AV) (y4 : AV) (y5 : AV) (y6 : AV) (y26 : AV) (H : aB) (c : Nat) : Prop :=
  aL y26
  (EK P p Q H c)
  (vP P p Q y3 y4 y5 y6 y26 H c)
def vO (P : Program) (p : Lab) (Q : aA) (v18_9 : AV) (v16_7 : AV) (v14_5 : AV) (v12_3 : AV) (H0 : aB) (c : Nat) (_ : Unit) : Prop :=
  cS v14_5 fun v24_22 =>
  aJ .gtr .num v24_22 (.int .i64 60) fun v25_23 =>
  (EN P p Q v12_3 v14_5 v16_7 v18_9 v25_23 H0 (c + 22))
def V4 (P : Program) (p : Lab) (Q : aA) (x0 : AV) (H : aB) (c : Nat) : Prop :=
  zI x0 fun w0 =>
  (fun (H0 : aB) =>
  vFA 0 (.ptr (c :: p) w0.length 0 0) fun v11_2 =>
  aF 1 false v11_2 H0 fun v12_3 f3 =>
  vFA 1 (.ptr (c :: p) w0.length 0 0) fun v13_4 =>
  aF 1 false v13_4 H0 fun v14_5 f5 =>
  vFA 2 (.ptr (c :: p) w0.length 0 0) fun v15_6 =>
  aF 1 false v15_6 H0 fun v16_7 f7 =>
  vFA 3 (.ptr (c :: p) w0.length 0 0) fun v17_8 =>
  aF 1 false v17_8 H0 fun v18_9 f9 =>
  aI [0, 1, 0, 4, 0, 16, 0, 64, 3, 271, 831, 2047] (aH 1 [] ((c + 3) :: p) f3 (aH 3 [] ((c + 5) :: p) f5 (aH 5 [] ((c + 7) :: p) f7 (aH 7 [] ((c + 9) :: p) f9 [])))) ∧
  cS v12_3 fun v20_15 =>
  aJ .gtr .num v20_15 (.int .i64 300) fun v21_16 =>
  aL v21_16
  (EO P p Q v18_9 v16_7 v14_5 v12_3 H0 c)
  (vO P p Q v18_9 v16_7 v14_5 v12_3 H0 c)) (upd [((c :: p), some (.rows w0.length [w0]))] H)
theorem vt4 (P : Program) (p : Lab) (Q : aA) (x0 : AV) (H : aB) (c : Nat) : vc P p c4.body Q [(0, x0)] H c = V4 P p Q x0 H c := by kernel_rfl


/-- duet/duetlaw18.same -/
def c15 : AFun := ⟨2, 24, [.tmp 4],
  (.seq (.region [⟨(some 2), none, .box, [.t 0]⟩, ⟨(some 3), none, .box, [.t 1]⟩, ⟨(some 4), none, .move, [.c (.bool false)]⟩] none [2, 3])
  (.seq (.region [⟨(some 5), none, (.fieldAddr 0), [.t 2]⟩, ⟨(some 6), none, (.load 1 false), [.t 5]⟩, ⟨(some 7), none, (.fieldAddr 0), [.t 3]⟩, ⟨(some 8), none, (.load 1 false), [.t 7]⟩, ⟨(some 9), none, .call, [.c (.fn (.func 21) [] []), .t 6, .t 8]⟩, ⟨(some 10), none, .move, [.t 9]⟩, ⟨(some 11), (some (10, true)), (.fieldAddr 1), [.t 2]⟩, ⟨(some 12), (some (10, true)), (.load 1 false), [.t 11]⟩, ⟨(some 13), (some (10, true)), (.fieldAddr 1), [.t 3]⟩, ⟨(some 14), (some (10, true)), (.load 1 false), [.t 13]⟩, ⟨(some 15), (some (10, true)), (.bin .eql .num), [.t 12, .t 14]⟩, ⟨(some 16), none, .pick, [.t 10, .t 15, .c (.bool false)]⟩, ⟨(some 17), none, .move, [.t 16]⟩, ⟨(some 18), (some (17, true)), (.fieldAddr 2), [.t 2]⟩, ⟨(some 19), (some (17, true)), (.load 1 false), [.t 18]⟩, ⟨(some 20), (some (17, true)), (.fieldAddr 2), [.t 3]⟩, ⟨(some 21), (some (17, true)), (.load 1 false), [.t 20]⟩, ⟨(some 22), (some (17, true)), .call, [.c (.fn (.func 21) [] []), .t 19, .t 21]⟩, ⟨(some 23), none, .pick, [.t 17, .t 22, .c (.bool false)]⟩, ⟨(some 4), none, .move, [.t 23]⟩] none [4])
  .ret))⟩
theorem ok15 : FunOk Try.prog 15 c15 := ⟨⟨Try.f15, _, Try.func15, rfl, by kernel_rfl, by kernel_rfl, by kernel_rfl, by kernel_rfl⟩, by decide⟩
theorem OY : c15.res = [.tmp 4] := rfl
def ND (P : Program) (p : Lab) (Q : aA) (y4 : AV) (H : aB) (c : Nat) : Prop :=
  Q .ret [(4, y4)] H c
def NC (P : Program) (p : Lab) (Q : aA) (c : Nat) (v22_20 : AV) (H20 : aB) (l20 : List Lab) (f20 : Option (List Lab)) : Prop :=
  (ND P p Q v22_20 H20 (c + 9))
def NB (P : Program) (p : Lab) (Q : aA) (y2 : AV) (y3 : AV) (H : aB) (c : Nat) (_ : Unit) : Prop :=
  vFA 2 y2 fun v18_16 =>
  aF 1 false v18_16 H fun v19_17 _ =>
  vFA 2 y3 fun v20_18 =>
  aF 1 false v20_18 H fun v21_19 _ =>
  aN false P 21 [v19_17, v21_19] H ((c + 6) :: p) (NC P p Q c)
def KJ (P : Program) (p : Lab) (Q : aA)  (H : aB) (c : Nat) : Prop :=
  Q .ret [(4, (.bool false))] H c
def NA (P : Program) (p : Lab) (Q : aA) (H : aB) (c : Nat) (_ : Unit) : Prop :=
  (KJ P p Q  H (c + 9))
def NE (P : Program) (p : Lab) (Q : aA) (y2 : AV) (y3 : AV) (y15 : AV) (H : aB) (c : Nat) : Prop :=
  aL y15
  (NB P p Q y2 y3 H c)
  (NA P p Q H c)
def M9 (P : Program) (p : Lab) (Q : aA) (H7 : aB) (w1 : List AV) (w0 : List AV) (c : Nat) (_ : Unit) : Prop :=
  vFA 1 (.ptr (c :: p) w0.length 0 0) fun v11_9 =>
  aF 1 false v11_9 H7 fun v12_10 _ =>
  vFA 1 (.ptr ((c + 1) :: p) w1.length 0 0) fun v13_11 =>
  aF 1 false v13_11 H7 fun v14_12 _ =>
  aJ .eql .num v12_10 v14_12 fun v15_13 =>
  (NE P p Q (.ptr (c :: p) w0.length 0 0) (.ptr ((c + 1) :: p) w1.length 0 0) v15_13 H7 (c + 14))
def M8 (P : Program) (p : Lab) (Q : aA) (y2 : AV) (y3 : AV) (H : aB) (c : Nat) : Prop :=
  (KJ P p Q  H (c + 9))
def M7 (P : Program) (p : Lab) (Q : aA) (H7 : aB) (w1 : List AV) (w0 : List AV) (c : Nat) (_ : Unit) : Prop :=
  (M8 P p Q (.ptr (c :: p) w0.length 0 0) (.ptr ((c + 1) :: p) w1.length 0 0) H7 (c + 14))
def M6 (P : Program) (p : Lab) (Q : aA) (w1 : List AV) (w0 : List AV) (c : Nat) (v9_7 : AV) (H7 : aB) (l7 : List Lab) (f7 : Option (List Lab)) : Prop :=
  aL v9_7
  (M9 P p Q H7 w1 w0 c)
  (M7 P p Q H7 w1 w0 c)
def V15 (P : Program) (p : Lab) (Q : aA) (x0 x1 : AV) (H : aB) (c : Nat) : Prop :=
  zI x0 fun w0 =>
  (fun (H0 : aB) =>
  zI x1 fun w1 =>
  (fun (H1 : aB) =>
  vFA 0 (.ptr (c :: p) w0.length 0 0) fun v5_3 =>
  aF 1 false v5_3 H1 fun v6_4 _ =>
  vFA 0 (.ptr ((c + 1) :: p) w1.length 0 0) fun v7_5 =>
  aF 1 false v7_5 H1 fun v8_6 _ =>
  aN true P 21 [v6_4, v8_6] H1 ((c + 7) :: p) (M6 P p Q w1 w0 c)) (upd [(((c + 1) :: p), some (.rows w1.length [w1]))] H0)) (upd [((c :: p), some (.rows w0.length [w0]))] H)
theorem WY (P : Program) (p : Lab) (Q : aA) (x0 x1 : AV) (H : aB) (c : Nat) : vc P p c15.body Q [(0, x0), (1, x1)] H c = V15 P p Q x0 x1 H c := by kernel_rfl

def ZW : ACode := (.seq (.seq (.region [⟨(some 11), none, .move, [.t 5]⟩, ⟨(some 12), none, .move, [.t 0]⟩, ⟨(some 13), none, (.len .slice), [.t 12]⟩, ⟨(some 14), none, (.bin .lss .num), [.t 11, .t 13]⟩] none [0, 1, 5, 14])
  (.cond (.t 14) .skip
  (.exit 0)))
  (.seq (.block 1 (.seq (.region [⟨(some 17), none, .move, [.t 0]⟩, ⟨(some 18), none, .move, [.t 5]⟩, ⟨(some 19), none, (.indexAddr 3), [.t 17, .t 18]⟩, ⟨(some 20), none, (.load 3 true), [.t 19]⟩, ⟨(some 21), none, .move, [.t 1]⟩, ⟨(some 22), none, .move, [.t 5]⟩, ⟨(some 23), none, (.indexAddr 3), [.t 21, .t 22]⟩, ⟨(some 24), none, (.load 3 true), [.t 23]⟩, ⟨(some 25), none, (.eqs .neq [.int, .int, .int]), [.t 20, .t 24]⟩] (some [0, 0, 3, 7, 0, 0, 48, 112, 255]) [0, 1, 5, 25])
  (.cond (.t 25) (.seq (.region [⟨(some 4), none, .move, [.c (.bool false)]⟩] none [4])
  .ret)
  .skip)))
  (.region [⟨(some 15), none, .move, [.t 5]⟩, ⟨(some 16), none, (.bin .add .num), [.t 15, .c (.int .i64 1)]⟩, ⟨(some 5), none, .move, [.t 16]⟩] none [0, 1, 5])))
def X9 : ACode := .loop [0, 1, 5] ZW
def PI : ACode := (.seq (.region [⟨(some 4), none, .move, [.c (.bool true)]⟩] none [4])
  .ret)
/-- duet/duetref18.Same -/
def c16 : AFun := ⟨2, 26, [.tmp 4],
  (.seq (.region [⟨(some 4), none, .move, [.c (.bool false)]⟩] none [0, 1])
  (.seq (.seq (.region [⟨(some 6), none, .move, [.t 0]⟩, ⟨(some 7), none, (.len .slice), [.t 6]⟩, ⟨(some 8), none, .move, [.t 1]⟩, ⟨(some 9), none, (.len .slice), [.t 8]⟩, ⟨(some 10), none, (.bin .neq .num), [.t 7, .t 9]⟩] none [0, 1, 10])
  (.cond (.t 10) (.seq (.region [⟨(some 4), none, .move, [.c (.bool false)]⟩] none [4])
  .ret)
  .skip))
  (.seq (.seq (.region [⟨(some 5), none, .move, [.c (.int .i64 0)]⟩] none [0, 1, 5])
  (.block 0 X9)) PI)))⟩
theorem ok16 : FunOk Try.prog 16 c16 := ⟨⟨Try.f16, _, Try.func16, rfl, by kernel_rfl, by kernel_rfl, by kernel_rfl, by kernel_rfl⟩, by decide⟩
theorem XS : c16.res = [.tmp 4] := rfl
def WH (P : Program) (p : Lab) (Q : aA)  (H : aB) (c : Nat) : Prop :=
  Q .ret [(4, (.bool false))] H c
def WG (P : Program) (p : Lab) (Q : aA) (H : aB) (c : Nat) (_ : Unit) : Prop :=
  (WH P p Q  H (c + 7))
def RR (P : Program) (p : Lab) (Q : aA) : aA := (jO 0 (qG (vc P p PI Q) Q))
theorem JW (P : Program) (p : Lab) (Q : aA) (r : RL) (H : aB) (c : Nat) : RR P p Q .ret r H c = Q .ret r H c := rfl
def WF (P : Program) (p : Lab) (Q : aA) (y0 : AV) (y1 : AV) (y10 : AV) (H : aB) (c : Nat) : Prop :=
  vc P p X9 (RR P p Q) [(0, y0), (1, y1), (5, (.int .i64 0))] H (c + 1)
def WE (P : Program) (p : Lab) (Q : aA) (v10_5 : AV) (x0 : AV) (x1 : AV) (H : aB) (c : Nat) (_ : Unit) : Prop :=
  (WF P p Q x0 x1 v10_5 H (c + 6))
def V16 (P : Program) (p : Lab) (Q : aA) (x0 x1 : AV) (H : aB) (c : Nat) : Prop :=
  cS x0 fun v7_2 =>
  cS x1 fun v9_4 =>
  aJ .neq .num v7_2 v9_4 fun v10_5 =>
  aL v10_5
  (WG P p Q H c)
  (WE P p Q v10_5 x0 x1 H c)
theorem aAi (P : Program) (p : Lab) (Q : aA) (x0 x1 : AV) (H : aB) (c : Nat) : vc P p c16.body Q [(0, x0), (1, x1)] H c = V16 P p Q x0 x1 H c := by kernel_rfl
def WC (P : Program) (p : Lab) (Q : aA)  (H : aB) (c : Nat) : Prop :=
  Q .ret [(4, (.bool false))] H c
def WB (P : Program) (p : Lab) (Q : aA) (H20 : aB) (c : Nat) (_ : Unit) : Prop :=
  (WC P p Q  H20 (c + 10))
def WA (P : Program) (p : Lab) (Q : aA) (y0 : AV) (y1 : AV) (y5 : AV) (y25 : AV) (H : aB) (c : Nat) : Prop :=
  aJ .add .num y5 (.int .i64 1) fun v16_23 =>
  Q .normal [(0, y0), (1, y1), (5, v16_23)] H (c + 3)
def V9 (P : Program) (p : Lab) (Q : aA) (v25_20 : AV) (H20 : aB) (y0 : AV) (y1 : AV) (y5 : AV) (c : Nat) (_ : Unit) : Prop :=
  (WA P p Q y0 y1 y5 v25_20 H20 (c + 9))
def V8 (P : Program) (p : Lab) (Q : aA) (f19 : Option (List Lab)) (f15 : Option (List Lab)) (y0 : AV) (y1 : AV) (y5 : AV) (c : Nat) (v25_20 : AV) (H20 : aB) (l20 : List Lab) (f20 : Option (List Lab)) : Prop :=
  aI [0, 0, 3, 7, 0, 0, 48, 112, 255] (aH 3 [] ((c + 3) :: p) f15 (aH 7 [] ((c + 7) :: p) f19 (aH 8 l20 ((c + 8) :: p) f20 []))) ∧
  aL v25_20
  (WB P p Q H20 c)
  (V9 P p Q v25_20 H20 y0 y1 y5 c)
def WD (P : Program) (p : Lab) (Q : aA) (y0 : AV) (y1 : AV) (y5 : AV) (y14 : AV) (H : aB) (c : Nat) : Prop :=
  vIx 3 y0 y5 fun v19_14 =>
  aF 3 true v19_14 H fun v20_15 f15 =>
  vIx 3 y1 y5 fun v23_18 =>
  aF 3 true v23_18 H fun v24_19 f19 =>
  aM (.eqs .neq [.int, .int, .int]) [v20_15, v24_19] H ((c + 8) :: p) (V8 P p Q f19 f15 y0 y1 y5 c)
def OD (P : Program) (p : Lab) (Q : aA) (v14_11 : AV) (x0 : AV) (x1 : AV) (x5 : AV) (H : aB) (c : Nat) (_ : Unit) : Prop :=
  (WD P p Q x0 x1 x5 v14_11 H (c + 4))
def WR (P : Program) (p : Lab) (Q : aA) (x0 x1 x5 : AV) (H : aB) (c : Nat) : Prop :=
  cS x0 fun v13_10 =>
  aJ .lss .num x5 v13_10 fun v14_11 =>
  aL v14_11
  (OD P p Q v14_11 x0 x1 x5 H c)
  (fun _ =>
  Q (.exit 0) [(0, x0), (1, x1), (5, x5), (14, v14_11)] H (c + 4))
theorem QT (P : Program) (p : Lab) (Q : aA) (x0 x1 x5 : AV) (H : aB) (c : Nat) : vc P p ZW Q [(0, x0), (1, x1), (5, x5)] H c = WR P p Q x0 x1 x5 H c := by kernel_rfl
theorem MI (P : Program) (p : Lab) (Q : aA) (r : RL) (H : aB) (c : Nat) : RR P p Q (.exit 0) r H c = (vc P p PI Q r H c) := rfl
def WQ (P : Program) (p : Lab) (Q : aA) (x0 x1 x5 x14 : AV) (H : aB) (c : Nat) : Prop :=
  Q .ret [(4, (.bool true))] H (c + 1)
theorem QS (P : Program) (p : Lab) (Q : aA) (x0 x1 x5 x14 : AV) (H : aB) (c : Nat) : vc P p PI Q [(0, x0), (1, x1), (5, x5), (14, x14)] H c = WQ P p Q x0 x1 x5 x14 H c := by kernel_rfl

def ZV : ACode := (.seq (.seq (.region [⟨(some 5), none, .move, [.t 4]⟩, ⟨(some 6), none, .move, [.t 0]⟩, ⟨(some 7), none, (.len .slice), [.t 6]⟩, ⟨(some 8), none, (.bin .lss .num), [.t 5, .t 7]⟩] none [0, 3, 4, 8])
  (.cond (.t 8) .skip
  (.exit 0)))
  (.seq (.block 1 (.region [⟨(some 11), none, .move, [.t 3]⟩, ⟨(some 12), none, .move, [.t 0]⟩, ⟨(some 13), none, .move, [.t 4]⟩, ⟨(some 14), none, (.indexAddr 3), [.t 12, .t 13]⟩, ⟨(some 15), none, (.fieldAddr 0), [.t 14]⟩, ⟨(some 16), none, (.load 1 false), [.t 15]⟩, ⟨(some 17), none, .move, [.t 0]⟩, ⟨(some 18), none, .move, [.t 4]⟩, ⟨(some 19), none, (.indexAddr 3), [.t 17, .t 18]⟩, ⟨(some 20), none, (.fieldAddr 1), [.t 19]⟩, ⟨(some 21), none, (.load 1 false), [.t 20]⟩, ⟨(some 22), none, .move, [.t 0]⟩, ⟨(some 23), none, .move, [.t 4]⟩, ⟨(some 24), none, (.indexAddr 3), [.t 22, .t 23]⟩, ⟨(some 25), none, (.fieldAddr 2), [.t 24]⟩, ⟨(some 26), none, (.load 1 false), [.t 25]⟩, ⟨(some 27), none, (.build [(.int .i64 0), (.int .i64 0), (.int .i64 0)] [(0, 1), (1, 1), (2, 1)]), [.t 16, .t 21, .t 26]⟩, ⟨(some 28), none, (.buildSlice 3 [(.int .i64 0), (.int .i64 0), (.int .i64 0)] [(0, 3)]), [.t 27]⟩, ⟨(some 29), none, (.append 3 24), [.t 11, .t 28]⟩, ⟨(some 3), none, .move, [.t 29]⟩] (some [0, 0, 0, 6, 14, 30, 0, 0, 192, 448, 960, 0, 0, 6144, 14336, 30720, 65534, 131070, 262143, 524287]) [0, 3, 4]))
  (.region [⟨(some 9), none, .move, [.t 4]⟩, ⟨(some 10), none, (.bin .add .num), [.t 9, .c (.int .i64 1)]⟩, ⟨(some 4), none, .move, [.t 10]⟩] none [0, 3, 4])))
def X8 : ACode := .loop [0, 3, 4] ZV
def PH : ACode := (.seq (.region [⟨(some 30), none, .move, [.t 3]⟩, ⟨(some 2), none, .move, [.t 30]⟩] none [2])
  .ret)
/-- duet/duetlaw18.Told -/
def c17 : AFun := ⟨1, 31, [.tmp 2],
  (.seq (.region [⟨(some 2), none, .move, [.c .nils]⟩] none [0])
  (.seq (.region [⟨(some 3), none, .move, [.c .nils]⟩] none [0, 3])
  (.seq (.seq (.region [⟨(some 4), none, .move, [.c (.int .i64 0)]⟩] none [0, 3, 4])
  (.block 0 X8)) PH)))⟩
theorem ok17 : FunOk Try.prog 17 c17 := ⟨⟨Try.f17, _, Try.func17, rfl, by kernel_rfl, by kernel_rfl, by kernel_rfl, by kernel_rfl⟩, by decide⟩
theorem OX : c17.res = [.tmp 2] := rfl
def RQ (P : Program) (p : Lab) (Q : aA) : aA := (jO 0 (qG (vc P p PH Q) Q))
theorem B0 (P : Program) (p : Lab) (Q : aA) (r : RL) (H : aB) (c : Nat) : RQ P p Q .ret r H c = Q .ret r H c := rfl
def V17 (P : Program) (p : Lab) (Q : aA) (x0 : AV) (H : aB) (c : Nat) : Prop :=
  vc P p X8 (RQ P p Q) [(0, x0), (3, .nils), (4, (.int .i64 0))] H (c + 3)
theorem WX (P : Program) (p : Lab) (Q : aA) (x0 : AV) (H : aB) (c : Nat) : vc P p c17.body Q [(0, x0)] H c = V17 P p Q x0 H c := by kernel_rfl
def M4 (P : Program) (p : Lab) (Q : aA) (f22 : Option (List Lab)) (f17 : Option (List Lab)) (f12 : Option (List Lab)) (y0 : AV) (y4 : AV) (c : Nat) (v29_25 : AV) (H25 : aB) (l25 : List Lab) (f25 : Option (List Lab)) : Prop :=
  aI [0, 0, 0, 6, 14, 30, 0, 0, 192, 448, 960, 0, 0, 6144, 14336, 30720, 65534, 131070, 262143, 524287] (aH 5 [] ((c + 5) :: p) f12 (aH 10 [] ((c + 10) :: p) f17 (aH 15 [] ((c + 15) :: p) f22 (aH 17 [((c + 17) :: p)] ((c + 17) :: p) (some []) (aH 18 l25 ((c + 18) :: p) f25 []))))) ∧
  aJ .add .num y4 (.int .i64 1) fun v10_28 =>
  Q .normal [(0, y0), (3, v29_25), (4, v10_28)] H25 (c + 23)
def M5 (P : Program) (p : Lab) (Q : aA) (y0 : AV) (y3 : AV) (y4 : AV) (y8 : AV) (H : aB) (c : Nat) : Prop :=
  vIx 3 y0 y4 fun v14_10 =>
  vFA 0 v14_10 fun v15_11 =>
  aF 1 false v15_11 H fun v16_12 f12 =>
  vIx 3 y0 y4 fun v19_15 =>
  vFA 1 v19_15 fun v20_16 =>
  aF 1 false v20_16 H fun v21_17 f17 =>
  vIx 3 y0 y4 fun v24_20 =>
  vFA 2 v24_20 fun v25_21 =>
  aF 1 false v25_21 H fun v26_22 f22 =>
  gB [(.int .i64 0), (.int .i64 0), (.int .i64 0)] [(0, 1), (1, 1), (2, 1)] [v16_12, v21_17, v26_22] fun v27_23 =>
  jP 3 [(.int .i64 0), (.int .i64 0), (.int .i64 0)] [(0, 3)] [v27_23] fun w24 n24 =>
  (fun (H24 : aB) =>
  aM (.append 3 24) [y3, (.sl ((c + 17) :: p) 3 0 n24)] H24 ((c + 18) :: p) (M4 P p Q f22 f17 f12 y0 y4 c)) (upd [(((c + 17) :: p), some (.rows 3 w24))] H)
def M3 (P : Program) (p : Lab) (Q : aA) (v8_6 : AV) (x0 : AV) (x3 : AV) (x4 : AV) (H : aB) (c : Nat) (_ : Unit) : Prop :=
  (M5 P p Q x0 x3 x4 v8_6 H (c + 4))
def N6 (P : Program) (p : Lab) (Q : aA) (x0 x3 x4 : AV) (H : aB) (c : Nat) : Prop :=
  cS x0 fun v7_5 =>
  aJ .lss .num x4 v7_5 fun v8_6 =>
  aL v8_6
  (M3 P p Q v8_6 x0 x3 x4 H c)
  (fun _ =>
  Q (.exit 0) [(0, x0), (3, x3), (4, x4), (8, v8_6)] H (c + 4))
theorem LE (P : Program) (p : Lab) (Q : aA) (x0 x3 x4 : AV) (H : aB) (c : Nat) : vc P p ZV Q [(0, x0), (3, x3), (4, x4)] H c = N6 P p Q x0 x3 x4 H c := by kernel_rfl
theorem EB (P : Program) (p : Lab) (Q : aA) (r : RL) (H : aB) (c : Nat) : RQ P p Q (.exit 0) r H c = (vc P p PH Q r H c) := rfl
def N5 (P : Program) (p : Lab) (Q : aA) (x0 x3 x4 x8 : AV) (H : aB) (c : Nat) : Prop :=
  Q .ret [(2, x3)] H (c + 2)
theorem LD (P : Program) (p : Lab) (Q : aA) (x0 x3 x4 x8 : AV) (H : aB) (c : Nat) : vc P p PH Q [(0, x0), (3, x3), (4, x4), (8, x8)] H c = N5 P p Q x0 x3 x4 x8 H c := by kernel_rfl

def ZT : ACode := (.seq (.seq (.region [⟨(some 5), none, .move, [.t 4]⟩, ⟨(some 6), none, .move, [.t 0]⟩, ⟨(some 7), none, (.len .slice), [.t 6]⟩, ⟨(some 8), none, (.bin .lss .num), [.t 5, .t 7]⟩] none [0, 3, 4, 8])
  (.cond (.t 8) .skip
  (.exit 0)))
  (.seq (.block 1 (.region [⟨(some 11), none, .move, [.t 3]⟩, ⟨(some 12), none, .move, [.t 0]⟩, ⟨(some 13), none, .move, [.t 4]⟩, ⟨(some 14), none, (.indexAddr 3), [.t 12, .t 13]⟩, ⟨(some 15), none, (.fieldAddr 0), [.t 14]⟩, ⟨(some 16), none, (.load 1 false), [.t 15]⟩, ⟨(some 17), none, .move, [.t 0]⟩, ⟨(some 18), none, .move, [.t 4]⟩, ⟨(some 19), none, (.indexAddr 3), [.t 17, .t 18]⟩, ⟨(some 20), none, (.fieldAddr 1), [.t 19]⟩, ⟨(some 21), none, (.load 1 false), [.t 20]⟩, ⟨(some 22), none, .move, [.t 0]⟩, ⟨(some 23), none, .move, [.t 4]⟩, ⟨(some 24), none, (.indexAddr 3), [.t 22, .t 23]⟩, ⟨(some 25), none, (.fieldAddr 2), [.t 24]⟩, ⟨(some 26), none, (.load 1 false), [.t 25]⟩, ⟨(some 27), none, (.build [(.int .i64 0), (.int .i64 0), (.int .i64 0)] [(0, 1), (1, 1), (2, 1)]), [.t 16, .t 21, .t 26]⟩, ⟨(some 28), none, (.buildSlice 3 [(.int .i64 0), (.int .i64 0), (.int .i64 0)] [(0, 3)]), [.t 27]⟩, ⟨(some 29), none, (.append 3 24), [.t 11, .t 28]⟩, ⟨(some 3), none, .move, [.t 29]⟩] (some [0, 0, 0, 6, 14, 30, 0, 0, 192, 448, 960, 0, 0, 6144, 14336, 30720, 65534, 131070, 262143, 524287]) [0, 3, 4]))
  (.region [⟨(some 9), none, .move, [.t 4]⟩, ⟨(some 10), none, (.bin .add .num), [.t 9, .c (.int .i64 1)]⟩, ⟨(some 4), none, .move, [.t 10]⟩] none [0, 3, 4])))
def X6 : ACode := .loop [0, 3, 4] ZT
def PF : ACode := (.seq (.region [⟨(some 30), none, .move, [.t 3]⟩, ⟨(some 2), none, .move, [.t 30]⟩] none [2])
  .ret)
/-- duet/duetlaw18.acts -/
def c19 : AFun := ⟨1, 31, [.tmp 2],
  (.seq (.region [⟨(some 2), none, .move, [.c .nils]⟩] none [0])
  (.seq (.region [⟨(some 3), none, .move, [.c .nils]⟩] none [0, 3])
  (.seq (.seq (.region [⟨(some 4), none, .move, [.c (.int .i64 0)]⟩] none [0, 3, 4])
  (.block 0 X6)) PF)))⟩
theorem ok19 : FunOk Try.prog 19 c19 := ⟨⟨Try.f19, _, Try.func19, rfl, by kernel_rfl, by kernel_rfl, by kernel_rfl, by kernel_rfl⟩, by decide⟩
theorem OW : c19.res = [.tmp 2] := rfl
def RO (P : Program) (p : Lab) (Q : aA) : aA := (jO 0 (qG (vc P p PF Q) Q))
theorem BZ (P : Program) (p : Lab) (Q : aA) (r : RL) (H : aB) (c : Nat) : RO P p Q .ret r H c = Q .ret r H c := rfl
def V19 (P : Program) (p : Lab) (Q : aA) (x0 : AV) (H : aB) (c : Nat) : Prop :=
  vc P p X6 (RO P p Q) [(0, x0), (3, .nils), (4, (.int .i64 0))] H (c + 3)
theorem WW (P : Program) (p : Lab) (Q : aA) (x0 : AV) (H : aB) (c : Nat) : vc P p c19.body Q [(0, x0)] H c = V19 P p Q x0 H c := by kernel_rfl
def M1 (P : Program) (p : Lab) (Q : aA) (f22 : Option (List Lab)) (f17 : Option (List Lab)) (f12 : Option (List Lab)) (y0 : AV) (y4 : AV) (c : Nat) (v29_25 : AV) (H25 : aB) (l25 : List Lab) (f25 : Option (List Lab)) : Prop :=
  aI [0, 0, 0, 6, 14, 30, 0, 0, 192, 448, 960, 0, 0, 6144, 14336, 30720, 65534, 131070, 262143, 524287] (aH 5 [] ((c + 5) :: p) f12 (aH 10 [] ((c + 10) :: p) f17 (aH 15 [] ((c + 15) :: p) f22 (aH 17 [((c + 17) :: p)] ((c + 17) :: p) (some []) (aH 18 l25 ((c + 18) :: p) f25 []))))) ∧
  aJ .add .num y4 (.int .i64 1) fun v10_28 =>
  Q .normal [(0, y0), (3, v29_25), (4, v10_28)] H25 (c + 23)
def M2 (P : Program) (p : Lab) (Q : aA) (y0 : AV) (y3 : AV) (y4 : AV) (y8 : AV) (H : aB) (c : Nat) : Prop :=
  vIx 3 y0 y4 fun v14_10 =>
  vFA 0 v14_10 fun v15_11 =>
  aF 1 false v15_11 H fun v16_12 f12 =>
  vIx 3 y0 y4 fun v19_15 =>
  vFA 1 v19_15 fun v20_16 =>
  aF 1 false v20_16 H fun v21_17 f17 =>
  vIx 3 y0 y4 fun v24_20 =>
  vFA 2 v24_20 fun v25_21 =>
  aF 1 false v25_21 H fun v26_22 f22 =>
  gB [(.int .i64 0), (.int .i64 0), (.int .i64 0)] [(0, 1), (1, 1), (2, 1)] [v16_12, v21_17, v26_22] fun v27_23 =>
  jP 3 [(.int .i64 0), (.int .i64 0), (.int .i64 0)] [(0, 3)] [v27_23] fun w24 n24 =>
  (fun (H24 : aB) =>
  aM (.append 3 24) [y3, (.sl ((c + 17) :: p) 3 0 n24)] H24 ((c + 18) :: p) (M1 P p Q f22 f17 f12 y0 y4 c)) (upd [(((c + 17) :: p), some (.rows 3 w24))] H)
def M0 (P : Program) (p : Lab) (Q : aA) (v8_6 : AV) (x0 : AV) (x3 : AV) (x4 : AV) (H : aB) (c : Nat) (_ : Unit) : Prop :=
  (M2 P p Q x0 x3 x4 v8_6 H (c + 4))
def N4 (P : Program) (p : Lab) (Q : aA) (x0 x3 x4 : AV) (H : aB) (c : Nat) : Prop :=
  cS x0 fun v7_5 =>
  aJ .lss .num x4 v7_5 fun v8_6 =>
  aL v8_6
  (M0 P p Q v8_6 x0 x3 x4 H c)
  (fun _ =>
  Q (.exit 0) [(0, x0), (3, x3), (4, x4), (8, v8_6)] H (c + 4))
theorem LC (P : Program) (p : Lab) (Q : aA) (x0 x3 x4 : AV) (H : aB) (c : Nat) : vc P p ZT Q [(0, x0), (3, x3), (4, x4)] H c = N4 P p Q x0 x3 x4 H c := by kernel_rfl
theorem EA (P : Program) (p : Lab) (Q : aA) (r : RL) (H : aB) (c : Nat) : RO P p Q (.exit 0) r H c = (vc P p PF Q r H c) := rfl
def N3 (P : Program) (p : Lab) (Q : aA) (x0 x3 x4 x8 : AV) (H : aB) (c : Nat) : Prop :=
  Q .ret [(2, x3)] H (c + 2)
theorem LB (P : Program) (p : Lab) (Q : aA) (x0 x3 x4 x8 : AV) (H : aB) (c : Nat) : vc P p PF Q [(0, x0), (3, x3), (4, x4), (8, x8)] H c = N3 P p Q x0 x3 x4 x8 H c := by kernel_rfl



end Go.Proofs.Ytbngfbpegdcpkaa
/-! Acts in the document's terms and in the program's; the law EditApplies. -/
namespace Go.Proofs.Ytbngfbpegdcpkaa
set_option linter.unusedVariables false
set_option linter.unusedSimpArgs false
set_option maxRecDepth 100000
theorem acts_pure (A : List CC) (hA : A.length ≤ 1000000) : lV Try.prog 19 [.isl 3 (A.map bA)] (.isl 3 (A.map bA)) := by
  refine cP Try.mixed ok19 rfl (fun q => ?_)
  simp only [params, Nat.zero_add, Nat.reduceAdd]
  simp (disch := omega) only [vsb, aE, reduceIte, AV.cells, putL, aC, Nat.reduceAdd, Nat.reduceDiv, Nat.reduceMod, AV.one, Nat.reduceLeDiff, Nat.reduceEqDiff, OW, BZ, EA, WW, LC, LB, V19, N4, N3, M1, M2, M0, bA]
  refine qH (fun n r H c => ∃ (i : Nat) (x : AV), r = [(0, .isl 3 (A.map bA)), (3, x), (4, .int .i64 i)] ∧ i ≤ A.length ∧ n = A.length - i ∧ Own H x 3 ((A.take i).map bA) ∧ Fresh q c H) A.length ⟨0, .nils, rfl, Nat.zero_le _, rfl, .nils, .empty⟩ ?_
  rintro n r H c ⟨i, x, rfl, hi, rfl, ho, hf⟩
  repeat' (first | (simp (disch := omega) only [vsb, aE, reduceIte, AV.cells, putL, aC, Nat.reduceAdd, Nat.reduceDiv, Nat.reduceMod, AV.one, Nat.reduceLeDiff, Nat.reduceEqDiff, OW, BZ, EA, WW, LC, LB, V19, N4, N3, M1, M2, M0, bA]) | (refine aY (fun _ => ?_) (fun _ => ?_)) | (refine jN (fun _ => ?_) (fun _ => ?_)) | (refine cF (fun _ => ?_) (fun _ => ?_)) | (refine bI (fun _ => ?_) (fun _ => ?_)) | (refine And.intro (aV rfl) ?_) | (refine cG (fun _ => ?_) ?_) | (exfalso; omega; done))
  · refine MK ho hf (by omega) (by omega) (by decide) ?_ ?_ (fun x' H' l f ho' hf' _ => ?_)
    · simp only [List.length_map, List.length_take]; omega
    · simp only [List.length_map, List.length_take]; omega
    repeat' (first | (simp (disch := omega) only [vsb, aE, reduceIte, AV.cells, putL, aC, Nat.reduceAdd, Nat.reduceDiv, Nat.reduceMod, AV.one, Nat.reduceLeDiff, Nat.reduceEqDiff, OW, BZ, EA, WW, LC, LB, V19, N4, N3, M1, M2, M0, bA]) | (refine aY (fun _ => ?_) (fun _ => ?_)) | (refine jN (fun _ => ?_) (fun _ => ?_)) | (refine cF (fun _ => ?_) (fun _ => ?_)) | (refine bI (fun _ => ?_) (fun _ => ?_)) | (refine And.intro (aV rfl) ?_) | (refine cG (fun _ => ?_) ?_) | (exfalso; omega; done))
    refine ⟨KX (.read (.read (.read (.write (.write .nil))))) rfl, ?_⟩
    repeat' (first | (simp (disch := omega) only [vsb, aE, reduceIte, AV.cells, putL, aC, Nat.reduceAdd, Nat.reduceDiv, Nat.reduceMod, AV.one, Nat.reduceLeDiff, Nat.reduceEqDiff, OW, BZ, EA, WW, LC, LB, V19, N4, N3, M1, M2, M0, bA]) | (refine aY (fun _ => ?_) (fun _ => ?_)) | (refine jN (fun _ => ?_) (fun _ => ?_)) | (refine cF (fun _ => ?_) (fun _ => ?_)) | (refine bI (fun _ => ?_) (fun _ => ?_)) | (refine And.intro (aV rfl) ?_) | (refine cG (fun _ => ?_) ?_) | (exfalso; omega; done))
    refine w7 (A.length - (i + 1)) (by omega) ⟨i + 1, x', rfl, by omega, rfl, ?_, hf'.mono (by omega)⟩
    rw [List.take_add_one, tU (by omega)]
    simpa [bA] using ho'
  · have : i = A.length := by omega
    subst this
    rw [List.take_length] at ho
    exact aAj (.of_own ho tP)
theorem told_pure (A : List CC) (hA : A.length ≤ 1000000) : lV Try.prog 17 [.isl 3 (A.map bA)] (.isl 3 (A.map bA)) := by
  refine cP Try.mixed ok17 rfl (fun q => ?_)
  simp only [params, Nat.zero_add, Nat.reduceAdd]
  simp (disch := omega) only [vsb, aE, reduceIte, AV.cells, putL, aC, Nat.reduceAdd, Nat.reduceDiv, Nat.reduceMod, AV.one, Nat.reduceLeDiff, Nat.reduceEqDiff, OX, B0, EB, WX, LE, LD, V17, N6, N5, M4, M5, M3, bA]
  refine qH (fun n r H c => ∃ (i : Nat) (x : AV), r = [(0, .isl 3 (A.map bA)), (3, x), (4, .int .i64 i)] ∧ i ≤ A.length ∧ n = A.length - i ∧ Own H x 3 ((A.take i).map bA) ∧ Fresh q c H) A.length ⟨0, .nils, rfl, Nat.zero_le _, rfl, .nils, .empty⟩ ?_
  rintro n r H c ⟨i, x, rfl, hi, rfl, ho, hf⟩
  repeat' (first | (simp (disch := omega) only [vsb, aE, reduceIte, AV.cells, putL, aC, Nat.reduceAdd, Nat.reduceDiv, Nat.reduceMod, AV.one, Nat.reduceLeDiff, Nat.reduceEqDiff, OX, B0, EB, WX, LE, LD, V17, N6, N5, M4, M5, M3, bA]) | (refine aY (fun _ => ?_) (fun _ => ?_)) | (refine jN (fun _ => ?_) (fun _ => ?_)) | (refine cF (fun _ => ?_) (fun _ => ?_)) | (refine bI (fun _ => ?_) (fun _ => ?_)) | (refine And.intro (aV rfl) ?_) | (refine cG (fun _ => ?_) ?_) | (exfalso; omega; done))
  · refine MK ho hf (by omega) (by omega) (by decide) ?_ ?_ (fun x' H' l f ho' hf' _ => ?_)
    · simp only [List.length_map, List.length_take]; omega
    · simp only [List.length_map, List.length_take]; omega
    repeat' (first | (simp (disch := omega) only [vsb, aE, reduceIte, AV.cells, putL, aC, Nat.reduceAdd, Nat.reduceDiv, Nat.reduceMod, AV.one, Nat.reduceLeDiff, Nat.reduceEqDiff, OX, B0, EB, WX, LE, LD, V17, N6, N5, M4, M5, M3, bA]) | (refine aY (fun _ => ?_) (fun _ => ?_)) | (refine jN (fun _ => ?_) (fun _ => ?_)) | (refine cF (fun _ => ?_) (fun _ => ?_)) | (refine bI (fun _ => ?_) (fun _ => ?_)) | (refine And.intro (aV rfl) ?_) | (refine cG (fun _ => ?_) ?_) | (exfalso; omega; done))
    refine ⟨KX (.read (.read (.read (.write (.write .nil))))) rfl, ?_⟩
    repeat' (first | (simp (disch := omega) only [vsb, aE, reduceIte, AV.cells, putL, aC, Nat.reduceAdd, Nat.reduceDiv, Nat.reduceMod, AV.one, Nat.reduceLeDiff, Nat.reduceEqDiff, OX, B0, EB, WX, LE, LD, V17, N6, N5, M4, M5, M3, bA]) | (refine aY (fun _ => ?_) (fun _ => ?_)) | (refine jN (fun _ => ?_) (fun _ => ?_)) | (refine cF (fun _ => ?_) (fun _ => ?_)) | (refine bI (fun _ => ?_) (fun _ => ?_)) | (refine And.intro (aV rfl) ?_) | (refine cG (fun _ => ?_) ?_) | (exfalso; omega; done))
    refine w7 (A.length - (i + 1)) (by omega) ⟨i + 1, x', rfl, by omega, rfl, ?_, hf'.mono (by omega)⟩
    rw [List.take_add_one, tU (by omega)]
    simpa [bA] using ho'
  · have : i = A.length := by omega
    subst this
    rw [List.take_length] at ho
    exact aAj (.of_own ho tP)
def W4 (l : List Int) (a : Int) (b : Bool) : Int := if b then bK l (aR l.length a) else cH l (aR l.length a)
theorem word_pure (l : List Int) (hl : l.length ≤ 1000000000) (a : Int) (b : Bool) : lV Try.prog 22 [il l, .int .i64 a, .bool b] (.int .i64 (W4 l a b)) := by
  cases b
  · exact rX l hl a
  · exact wE l hl a
theorem rword_pure (l : List Int) (hl : l.length ≤ 1000000000) (hI : ∀ k, k < l.length → -9223372036854775808 ≤ nth l k) (a : Int) (b : Bool) : lV Try.prog 23 [il l, .int .i64 a, .bool b] (.int .i64 (W4 l a b)) := by
  cases b
  · exact D4 l hl hI a
  · exact tL l hl hI a
theorem IU : ∀ {A : List CC} {l l' : List Int}, gH l A = some l' → l'.length ≤ l.length + A.length
  | [], l, l', h => by simp only [gH, Option.some.injEq] at h; subst h; simp
  | a :: A, l, l', h => by
    simp only [gH, Option.bind_eq_some_iff] at h
    obtain ⟨m, hm, h⟩ := h
    have := IU h
    obtain ⟨k, p, v⟩ := a
    simp only [rE] at hm
    split at hm
    · cases hm
    · split at hm
      · cases hm
        have := @r9 l p.toNat v (by omega)
        simp only [List.length_cons]; omega
      · split at hm
        · rename_i h3
          cases hm
          have := @BL l p.toNat (by omega)
          simp only [List.length_cons]; omega
        · cases hm
theorem ve_bb {a b : Bool} {K : AV → Prop} : aJ .eql .bool (.bool a) (.bool b) K = K (.bool (a == b)) := rC (by simp [rF, lE])
theorem applies_law (l : List Int) (hI : ∀ x ∈ l, I64 x) (A : List CC) (a : Int) (b : Bool) : lV Try.prog 4 [.agg [il l, .isl 3 (A.map bA), .int .i64 a, .bool b]] (.bool true) := by
  refine cP Try.mixed ok4 rfl (fun q => ?_)
  simp only [params, Nat.zero_add, Nat.reduceAdd]
  repeat' (first | (simp (disch := omega) only [vsb, aE, reduceIte, AV.cells, putL, aC, Nat.reduceAdd, Nat.reduceDiv, Nat.reduceMod, AV.one, Nat.reduceLeDiff, Nat.reduceEqDiff, E6, vt4, V4, EP, EO, EM, EL, EK, EG, v8, v7, sU, v6, EH, v5, v4, v3, vZ, vY, EI, vX, vV, vW, vU, vT, vS, vR, vQ, EJ, vP, EN, vO]) | (refine aY (fun _ => ?_) (fun _ => ?_)) | (refine jN (fun _ => ?_) (fun _ => ?_)) | (refine cF (fun _ => ?_) (fun _ => ?_)) | (refine bI (fun _ => ?_) (fun _ => ?_)) | (refine And.intro (aV rfl) ?_) | (refine cG (fun _ => ?_) ?_) | (exfalso; omega; done))
  · (try simp (disch := omega) only [vsb, aE, reduceIte, AV.cells, putL, aC, Nat.reduceAdd, Nat.reduceDiv, Nat.reduceMod, AV.one, Nat.reduceLeDiff, Nat.reduceEqDiff, E6, vt4, V4, EP, EO, EM, EL, EK, EG, v8, v7, sU, v6, EH, v5, v4, v3, vZ, vY, EI, vX, vV, vW, vU, vT, vS, vR, vQ, EJ, vP, EN, vO]); refine aO DL ?_; (try simp (disch := omega) only [vsb, aE, reduceIte, AV.cells, putL, aC, Nat.reduceAdd, Nat.reduceDiv, Nat.reduceMod, AV.one, Nat.reduceLeDiff, Nat.reduceEqDiff, E6, vt4, V4, EP, EO, EM, EL, EK, EG, v8, v7, sU, v6, EH, v5, v4, v3, vZ, vY, EI, vX, vV, vW, vU, vT, vS, vR, vQ, EJ, vP, EN, vO]); exact vp1 rfl
  · (try simp (disch := omega) only [vsb, aE, reduceIte, AV.cells, putL, aC, Nat.reduceAdd, Nat.reduceDiv, Nat.reduceMod, AV.one, Nat.reduceLeDiff, Nat.reduceEqDiff, E6, vt4, V4, EP, EO, EM, EL, EK, EG, v8, v7, sU, v6, EH, v5, v4, v3, vZ, vY, EI, vX, vV, vW, vU, vT, vS, vR, vQ, EJ, vP, EN, vO]); refine aO DL ?_; (try simp (disch := omega) only [vsb, aE, reduceIte, AV.cells, putL, aC, Nat.reduceAdd, Nat.reduceDiv, Nat.reduceMod, AV.one, Nat.reduceLeDiff, Nat.reduceEqDiff, E6, vt4, V4, EP, EO, EM, EL, EK, EG, v8, v7, sU, v6, EH, v5, v4, v3, vZ, vY, EI, vX, vV, vW, vU, vT, vS, vR, vQ, EJ, vP, EN, vO]); exact vp1 rfl
  rename_i hl hA
  have hl' : l.length ≤ 300 := by omega
  have hA' : A.length ≤ 60 := by omega
  refine aO (acts_pure A (by omega)) ?_
  simp (disch := omega) only [vsb, aE, reduceIte, AV.cells, putL, aC, Nat.reduceAdd, Nat.reduceDiv, Nat.reduceMod, AV.one, Nat.reduceLeDiff, Nat.reduceEqDiff, E6, vt4, V4, EP, EO, EM, EL, EK, EG, v8, v7, sU, v6, EH, v5, v4, v3, vZ, vY, EI, vX, vV, vW, vU, vT, vS, vR, vQ, EJ, vP, EN, vO]
  refine aO (IT l A (by omega) (by omega)) ?_
  have hlen := fun l' => @IU A l l'
  have pr := zP l A (by omega) (by omega)
  have pw := word_pure l (by omega) a b
  have prw := rword_pure l (by omega) (fun k hk => (hI _ (List.mem_of_getElem? (tU hk))).1) a b
  generalize gH l A = o at pr hlen ⊢
  have hsame : ∃ z is, OK o = .tuple [z, .bool is] ∧ lV Try.prog 21 [z, z] (.bool true) := by
    cases o with
    | none => exact ⟨il [], false, rfl, E3 [] (by simp)⟩
    | some l' => exact ⟨il l', true, rfl, E3 l' (by have := hlen l' rfl; omega)⟩
  obtain ⟨z, is, ho, hz⟩ := hsame
  rw [ho] at pr ⊢
  simp (disch := omega) only [vsb, aE, reduceIte, AV.cells, putL, aC, Nat.reduceAdd, Nat.reduceDiv, Nat.reduceMod, AV.one, Nat.reduceLeDiff, Nat.reduceEqDiff, E6, vt4, V4, EP, EO, EM, EL, EK, EG, v8, v7, sU, v6, EH, v5, v4, v3, vZ, vY, EI, vX, vV, vW, vU, vT, vS, vR, vQ, EJ, vP, EN, vO]
  refine aO pr ?_
  simp (disch := omega) only [vsb, aE, reduceIte, AV.cells, putL, aC, Nat.reduceAdd, Nat.reduceDiv, Nat.reduceMod, AV.one, Nat.reduceLeDiff, Nat.reduceEqDiff, E6, vt4, V4, EP, EO, EM, EL, EK, EG, v8, v7, sU, v6, EH, v5, v4, v3, vZ, vY, EI, vX, vV, vW, vU, vT, vS, vR, vQ, EJ, vP, EN, vO]
  refine aO hz ?_
  simp (disch := omega) only [vsb, aE, reduceIte, AV.cells, putL, aC, Nat.reduceAdd, Nat.reduceDiv, Nat.reduceMod, AV.one, Nat.reduceLeDiff, Nat.reduceEqDiff, E6, vt4, V4, EP, EO, EM, EL, EK, EG, v8, v7, sU, v6, EH, v5, v4, v3, vZ, vY, EI, vX, vV, vW, vU, vT, vS, vR, vQ, EJ, vP, EN, vO]
  rw [ve_bb, show (is == is) = true by cases is <;> rfl]
  simp (disch := omega) only [vsb, aE, reduceIte, AV.cells, putL, aC, Nat.reduceAdd, Nat.reduceDiv, Nat.reduceMod, AV.one, Nat.reduceLeDiff, Nat.reduceEqDiff, E6, vt4, V4, EP, EO, EM, EL, EK, EG, v8, v7, sU, v6, EH, v5, v4, v3, vZ, vY, EI, vX, vV, vW, vU, vT, vS, vR, vQ, EJ, vP, EN, vO]
  refine aO pw ?_
  simp (disch := omega) only [vsb, aE, reduceIte, AV.cells, putL, aC, Nat.reduceAdd, Nat.reduceDiv, Nat.reduceMod, AV.one, Nat.reduceLeDiff, Nat.reduceEqDiff, E6, vt4, V4, EP, EO, EM, EL, EK, EG, v8, v7, sU, v6, EH, v5, v4, v3, vZ, vY, EI, vX, vV, vW, vU, vT, vS, vR, vQ, EJ, vP, EN, vO]
  refine aO prw ?_
  (try simp (disch := omega) only [vsb, aE, reduceIte, AV.cells, putL, aC, Nat.reduceAdd, Nat.reduceDiv, Nat.reduceMod, AV.one, Nat.reduceLeDiff, Nat.reduceEqDiff, E6, vt4, V4, EP, EO, EM, EL, EK, EG, v8, v7, sU, v6, EH, v5, v4, v3, vZ, vY, EI, vX, vV, vW, vU, vT, vS, vR, vQ, EJ, vP, EN, vO]); refine aO DL ?_; (try simp (disch := omega) only [vsb, aE, reduceIte, AV.cells, putL, aC, Nat.reduceAdd, Nat.reduceDiv, Nat.reduceMod, AV.one, Nat.reduceLeDiff, Nat.reduceEqDiff, E6, vt4, V4, EP, EO, EM, EL, EK, EG, v8, v7, sU, v6, EH, v5, v4, v3, vZ, vY, EI, vX, vV, vW, vU, vT, vS, vR, vQ, EJ, vP, EN, vO]); exact vp1 rfl
theorem act_shape {n : Nat} {xs : List AV} (h : a9 Try.prog (n + 2) 72 xs) : ∃ a : CC, xs = bA a := by
  unfold a9 at h
  simp only [Try.underlying72, q5] at h
  obtain ⟨a, x, rfl, _, h1, b, y, rfl, _, h2, c, z, rfl, _, h3, rfl⟩ := h
  obtain ⟨i, rfl, hi⟩ := oR h1
  obtain ⟨j, rfl, hj⟩ := oR h2
  obtain ⟨k, rfl, hk⟩ := oR h3
  exact ⟨(i, j, k), rfl⟩
theorem JQ {n : Nat} : ∀ {rows : List (List AV)}, (∀ r ∈ rows, a9 Try.prog (n + 2) 72 r) → ∃ l : List CC, rows = l.map bA
  | [], _ => ⟨[], rfl⟩
  | r :: rows, h => by
    obtain ⟨i, rfl⟩ := act_shape (h r (by simp))
    obtain ⟨l, rfl⟩ := JQ (rows := rows) (fun r hr => h r (by simp [hr]))
    exact ⟨i :: l, rfl⟩
theorem acts_shape {n : Nat} {xs : List AV} (h : a9 Try.prog (n + 3) 35 xs) : ∃ A : List CC, xs = [.isl 3 (A.map bA)] := by
  unfold a9 at h
  simp only [Try.underlying35] at h
  obtain ⟨rows, rfl, _, h2⟩ := h
  obtain ⟨l, rfl⟩ := JQ h2
  have : Try.prog.cellsOf 72 = 3 := by kernel_rfl
  rw [this]
  exact ⟨l, rfl⟩
theorem case_shape {n : Nat} {xs : List AV} (h : a9 Try.prog (n + 4) 43 xs) : ∃ (l : List Int) (A : List CC) (a : Int) (b : Bool), xs = [.isl 1 (s8 l), .isl 3 (A.map bA), .int .i64 a, .bool b] ∧ ∀ x ∈ l, I64 x := by
  unfold a9 at h
  simp only [Try.underlying43, q5] at h
  obtain ⟨a, x, rfl, _, h1, b, y, rfl, _, h2, c, z, rfl, _, h3, d, w, rfl, _, h4, rfl⟩ := h
  obtain ⟨k, l, rfl, g1⟩ := vA h1
  obtain ⟨A, rfl⟩ := acts_shape h2
  obtain ⟨i, rfl, g2⟩ := oR h3
  obtain ⟨t, rfl⟩ := bool_shape h4
  cases g1 with
  | row _ _ hx => exact ⟨_, A, i, t, rfl, hx⟩
theorem par_case {x y z w : AV} : wY Try.prog 43 [x, y, z, w] = .agg [x, y, z, w] := by simp [wY, Try.underlying43]
end Go.Proofs.Ytbngfbpegdcpkaa
