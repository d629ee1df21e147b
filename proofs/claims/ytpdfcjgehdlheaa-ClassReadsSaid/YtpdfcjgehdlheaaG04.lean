import Derived.Test.YtpdfcjgehdlheaaA1
set_option linter.all false
namespace Go.Ab.R04
set_option maxRecDepth 100000
abbrev f_law04_ClassReads : Nat := 3
abbrev f_law04_ClassSigns : Nat := 4
abbrev f_law04_ClassNot : Nat := 5
abbrev f_law04_ClassSpans : Nat := 6
abbrev f_law04_shown : Nat := 7
abbrev f_class_Sign : Nat := 8
abbrev f_ref04_Sign : Nat := 9
abbrev f_class_Read : Nat := 10
abbrev f_ref04_Read : Nat := 11
abbrev f_class_Plain : Nat := 12
abbrev f_class_Not : Nat := 13
abbrev f_class_Or : Nat := 14
abbrev f_class_Has : Nat := 15
abbrev f_class_Count : Nat := 16
abbrev f_class_Span : Nat := 17
abbrev f_class_One : Nat := 18
abbrev f_class_Text : Nat := 19
abbrev f_strings_IndexByte : Nat := 20
abbrev f_hex_Digit : Nat := 21
abbrev f_ref01_Digit : Nat := 22
abbrev f_class_Read_1 : Nat := 23
abbrev f_ref04_Or : Nat := 24
abbrev f_ref04_Span : Nat := 25
abbrev f_ref04_with : Nat := 26
abbrev f_ref04_Not : Nat := 27
abbrev f_class_isWord : Nat := 28
abbrev f_hex_Hex : Nat := 29
abbrev f_bits_OnesCount64 : Nat := 30
abbrev f_class_runs : Nat := 31
abbrev f_stringslite_IndexByte : Nat := 32
abbrev f_ref04_Has : Nat := 33
abbrev f_class_runs_1 : Nat := 34
abbrev f_bytealg_IndexByteString : Nat := 35
-- dragoman/dragomanlaw04.ClassReads
def o_law04_ClassReads_0 : List AOp := [
  { dst := some 2, op := .asg (.c (.d (.bool false))) }]
def o_law04_ClassReads_1 : List AOp := [
  { dst := some 16, op := .callZ (.f f_law04_shown) [] },
  { dst := some 3, op := .asg (.t 16) }]
def o_law04_ClassReads_2 : List AOp := [
  { dst := some 17, op := .mov (.t 0) },
  { dst := some 18, op := .lenS (.t 17) },
  { dst := some 19, op := .bin .gtr (.t 18) (.c (.nat .i64 2000)) }]
def o_law04_ClassReads_3 : List AOp := [
  { dst := some 20, op := .mov (.t 3) },
  { dst := some 2, op := .asg (.t 20) }]
def o_law04_ClassReads_4 : List AOp := [
  { dst := some 22, op := .mov (.t 0) },
  { dst := some 23, op := .call (.f f_class_Sign) [.t 22] },
  { dst := some 21, op := .mov (.t 23) },
  { dst := some 24, op := .extr (.t 21) 0 },
  { dst := some 25, op := .extr (.t 21) 1 },
  { dst := some 26, op := .extr (.t 21) 2 },
  { dst := some 4, op := .asg (.t 24) },
  { dst := some 5, op := .asg (.t 25) },
  { dst := some 6, op := .asg (.t 26) }]
def o_law04_ClassReads_5 : List AOp := [
  { dst := some 28, op := .mov (.t 0) },
  { dst := some 29, op := .call (.f f_ref04_Sign) [.t 28] },
  { dst := some 27, op := .mov (.t 29) },
  { dst := some 30, op := .extr (.t 27) 0 },
  { dst := some 31, op := .extr (.t 27) 1 },
  { dst := some 32, op := .extr (.t 27) 2 },
  { dst := some 7, op := .asg (.t 30) },
  { dst := some 8, op := .asg (.t 31) },
  { dst := some 9, op := .asg (.t 32) }]
def o_law04_ClassReads_6 : List AOp := [
  { dst := some 34, op := .mov (.t 0) },
  { dst := some 35, op := .call (.f f_class_Read) [.t 34] },
  { dst := some 33, op := .mov (.t 35) },
  { dst := some 36, op := .extr (.t 33) 0 },
  { dst := some 37, op := .extr (.t 33) 1 },
  { dst := some 38, op := .extr (.t 33) 2 },
  { dst := some 10, op := .alloc [.nat .u64 0, .nat .u64 0, .nat .u64 0, .nat .u64 0] },
  { dst := none, op := .store 4 (.t 10) (.t 36) },
  { dst := some 11, op := .asg (.t 37) },
  { dst := some 12, op := .asg (.t 38) }]
def o_law04_ClassReads_7 : List AOp := [
  { dst := some 40, op := .mov (.t 0) },
  { dst := some 41, op := .call (.f f_ref04_Read) [.t 40] },
  { dst := some 39, op := .mov (.t 41) },
  { dst := some 42, op := .extr (.t 39) 0 },
  { dst := some 43, op := .extr (.t 39) 1 },
  { dst := some 44, op := .extr (.t 39) 2 },
  { dst := some 13, op := .alloc [.nat .u64 0, .nat .u64 0, .nat .u64 0, .nat .u64 0] },
  { dst := none, op := .store 4 (.t 13) (.t 42) },
  { dst := some 14, op := .asg (.t 43) },
  { dst := some 15, op := .asg (.t 44) }]
def o_law04_ClassReads_8 : List AOp := [
  { dst := some 45, op := .mov (.t 3) },
  { dst := some 46, op := .mov (.t 45) },
  { dst := some 47, op := .mov (.t 4), guard := some (46, true) },
  { dst := some 48, op := .mov (.t 7), guard := some (46, true) },
  { dst := some 49, op := .bin .eql (.t 47) (.t 48), guard := some (46, true) },
  { dst := some 50, op := .pick (.t 46) (.t 49) (.c (.d (.bool false))) },
  { dst := some 51, op := .mov (.t 50) },
  { dst := some 52, op := .mov (.t 5), guard := some (51, true) },
  { dst := some 53, op := .mov (.t 8), guard := some (51, true) },
  { dst := some 54, op := .bin .eql (.t 52) (.t 53), guard := some (51, true) },
  { dst := some 55, op := .pick (.t 51) (.t 54) (.c (.d (.bool false))) },
  { dst := some 56, op := .mov (.t 55) },
  { dst := some 57, op := .mov (.t 6), guard := some (56, true) },
  { dst := some 58, op := .mov (.t 9), guard := some (56, true) },
  { dst := some 59, op := .bin .eql (.t 57) (.t 58), guard := some (56, true) },
  { dst := some 60, op := .pick (.t 56) (.t 59) (.c (.d (.bool false))) },
  { dst := some 61, op := .mov (.t 60) },
  { dst := some 62, op := .load (some 4) (.t 10), guard := some (61, true) },
  { dst := some 63, op := .load (some 4) (.t 13), guard := some (61, true) },
  { dst := some 64, op := .eqc false [.int .u64, .int .u64, .int .u64, .int .u64] (.t 62) (.t 63), guard := some (61, true) },
  { dst := some 65, op := .pick (.t 61) (.t 64) (.c (.d (.bool false))) },
  { dst := some 66, op := .mov (.t 65) },
  { dst := some 67, op := .mov (.t 11), guard := some (66, true) },
  { dst := some 68, op := .mov (.t 14), guard := some (66, true) },
  { dst := some 69, op := .bin .eql (.t 67) (.t 68), guard := some (66, true) },
  { dst := some 70, op := .pick (.t 66) (.t 69) (.c (.d (.bool false))) },
  { dst := some 71, op := .mov (.t 70) },
  { dst := some 72, op := .mov (.t 12), guard := some (71, true) },
  { dst := some 73, op := .mov (.t 15), guard := some (71, true) },
  { dst := some 74, op := .bin .eql (.t 72) (.t 73), guard := some (71, true) },
  { dst := some 75, op := .pick (.t 71) (.t 74) (.c (.d (.bool false))) },
  { dst := some 2, op := .asg (.t 75) }]
def c_law04_ClassReads : AC :=
  (.seq (.ops o_law04_ClassReads_0)
  (.seq (.ops o_law04_ClassReads_1)
  (.seq (.seq (.ops o_law04_ClassReads_2)
  (.cond (.t 19) (.seq (.ops o_law04_ClassReads_3)
  .ret) .skip))
  (.seq (.ops o_law04_ClassReads_4)
  (.seq (.ops o_law04_ClassReads_5)
  (.seq (.ops o_law04_ClassReads_6)
  (.seq (.ops o_law04_ClassReads_7)
  (.seq (.ops o_law04_ClassReads_8)
  .ret))))))))
def a_law04_ClassReads : AFn := { body := c_law04_ClassReads, res := [.tmp 2] }

-- dragoman/dragomanlaw04.ClassSigns
def o_law04_ClassSigns_0 : List AOp := [
  { dst := some 4, op := .asg (.c (.d (.bool false))) }]
def o_law04_ClassSigns_1 : List AOp := [
  { dst := some 13, op := .callZ (.f f_law04_shown) [] },
  { dst := some 5, op := .asg (.t 13) }]
def o_law04_ClassSigns_2 : List AOp := [
  { dst := some 14, op := .mov (.t 1) },
  { dst := some 15, op := .lenS (.t 14) },
  { dst := some 16, op := .bin .gtr (.t 15) (.c (.nat .i64 100)) }]
def o_law04_ClassSigns_3 : List AOp := [
  { dst := some 17, op := .mov (.t 5) },
  { dst := some 4, op := .asg (.t 17) }]
def o_law04_ClassSigns_4 : List AOp := [
  { dst := some 18, op := .mov (.t 0) },
  { dst := some 19, op := .call (.f f_class_Plain) [.t 18] },
  { dst := some 6, op := .asg (.t 19) }]
def o_law04_ClassSigns_5 : List AOp := [
  { dst := some 21, op := .mov (.t 6) },
  { dst := some 22, op := .mov (.t 1) },
  { dst := some 23, op := .bin .add (.t 21) (.t 22) },
  { dst := some 24, op := .call (.f f_class_Sign) [.t 23] },
  { dst := some 20, op := .mov (.t 24) },
  { dst := some 25, op := .extr (.t 20) 0 },
  { dst := some 26, op := .extr (.t 20) 1 },
  { dst := some 27, op := .extr (.t 20) 2 },
  { dst := some 7, op := .asg (.t 25) },
  { dst := some 8, op := .asg (.t 26) },
  { dst := some 9, op := .asg (.t 27) }]
def o_law04_ClassSigns_6 : List AOp := [
  { dst := some 28, op := .mov (.t 6) },
  { dst := some 29, op := .lenS (.t 28) },
  { dst := some 30, op := .bin .eql (.t 29) (.c (.nat .i64 1)) },
  { dst := some 31, op := .mov (.t 30) },
  { dst := some 32, op := .mov (.t 6), guard := some (31, false) },
  { dst := some 33, op := .lenS (.t 32), guard := some (31, false) },
  { dst := some 34, op := .bin .eql (.t 33) (.c (.nat .i64 4)), guard := some (31, false) },
  { dst := some 35, op := .mov (.t 34), guard := some (31, false) },
  { dst := some 36, op := .mov (.t 6), guard := some (35, true) },
  { dst := some 37, op := .idxS (.t 36) (.c (.nat .i64 0)), guard := some (35, true) },
  { dst := some 38, op := .bin .eql (.t 37) (.c (.nat .u8 92)), guard := some (35, true) },
  { dst := some 39, op := .pick (.t 35) (.t 38) (.c (.d (.bool false))), guard := some (31, false) },
  { dst := some 40, op := .mov (.t 39), guard := some (31, false) },
  { dst := some 41, op := .mov (.t 6), guard := some (40, true) },
  { dst := some 42, op := .idxS (.t 41) (.c (.nat .i64 1)), guard := some (40, true) },
  { dst := some 43, op := .bin .eql (.t 42) (.c (.nat .u8 120)), guard := some (40, true) },
  { dst := some 44, op := .pick (.t 40) (.t 43) (.c (.d (.bool false))), guard := some (31, false) },
  { dst := some 45, op := .pick (.t 31) (.c (.d (.bool true))) (.t 44) },
  { dst := some 10, op := .asg (.t 45) }]
def o_law04_ClassSigns_7 : List AOp := [
  { dst := some 11, op := .asg (.c (.nat .i64 1)) }]
def o_law04_ClassSigns_8 : List AOp := [
  { dst := some 46, op := .mov (.t 11) },
  { dst := some 47, op := .mov (.t 6) },
  { dst := some 48, op := .lenS (.t 47) },
  { dst := some 49, op := .bin .lss (.t 46) (.t 48) }]
def o_law04_ClassSigns_10 : List AOp := [
  { dst := some 52, op := .mov (.t 6) },
  { dst := some 53, op := .mov (.t 11) },
  { dst := some 54, op := .idxS (.t 52) (.t 53) },
  { dst := some 55, op := .bin .geq (.t 54) (.c (.nat .u8 48)) },
  { dst := some 56, op := .mov (.t 55) },
  { dst := some 57, op := .mov (.t 6), guard := some (56, true) },
  { dst := some 58, op := .mov (.t 11), guard := some (56, true) },
  { dst := some 59, op := .idxS (.t 57) (.t 58), guard := some (56, true) },
  { dst := some 60, op := .bin .leq (.t 59) (.c (.nat .u8 57)), guard := some (56, true) },
  { dst := some 61, op := .pick (.t 56) (.t 60) (.c (.d (.bool false))) },
  { dst := some 62, op := .mov (.t 61) },
  { dst := some 63, op := .mov (.t 6), guard := some (62, false) },
  { dst := some 64, op := .mov (.t 11), guard := some (62, false) },
  { dst := some 65, op := .idxS (.t 63) (.t 64), guard := some (62, false) },
  { dst := some 66, op := .bin .geq (.t 65) (.c (.nat .u8 97)), guard := some (62, false) },
  { dst := some 67, op := .mov (.t 66), guard := some (62, false) },
  { dst := some 68, op := .mov (.t 6), guard := some (67, true) },
  { dst := some 69, op := .mov (.t 11), guard := some (67, true) },
  { dst := some 70, op := .idxS (.t 68) (.t 69), guard := some (67, true) },
  { dst := some 71, op := .bin .leq (.t 70) (.c (.nat .u8 102)), guard := some (67, true) },
  { dst := some 72, op := .pick (.t 67) (.t 71) (.c (.d (.bool false))), guard := some (62, false) },
  { dst := some 73, op := .pick (.t 62) (.c (.d (.bool true))) (.t 72) },
  { dst := some 74, op := .mov (.t 73) },
  { dst := some 75, op := .mov (.t 6), guard := some (74, false) },
  { dst := some 76, op := .mov (.t 11), guard := some (74, false) },
  { dst := some 77, op := .idxS (.t 75) (.t 76), guard := some (74, false) },
  { dst := some 78, op := .bin .eql (.t 77) (.c (.nat .u8 120)), guard := some (74, false) },
  { dst := some 79, op := .pick (.t 74) (.c (.d (.bool true))) (.t 78) },
  { dst := some 12, op := .asg (.t 79) }]
def o_law04_ClassSigns_11 : List AOp := [
  { dst := some 80, op := .mov (.t 10) },
  { dst := some 81, op := .mov (.t 80) },
  { dst := some 82, op := .mov (.t 12), guard := some (81, true) },
  { dst := some 83, op := .pick (.t 81) (.t 82) (.c (.d (.bool false))) },
  { dst := some 10, op := .asg (.t 83) }]
def o_law04_ClassSigns_9 : List AOp := [
  { dst := some 50, op := .mov (.t 11) },
  { dst := some 51, op := .bin .add (.t 50) (.c (.nat .i64 1)) },
  { dst := some 11, op := .asg (.t 51) }]
def b_law04_ClassSigns_0 : AC := (.seq (.seq (.ops o_law04_ClassSigns_8)
  (.cond (.t 49) .skip (.exit 0)))
  (.seq (.trim [0, 5, 6, 7, 8, 9, 10, 11] (.block 1 (.seq (.ops o_law04_ClassSigns_10)
  (.ops o_law04_ClassSigns_11))))
  (.ops o_law04_ClassSigns_9)))
def o_law04_ClassSigns_12 : List AOp := [
  { dst := some 84, op := .mov (.t 5) },
  { dst := some 85, op := .mov (.t 84) },
  { dst := some 86, op := .mov (.t 7), guard := some (85, true) },
  { dst := some 87, op := .mov (.t 0), guard := some (85, true) },
  { dst := some 88, op := .bin .eql (.t 86) (.t 87), guard := some (85, true) },
  { dst := some 89, op := .pick (.t 85) (.t 88) (.c (.d (.bool false))) },
  { dst := some 90, op := .mov (.t 89) },
  { dst := some 91, op := .mov (.t 8), guard := some (90, true) },
  { dst := some 92, op := .mov (.t 6), guard := some (90, true) },
  { dst := some 93, op := .lenS (.t 92), guard := some (90, true) },
  { dst := some 94, op := .bin .eql (.t 91) (.t 93), guard := some (90, true) },
  { dst := some 95, op := .pick (.t 90) (.t 94) (.c (.d (.bool false))) },
  { dst := some 96, op := .mov (.t 95) },
  { dst := some 97, op := .mov (.t 9), guard := some (96, true) },
  { dst := some 98, op := .bin .eql (.t 97) (.c (.nat .i64 0)), guard := some (96, true) },
  { dst := some 99, op := .pick (.t 96) (.t 98) (.c (.d (.bool false))) },
  { dst := some 100, op := .mov (.t 99) },
  { dst := some 101, op := .mov (.t 10), guard := some (100, true) },
  { dst := some 102, op := .pick (.t 100) (.t 101) (.c (.d (.bool false))) },
  { dst := some 4, op := .asg (.t 102) }]
def c_law04_ClassSigns : AC :=
  (.seq (.ops o_law04_ClassSigns_0)
  (.seq (.ops o_law04_ClassSigns_1)
  (.seq (.seq (.ops o_law04_ClassSigns_2)
  (.cond (.t 16) (.seq (.ops o_law04_ClassSigns_3)
  .ret) .skip))
  (.seq (.ops o_law04_ClassSigns_4)
  (.seq (.ops o_law04_ClassSigns_5)
  (.seq (.ops o_law04_ClassSigns_6)
  (.seq (.seq (.ops o_law04_ClassSigns_7)
  (.trim [0, 5, 6, 7, 8, 9, 10] (.block 0 (.loop [0, 5, 6, 7, 8, 9, 10, 11] b_law04_ClassSigns_0))))
  (.seq (.ops o_law04_ClassSigns_12)
  .ret))))))))
def a_law04_ClassSigns : AFn := { body := c_law04_ClassSigns, res := [.tmp 4] }

-- dragoman/dragomanlaw04.ClassNot
def o_law04_ClassNot_0 : List AOp := [
  { dst := some 3, op := .box (.t 0) },
  { dst := some 4, op := .box (.t 1) },
  { dst := some 6, op := .asg (.c (.d (.bool false))) }]
def o_law04_ClassNot_1 : List AOp := [
  { dst := some 10, op := .callZ (.f f_law04_shown) [] },
  { dst := some 7, op := .asg (.t 10) }]
def o_law04_ClassNot_2 : List AOp := [
  { dst := some 11, op := .load (some 4) (.t 3) },
  { dst := some 12, op := .call (.f f_class_Not) [.t 11] },
  { dst := some 8, op := .alloc [.nat .u64 0, .nat .u64 0, .nat .u64 0, .nat .u64 0] },
  { dst := none, op := .store 4 (.t 8) (.t 12) }]
def o_law04_ClassNot_3 : List AOp := [
  { dst := some 13, op := .load (some 4) (.t 3) },
  { dst := some 14, op := .load (some 4) (.t 4) },
  { dst := some 15, op := .call (.f f_class_Or) [.t 13, .t 14] },
  { dst := some 9, op := .alloc [.nat .u64 0, .nat .u64 0, .nat .u64 0, .nat .u64 0] },
  { dst := none, op := .store 4 (.t 9) (.t 15) }]
def o_law04_ClassNot_4 : List AOp := [
  { dst := some 16, op := .mov (.t 7) },
  { dst := some 17, op := .mov (.t 16) },
  { dst := some 18, op := .load (some 4) (.t 3), guard := some (17, true), may := false },
  { dst := some 19, op := .mov (.t 2), guard := some (17, true), may := false },
  { dst := some 20, op := .callZ (.f f_class_Has) [.t 18, .t 19], guard := some (17, true), may := false },
  { dst := some 21, op := .load (some 4) (.t 8), guard := some (17, true), may := false },
  { dst := some 22, op := .mov (.t 2), guard := some (17, true), may := false },
  { dst := some 23, op := .call (.f f_class_Has) [.t 21, .t 22], guard := some (17, true) },
  { dst := some 24, op := .beq true (.t 20) (.t 23), guard := some (17, true) },
  { dst := some 25, op := .pick (.t 17) (.t 24) (.c (.d (.bool false))) },
  { dst := some 26, op := .mov (.t 25) },
  { dst := some 27, op := .load (some 4) (.t 8), guard := some (26, true), may := false },
  { dst := some 28, op := .callZ (.f f_class_Not) [.t 27], guard := some (26, true), may := false },
  { dst := some 29, op := .load (some 4) (.t 3), guard := some (26, true), may := false },
  { dst := some 30, op := .eqc false [.int .u64, .int .u64, .int .u64, .int .u64] (.t 28) (.t 29), guard := some (26, true) },
  { dst := some 31, op := .pick (.t 26) (.t 30) (.c (.d (.bool false))) },
  { dst := some 32, op := .mov (.t 31) },
  { dst := some 33, op := .load (some 4) (.t 3), guard := some (32, true), may := false },
  { dst := some 34, op := .load (some 4) (.t 8), guard := some (32, true), may := false },
  { dst := some 35, op := .call (.f f_class_Or) [.t 33, .t 34], guard := some (32, true) },
  { dst := some 36, op := .call (.f f_class_Count) [.t 35], guard := some (32, true) },
  { dst := some 37, op := .bin .eql (.t 36) (.c (.nat .i64 256)), guard := some (32, true) },
  { dst := some 38, op := .pick (.t 32) (.t 37) (.c (.d (.bool false))) },
  { dst := some 39, op := .mov (.t 38) },
  { dst := some 40, op := .load (some 4) (.t 9), guard := some (39, true), may := false },
  { dst := some 41, op := .mov (.t 2), guard := some (39, true), may := false },
  { dst := some 42, op := .callZ (.f f_class_Has) [.t 40, .t 41], guard := some (39, true), may := false },
  { dst := some 43, op := .load (some 4) (.t 3), guard := some (39, true), may := false },
  { dst := some 44, op := .mov (.t 2), guard := some (39, true), may := false },
  { dst := some 45, op := .call (.f f_class_Has) [.t 43, .t 44], guard := some (39, true) },
  { dst := some 46, op := .mov (.t 45), guard := some (39, true) },
  { dst := some 47, op := .load (some 4) (.t 4), guard := some (46, false), may := false },
  { dst := some 48, op := .mov (.t 2), guard := some (46, false), may := false },
  { dst := some 49, op := .call (.f f_class_Has) [.t 47, .t 48], guard := some (46, false) },
  { dst := some 50, op := .pick (.t 46) (.c (.d (.bool true))) (.t 49), guard := some (39, true) },
  { dst := some 51, op := .beq false (.t 42) (.t 50), guard := some (39, true) },
  { dst := some 52, op := .pick (.t 39) (.t 51) (.c (.d (.bool false))) },
  { dst := some 53, op := .mov (.t 52) },
  { dst := some 54, op := .load (some 4) (.t 9), guard := some (53, true), may := false },
  { dst := some 55, op := .callZ (.f f_class_Count) [.t 54], guard := some (53, true), may := false },
  { dst := some 56, op := .load (some 4) (.t 3), guard := some (53, true), may := false },
  { dst := some 57, op := .call (.f f_class_Count) [.t 56], guard := some (53, true) },
  { dst := some 58, op := .bin .geq (.t 55) (.t 57), guard := some (53, true) },
  { dst := some 59, op := .pick (.t 53) (.t 58) (.c (.d (.bool false))) },
  { dst := some 6, op := .asg (.t 59) }]
def c_law04_ClassNot : AC :=
  (.seq (.ops o_law04_ClassNot_0)
  (.seq (.ops o_law04_ClassNot_1)
  (.seq (.ops o_law04_ClassNot_2)
  (.seq (.ops o_law04_ClassNot_3)
  (.seq (.ops o_law04_ClassNot_4)
  .ret)))))
def a_law04_ClassNot : AFn := { body := c_law04_ClassNot, res := [.tmp 6] }

-- dragoman/dragomanlaw04.ClassSpans
def o_law04_ClassSpans_0 : List AOp := [
  { dst := some 6, op := .asg (.c (.d (.bool false))) }]
def o_law04_ClassSpans_1 : List AOp := [
  { dst := some 10, op := .callZ (.f f_law04_shown) [] },
  { dst := some 7, op := .asg (.t 10) }]
def o_law04_ClassSpans_2 : List AOp := [
  { dst := some 11, op := .mov (.t 0) },
  { dst := some 12, op := .mov (.t 1) },
  { dst := some 13, op := .call (.f f_class_Span) [.t 11, .t 12] },
  { dst := some 8, op := .alloc [.nat .u64 0, .nat .u64 0, .nat .u64 0, .nat .u64 0] },
  { dst := none, op := .store 4 (.t 8) (.t 13) }]
def o_law04_ClassSpans_3 : List AOp := [
  { dst := some 9, op := .asg (.c (.nat .i64 0)) }]
def o_law04_ClassSpans_4 : List AOp := [
  { dst := some 14, op := .mov (.t 0) },
  { dst := some 15, op := .mov (.t 1) },
  { dst := some 16, op := .bin .leq (.t 14) (.t 15) }]
def o_law04_ClassSpans_5 : List AOp := [
  { dst := some 17, op := .mov (.t 1) },
  { dst := some 18, op := .toInt .i64 (.t 17) },
  { dst := some 19, op := .mov (.t 0) },
  { dst := some 20, op := .toInt .i64 (.t 19) },
  { dst := some 21, op := .bin .sub (.t 18) (.t 20) },
  { dst := some 22, op := .bin .add (.t 21) (.c (.nat .i64 1)) },
  { dst := some 9, op := .asg (.t 22) }]
def o_law04_ClassSpans_6 : List AOp := [
  { dst := some 23, op := .mov (.t 7) },
  { dst := some 24, op := .mov (.t 23) },
  { dst := some 25, op := .load (some 4) (.t 8), guard := some (24, true), may := false },
  { dst := some 26, op := .call (.f f_class_Count) [.t 25], guard := some (24, true), may := false },
  { dst := some 27, op := .mov (.t 9), guard := some (24, true), may := false },
  { dst := some 28, op := .bin .eql (.t 26) (.t 27), guard := some (24, true) },
  { dst := some 29, op := .pick (.t 24) (.t 28) (.c (.d (.bool false))) },
  { dst := some 30, op := .mov (.t 29) },
  { dst := some 31, op := .load (some 4) (.t 8), guard := some (30, true), may := false },
  { dst := some 32, op := .mov (.t 2), guard := some (30, true), may := false },
  { dst := some 33, op := .call (.f f_class_Has) [.t 31, .t 32], guard := some (30, true), may := false },
  { dst := some 34, op := .mov (.t 0), guard := some (30, true), may := false },
  { dst := some 35, op := .mov (.t 2), guard := some (30, true), may := false },
  { dst := some 36, op := .bin .leq (.t 34) (.t 35), guard := some (30, true), may := false },
  { dst := some 37, op := .mov (.t 36), guard := some (30, true) },
  { dst := some 38, op := .mov (.t 2), guard := some (37, true), may := false },
  { dst := some 39, op := .mov (.t 1), guard := some (37, true), may := false },
  { dst := some 40, op := .bin .leq (.t 38) (.t 39), guard := some (37, true) },
  { dst := some 41, op := .pick (.t 37) (.t 40) (.c (.d (.bool false))), guard := some (30, true) },
  { dst := some 42, op := .beq false (.t 33) (.t 41), guard := some (30, true) },
  { dst := some 43, op := .pick (.t 30) (.t 42) (.c (.d (.bool false))) },
  { dst := some 44, op := .mov (.t 43) },
  { dst := some 45, op := .load (some 4) (.t 8), guard := some (44, true), may := false },
  { dst := some 46, op := .mov (.t 0), guard := some (44, true), may := false },
  { dst := some 47, op := .callZ (.f f_class_One) [.t 46], guard := some (44, true), may := false },
  { dst := some 48, op := .callZ (.f f_class_Or) [.t 45, .t 47], guard := some (44, true), may := false },
  { dst := some 49, op := .mov (.t 0), guard := some (44, true), may := false },
  { dst := some 50, op := .callZ (.f f_class_One) [.t 49], guard := some (44, true), may := false },
  { dst := some 51, op := .load (some 4) (.t 8), guard := some (44, true), may := false },
  { dst := some 52, op := .call (.f f_class_Or) [.t 50, .t 51], guard := some (44, true) },
  { dst := some 53, op := .eqc false [.int .u64, .int .u64, .int .u64, .int .u64] (.t 48) (.t 52), guard := some (44, true) },
  { dst := some 54, op := .pick (.t 44) (.t 53) (.c (.d (.bool false))) },
  { dst := some 6, op := .asg (.t 54) }]
def c_law04_ClassSpans : AC :=
  (.seq (.ops o_law04_ClassSpans_0)
  (.seq (.ops o_law04_ClassSpans_1)
  (.seq (.ops o_law04_ClassSpans_2)
  (.seq (.ops o_law04_ClassSpans_3)
  (.seq (.seq (.ops o_law04_ClassSpans_4)
  (.cond (.t 16) (.ops o_law04_ClassSpans_5) .skip))
  (.seq (.ops o_law04_ClassSpans_6)
  .ret))))))
def a_law04_ClassSpans : AFn := { body := c_law04_ClassSpans, res := [.tmp 6] }

-- dragoman/dragomanlaw04.shown
def o_law04_shown_0 : List AOp := [
  { dst := some 0, op := .asg (.c (.d (.bool false))) }]
def o_law04_shown_1 : List AOp := [
  { dst := some 5, op := .call (.f f_class_Read) [.c (.d (.str [91, 94, 97, 93, 120]))] },
  { dst := some 4, op := .mov (.t 5) },
  { dst := some 6, op := .extr (.t 4) 0 },
  { dst := some 7, op := .extr (.t 4) 1 },
  { dst := some 8, op := .extr (.t 4) 2 },
  { dst := some 1, op := .alloc [.nat .u64 0, .nat .u64 0, .nat .u64 0, .nat .u64 0] },
  { dst := none, op := .store 4 (.t 1) (.t 6) },
  { dst := some 2, op := .asg (.t 7) },
  { dst := some 3, op := .asg (.t 8) }]
def o_law04_shown_2 : List AOp := [
  { dst := some 9, op := .call (.f f_class_Span) [.c (.nat .u8 97), .c (.nat .u8 99)] },
  { dst := some 10, op := .call (.f f_class_One) [.c (.nat .u8 47)] },
  { dst := some 11, op := .call (.f f_class_Or) [.t 9, .t 10] },
  { dst := some 12, op := .call (.f f_class_Text) [.t 11] },
  { dst := some 13, op := .bin .eql (.t 12) (.c (.d (.str [91, 92, 120, 50, 102, 97, 45, 99, 93]))) },
  { dst := some 14, op := .mov (.t 13) },
  { dst := some 15, op := .mov (.t 2), guard := some (14, true) },
  { dst := some 16, op := .bin .eql (.t 15) (.c (.nat .i64 4)), guard := some (14, true) },
  { dst := some 17, op := .pick (.t 14) (.t 16) (.c (.d (.bool false))) },
  { dst := some 18, op := .mov (.t 17) },
  { dst := some 19, op := .mov (.t 3), guard := some (18, true) },
  { dst := some 20, op := .bin .eql (.t 19) (.c (.nat .i64 0)), guard := some (18, true) },
  { dst := some 21, op := .pick (.t 18) (.t 20) (.c (.d (.bool false))) },
  { dst := some 22, op := .mov (.t 21) },
  { dst := some 23, op := .load (some 4) (.t 1), guard := some (22, true) },
  { dst := some 24, op := .call (.f f_class_Has) [.t 23, .c (.nat .u8 98)], guard := some (22, true) },
  { dst := some 25, op := .pick (.t 22) (.t 24) (.c (.d (.bool false))) },
  { dst := some 26, op := .mov (.t 25) },
  { dst := some 27, op := .load (some 4) (.t 1), guard := some (26, true) },
  { dst := some 28, op := .call (.f f_class_Has) [.t 27, .c (.nat .u8 97)], guard := some (26, true) },
  { dst := some 29, op := .un .not (.t 28), guard := some (26, true) },
  { dst := some 30, op := .pick (.t 26) (.t 29) (.c (.d (.bool false))) },
  { dst := some 0, op := .asg (.t 30) }]
def c_law04_shown : AC :=
  (.seq (.ops o_law04_shown_0)
  (.seq (.ops o_law04_shown_1)
  (.seq (.ops o_law04_shown_2)
  .ret)))
def a_law04_shown : AFn := { body := c_law04_shown, res := [.tmp 0] }

-- dragoman/class.Sign
def o_class_Sign_0 : List AOp := [
  { dst := some 2, op := .asg (.c (.nat .u8 0)) },
  { dst := some 3, op := .asg (.c (.nat .i64 0)) },
  { dst := some 4, op := .asg (.c (.nat .i64 0)) }]
def o_class_Sign_1 : List AOp := [
  { dst := some 6, op := .mov (.t 0) },
  { dst := some 7, op := .bin .eql (.t 6) (.c (.d (.str []))) },
  { dst := some 8, op := .mov (.t 7) },
  { dst := some 9, op := .mov (.t 0), guard := some (8, false) },
  { dst := some 10, op := .idxS (.t 9) (.c (.nat .i64 0)), guard := some (8, false) },
  { dst := some 11, op := .bin .neq (.t 10) (.c (.nat .u8 92)), guard := some (8, false) },
  { dst := some 12, op := .mov (.t 11), guard := some (8, false) },
  { dst := some 13, op := .mov (.t 0), guard := some (12, true) },
  { dst := some 14, op := .idxS (.t 13) (.c (.nat .i64 0)), guard := some (12, true) },
  { dst := some 15, op := .call (.f f_strings_IndexByte) [.c (.d (.str [10, 93, 91, 94, 45])), .t 14], guard := some (12, true) },
  { dst := some 16, op := .bin .geq (.t 15) (.c (.nat .i64 0)), guard := some (12, true) },
  { dst := some 17, op := .pick (.t 12) (.t 16) (.c (.d (.bool false))), guard := some (8, false) },
  { dst := some 18, op := .pick (.t 8) (.c (.d (.bool true))) (.t 17) },
  { dst := some 5, op := .asg (.t 18) }]
def o_class_Sign_2 : List AOp := [
  { dst := some 2, op := .asg (.c (.nat .u8 0)) },
  { dst := some 3, op := .asg (.c (.nat .i64 0)) },
  { dst := some 4, op := .asg (.c (.nat .i64 2)) }]
def o_class_Sign_3 : List AOp := [
  { dst := some 20, op := .mov (.t 0) },
  { dst := some 21, op := .idxS (.t 20) (.c (.nat .i64 0)) },
  { dst := some 22, op := .bin .neq (.t 21) (.c (.nat .u8 92)) },
  { dst := some 19, op := .asg (.t 22) }]
def o_class_Sign_4 : List AOp := [
  { dst := some 23, op := .mov (.t 0) },
  { dst := some 24, op := .idxS (.t 23) (.c (.nat .i64 0)) },
  { dst := some 2, op := .asg (.t 24) },
  { dst := some 3, op := .asg (.c (.nat .i64 1)) },
  { dst := some 4, op := .asg (.c (.nat .i64 0)) }]
def o_class_Sign_5 : List AOp := [
  { dst := some 26, op := .mov (.t 0) },
  { dst := some 27, op := .lenS (.t 26) },
  { dst := some 28, op := .bin .lss (.t 27) (.c (.nat .i64 2)) },
  { dst := some 25, op := .asg (.t 28) }]
def o_class_Sign_6 : List AOp := [
  { dst := some 2, op := .asg (.c (.nat .u8 0)) },
  { dst := some 3, op := .asg (.c (.nat .i64 0)) },
  { dst := some 4, op := .asg (.c (.nat .i64 2)) }]
def o_class_Sign_7 : List AOp := [
  { dst := some 30, op := .mov (.t 0) },
  { dst := some 31, op := .idxS (.t 30) (.c (.nat .i64 1)) },
  { dst := some 32, op := .call (.f f_strings_IndexByte) [.c (.d (.str [92, 93, 91, 94, 45, 47, 46, 42, 43, 63, 40, 41, 124, 123, 125, 36])), .t 31] },
  { dst := some 33, op := .bin .geq (.t 32) (.c (.nat .i64 0)) },
  { dst := some 29, op := .asg (.t 33) }]
def o_class_Sign_8 : List AOp := [
  { dst := some 34, op := .mov (.t 0) },
  { dst := some 35, op := .idxS (.t 34) (.c (.nat .i64 1)) },
  { dst := some 2, op := .asg (.t 35) },
  { dst := some 3, op := .asg (.c (.nat .i64 2)) },
  { dst := some 4, op := .asg (.c (.nat .i64 0)) }]
def o_class_Sign_9 : List AOp := [
  { dst := some 37, op := .mov (.t 0) },
  { dst := some 38, op := .lenS (.t 37) },
  { dst := some 39, op := .bin .lss (.t 38) (.c (.nat .i64 4)) },
  { dst := some 40, op := .mov (.t 39) },
  { dst := some 41, op := .mov (.t 0), guard := some (40, false) },
  { dst := some 42, op := .idxS (.t 41) (.c (.nat .i64 1)), guard := some (40, false) },
  { dst := some 43, op := .bin .neq (.t 42) (.c (.nat .u8 120)), guard := some (40, false) },
  { dst := some 44, op := .pick (.t 40) (.c (.d (.bool true))) (.t 43) },
  { dst := some 45, op := .mov (.t 44) },
  { dst := some 46, op := .mov (.t 0), guard := some (45, false) },
  { dst := some 47, op := .idxS (.t 46) (.c (.nat .i64 2)), guard := some (45, false) },
  { dst := some 48, op := .call (.f f_hex_Digit) [.t 47], guard := some (45, false) },
  { dst := some 49, op := .bin .lss (.t 48) (.c (.nat .i64 0)), guard := some (45, false) },
  { dst := some 50, op := .pick (.t 45) (.c (.d (.bool true))) (.t 49) },
  { dst := some 51, op := .mov (.t 50) },
  { dst := some 52, op := .mov (.t 0), guard := some (51, false) },
  { dst := some 53, op := .idxS (.t 52) (.c (.nat .i64 3)), guard := some (51, false) },
  { dst := some 54, op := .call (.f f_hex_Digit) [.t 53], guard := some (51, false) },
  { dst := some 55, op := .bin .lss (.t 54) (.c (.nat .i64 0)), guard := some (51, false) },
  { dst := some 56, op := .pick (.t 51) (.c (.d (.bool true))) (.t 55) },
  { dst := some 36, op := .asg (.t 56) }]
def o_class_Sign_10 : List AOp := [
  { dst := some 2, op := .asg (.c (.nat .u8 0)) },
  { dst := some 3, op := .asg (.c (.nat .i64 0)) },
  { dst := some 4, op := .asg (.c (.nat .i64 2)) }]
def o_class_Sign_11 : List AOp := [
  { dst := some 57, op := .mov (.t 0), may := false },
  { dst := some 58, op := .idxS (.t 57) (.c (.nat .i64 2)), may := false },
  { dst := some 59, op := .call (.f f_hex_Digit) [.t 58], may := false },
  { dst := some 60, op := .bin .shl (.t 59) (.c (.nat .u64 4)), may := false },
  { dst := some 61, op := .mov (.t 0), may := false },
  { dst := some 62, op := .idxS (.t 61) (.c (.nat .i64 3)), may := false },
  { dst := some 63, op := .call (.f f_hex_Digit) [.t 62], may := false },
  { dst := some 64, op := .bin .or (.t 60) (.t 63) },
  { dst := some 65, op := .toInt .u8 (.t 64) },
  { dst := some 2, op := .asg (.t 65) },
  { dst := some 3, op := .asg (.c (.nat .i64 4)) },
  { dst := some 4, op := .asg (.c (.nat .i64 0)) }]
def c_class_Sign : AC :=
  (.seq (.ops o_class_Sign_0)
  (.seq (.trim [0] (.block 0 (.seq (.ops o_class_Sign_1)
  (.cond (.t 5) (.seq (.ops o_class_Sign_2)
  .ret) (.seq (.ops o_class_Sign_3)
  (.cond (.t 19) (.seq (.ops o_class_Sign_4)
  .ret) (.seq (.ops o_class_Sign_5)
  (.cond (.t 25) (.seq (.ops o_class_Sign_6)
  .ret) (.seq (.ops o_class_Sign_7)
  (.cond (.t 29) (.seq (.ops o_class_Sign_8)
  .ret) (.seq (.ops o_class_Sign_9)
  (.cond (.t 36) (.seq (.ops o_class_Sign_10)
  .ret) .skip))))))))))))
  (.seq (.ops o_class_Sign_11)
  .ret)))
def a_class_Sign : AFn := { body := c_class_Sign, res := [.tmp 2, .tmp 3, .tmp 4] }

-- dragoman/dragomanref04.Sign
def o_ref04_Sign_0 : List AOp := [
  { dst := some 2, op := .asg (.c (.nat .u8 0)) },
  { dst := some 3, op := .asg (.c (.nat .i64 0)) },
  { dst := some 4, op := .asg (.c (.nat .i64 0)) }]
def o_ref04_Sign_1 : List AOp := [
  { dst := some 10, op := .mov (.t 0) },
  { dst := some 11, op := .lenS (.t 10) },
  { dst := some 12, op := .bin .lss (.t 11) (.c (.nat .i64 1)) }]
def o_ref04_Sign_2 : List AOp := [
  { dst := some 2, op := .asg (.c (.nat .u8 0)) },
  { dst := some 3, op := .asg (.c (.nat .i64 0)) },
  { dst := some 4, op := .asg (.c (.nat .i64 2)) }]
def o_ref04_Sign_3 : List AOp := [
  { dst := some 13, op := .mov (.t 0) },
  { dst := some 14, op := .idxS (.t 13) (.c (.nat .i64 0)) },
  { dst := some 5, op := .asg (.t 14) }]
def o_ref04_Sign_4 : List AOp := [
  { dst := some 15, op := .mov (.t 5) },
  { dst := some 16, op := .bin .eql (.t 15) (.c (.nat .u8 10)) },
  { dst := some 17, op := .mov (.t 16) },
  { dst := some 18, op := .mov (.t 5), guard := some (17, false) },
  { dst := some 19, op := .bin .eql (.t 18) (.c (.nat .u8 93)), guard := some (17, false) },
  { dst := some 20, op := .pick (.t 17) (.c (.d (.bool true))) (.t 19) },
  { dst := some 21, op := .mov (.t 20) },
  { dst := some 22, op := .mov (.t 5), guard := some (21, false) },
  { dst := some 23, op := .bin .eql (.t 22) (.c (.nat .u8 91)), guard := some (21, false) },
  { dst := some 24, op := .pick (.t 21) (.c (.d (.bool true))) (.t 23) },
  { dst := some 25, op := .mov (.t 24) },
  { dst := some 26, op := .mov (.t 5), guard := some (25, false) },
  { dst := some 27, op := .bin .eql (.t 26) (.c (.nat .u8 94)), guard := some (25, false) },
  { dst := some 28, op := .pick (.t 25) (.c (.d (.bool true))) (.t 27) },
  { dst := some 29, op := .mov (.t 28) },
  { dst := some 30, op := .mov (.t 5), guard := some (29, false) },
  { dst := some 31, op := .bin .eql (.t 30) (.c (.nat .u8 45)), guard := some (29, false) },
  { dst := some 32, op := .pick (.t 29) (.c (.d (.bool true))) (.t 31) }]
def o_ref04_Sign_5 : List AOp := [
  { dst := some 2, op := .asg (.c (.nat .u8 0)) },
  { dst := some 3, op := .asg (.c (.nat .i64 0)) },
  { dst := some 4, op := .asg (.c (.nat .i64 2)) }]
def o_ref04_Sign_6 : List AOp := [
  { dst := some 33, op := .mov (.t 5) },
  { dst := some 34, op := .bin .neq (.t 33) (.c (.nat .u8 92)) }]
def o_ref04_Sign_7 : List AOp := [
  { dst := some 35, op := .mov (.t 5) },
  { dst := some 2, op := .asg (.t 35) },
  { dst := some 3, op := .asg (.c (.nat .i64 1)) },
  { dst := some 4, op := .asg (.c (.nat .i64 0)) }]
def o_ref04_Sign_8 : List AOp := [
  { dst := some 36, op := .mov (.t 0) },
  { dst := some 37, op := .lenS (.t 36) },
  { dst := some 38, op := .bin .lss (.t 37) (.c (.nat .i64 2)) }]
def o_ref04_Sign_9 : List AOp := [
  { dst := some 2, op := .asg (.c (.nat .u8 0)) },
  { dst := some 3, op := .asg (.c (.nat .i64 0)) },
  { dst := some 4, op := .asg (.c (.nat .i64 2)) }]
def o_ref04_Sign_10 : List AOp := [
  { dst := some 6, op := .asg (.c (.d (.str [92, 93, 91, 94, 45, 47, 46, 42, 43, 63, 40, 41, 124, 123, 125, 36]))) }]
def o_ref04_Sign_11 : List AOp := [
  { dst := some 7, op := .asg (.c (.nat .i64 0)) }]
def o_ref04_Sign_12 : List AOp := [
  { dst := some 39, op := .mov (.t 7) },
  { dst := some 40, op := .mov (.t 6) },
  { dst := some 41, op := .lenS (.t 40) },
  { dst := some 42, op := .bin .lss (.t 39) (.t 41) }]
def o_ref04_Sign_14 : List AOp := [
  { dst := some 45, op := .mov (.t 0), may := false },
  { dst := some 46, op := .idxS (.t 45) (.c (.nat .i64 1)), may := false },
  { dst := some 47, op := .mov (.t 6), may := false },
  { dst := some 48, op := .mov (.t 7), may := false },
  { dst := some 49, op := .idxS (.t 47) (.t 48), may := false },
  { dst := some 50, op := .bin .eql (.t 46) (.t 49) }]
def o_ref04_Sign_15 : List AOp := [
  { dst := some 51, op := .mov (.t 0) },
  { dst := some 52, op := .idxS (.t 51) (.c (.nat .i64 1)) },
  { dst := some 2, op := .asg (.t 52) },
  { dst := some 3, op := .asg (.c (.nat .i64 2)) },
  { dst := some 4, op := .asg (.c (.nat .i64 0)) }]
def o_ref04_Sign_13 : List AOp := [
  { dst := some 43, op := .mov (.t 7) },
  { dst := some 44, op := .bin .add (.t 43) (.c (.nat .i64 1)) },
  { dst := some 7, op := .asg (.t 44) }]
def b_ref04_Sign_0 : AC := (.seq (.seq (.ops o_ref04_Sign_12)
  (.cond (.t 42) .skip (.exit 0)))
  (.seq (.trim [0, 6, 7] (.block 1 (.seq (.ops o_ref04_Sign_14)
  (.cond (.t 50) (.seq (.ops o_ref04_Sign_15)
  .ret) .skip))))
  (.ops o_ref04_Sign_13)))
def o_ref04_Sign_16 : List AOp := [
  { dst := some 53, op := .mov (.t 0) },
  { dst := some 54, op := .lenS (.t 53) },
  { dst := some 55, op := .bin .lss (.t 54) (.c (.nat .i64 4)) },
  { dst := some 56, op := .mov (.t 55) },
  { dst := some 57, op := .mov (.t 0), guard := some (56, false) },
  { dst := some 58, op := .idxS (.t 57) (.c (.nat .i64 1)), guard := some (56, false) },
  { dst := some 59, op := .bin .neq (.t 58) (.c (.nat .u8 120)), guard := some (56, false) },
  { dst := some 60, op := .pick (.t 56) (.c (.d (.bool true))) (.t 59) }]
def o_ref04_Sign_17 : List AOp := [
  { dst := some 2, op := .asg (.c (.nat .u8 0)) },
  { dst := some 3, op := .asg (.c (.nat .i64 0)) },
  { dst := some 4, op := .asg (.c (.nat .i64 2)) }]
def o_ref04_Sign_18 : List AOp := [
  { dst := some 61, op := .mov (.t 0) },
  { dst := some 62, op := .idxS (.t 61) (.c (.nat .i64 2)) },
  { dst := some 63, op := .call (.f f_ref01_Digit) [.t 62] },
  { dst := some 8, op := .asg (.t 63) }]
def o_ref04_Sign_19 : List AOp := [
  { dst := some 64, op := .mov (.t 0) },
  { dst := some 65, op := .idxS (.t 64) (.c (.nat .i64 3)) },
  { dst := some 66, op := .call (.f f_ref01_Digit) [.t 65] },
  { dst := some 9, op := .asg (.t 66) }]
def o_ref04_Sign_20 : List AOp := [
  { dst := some 67, op := .mov (.t 8) },
  { dst := some 68, op := .bin .lss (.t 67) (.c (.nat .i64 0)) },
  { dst := some 69, op := .mov (.t 68) },
  { dst := some 70, op := .mov (.t 9), guard := some (69, false) },
  { dst := some 71, op := .bin .lss (.t 70) (.c (.nat .i64 0)), guard := some (69, false) },
  { dst := some 72, op := .pick (.t 69) (.c (.d (.bool true))) (.t 71) }]
def o_ref04_Sign_21 : List AOp := [
  { dst := some 2, op := .asg (.c (.nat .u8 0)) },
  { dst := some 3, op := .asg (.c (.nat .i64 0)) },
  { dst := some 4, op := .asg (.c (.nat .i64 2)) }]
def o_ref04_Sign_22 : List AOp := [
  { dst := some 73, op := .mov (.t 8) },
  { dst := some 74, op := .bin .mul (.c (.nat .i64 16)) (.t 73) },
  { dst := some 75, op := .mov (.t 9) },
  { dst := some 76, op := .bin .add (.t 74) (.t 75) },
  { dst := some 77, op := .toInt .u8 (.t 76) },
  { dst := some 2, op := .asg (.t 77) },
  { dst := some 3, op := .asg (.c (.nat .i64 4)) },
  { dst := some 4, op := .asg (.c (.nat .i64 0)) }]
def c_ref04_Sign : AC :=
  (.seq (.ops o_ref04_Sign_0)
  (.seq (.seq (.ops o_ref04_Sign_1)
  (.cond (.t 12) (.seq (.ops o_ref04_Sign_2)
  .ret) .skip))
  (.seq (.ops o_ref04_Sign_3)
  (.seq (.seq (.ops o_ref04_Sign_4)
  (.cond (.t 32) (.seq (.ops o_ref04_Sign_5)
  .ret) .skip))
  (.seq (.seq (.ops o_ref04_Sign_6)
  (.cond (.t 34) (.seq (.ops o_ref04_Sign_7)
  .ret) .skip))
  (.seq (.seq (.ops o_ref04_Sign_8)
  (.cond (.t 38) (.seq (.ops o_ref04_Sign_9)
  .ret) .skip))
  (.seq (.ops o_ref04_Sign_10)
  (.seq (.seq (.ops o_ref04_Sign_11)
  (.trim [0] (.block 0 (.loop [0, 6, 7] b_ref04_Sign_0))))
  (.seq (.seq (.ops o_ref04_Sign_16)
  (.cond (.t 60) (.seq (.ops o_ref04_Sign_17)
  .ret) .skip))
  (.seq (.ops o_ref04_Sign_18)
  (.seq (.ops o_ref04_Sign_19)
  (.seq (.seq (.ops o_ref04_Sign_20)
  (.cond (.t 72) (.seq (.ops o_ref04_Sign_21)
  .ret) .skip))
  (.seq (.ops o_ref04_Sign_22)
  .ret)))))))))))))
def a_ref04_Sign : AFn := { body := c_ref04_Sign, res := [.tmp 2, .tmp 3, .tmp 4] }

-- dragoman/class.Read
def o_class_Read_0 : List AOp := [
  { dst := some 1, op := .box (.t 0) },
  { dst := some 2, op := .alloc [.nat .u64 0, .nat .u64 0, .nat .u64 0, .nat .u64 0] },
  { dst := some 3, op := .asg (.c (.nat .i64 0)) },
  { dst := some 4, op := .asg (.c (.nat .i64 0)) }]
def o_class_Read_1 : List AOp := [
  { dst := some 5, op := .alloc [.nat .u64 0, .nat .u64 0, .nat .u64 0, .nat .u64 0] }]
def o_class_Read_2 : List AOp := [
  { dst := some 6, op := .alloc [.nat .i64 0] },
  { dst := none, op := .store 1 (.t 6) (.c (.nat .i64 0)) }]
def o_class_Read_3 : List AOp := [
  { dst := some 14, op := .mkfn (.func f_class_Read_1) [] [.t 6, .t 1] },
  { dst := some 7, op := .asg (.t 14) }]
def o_class_Read_4 : List AOp := [
  { dst := some 15, op := .mov (.t 7) },
  { dst := some 16, op := .call (.t 15) [.c (.nat .u8 91)] },
  { dst := some 17, op := .un .not (.t 16) }]
def o_class_Read_5 : List AOp := [
  { dst := some 18, op := .load (some 4) (.t 5) },
  { dst := none, op := .store 4 (.t 2) (.t 18) },
  { dst := some 3, op := .asg (.c (.nat .i64 0)) },
  { dst := some 4, op := .asg (.c (.nat .i64 2)) }]
def o_class_Read_6 : List AOp := [
  { dst := some 19, op := .mov (.t 7) },
  { dst := some 20, op := .call (.t 19) [.c (.nat .u8 94)] },
  { dst := some 8, op := .asg (.t 20) }]
def o_class_Read_7 : List AOp := [
  { dst := some 9, op := .asg (.c (.nat .i64 0)) }]
def o_class_Read_9 : List AOp := [
  { dst := some 23, op := .mov (.t 9) },
  { dst := some 24, op := .bin .gtr (.t 23) (.c (.nat .i64 0)) },
  { dst := some 25, op := .mov (.t 24) },
  { dst := some 26, op := .mov (.t 7), guard := some (25, true) },
  { dst := some 27, op := .call (.t 26) [.c (.nat .u8 93)], guard := some (25, true) },
  { dst := some 28, op := .pick (.t 25) (.t 27) (.c (.d (.bool false))) }]
def o_class_Read_10 : List AOp := [
  { dst := some 30, op := .load none (.t 1) },
  { dst := some 31, op := .load none (.t 6) },
  { dst := some 32, op := .sliceS (.t 30) (some (.t 31)) none },
  { dst := some 33, op := .call (.f f_class_Sign) [.t 32] },
  { dst := some 29, op := .mov (.t 33) },
  { dst := some 34, op := .extr (.t 29) 0 },
  { dst := some 35, op := .extr (.t 29) 1 },
  { dst := some 36, op := .extr (.t 29) 2 },
  { dst := some 10, op := .asg (.t 34) },
  { dst := some 11, op := .asg (.t 35) },
  { dst := some 12, op := .asg (.t 36) }]
def o_class_Read_11 : List AOp := [
  { dst := some 37, op := .mov (.t 12) },
  { dst := some 38, op := .bin .neq (.t 37) (.c (.nat .i64 0)) }]
def o_class_Read_12 : List AOp := [
  { dst := some 39, op := .build [.nat .u64 0, .nat .u64 0, .nat .u64 0, .nat .u64 0] [] },
  { dst := some 40, op := .mov (.t 12) },
  { dst := none, op := .store 4 (.t 2) (.t 39) },
  { dst := some 3, op := .asg (.c (.nat .i64 0)) },
  { dst := some 4, op := .asg (.t 40) }]
def o_class_Read_13 : List AOp := [
  { dst := some 41, op := .load none (.t 6) },
  { dst := some 42, op := .mov (.t 11) },
  { dst := some 43, op := .bin .add (.t 41) (.t 42) },
  { dst := none, op := .store 1 (.t 6) (.t 43) }]
def o_class_Read_14 : List AOp := [
  { dst := some 44, op := .mov (.t 10) },
  { dst := some 13, op := .asg (.t 44) }]
def o_class_Read_15 : List AOp := [
  { dst := some 45, op := .mov (.t 7) },
  { dst := some 46, op := .call (.t 45) [.c (.nat .u8 45)] }]
def o_class_Read_16 : List AOp := [
  { dst := some 48, op := .load none (.t 1) },
  { dst := some 49, op := .load none (.t 6) },
  { dst := some 50, op := .sliceS (.t 48) (some (.t 49)) none },
  { dst := some 51, op := .call (.f f_class_Sign) [.t 50] },
  { dst := some 47, op := .mov (.t 51) },
  { dst := some 52, op := .extr (.t 47) 0 },
  { dst := some 53, op := .extr (.t 47) 1 },
  { dst := some 54, op := .extr (.t 47) 2 },
  { dst := some 13, op := .asg (.t 52) },
  { dst := some 11, op := .asg (.t 53) },
  { dst := some 12, op := .asg (.t 54) }]
def o_class_Read_17 : List AOp := [
  { dst := some 55, op := .mov (.t 12) },
  { dst := some 56, op := .bin .neq (.t 55) (.c (.nat .i64 0)) },
  { dst := some 57, op := .mov (.t 56) },
  { dst := some 58, op := .mov (.t 10), guard := some (57, false) },
  { dst := some 59, op := .mov (.t 13), guard := some (57, false) },
  { dst := some 60, op := .bin .gtr (.t 58) (.t 59), guard := some (57, false) },
  { dst := some 61, op := .pick (.t 57) (.c (.d (.bool true))) (.t 60) }]
def o_class_Read_18 : List AOp := [
  { dst := some 62, op := .build [.nat .u64 0, .nat .u64 0, .nat .u64 0, .nat .u64 0] [] },
  { dst := none, op := .store 4 (.t 2) (.t 62) },
  { dst := some 3, op := .asg (.c (.nat .i64 0)) },
  { dst := some 4, op := .asg (.c (.nat .i64 2)) }]
def o_class_Read_19 : List AOp := [
  { dst := some 63, op := .load none (.t 6) },
  { dst := some 64, op := .mov (.t 11) },
  { dst := some 65, op := .bin .add (.t 63) (.t 64) },
  { dst := none, op := .store 1 (.t 6) (.t 65) }]
def o_class_Read_20 : List AOp := [
  { dst := some 66, op := .load (some 4) (.t 5), may := false },
  { dst := some 67, op := .mov (.t 10), may := false },
  { dst := some 68, op := .mov (.t 13), may := false },
  { dst := some 69, op := .callZ (.f f_class_Span) [.t 67, .t 68], may := false },
  { dst := some 70, op := .call (.f f_class_Or) [.t 66, .t 69] },
  { dst := none, op := .store 4 (.t 5) (.t 70) }]
def o_class_Read_8 : List AOp := [
  { dst := some 21, op := .mov (.t 9) },
  { dst := some 22, op := .bin .add (.t 21) (.c (.nat .i64 1)) },
  { dst := some 9, op := .asg (.t 22) }]
def b_class_Read_0 : AC := (.seq (.trim [1, 2, 5, 6, 7, 8, 9] (.block 1 (.seq (.seq (.ops o_class_Read_9)
  (.cond (.t 28) (.exit 0) .skip))
  (.seq (.ops o_class_Read_10)
  (.seq (.seq (.ops o_class_Read_11)
  (.cond (.t 38) (.seq (.ops o_class_Read_12)
  .ret) .skip))
  (.seq (.ops o_class_Read_13)
  (.seq (.ops o_class_Read_14)
  (.seq (.seq (.ops o_class_Read_15)
  (.cond (.t 46) (.seq (.seq (.ops o_class_Read_16)
  (.seq (.ops o_class_Read_17)
  (.cond (.t 61) (.seq (.ops o_class_Read_18)
  .ret) .skip)))
  (.ops o_class_Read_19)) .skip))
  (.ops o_class_Read_20)))))))))
  (.ops o_class_Read_8))
def o_class_Read_21 : List AOp := [
  { dst := some 71, op := .mov (.t 8) }]
def o_class_Read_22 : List AOp := [
  { dst := some 72, op := .load (some 4) (.t 5), may := false },
  { dst := some 73, op := .callZ (.f f_class_One) [.c (.nat .u8 10)], may := false },
  { dst := some 74, op := .call (.f f_class_Or) [.t 72, .t 73] },
  { dst := some 75, op := .call (.f f_class_Not) [.t 74] },
  { dst := none, op := .store 4 (.t 5) (.t 75) }]
def o_class_Read_23 : List AOp := [
  { dst := some 76, op := .load (some 4) (.t 5), may := false },
  { dst := some 77, op := .loadB none (.t 6) (.t 6), may := false },
  { dst := none, op := .storeW 4 (.t 2) (.t 76) [.t 6], may := false },
  { dst := some 3, op := .asg (.t 77) },
  { dst := some 4, op := .asg (.c (.nat .i64 0)) }]
def c_class_Read : AC :=
  (.seq (.ops o_class_Read_0)
  (.seq (.ops o_class_Read_1)
  (.seq (.ops o_class_Read_2)
  (.seq (.ops o_class_Read_3)
  (.seq (.seq (.ops o_class_Read_4)
  (.cond (.t 17) (.seq (.ops o_class_Read_5)
  .ret) .skip))
  (.seq (.ops o_class_Read_6)
  (.seq (.seq (.ops o_class_Read_7)
  (.trim [2, 5, 6, 8] (.block 0 (.loop [1, 2, 5, 6, 7, 8, 9] b_class_Read_0))))
  (.seq (.seq (.ops o_class_Read_21)
  (.cond (.t 71) (.ops o_class_Read_22) .skip))
  (.seq (.ops o_class_Read_23)
  .ret)))))))))
def a_class_Read : AFn := { body := c_class_Read, res := [.cell 2 (some 4), .tmp 3, .tmp 4] }

-- dragoman/dragomanref04.Read
def o_ref04_Read_0 : List AOp := [
  { dst := some 2, op := .alloc [.nat .u64 0, .nat .u64 0, .nat .u64 0, .nat .u64 0] },
  { dst := some 3, op := .asg (.c (.nat .i64 0)) },
  { dst := some 4, op := .asg (.c (.nat .i64 0)) }]
def o_ref04_Read_1 : List AOp := [
  { dst := some 15, op := .mov (.t 0) },
  { dst := some 16, op := .lenS (.t 15) },
  { dst := some 17, op := .bin .lss (.t 16) (.c (.nat .i64 2)) },
  { dst := some 18, op := .mov (.t 17) },
  { dst := some 19, op := .mov (.t 0), guard := some (18, false) },
  { dst := some 20, op := .idxS (.t 19) (.c (.nat .i64 0)), guard := some (18, false) },
  { dst := some 21, op := .bin .neq (.t 20) (.c (.nat .u8 91)), guard := some (18, false) },
  { dst := some 22, op := .pick (.t 18) (.c (.d (.bool true))) (.t 21) }]
def o_ref04_Read_2 : List AOp := [
  { dst := some 23, op := .build [.nat .u64 0, .nat .u64 0, .nat .u64 0, .nat .u64 0] [] },
  { dst := none, op := .store 4 (.t 2) (.t 23) },
  { dst := some 3, op := .asg (.c (.nat .i64 0)) },
  { dst := some 4, op := .asg (.c (.nat .i64 2)) }]
def o_ref04_Read_3 : List AOp := [
  { dst := some 5, op := .asg (.c (.nat .i64 1)) }]
def o_ref04_Read_4 : List AOp := [
  { dst := some 24, op := .mov (.t 0) },
  { dst := some 25, op := .idxS (.t 24) (.c (.nat .i64 1)) },
  { dst := some 26, op := .bin .eql (.t 25) (.c (.nat .u8 94)) },
  { dst := some 6, op := .asg (.t 26) }]
def o_ref04_Read_5 : List AOp := [
  { dst := some 27, op := .mov (.t 6) }]
def o_ref04_Read_6 : List AOp := [
  { dst := some 5, op := .asg (.c (.nat .i64 2)) }]
def o_ref04_Read_7 : List AOp := [
  { dst := some 28, op := .build [.nat .u64 0, .nat .u64 0, .nat .u64 0, .nat .u64 0] [] },
  { dst := some 7, op := .alloc [.nat .u64 0, .nat .u64 0, .nat .u64 0, .nat .u64 0] },
  { dst := none, op := .store 4 (.t 7) (.t 28) }]
def o_ref04_Read_8 : List AOp := [
  { dst := some 8, op := .asg (.c (.d (.bool true))) }]
def o_ref04_Read_9 : List AOp := [
  { dst := some 29, op := .mov (.t 8) },
  { dst := some 30, op := .mov (.t 29) },
  { dst := some 31, op := .mov (.t 5), guard := some (30, false) },
  { dst := some 32, op := .mov (.t 0), guard := some (30, false) },
  { dst := some 33, op := .lenS (.t 32), guard := some (30, false) },
  { dst := some 34, op := .bin .geq (.t 31) (.t 33), guard := some (30, false) },
  { dst := some 35, op := .pick (.t 30) (.c (.d (.bool true))) (.t 34) },
  { dst := some 36, op := .mov (.t 35) },
  { dst := some 37, op := .mov (.t 0), guard := some (36, false) },
  { dst := some 38, op := .mov (.t 5), guard := some (36, false) },
  { dst := some 39, op := .idxS (.t 37) (.t 38), guard := some (36, false) },
  { dst := some 40, op := .bin .neq (.t 39) (.c (.nat .u8 93)), guard := some (36, false) },
  { dst := some 41, op := .pick (.t 36) (.c (.d (.bool true))) (.t 40) }]
def o_ref04_Read_10 : List AOp := [
  { dst := some 8, op := .asg (.c (.d (.bool false))) }]
def o_ref04_Read_11 : List AOp := [
  { dst := some 43, op := .mov (.t 0) },
  { dst := some 44, op := .mov (.t 5) },
  { dst := some 45, op := .sliceS (.t 43) (some (.t 44)) none },
  { dst := some 46, op := .call (.f f_ref04_Sign) [.t 45] },
  { dst := some 42, op := .mov (.t 46) },
  { dst := some 47, op := .extr (.t 42) 0 },
  { dst := some 48, op := .extr (.t 42) 1 },
  { dst := some 49, op := .extr (.t 42) 2 },
  { dst := some 9, op := .asg (.t 47) },
  { dst := some 10, op := .asg (.t 48) },
  { dst := some 11, op := .asg (.t 49) }]
def o_ref04_Read_12 : List AOp := [
  { dst := some 50, op := .mov (.t 11) },
  { dst := some 51, op := .bin .neq (.t 50) (.c (.nat .i64 0)) }]
def o_ref04_Read_13 : List AOp := [
  { dst := some 52, op := .build [.nat .u64 0, .nat .u64 0, .nat .u64 0, .nat .u64 0] [] },
  { dst := none, op := .store 4 (.t 2) (.t 52) },
  { dst := some 3, op := .asg (.c (.nat .i64 0)) },
  { dst := some 4, op := .asg (.c (.nat .i64 2)) }]
def o_ref04_Read_14 : List AOp := [
  { dst := some 53, op := .mov (.t 5) },
  { dst := some 54, op := .mov (.t 10) },
  { dst := some 55, op := .bin .add (.t 53) (.t 54) },
  { dst := some 5, op := .asg (.t 55) }]
def o_ref04_Read_15 : List AOp := [
  { dst := some 56, op := .mov (.t 5) },
  { dst := some 57, op := .mov (.t 0) },
  { dst := some 58, op := .lenS (.t 57) },
  { dst := some 59, op := .bin .lss (.t 56) (.t 58) },
  { dst := some 60, op := .mov (.t 59) },
  { dst := some 61, op := .mov (.t 0), guard := some (60, true) },
  { dst := some 62, op := .mov (.t 5), guard := some (60, true) },
  { dst := some 63, op := .idxS (.t 61) (.t 62), guard := some (60, true) },
  { dst := some 64, op := .bin .eql (.t 63) (.c (.nat .u8 45)), guard := some (60, true) },
  { dst := some 65, op := .pick (.t 60) (.t 64) (.c (.d (.bool false))) }]
def o_ref04_Read_16 : List AOp := [
  { dst := some 67, op := .mov (.t 0) },
  { dst := some 68, op := .mov (.t 5) },
  { dst := some 69, op := .bin .add (.t 68) (.c (.nat .i64 1)) },
  { dst := some 70, op := .sliceS (.t 67) (some (.t 69)) none },
  { dst := some 71, op := .call (.f f_ref04_Sign) [.t 70] },
  { dst := some 66, op := .mov (.t 71) },
  { dst := some 72, op := .extr (.t 66) 0 },
  { dst := some 73, op := .extr (.t 66) 1 },
  { dst := some 74, op := .extr (.t 66) 2 },
  { dst := some 12, op := .asg (.t 72) },
  { dst := some 13, op := .asg (.t 73) },
  { dst := some 14, op := .asg (.t 74) }]
def o_ref04_Read_17 : List AOp := [
  { dst := some 75, op := .mov (.t 14) },
  { dst := some 76, op := .bin .neq (.t 75) (.c (.nat .i64 0)) },
  { dst := some 77, op := .mov (.t 76) },
  { dst := some 78, op := .mov (.t 9), guard := some (77, false) },
  { dst := some 79, op := .mov (.t 12), guard := some (77, false) },
  { dst := some 80, op := .bin .gtr (.t 78) (.t 79), guard := some (77, false) },
  { dst := some 81, op := .pick (.t 77) (.c (.d (.bool true))) (.t 80) }]
def o_ref04_Read_18 : List AOp := [
  { dst := some 82, op := .build [.nat .u64 0, .nat .u64 0, .nat .u64 0, .nat .u64 0] [] },
  { dst := none, op := .store 4 (.t 2) (.t 82) },
  { dst := some 3, op := .asg (.c (.nat .i64 0)) },
  { dst := some 4, op := .asg (.c (.nat .i64 2)) }]
def o_ref04_Read_19 : List AOp := [
  { dst := some 83, op := .mov (.t 5) },
  { dst := some 84, op := .bin .add (.t 83) (.c (.nat .i64 1)) },
  { dst := some 85, op := .mov (.t 13) },
  { dst := some 86, op := .bin .add (.t 84) (.t 85) },
  { dst := some 5, op := .asg (.t 86) }]
def o_ref04_Read_20 : List AOp := [
  { dst := some 87, op := .load (some 4) (.t 7), may := false },
  { dst := some 88, op := .mov (.t 9), may := false },
  { dst := some 89, op := .mov (.t 12), may := false },
  { dst := some 90, op := .callZ (.f f_ref04_Span) [.t 88, .t 89], may := false },
  { dst := some 91, op := .call (.f f_ref04_Or) [.t 87, .t 90] },
  { dst := none, op := .store 4 (.t 7) (.t 91) }]
def o_ref04_Read_21 : List AOp := [
  { dst := some 92, op := .load (some 4) (.t 7) },
  { dst := some 93, op := .mov (.t 9) },
  { dst := some 94, op := .call (.f f_ref04_with) [.t 92, .t 93] },
  { dst := none, op := .store 4 (.t 7) (.t 94) }]
def o_ref04_Read_22 : List AOp := [
  { dst := some 95, op := .mov (.t 5) },
  { dst := some 96, op := .mov (.t 0) },
  { dst := some 97, op := .lenS (.t 96) },
  { dst := some 98, op := .bin .geq (.t 95) (.t 97) }]
def o_ref04_Read_23 : List AOp := [
  { dst := some 99, op := .build [.nat .u64 0, .nat .u64 0, .nat .u64 0, .nat .u64 0] [] },
  { dst := none, op := .store 4 (.t 2) (.t 99) },
  { dst := some 3, op := .asg (.c (.nat .i64 0)) },
  { dst := some 4, op := .asg (.c (.nat .i64 2)) }]
def b_ref04_Read_0 : AC := (.seq (.seq (.ops o_ref04_Read_9)
  (.cond (.t 41) .skip (.exit 0)))
  (.trim [0, 2, 5, 6, 7, 8] (.block 1 (.seq (.ops o_ref04_Read_10)
  (.seq (.ops o_ref04_Read_11)
  (.seq (.seq (.ops o_ref04_Read_12)
  (.cond (.t 51) (.seq (.ops o_ref04_Read_13)
  .ret) .skip))
  (.seq (.ops o_ref04_Read_14)
  (.seq (.seq (.ops o_ref04_Read_15)
  (.cond (.t 65) (.seq (.ops o_ref04_Read_16)
  (.seq (.seq (.ops o_ref04_Read_17)
  (.cond (.t 81) (.seq (.ops o_ref04_Read_18)
  .ret) .skip))
  (.seq (.ops o_ref04_Read_19)
  (.ops o_ref04_Read_20)))) (.ops o_ref04_Read_21)))
  (.seq (.ops o_ref04_Read_22)
  (.cond (.t 98) (.seq (.ops o_ref04_Read_23)
  .ret) .skip))))))))))
def o_ref04_Read_24 : List AOp := [
  { dst := some 100, op := .mov (.t 6) }]
def o_ref04_Read_25 : List AOp := [
  { dst := some 101, op := .load (some 4) (.t 7) },
  { dst := some 102, op := .call (.f f_ref04_with) [.t 101, .c (.nat .u8 10)] },
  { dst := some 103, op := .call (.f f_ref04_Not) [.t 102] },
  { dst := none, op := .store 4 (.t 7) (.t 103) }]
def o_ref04_Read_26 : List AOp := [
  { dst := some 104, op := .load (some 4) (.t 7) },
  { dst := some 105, op := .mov (.t 5) },
  { dst := some 106, op := .bin .add (.t 105) (.c (.nat .i64 1)) },
  { dst := none, op := .store 4 (.t 2) (.t 104) },
  { dst := some 3, op := .asg (.t 106) },
  { dst := some 4, op := .asg (.c (.nat .i64 0)) }]
def c_ref04_Read : AC :=
  (.seq (.ops o_ref04_Read_0)
  (.seq (.seq (.ops o_ref04_Read_1)
  (.cond (.t 22) (.seq (.ops o_ref04_Read_2)
  .ret) .skip))
  (.seq (.ops o_ref04_Read_3)
  (.seq (.ops o_ref04_Read_4)
  (.seq (.seq (.ops o_ref04_Read_5)
  (.cond (.t 27) (.ops o_ref04_Read_6) .skip))
  (.seq (.ops o_ref04_Read_7)
  (.seq (.ops o_ref04_Read_8)
  (.seq (.trim [2, 5, 6, 7] (.block 0 (.loop [0, 2, 5, 6, 7, 8] b_ref04_Read_0)))
  (.seq (.seq (.ops o_ref04_Read_24)
  (.cond (.t 100) (.ops o_ref04_Read_25) .skip))
  (.seq (.ops o_ref04_Read_26)
  .ret))))))))))
def a_ref04_Read : AFn := { body := c_ref04_Read, res := [.cell 2 (some 4), .tmp 3, .tmp 4] }

-- dragoman/class.Plain
def o_class_Plain_0 : List AOp := [
  { dst := some 2, op := .asg (.c (.d (.str []))) }]
def o_class_Plain_1 : List AOp := [
  { dst := some 3, op := .mov (.t 0) },
  { dst := some 4, op := .call (.f f_class_isWord) [.t 3] }]
def o_class_Plain_2 : List AOp := [
  { dst := some 5, op := .mov (.t 0) },
  { dst := some 6, op := .mkls 1 [.nat .u8 0] [(0, 1, (.t 5))] },
  { dst := some 7, op := .bytesStr (.t 6) },
  { dst := some 2, op := .asg (.t 7) }]
def o_class_Plain_3 : List AOp := [
  { dst := some 8, op := .mov (.t 0) },
  { dst := some 9, op := .mkls 1 [.nat .u8 0] [(0, 1, (.t 8))] },
  { dst := some 10, op := .bytesStr (.t 9) },
  { dst := some 11, op := .call (.f f_hex_Hex) [.t 10] },
  { dst := some 12, op := .bin .add (.c (.d (.str [92]))) (.t 11) },
  { dst := some 2, op := .asg (.t 12) }]
def c_class_Plain : AC :=
  (.seq (.ops o_class_Plain_0)
  (.seq (.seq (.ops o_class_Plain_1)
  (.cond (.t 4) (.seq (.ops o_class_Plain_2)
  .ret) .skip))
  (.seq (.ops o_class_Plain_3)
  .ret)))
def a_class_Plain : AFn := { body := c_class_Plain, res := [.tmp 2] }

-- dragoman/class.Not
def o_class_Not_0 : List AOp := [
  { dst := some 1, op := .box (.t 0) },
  { dst := some 2, op := .alloc [.nat .u64 0, .nat .u64 0, .nat .u64 0, .nat .u64 0] }]
def o_class_Not_1 : List AOp := [
  { dst := some 4, op := .mov (.c (.nat .i64 0)) }]
def o_class_Not_2 : List AOp := [
  { dst := some 5, op := .bin .lss (.t 4) (.c (.nat .i64 4)) }]
def o_class_Not_3 : List AOp := [
  { dst := some 6, op := .mov (.t 4) },
  { dst := some 3, op := .asg (.t 6) }]
def o_class_Not_4 : List AOp := [
  { dst := some 7, op := .mov (.t 3) },
  { dst := some 8, op := .mov (.t 3) },
  { dst := some 9, op := .idxA (some 4) 1 (.t 1) (.t 8) },
  { dst := some 10, op := .load none (.t 9) },
  { dst := some 11, op := .un .xor (.t 10) },
  { dst := some 12, op := .idxA (some 4) 1 (.t 1) (.t 7) },
  { dst := none, op := .store 1 (.t 12) (.t 11) }]
def o_class_Not_5 : List AOp := [
  { dst := some 13, op := .bin .add (.t 4) (.c (.nat .i64 1)) },
  { dst := some 4, op := .mov (.t 13) }]
def b_class_Not_0 : AC := (.seq (.ops o_class_Not_2)
  (.seq (.cond (.t 5) .skip (.exit 0))
  (.seq (.trim [1, 2, 4] (.block 1 (.seq (.ops o_class_Not_3)
  (.ops o_class_Not_4))))
  (.ops o_class_Not_5))))
def o_class_Not_6 : List AOp := [
  { dst := some 14, op := .load (some 4) (.t 1) },
  { dst := none, op := .store 4 (.t 2) (.t 14) }]
def c_class_Not : AC :=
  (.seq (.ops o_class_Not_0)
  (.seq (.seq (.ops o_class_Not_1)
  (.trim [1, 2] (.block 0 (.loop [1, 2, 4] b_class_Not_0))))
  (.seq (.ops o_class_Not_6)
  .ret)))
def a_class_Not : AFn := { body := c_class_Not, res := [.cell 2 (some 4)] }

-- dragoman/class.Or
def o_class_Or_0 : List AOp := [
  { dst := some 2, op := .box (.t 0) },
  { dst := some 3, op := .box (.t 1) },
  { dst := some 4, op := .alloc [.nat .u64 0, .nat .u64 0, .nat .u64 0, .nat .u64 0] }]
def o_class_Or_1 : List AOp := [
  { dst := some 6, op := .mov (.c (.nat .i64 0)) }]
def o_class_Or_2 : List AOp := [
  { dst := some 7, op := .bin .lss (.t 6) (.c (.nat .i64 4)) }]
def o_class_Or_3 : List AOp := [
  { dst := some 8, op := .mov (.t 6) },
  { dst := some 5, op := .asg (.t 8) }]
def o_class_Or_4 : List AOp := [
  { dst := some 9, op := .mov (.t 5), may := false },
  { dst := some 10, op := .idxA (some 4) 1 (.t 2) (.t 9), may := false },
  { dst := some 11, op := .load none (.t 10), may := false },
  { dst := some 12, op := .mov (.t 5), may := false },
  { dst := some 13, op := .idxA (some 4) 1 (.t 3) (.t 12), may := false },
  { dst := some 14, op := .load none (.t 13), may := false },
  { dst := some 15, op := .bin .or (.t 11) (.t 14) },
  { dst := some 16, op := .idxA (some 4) 1 (.t 2) (.t 9) },
  { dst := none, op := .store 1 (.t 16) (.t 15) }]
def o_class_Or_5 : List AOp := [
  { dst := some 17, op := .bin .add (.t 6) (.c (.nat .i64 1)) },
  { dst := some 6, op := .mov (.t 17) }]
def b_class_Or_0 : AC := (.seq (.ops o_class_Or_2)
  (.seq (.cond (.t 7) .skip (.exit 0))
  (.seq (.trim [2, 3, 4, 6] (.block 1 (.seq (.ops o_class_Or_3)
  (.ops o_class_Or_4))))
  (.ops o_class_Or_5))))
def o_class_Or_6 : List AOp := [
  { dst := some 18, op := .load (some 4) (.t 2) },
  { dst := none, op := .store 4 (.t 4) (.t 18) }]
def c_class_Or : AC :=
  (.seq (.ops o_class_Or_0)
  (.seq (.seq (.ops o_class_Or_1)
  (.trim [2, 4] (.block 0 (.loop [2, 3, 4, 6] b_class_Or_0))))
  (.seq (.ops o_class_Or_6)
  .ret)))
def a_class_Or : AFn := { body := c_class_Or, res := [.cell 4 (some 4)] }

-- dragoman/class.Has
def o_class_Has_0 : List AOp := [
  { dst := some 2, op := .box (.t 0) },
  { dst := some 4, op := .asg (.c (.d (.bool false))) }]
def o_class_Has_1 : List AOp := [
  { dst := some 5, op := .mov (.t 1) },
  { dst := some 6, op := .bin .quo (.t 5) (.c (.nat .u8 64)) },
  { dst := some 7, op := .idxA (some 4) 1 (.t 2) (.t 6) },
  { dst := some 8, op := .load none (.t 7) },
  { dst := some 9, op := .mov (.t 1) },
  { dst := some 10, op := .bin .rem (.t 9) (.c (.nat .u8 64)) },
  { dst := some 11, op := .bin .shr (.t 8) (.t 10) },
  { dst := some 12, op := .bin .and (.t 11) (.c (.nat .u64 1)) },
  { dst := some 13, op := .bin .eql (.t 12) (.c (.nat .u64 1)) },
  { dst := some 4, op := .asg (.t 13) }]
def c_class_Has : AC :=
  (.seq (.ops o_class_Has_0)
  (.seq (.ops o_class_Has_1)
  .ret))
def a_class_Has : AFn := { body := c_class_Has, res := [.tmp 4] }

-- dragoman/class.Count
def o_class_Count_0 : List AOp := [
  { dst := some 1, op := .box (.t 0) },
  { dst := some 2, op := .asg (.c (.nat .i64 0)) }]
def o_class_Count_1 : List AOp := [
  { dst := some 3, op := .asg (.c (.nat .i64 0)) }]
def o_class_Count_2 : List AOp := [
  { dst := some 6, op := .load (some 4) (.t 1) },
  { dst := some 7, op := .mov (.c (.nat .i64 0)) }]
def o_class_Count_3 : List AOp := [
  { dst := some 8, op := .bin .lss (.t 7) (.c (.nat .i64 4)) }]
def o_class_Count_4 : List AOp := [
  { dst := some 9, op := .idxV 4 1 none (.t 6) (.t 7) },
  { dst := some 5, op := .asg (.t 9) }]
def o_class_Count_5 : List AOp := [
  { dst := some 10, op := .mov (.t 3) },
  { dst := some 11, op := .mov (.t 5) },
  { dst := some 12, op := .call (.f f_bits_OnesCount64) [.t 11] },
  { dst := some 13, op := .bin .add (.t 10) (.t 12) },
  { dst := some 3, op := .asg (.t 13) }]
def o_class_Count_6 : List AOp := [
  { dst := some 14, op := .bin .add (.t 7) (.c (.nat .i64 1)) },
  { dst := some 7, op := .mov (.t 14) }]
def b_class_Count_0 : AC := (.seq (.ops o_class_Count_3)
  (.seq (.cond (.t 8) .skip (.exit 0))
  (.seq (.trim [3, 6, 7] (.block 1 (.seq (.ops o_class_Count_4)
  (.ops o_class_Count_5))))
  (.ops o_class_Count_6))))
def o_class_Count_7 : List AOp := [
  { dst := some 15, op := .mov (.t 3) },
  { dst := some 2, op := .asg (.t 15) }]
def c_class_Count : AC :=
  (.seq (.ops o_class_Count_0)
  (.seq (.ops o_class_Count_1)
  (.seq (.seq (.ops o_class_Count_2)
  (.trim [3] (.block 0 (.loop [3, 6, 7] b_class_Count_0))))
  (.seq (.ops o_class_Count_7)
  .ret))))
def a_class_Count : AFn := { body := c_class_Count, res := [.tmp 2] }

-- dragoman/class.Span
def o_class_Span_0 : List AOp := [
  { dst := some 4, op := .alloc [.nat .u64 0, .nat .u64 0, .nat .u64 0, .nat .u64 0] }]
def o_class_Span_1 : List AOp := [
  { dst := some 5, op := .alloc [.nat .u64 0, .nat .u64 0, .nat .u64 0, .nat .u64 0] }]
def o_class_Span_2 : List AOp := [
  { dst := some 7, op := .mov (.t 0) },
  { dst := some 8, op := .toInt .i64 (.t 7) },
  { dst := some 6, op := .asg (.t 8) }]
def o_class_Span_3 : List AOp := [
  { dst := some 9, op := .mov (.t 6) },
  { dst := some 10, op := .mov (.t 1) },
  { dst := some 11, op := .toInt .i64 (.t 10) },
  { dst := some 12, op := .bin .leq (.t 9) (.t 11) }]
def o_class_Span_5 : List AOp := [
  { dst := some 15, op := .mov (.t 6), may := false },
  { dst := some 16, op := .bin .quo (.t 15) (.c (.nat .i64 64)), may := false },
  { dst := some 17, op := .idxA (some 4) 1 (.t 5) (.t 16), may := false },
  { dst := some 18, op := .load none (.t 17), may := false },
  { dst := some 19, op := .mov (.t 6), may := false },
  { dst := some 20, op := .bin .rem (.t 19) (.c (.nat .i64 64)), may := false },
  { dst := some 21, op := .bin .shl (.c (.nat .u64 1)) (.t 20), may := false },
  { dst := some 22, op := .bin .or (.t 18) (.t 21) },
  { dst := some 23, op := .idxA (some 4) 1 (.t 5) (.t 16) },
  { dst := none, op := .store 1 (.t 23) (.t 22) }]
def o_class_Span_4 : List AOp := [
  { dst := some 13, op := .mov (.t 6) },
  { dst := some 14, op := .bin .add (.t 13) (.c (.nat .i64 1)) },
  { dst := some 6, op := .asg (.t 14) }]
def b_class_Span_0 : AC := (.seq (.seq (.ops o_class_Span_3)
  (.cond (.t 12) .skip (.exit 0)))
  (.seq (.trim [1, 4, 5, 6] (.block 1 (.ops o_class_Span_5)))
  (.ops o_class_Span_4)))
def o_class_Span_6 : List AOp := [
  { dst := some 24, op := .load (some 4) (.t 5) },
  { dst := none, op := .store 4 (.t 4) (.t 24) }]
def c_class_Span : AC :=
  (.seq (.ops o_class_Span_0)
  (.seq (.ops o_class_Span_1)
  (.seq (.seq (.ops o_class_Span_2)
  (.trim [4, 5] (.block 0 (.loop [1, 4, 5, 6] b_class_Span_0))))
  (.seq (.ops o_class_Span_6)
  .ret))))
def a_class_Span : AFn := { body := c_class_Span, res := [.cell 4 (some 4)] }

-- dragoman/class.One
def o_class_One_0 : List AOp := [
  { dst := some 2, op := .alloc [.nat .u64 0, .nat .u64 0, .nat .u64 0, .nat .u64 0] }]
def o_class_One_1 : List AOp := [
  { dst := some 3, op := .mov (.t 0) },
  { dst := some 4, op := .mov (.t 0) },
  { dst := some 5, op := .call (.f f_class_Span) [.t 3, .t 4] },
  { dst := none, op := .store 4 (.t 2) (.t 5) }]
def c_class_One : AC :=
  (.seq (.ops o_class_One_0)
  (.seq (.ops o_class_One_1)
  .ret))
def a_class_One : AFn := { body := c_class_One, res := [.cell 2 (some 4)] }

-- dragoman/class.Text
def o_class_Text_0 : List AOp := [
  { dst := some 1, op := .box (.t 0) },
  { dst := some 2, op := .asg (.c (.d (.str []))) }]
def o_class_Text_1 : List AOp := [
  { dst := some 3, op := .alloc [.d (.str [])] },
  { dst := none, op := .store 1 (.t 3) (.c (.d (.str [91]))) }]
def o_class_Text_2 : List AOp := [
  { dst := some 6, op := .load (some 4) (.t 1) },
  { dst := some 7, op := .call (.f f_class_runs) [.t 6] }]
def o_class_Text_5 : List AOp := [
  { dst := some 10, op := .load none (.t 3), may := false },
  { dst := some 11, op := .mov (.t 4), may := false },
  { dst := some 12, op := .callZ (.f f_class_Plain) [.t 11], may := false },
  { dst := some 13, op := .bin .add (.t 10) (.t 12) },
  { dst := none, op := .store 1 (.t 3) (.t 13) }]
def o_class_Text_6 : List AOp := [
  { dst := some 15, op := .mov (.t 5) },
  { dst := some 16, op := .toInt .i64 (.t 15) },
  { dst := some 17, op := .mov (.t 4) },
  { dst := some 18, op := .toInt .i64 (.t 17) },
  { dst := some 19, op := .bin .add (.t 18) (.c (.nat .i64 1)) },
  { dst := some 20, op := .bin .gtr (.t 16) (.t 19) },
  { dst := some 14, op := .asg (.t 20) }]
def o_class_Text_7 : List AOp := [
  { dst := some 21, op := .load none (.t 3), may := false },
  { dst := some 22, op := .mov (.t 5), may := false },
  { dst := some 23, op := .callZ (.f f_class_Plain) [.t 22], may := false },
  { dst := some 24, op := .bin .add (.c (.d (.str [45]))) (.t 23), may := false },
  { dst := some 25, op := .bin .add (.t 21) (.t 24) },
  { dst := none, op := .store 1 (.t 3) (.t 25) }]
def o_class_Text_8 : List AOp := [
  { dst := some 27, op := .mov (.t 5) },
  { dst := some 28, op := .mov (.t 4) },
  { dst := some 29, op := .bin .gtr (.t 27) (.t 28) },
  { dst := some 26, op := .asg (.t 29) }]
def o_class_Text_9 : List AOp := [
  { dst := some 30, op := .load none (.t 3), may := false },
  { dst := some 31, op := .mov (.t 5), may := false },
  { dst := some 32, op := .callZ (.f f_class_Plain) [.t 31], may := false },
  { dst := some 33, op := .bin .add (.t 30) (.t 32) },
  { dst := none, op := .store 1 (.t 3) (.t 33) }]
def r_class_Text_0 : AC := (.trim [3] (.block 1 (.seq (.ops o_class_Text_5)
  (.trim [3] (.block 2 (.seq (.ops o_class_Text_6)
  (.cond (.t 14) (.ops o_class_Text_7) (.seq (.ops o_class_Text_8)
  (.cond (.t 26) (.ops o_class_Text_9) .skip)))))))))
def o_class_Text_10 : List AOp := [
  { dst := some 34, op := .load none (.t 3) },
  { dst := some 35, op := .bin .add (.t 34) (.c (.d (.str [93]))) },
  { dst := some 2, op := .asg (.t 35) }]
def c_class_Text : AC :=
  (.seq (.ops o_class_Text_0)
  (.seq (.ops o_class_Text_1)
  (.seq (.seq (.ops o_class_Text_2)
  (.trim [3] (.block 0 .hole)))
  (.seq (.ops o_class_Text_10)
  .ret))))
def a_class_Text : AFn := { body := c_class_Text, res := [.tmp 2] }

-- strings.IndexByte
def o_strings_IndexByte_0 : List AOp := [
  { dst := some 4, op := .asg (.c (.nat .i64 0)) }]
def o_strings_IndexByte_1 : List AOp := [
  { dst := some 5, op := .mov (.t 0) },
  { dst := some 6, op := .mov (.t 1) },
  { dst := some 7, op := .call (.f f_stringslite_IndexByte) [.t 5, .t 6] },
  { dst := some 4, op := .asg (.t 7) }]
def c_strings_IndexByte : AC :=
  (.seq (.ops o_strings_IndexByte_0)
  (.seq (.ops o_strings_IndexByte_1)
  .ret))
def a_strings_IndexByte : AFn := { body := c_strings_IndexByte, res := [.tmp 4] }

-- dragoman/hex.Digit
def o_hex_Digit_0 : List AOp := [
  { dst := some 2, op := .asg (.c (.nat .i64 0)) }]
def o_hex_Digit_1 : List AOp := [
  { dst := some 4, op := .mov (.t 0) },
  { dst := some 5, op := .bin .geq (.t 4) (.c (.nat .u8 48)) },
  { dst := some 6, op := .mov (.t 5) },
  { dst := some 7, op := .mov (.t 0), guard := some (6, true) },
  { dst := some 8, op := .bin .leq (.t 7) (.c (.nat .u8 57)), guard := some (6, true) },
  { dst := some 9, op := .pick (.t 6) (.t 8) (.c (.d (.bool false))) },
  { dst := some 3, op := .asg (.t 9) }]
def o_hex_Digit_2 : List AOp := [
  { dst := some 10, op := .mov (.t 0) },
  { dst := some 11, op := .bin .sub (.t 10) (.c (.nat .u8 48)) },
  { dst := some 12, op := .toInt .i64 (.t 11) },
  { dst := some 2, op := .asg (.t 12) }]
def o_hex_Digit_3 : List AOp := [
  { dst := some 14, op := .mov (.t 0) },
  { dst := some 15, op := .bin .geq (.t 14) (.c (.nat .u8 97)) },
  { dst := some 16, op := .mov (.t 15) },
  { dst := some 17, op := .mov (.t 0), guard := some (16, true) },
  { dst := some 18, op := .bin .leq (.t 17) (.c (.nat .u8 102)), guard := some (16, true) },
  { dst := some 19, op := .pick (.t 16) (.t 18) (.c (.d (.bool false))) },
  { dst := some 13, op := .asg (.t 19) }]
def o_hex_Digit_4 : List AOp := [
  { dst := some 20, op := .mov (.t 0) },
  { dst := some 21, op := .bin .sub (.t 20) (.c (.nat .u8 97)) },
  { dst := some 22, op := .toInt .i64 (.t 21) },
  { dst := some 23, op := .bin .add (.t 22) (.c (.nat .i64 10)) },
  { dst := some 2, op := .asg (.t 23) }]
def o_hex_Digit_5 : List AOp := [
  { dst := some 25, op := .mov (.t 0) },
  { dst := some 26, op := .bin .geq (.t 25) (.c (.nat .u8 65)) },
  { dst := some 27, op := .mov (.t 26) },
  { dst := some 28, op := .mov (.t 0), guard := some (27, true) },
  { dst := some 29, op := .bin .leq (.t 28) (.c (.nat .u8 70)), guard := some (27, true) },
  { dst := some 30, op := .pick (.t 27) (.t 29) (.c (.d (.bool false))) },
  { dst := some 24, op := .asg (.t 30) }]
def o_hex_Digit_6 : List AOp := [
  { dst := some 31, op := .mov (.t 0) },
  { dst := some 32, op := .bin .sub (.t 31) (.c (.nat .u8 65)) },
  { dst := some 33, op := .toInt .i64 (.t 32) },
  { dst := some 34, op := .bin .add (.t 33) (.c (.nat .i64 10)) },
  { dst := some 2, op := .asg (.t 34) }]
def o_hex_Digit_7 : List AOp := [
  { dst := some 2, op := .asg (.c (.d (.int .i64 (-1)))) }]
def c_hex_Digit : AC :=
  (.seq (.ops o_hex_Digit_0)
  (.seq (.trim [] (.block 0 (.seq (.ops o_hex_Digit_1)
  (.cond (.t 3) (.seq (.ops o_hex_Digit_2)
  .ret) (.seq (.ops o_hex_Digit_3)
  (.cond (.t 13) (.seq (.ops o_hex_Digit_4)
  .ret) (.seq (.ops o_hex_Digit_5)
  (.cond (.t 24) (.seq (.ops o_hex_Digit_6)
  .ret) .skip))))))))
  (.seq (.ops o_hex_Digit_7)
  .ret)))
def a_hex_Digit : AFn := { body := c_hex_Digit, res := [.tmp 2] }

-- dragoman/dragomanref01.Digit
def o_ref01_Digit_0 : List AOp := [
  { dst := some 2, op := .asg (.c (.nat .i64 0)) }]
def o_ref01_Digit_1 : List AOp := [
  { dst := some 3, op := .mov (.t 0) },
  { dst := some 4, op := .bin .geq (.t 3) (.c (.nat .u8 48)) },
  { dst := some 5, op := .mov (.t 4) },
  { dst := some 6, op := .mov (.t 0), guard := some (5, true) },
  { dst := some 7, op := .bin .leq (.t 6) (.c (.nat .u8 57)), guard := some (5, true) },
  { dst := some 8, op := .pick (.t 5) (.t 7) (.c (.d (.bool false))) }]
def o_ref01_Digit_2 : List AOp := [
  { dst := some 9, op := .mov (.t 0) },
  { dst := some 10, op := .toInt .i64 (.t 9) },
  { dst := some 11, op := .bin .sub (.t 10) (.c (.nat .i64 48)) },
  { dst := some 2, op := .asg (.t 11) }]
def o_ref01_Digit_3 : List AOp := [
  { dst := some 12, op := .mov (.t 0) },
  { dst := some 13, op := .bin .geq (.t 12) (.c (.nat .u8 97)) },
  { dst := some 14, op := .mov (.t 13) },
  { dst := some 15, op := .mov (.t 0), guard := some (14, true) },
  { dst := some 16, op := .bin .leq (.t 15) (.c (.nat .u8 102)), guard := some (14, true) },
  { dst := some 17, op := .pick (.t 14) (.t 16) (.c (.d (.bool false))) }]
def o_ref01_Digit_4 : List AOp := [
  { dst := some 18, op := .mov (.t 0) },
  { dst := some 19, op := .toInt .i64 (.t 18) },
  { dst := some 20, op := .bin .sub (.t 19) (.c (.nat .i64 87)) },
  { dst := some 2, op := .asg (.t 20) }]
def o_ref01_Digit_5 : List AOp := [
  { dst := some 21, op := .mov (.t 0) },
  { dst := some 22, op := .bin .geq (.t 21) (.c (.nat .u8 65)) },
  { dst := some 23, op := .mov (.t 22) },
  { dst := some 24, op := .mov (.t 0), guard := some (23, true) },
  { dst := some 25, op := .bin .leq (.t 24) (.c (.nat .u8 70)), guard := some (23, true) },
  { dst := some 26, op := .pick (.t 23) (.t 25) (.c (.d (.bool false))) }]
def o_ref01_Digit_6 : List AOp := [
  { dst := some 27, op := .mov (.t 0) },
  { dst := some 28, op := .toInt .i64 (.t 27) },
  { dst := some 29, op := .bin .sub (.t 28) (.c (.nat .i64 55)) },
  { dst := some 2, op := .asg (.t 29) }]
def o_ref01_Digit_7 : List AOp := [
  { dst := some 2, op := .asg (.c (.d (.int .i64 (-1)))) }]
def c_ref01_Digit : AC :=
  (.seq (.ops o_ref01_Digit_0)
  (.seq (.seq (.ops o_ref01_Digit_1)
  (.cond (.t 8) (.seq (.ops o_ref01_Digit_2)
  .ret) .skip))
  (.seq (.seq (.ops o_ref01_Digit_3)
  (.cond (.t 17) (.seq (.ops o_ref01_Digit_4)
  .ret) .skip))
  (.seq (.seq (.ops o_ref01_Digit_5)
  (.cond (.t 26) (.seq (.ops o_ref01_Digit_6)
  .ret) .skip))
  (.seq (.ops o_ref01_Digit_7)
  .ret)))))
def a_ref01_Digit : AFn := { body := c_ref01_Digit, res := [.tmp 2] }

-- dragoman/class.Read$1
def o_class_Read_1_0 : List AOp := [
  { dst := some 4, op := .asg (.c (.d (.bool false))) }]
def o_class_Read_1_1 : List AOp := [
  { dst := some 6, op := .load none (.t 1) },
  { dst := some 7, op := .load none (.t 2) },
  { dst := some 8, op := .lenS (.t 7) },
  { dst := some 9, op := .bin .lss (.t 6) (.t 8) },
  { dst := some 10, op := .mov (.t 9) },
  { dst := some 11, op := .load none (.t 2), guard := some (10, true) },
  { dst := some 12, op := .load none (.t 1), guard := some (10, true) },
  { dst := some 13, op := .idxS (.t 11) (.t 12), guard := some (10, true) },
  { dst := some 14, op := .mov (.t 0), guard := some (10, true) },
  { dst := some 15, op := .bin .eql (.t 13) (.t 14), guard := some (10, true) },
  { dst := some 16, op := .pick (.t 10) (.t 15) (.c (.d (.bool false))) },
  { dst := some 5, op := .asg (.t 16) }]
def o_class_Read_1_2 : List AOp := [
  { dst := some 17, op := .mov (.t 5) }]
def o_class_Read_1_3 : List AOp := [
  { dst := some 18, op := .load none (.t 1) },
  { dst := some 19, op := .bin .add (.t 18) (.c (.nat .i64 1)) },
  { dst := none, op := .store 1 (.t 1) (.t 19) }]
def o_class_Read_1_4 : List AOp := [
  { dst := some 20, op := .mov (.t 5) },
  { dst := some 4, op := .asg (.t 20) }]
def c_class_Read_1 : AC :=
  (.seq (.ops o_class_Read_1_0)
  (.seq (.ops o_class_Read_1_1)
  (.seq (.seq (.ops o_class_Read_1_2)
  (.cond (.t 17) (.ops o_class_Read_1_3) .skip))
  (.seq (.ops o_class_Read_1_4)
  .ret))))
def a_class_Read_1 : AFn := { body := c_class_Read_1, res := [.tmp 4] }

-- dragoman/dragomanref04.Or
def o_ref04_Or_0 : List AOp := [
  { dst := some 2, op := .box (.t 0) },
  { dst := some 3, op := .box (.t 1) },
  { dst := some 4, op := .alloc [.nat .u64 0, .nat .u64 0, .nat .u64 0, .nat .u64 0] }]
def o_ref04_Or_1 : List AOp := [
  { dst := some 5, op := .asg (.c (.nat .i64 0)) }]
def o_ref04_Or_2 : List AOp := [
  { dst := some 7, op := .mov (.t 5) },
  { dst := some 8, op := .bin .lss (.t 7) (.c (.nat .i64 256)) }]
def o_ref04_Or_4 : List AOp := [
  { dst := some 11, op := .load (some 4) (.t 3) },
  { dst := some 12, op := .mov (.t 5) },
  { dst := some 13, op := .toInt .u8 (.t 12) },
  { dst := some 14, op := .call (.f f_ref04_Has) [.t 11, .t 13] },
  { dst := some 6, op := .asg (.t 14) }]
def o_ref04_Or_5 : List AOp := [
  { dst := some 15, op := .mov (.t 6) }]
def o_ref04_Or_6 : List AOp := [
  { dst := some 16, op := .load (some 4) (.t 2) },
  { dst := some 17, op := .mov (.t 5) },
  { dst := some 18, op := .toInt .u8 (.t 17) },
  { dst := some 19, op := .call (.f f_ref04_with) [.t 16, .t 18] },
  { dst := none, op := .store 4 (.t 2) (.t 19) }]
def o_ref04_Or_3 : List AOp := [
  { dst := some 9, op := .mov (.t 5) },
  { dst := some 10, op := .bin .add (.t 9) (.c (.nat .i64 1)) },
  { dst := some 5, op := .asg (.t 10) }]
def b_ref04_Or_0 : AC := (.seq (.seq (.ops o_ref04_Or_2)
  (.cond (.t 8) .skip (.exit 0)))
  (.seq (.trim [2, 3, 4, 5] (.block 1 (.seq (.ops o_ref04_Or_4)
  (.seq (.ops o_ref04_Or_5)
  (.cond (.t 15) (.ops o_ref04_Or_6) .skip)))))
  (.ops o_ref04_Or_3)))
def o_ref04_Or_7 : List AOp := [
  { dst := some 20, op := .load (some 4) (.t 2) },
  { dst := none, op := .store 4 (.t 4) (.t 20) }]
def c_ref04_Or : AC :=
  (.seq (.ops o_ref04_Or_0)
  (.seq (.seq (.ops o_ref04_Or_1)
  (.trim [2, 4] (.block 0 (.loop [2, 3, 4, 5] b_ref04_Or_0))))
  (.seq (.ops o_ref04_Or_7)
  .ret)))
def a_ref04_Or : AFn := { body := c_ref04_Or, res := [.cell 4 (some 4)] }

-- dragoman/dragomanref04.Span
def o_ref04_Span_0 : List AOp := [
  { dst := some 4, op := .alloc [.nat .u64 0, .nat .u64 0, .nat .u64 0, .nat .u64 0] }]
def o_ref04_Span_1 : List AOp := [
  { dst := some 7, op := .build [.nat .u64 0, .nat .u64 0, .nat .u64 0, .nat .u64 0] [] },
  { dst := some 5, op := .alloc [.nat .u64 0, .nat .u64 0, .nat .u64 0, .nat .u64 0] },
  { dst := none, op := .store 4 (.t 5) (.t 7) }]
def o_ref04_Span_2 : List AOp := [
  { dst := some 8, op := .mov (.t 0) },
  { dst := some 9, op := .toInt .i64 (.t 8) },
  { dst := some 6, op := .asg (.t 9) }]
def o_ref04_Span_3 : List AOp := [
  { dst := some 10, op := .mov (.t 6) },
  { dst := some 11, op := .mov (.t 1) },
  { dst := some 12, op := .toInt .i64 (.t 11) },
  { dst := some 13, op := .bin .leq (.t 10) (.t 12) }]
def o_ref04_Span_5 : List AOp := [
  { dst := some 16, op := .load (some 4) (.t 5) },
  { dst := some 17, op := .mov (.t 6) },
  { dst := some 18, op := .toInt .u8 (.t 17) },
  { dst := some 19, op := .call (.f f_ref04_with) [.t 16, .t 18] },
  { dst := none, op := .store 4 (.t 5) (.t 19) }]
def o_ref04_Span_4 : List AOp := [
  { dst := some 14, op := .mov (.t 6) },
  { dst := some 15, op := .bin .add (.t 14) (.c (.nat .i64 1)) },
  { dst := some 6, op := .asg (.t 15) }]
def b_ref04_Span_0 : AC := (.seq (.seq (.ops o_ref04_Span_3)
  (.cond (.t 13) .skip (.exit 0)))
  (.seq (.trim [1, 4, 5, 6] (.block 1 (.ops o_ref04_Span_5)))
  (.ops o_ref04_Span_4)))
def o_ref04_Span_6 : List AOp := [
  { dst := some 20, op := .load (some 4) (.t 5) },
  { dst := none, op := .store 4 (.t 4) (.t 20) }]
def c_ref04_Span : AC :=
  (.seq (.ops o_ref04_Span_0)
  (.seq (.ops o_ref04_Span_1)
  (.seq (.seq (.ops o_ref04_Span_2)
  (.trim [4, 5] (.block 0 (.loop [1, 4, 5, 6] b_ref04_Span_0))))
  (.seq (.ops o_ref04_Span_6)
  .ret))))
def a_ref04_Span : AFn := { body := c_ref04_Span, res := [.cell 4 (some 4)] }

-- dragoman/dragomanref04.with
def o_ref04_with_0 : List AOp := [
  { dst := some 2, op := .box (.t 0) },
  { dst := some 4, op := .alloc [.nat .u64 0, .nat .u64 0, .nat .u64 0, .nat .u64 0] }]
def o_ref04_with_1 : List AOp := [
  { dst := some 6, op := .load (some 4) (.t 2) },
  { dst := some 7, op := .mov (.t 1) },
  { dst := some 8, op := .call (.f f_ref04_Has) [.t 6, .t 7] },
  { dst := some 5, op := .asg (.t 8) }]
def o_ref04_with_2 : List AOp := [
  { dst := some 9, op := .mov (.t 5) },
  { dst := some 10, op := .un .not (.t 9) }]
def o_ref04_with_3 : List AOp := [
  { dst := some 11, op := .mov (.t 1) },
  { dst := some 12, op := .bin .quo (.t 11) (.c (.nat .u8 64)) },
  { dst := some 13, op := .mov (.t 1) },
  { dst := some 14, op := .bin .quo (.t 13) (.c (.nat .u8 64)) },
  { dst := some 15, op := .idxA (some 4) 1 (.t 2) (.t 14) },
  { dst := some 16, op := .load none (.t 15) },
  { dst := some 17, op := .mov (.t 1) },
  { dst := some 18, op := .bin .rem (.t 17) (.c (.nat .u8 64)) },
  { dst := some 19, op := .toInt .u64 (.t 18) },
  { dst := some 20, op := .bin .shl (.c (.nat .u64 1)) (.t 19) },
  { dst := some 21, op := .bin .add (.t 16) (.t 20) },
  { dst := some 22, op := .idxA (some 4) 1 (.t 2) (.t 12) },
  { dst := none, op := .store 1 (.t 22) (.t 21) }]
def o_ref04_with_4 : List AOp := [
  { dst := some 23, op := .load (some 4) (.t 2) },
  { dst := none, op := .store 4 (.t 4) (.t 23) }]
def c_ref04_with : AC :=
  (.seq (.ops o_ref04_with_0)
  (.seq (.ops o_ref04_with_1)
  (.seq (.seq (.ops o_ref04_with_2)
  (.cond (.t 10) (.ops o_ref04_with_3) .skip))
  (.seq (.ops o_ref04_with_4)
  .ret))))
def a_ref04_with : AFn := { body := c_ref04_with, res := [.cell 4 (some 4)] }

-- dragoman/dragomanref04.Not
def o_ref04_Not_0 : List AOp := [
  { dst := some 1, op := .box (.t 0) },
  { dst := some 2, op := .alloc [.nat .u64 0, .nat .u64 0, .nat .u64 0, .nat .u64 0] }]
def o_ref04_Not_1 : List AOp := [
  { dst := some 6, op := .build [.nat .u64 0, .nat .u64 0, .nat .u64 0, .nat .u64 0] [] },
  { dst := some 3, op := .alloc [.nat .u64 0, .nat .u64 0, .nat .u64 0, .nat .u64 0] },
  { dst := none, op := .store 4 (.t 3) (.t 6) }]
def o_ref04_Not_2 : List AOp := [
  { dst := some 4, op := .asg (.c (.nat .i64 0)) }]
def o_ref04_Not_3 : List AOp := [
  { dst := some 7, op := .mov (.t 4) },
  { dst := some 8, op := .bin .lss (.t 7) (.c (.nat .i64 256)) }]
def o_ref04_Not_5 : List AOp := [
  { dst := some 11, op := .load (some 4) (.t 1) },
  { dst := some 12, op := .mov (.t 4) },
  { dst := some 13, op := .toInt .u8 (.t 12) },
  { dst := some 14, op := .call (.f f_ref04_Has) [.t 11, .t 13] },
  { dst := some 5, op := .asg (.t 14) }]
def o_ref04_Not_6 : List AOp := [
  { dst := some 15, op := .mov (.t 5) },
  { dst := some 16, op := .un .not (.t 15) }]
def o_ref04_Not_7 : List AOp := [
  { dst := some 17, op := .load (some 4) (.t 3) },
  { dst := some 18, op := .mov (.t 4) },
  { dst := some 19, op := .toInt .u8 (.t 18) },
  { dst := some 20, op := .call (.f f_ref04_with) [.t 17, .t 19] },
  { dst := none, op := .store 4 (.t 3) (.t 20) }]
def o_ref04_Not_4 : List AOp := [
  { dst := some 9, op := .mov (.t 4) },
  { dst := some 10, op := .bin .add (.t 9) (.c (.nat .i64 1)) },
  { dst := some 4, op := .asg (.t 10) }]
def b_ref04_Not_0 : AC := (.seq (.seq (.ops o_ref04_Not_3)
  (.cond (.t 8) .skip (.exit 0)))
  (.seq (.trim [1, 2, 3, 4] (.block 1 (.seq (.ops o_ref04_Not_5)
  (.seq (.ops o_ref04_Not_6)
  (.cond (.t 16) (.ops o_ref04_Not_7) .skip)))))
  (.ops o_ref04_Not_4)))
def o_ref04_Not_8 : List AOp := [
  { dst := some 21, op := .load (some 4) (.t 3) },
  { dst := none, op := .store 4 (.t 2) (.t 21) }]
def c_ref04_Not : AC :=
  (.seq (.ops o_ref04_Not_0)
  (.seq (.ops o_ref04_Not_1)
  (.seq (.seq (.ops o_ref04_Not_2)
  (.trim [2, 3] (.block 0 (.loop [1, 2, 3, 4] b_ref04_Not_0))))
  (.seq (.ops o_ref04_Not_8)
  .ret))))
def a_ref04_Not : AFn := { body := c_ref04_Not, res := [.cell 2 (some 4)] }

-- dragoman/class.isWord
def o_class_isWord_0 : List AOp := [
  { dst := some 2, op := .asg (.c (.d (.bool false))) }]
def o_class_isWord_1 : List AOp := [
  { dst := some 3, op := .mov (.t 0) },
  { dst := some 4, op := .bin .eql (.t 3) (.c (.nat .u8 32)) },
  { dst := some 5, op := .mov (.t 4) },
  { dst := some 6, op := .mov (.t 0), guard := some (5, false) },
  { dst := some 7, op := .bin .eql (.t 6) (.c (.nat .u8 95)), guard := some (5, false) },
  { dst := some 8, op := .pick (.t 5) (.c (.d (.bool true))) (.t 7) },
  { dst := some 9, op := .mov (.t 8) },
  { dst := some 10, op := .mov (.t 0), guard := some (9, false) },
  { dst := some 11, op := .bin .geq (.t 10) (.c (.nat .u8 48)), guard := some (9, false) },
  { dst := some 12, op := .mov (.t 11), guard := some (9, false) },
  { dst := some 13, op := .mov (.t 0), guard := some (12, true) },
  { dst := some 14, op := .bin .leq (.t 13) (.c (.nat .u8 57)), guard := some (12, true) },
  { dst := some 15, op := .pick (.t 12) (.t 14) (.c (.d (.bool false))), guard := some (9, false) },
  { dst := some 16, op := .pick (.t 9) (.c (.d (.bool true))) (.t 15) },
  { dst := some 17, op := .mov (.t 16) },
  { dst := some 18, op := .mov (.t 0), guard := some (17, false) },
  { dst := some 19, op := .bin .geq (.t 18) (.c (.nat .u8 65)), guard := some (17, false) },
  { dst := some 20, op := .mov (.t 19), guard := some (17, false) },
  { dst := some 21, op := .mov (.t 0), guard := some (20, true) },
  { dst := some 22, op := .bin .leq (.t 21) (.c (.nat .u8 90)), guard := some (20, true) },
  { dst := some 23, op := .pick (.t 20) (.t 22) (.c (.d (.bool false))), guard := some (17, false) },
  { dst := some 24, op := .pick (.t 17) (.c (.d (.bool true))) (.t 23) },
  { dst := some 25, op := .mov (.t 24) },
  { dst := some 26, op := .mov (.t 0), guard := some (25, false) },
  { dst := some 27, op := .bin .geq (.t 26) (.c (.nat .u8 97)), guard := some (25, false) },
  { dst := some 28, op := .mov (.t 27), guard := some (25, false) },
  { dst := some 29, op := .mov (.t 0), guard := some (28, true) },
  { dst := some 30, op := .bin .leq (.t 29) (.c (.nat .u8 122)), guard := some (28, true) },
  { dst := some 31, op := .pick (.t 28) (.t 30) (.c (.d (.bool false))), guard := some (25, false) },
  { dst := some 32, op := .pick (.t 25) (.c (.d (.bool true))) (.t 31) },
  { dst := some 2, op := .asg (.t 32) }]
def c_class_isWord : AC :=
  (.seq (.ops o_class_isWord_0)
  (.seq (.ops o_class_isWord_1)
  .ret))
def a_class_isWord : AFn := { body := c_class_isWord, res := [.tmp 2] }

-- dragoman/hex.Hex
def o_hex_Hex_0 : List AOp := [
  { dst := some 2, op := .asg (.c (.d (.str []))) }]
def o_hex_Hex_1 : List AOp := [
  { dst := some 5, op := .mkls 1 [.nat .u8 0] [(0, 1, (.c (.nat .u8 120)))] },
  { dst := some 6, op := .same (.t 5) },
  { dst := some 3, op := .asg (.t 6) }]
def o_hex_Hex_2 : List AOp := [
  { dst := some 7, op := .mov (.t 0) },
  { dst := some 8, op := .lenS (.t 7) },
  { dst := some 9, op := .mov (.c (.nat .i64 0)) }]
def o_hex_Hex_3 : List AOp := [
  { dst := some 10, op := .bin .lss (.t 9) (.t 8) }]
def o_hex_Hex_4 : List AOp := [
  { dst := some 11, op := .mov (.t 9) },
  { dst := some 4, op := .asg (.t 11) }]
def o_hex_Hex_5 : List AOp := [
  { dst := some 12, op := .take 3, may := false },
  { dst := some 13, op := .mov (.t 0), may := false },
  { dst := some 14, op := .mov (.t 4), may := false },
  { dst := some 15, op := .idxS (.t 13) (.t 14), may := false },
  { dst := some 16, op := .bin .shr (.t 15) (.c (.nat .u64 4)), may := false },
  { dst := some 17, op := .idxS (.c (.d (.str [48, 49, 50, 51, 52, 53, 54, 55, 56, 57, 97, 98, 99, 100, 101, 102]))) (.t 16), may := false },
  { dst := some 18, op := .mov (.t 0), may := false },
  { dst := some 19, op := .mov (.t 4), may := false },
  { dst := some 20, op := .idxS (.t 18) (.t 19), may := false },
  { dst := some 21, op := .bin .and (.t 20) (.c (.nat .u8 15)), may := false },
  { dst := some 22, op := .idxS (.c (.d (.str [48, 49, 50, 51, 52, 53, 54, 55, 56, 57, 97, 98, 99, 100, 101, 102]))) (.t 21), may := false },
  { dst := some 23, op := .mkls 1 [.nat .u8 0, .nat .u8 0] [(0, 1, (.t 17)), (1, 1, (.t 22))], may := false },
  { dst := some 24, op := .append 1 (.t 12) (.t 23) },
  { dst := some 3, op := .asg (.t 24) }]
def o_hex_Hex_6 : List AOp := [
  { dst := some 25, op := .bin .add (.t 9) (.c (.nat .i64 1)) },
  { dst := some 9, op := .mov (.t 25) }]
def b_hex_Hex_0 : AC := (.seq (.ops o_hex_Hex_3)
  (.seq (.cond (.t 10) .skip (.exit 0))
  (.seq (.trim [0, 3, 8, 9] (.block 1 (.seq (.ops o_hex_Hex_4)
  (.ops o_hex_Hex_5))))
  (.ops o_hex_Hex_6))))
def o_hex_Hex_7 : List AOp := [
  { dst := some 26, op := .mov (.t 3) },
  { dst := some 27, op := .bytesStr (.t 26) },
  { dst := some 2, op := .asg (.t 27) }]
def c_hex_Hex : AC :=
  (.seq (.ops o_hex_Hex_0)
  (.seq (.ops o_hex_Hex_1)
  (.seq (.seq (.ops o_hex_Hex_2)
  (.trim [3] (.block 0 (.loop [0, 3, 8, 9] b_hex_Hex_0))))
  (.seq (.ops o_hex_Hex_7)
  .ret))))
def a_hex_Hex : AFn := { body := c_hex_Hex, res := [.tmp 2] }

-- math/bits.OnesCount64
def o_bits_OnesCount64_0 : List AOp := [
  { dst := some 2, op := .asg (.c (.nat .i64 0)) }]
def o_bits_OnesCount64_1 : List AOp := [
  { dst := some 3, op := .mov (.t 0) },
  { dst := some 4, op := .bin .shr (.t 3) (.c (.nat .u64 1)) },
  { dst := some 5, op := .bin .and (.t 4) (.c (.nat .u64 6148914691236517205)) },
  { dst := some 6, op := .mov (.t 0) },
  { dst := some 7, op := .bin .and (.t 6) (.c (.nat .u64 6148914691236517205)) },
  { dst := some 8, op := .bin .add (.t 5) (.t 7) },
  { dst := some 0, op := .asg (.t 8) }]
def o_bits_OnesCount64_2 : List AOp := [
  { dst := some 9, op := .mov (.t 0) },
  { dst := some 10, op := .bin .shr (.t 9) (.c (.nat .u64 2)) },
  { dst := some 11, op := .bin .and (.t 10) (.c (.nat .u64 3689348814741910323)) },
  { dst := some 12, op := .mov (.t 0) },
  { dst := some 13, op := .bin .and (.t 12) (.c (.nat .u64 3689348814741910323)) },
  { dst := some 14, op := .bin .add (.t 11) (.t 13) },
  { dst := some 0, op := .asg (.t 14) }]
def o_bits_OnesCount64_3 : List AOp := [
  { dst := some 15, op := .mov (.t 0) },
  { dst := some 16, op := .bin .shr (.t 15) (.c (.nat .u64 4)) },
  { dst := some 17, op := .mov (.t 0) },
  { dst := some 18, op := .bin .add (.t 16) (.t 17) },
  { dst := some 19, op := .bin .and (.t 18) (.c (.nat .u64 1085102592571150095)) },
  { dst := some 0, op := .asg (.t 19) }]
def o_bits_OnesCount64_4 : List AOp := [
  { dst := some 20, op := .mov (.t 0) },
  { dst := some 21, op := .mov (.t 0) },
  { dst := some 22, op := .bin .shr (.t 21) (.c (.nat .u64 8)) },
  { dst := some 23, op := .bin .add (.t 20) (.t 22) },
  { dst := some 0, op := .asg (.t 23) }]
def o_bits_OnesCount64_5 : List AOp := [
  { dst := some 24, op := .mov (.t 0) },
  { dst := some 25, op := .mov (.t 0) },
  { dst := some 26, op := .bin .shr (.t 25) (.c (.nat .u64 16)) },
  { dst := some 27, op := .bin .add (.t 24) (.t 26) },
  { dst := some 0, op := .asg (.t 27) }]
def o_bits_OnesCount64_6 : List AOp := [
  { dst := some 28, op := .mov (.t 0) },
  { dst := some 29, op := .mov (.t 0) },
  { dst := some 30, op := .bin .shr (.t 29) (.c (.nat .u64 32)) },
  { dst := some 31, op := .bin .add (.t 28) (.t 30) },
  { dst := some 0, op := .asg (.t 31) }]
def o_bits_OnesCount64_7 : List AOp := [
  { dst := some 32, op := .mov (.t 0) },
  { dst := some 33, op := .toInt .i64 (.t 32) },
  { dst := some 34, op := .bin .and (.t 33) (.c (.nat .i64 127)) },
  { dst := some 2, op := .asg (.t 34) }]
def c_bits_OnesCount64 : AC :=
  (.seq (.ops o_bits_OnesCount64_0)
  (.seq (.ops o_bits_OnesCount64_1)
  (.seq (.ops o_bits_OnesCount64_2)
  (.seq (.ops o_bits_OnesCount64_3)
  (.seq (.ops o_bits_OnesCount64_4)
  (.seq (.ops o_bits_OnesCount64_5)
  (.seq (.ops o_bits_OnesCount64_6)
  (.seq (.ops o_bits_OnesCount64_7)
  .ret))))))))
def a_bits_OnesCount64 : AFn := { body := c_bits_OnesCount64, res := [.tmp 2] }

-- dragoman/class.runs
def o_class_runs_0 : List AOp := [
  { dst := some 1, op := .box (.t 0) },
  { dst := some 2, op := .asg (.c (.d .nilF)) }]
def o_class_runs_1 : List AOp := [
  { dst := some 3, op := .mkfn (.func f_class_runs_1) [] [.t 1] },
  { dst := some 2, op := .asg (.t 3) }]
def c_class_runs : AC :=
  (.seq (.ops o_class_runs_0)
  (.seq (.ops o_class_runs_1)
  .ret))
def a_class_runs : AFn := { body := c_class_runs, res := [.tmp 2] }

-- internal/stringslite.IndexByte
def o_stringslite_IndexByte_0 : List AOp := [
  { dst := some 4, op := .asg (.c (.nat .i64 0)) }]
def o_stringslite_IndexByte_1 : List AOp := [
  { dst := some 5, op := .mov (.t 0) },
  { dst := some 6, op := .mov (.t 1) },
  { dst := some 7, op := .call (.f f_bytealg_IndexByteString) [.t 5, .t 6] },
  { dst := some 4, op := .asg (.t 7) }]
def c_stringslite_IndexByte : AC :=
  (.seq (.ops o_stringslite_IndexByte_0)
  (.seq (.ops o_stringslite_IndexByte_1)
  .ret))
def a_stringslite_IndexByte : AFn := { body := c_stringslite_IndexByte, res := [.tmp 4] }

-- dragoman/dragomanref04.Has
def o_ref04_Has_0 : List AOp := [
  { dst := some 2, op := .box (.t 0) },
  { dst := some 4, op := .asg (.c (.d (.bool false))) }]
def o_ref04_Has_1 : List AOp := [
  { dst := some 5, op := .mov (.t 1) },
  { dst := some 6, op := .bin .quo (.t 5) (.c (.nat .u8 64)) },
  { dst := some 7, op := .idxA (some 4) 1 (.t 2) (.t 6) },
  { dst := some 8, op := .load none (.t 7) },
  { dst := some 9, op := .mov (.t 1) },
  { dst := some 10, op := .bin .rem (.t 9) (.c (.nat .u8 64)) },
  { dst := some 11, op := .toInt .u64 (.t 10) },
  { dst := some 12, op := .bin .shl (.c (.nat .u64 1)) (.t 11) },
  { dst := some 13, op := .bin .quo (.t 8) (.t 12) },
  { dst := some 14, op := .bin .rem (.t 13) (.c (.nat .u64 2)) },
  { dst := some 15, op := .bin .eql (.t 14) (.c (.nat .u64 1)) },
  { dst := some 4, op := .asg (.t 15) }]
def c_ref04_Has : AC :=
  (.seq (.ops o_ref04_Has_0)
  (.seq (.ops o_ref04_Has_1)
  .ret))
def a_ref04_Has : AFn := { body := c_ref04_Has, res := [.tmp 4] }

-- dragoman/class.runs$1
def o_class_runs_1_0 : List AOp := [
  { dst := some 3, op := .asg (.c (.nat .i64 0)) }]
def o_class_runs_1_1 : List AOp := [
  { dst := some 5, op := .mov (.t 3) },
  { dst := some 6, op := .bin .lss (.t 5) (.c (.nat .i64 256)) }]
def o_class_runs_1_3 : List AOp := [
  { dst := some 9, op := .mov (.t 3) },
  { dst := some 4, op := .asg (.t 9) }]
def o_class_runs_1_4 : List AOp := [
  { dst := some 10, op := .mov (.t 3) },
  { dst := some 11, op := .bin .lss (.t 10) (.c (.nat .i64 256)) },
  { dst := some 12, op := .mov (.t 11) },
  { dst := some 13, op := .load (some 4) (.t 1), guard := some (12, true) },
  { dst := some 14, op := .mov (.t 3), guard := some (12, true) },
  { dst := some 15, op := .toInt .u8 (.t 14), guard := some (12, true) },
  { dst := some 16, op := .call (.f f_class_Has) [.t 13, .t 15], guard := some (12, true) },
  { dst := some 17, op := .pick (.t 12) (.t 16) (.c (.d (.bool false))) }]
def o_class_runs_1_5 : List AOp := [
  { dst := some 18, op := .mov (.t 3) },
  { dst := some 19, op := .bin .add (.t 18) (.c (.nat .i64 1)) },
  { dst := some 3, op := .asg (.t 19) }]
def b_class_runs_1_0 : AC := (.seq (.seq (.ops o_class_runs_1_4)
  (.cond (.t 17) .skip (.exit 2)))
  (.trim [0, 1, 3, 4] (.block 3 (.ops o_class_runs_1_5))))
def o_class_runs_1_6 : List AOp := [
  { dst := some 20, op := .mov (.t 3) },
  { dst := some 21, op := .mov (.t 4) },
  { dst := some 22, op := .bin .gtr (.t 20) (.t 21) },
  { dst := some 23, op := .mov (.t 22) },
  { dst := some 24, op := .mov (.t 0), guard := some (23, true) },
  { dst := some 25, op := .mov (.t 4), guard := some (23, true) },
  { dst := some 26, op := .toInt .u8 (.t 25), guard := some (23, true) },
  { dst := some 27, op := .mov (.t 3), guard := some (23, true) },
  { dst := some 28, op := .bin .sub (.t 27) (.c (.nat .i64 1)), guard := some (23, true) },
  { dst := some 29, op := .toInt .u8 (.t 28), guard := some (23, true) },
  { dst := some 30, op := .call (.t 24) [.t 26, .t 29], guard := some (23, true) },
  { dst := some 31, op := .un .not (.t 30), guard := some (23, true) },
  { dst := some 32, op := .pick (.t 23) (.t 31) (.c (.d (.bool false))) }]
def o_class_runs_1_2 : List AOp := [
  { dst := some 7, op := .mov (.t 3) },
  { dst := some 8, op := .bin .add (.t 7) (.c (.nat .i64 1)) },
  { dst := some 3, op := .asg (.t 8) }]
def b_class_runs_1_1 : AC := (.seq (.seq (.ops o_class_runs_1_1)
  (.cond (.t 6) .skip (.exit 0)))
  (.seq (.trim [0, 1, 3] (.block 1 (.seq (.ops o_class_runs_1_3)
  (.seq (.trim [0, 1, 3, 4] (.block 2 (.loop [0, 1, 3, 4] b_class_runs_1_0)))
  (.seq (.ops o_class_runs_1_6)
  (.cond (.t 32) .ret .skip))))))
  (.ops o_class_runs_1_2)))
def c_class_runs_1 : AC :=
  (.seq (.ops o_class_runs_1_0)
  (.trim [] (.block 0 (.loop [0, 1, 3] b_class_runs_1_1))))
def a_class_runs_1 : AFn := { body := c_class_runs_1, res := [] }

def tabl : List (Nat × AFn) := [(f_law04_ClassReads, a_law04_ClassReads), (f_law04_ClassSigns, a_law04_ClassSigns), (f_law04_ClassNot, a_law04_ClassNot), (f_law04_ClassSpans, a_law04_ClassSpans), (f_law04_shown, a_law04_shown), (f_class_Sign, a_class_Sign), (f_ref04_Sign, a_ref04_Sign), (f_class_Read, a_class_Read), (f_ref04_Read, a_ref04_Read), (f_class_Plain, a_class_Plain), (f_class_Not, a_class_Not), (f_class_Or, a_class_Or), (f_class_Has, a_class_Has), (f_class_Count, a_class_Count), (f_class_Span, a_class_Span), (f_class_One, a_class_One), (f_class_Text, a_class_Text), (f_strings_IndexByte, a_strings_IndexByte), (f_hex_Digit, a_hex_Digit), (f_ref01_Digit, a_ref01_Digit), (f_class_Read_1, a_class_Read_1), (f_ref04_Or, a_ref04_Or), (f_ref04_Span, a_ref04_Span), (f_ref04_with, a_ref04_with), (f_ref04_Not, a_ref04_Not), (f_class_isWord, a_class_isWord), (f_hex_Hex, a_hex_Hex), (f_bits_OnesCount64, a_bits_OnesCount64), (f_class_runs, a_class_runs), (f_stringslite_IndexByte, a_stringslite_IndexByte), (f_ref04_Has, a_ref04_Has), (f_class_runs_1, a_class_runs_1)]
def tabD : List (Nat × AFn) := [(f_class_runs_1, a_class_runs_1)]
end Go.Ab.R04
