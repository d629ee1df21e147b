/- A part of the proof: tools. No condition. -/
import Derived.Test.YtghchmemjjpcbaaL0
set_option linter.all false
namespace Go.Ab.R05
set_option maxRecDepth 100000
abbrev f_law05_RegexReads : Nat := 3
abbrev f_law05_RegexBack : Nat := 4
abbrev f_law05_RegexWraps : Nat := 5
abbrev f_law05_RegexSigns : Nat := 6
abbrev f_law05_RegexJoins : Nat := 7
abbrev f_law05_RegexTrees : Nat := 8
abbrev f_law05_shown : Nat := 9
abbrev f_regex_Read : Nat := 10
abbrev f_ref05_Read : Nat := 11
abbrev f_ref05_Same : Nat := 12
abbrev f_regex_Text : Nat := 13
abbrev f_ref05_Right : Nat := 14
abbrev f_ref05_Join : Nat := 15
abbrev f_ref04_Plain : Nat := 16
abbrev f_ref04_One : Nat := 17
abbrev f_regex_Join : Nat := 18
abbrev f_regex_Lit : Nat := 19
abbrev f_ref05_Lit : Nat := 20
abbrev f_regex_Right : Nat := 21
abbrev f_ref05_Text : Nat := 22
abbrev f_regex_Read_1 : Nat := 23
abbrev f_regex_reader_all : Nat := 24
abbrev f_ref05_parser_whole : Nat := 25
abbrev f_ref05_parser_fail : Nat := 26
abbrev f_regex_Text_1 : Nat := 27
abbrev f_slices_Contains_int_int : Nat := 28
abbrev f_regex_Text_2 : Nat := 29
abbrev f_regex_setText : Nat := 30
abbrev f_ref05_begin : Nat := 31
abbrev f_ref05_many : Nat := 32
abbrev f_ref01_Hex : Nat := 33
abbrev f_ref04_with : Nat := 34
abbrev f_slices_Clone_api_Re_api_Re : Nat := 35
abbrev f_regex_kids : Nat := 36
abbrev f_class_One : Nat := 37
abbrev f_ref05_told : Nat := 38
abbrev f_regex_reader_cat : Nat := 39
abbrev f_regex_reader_sees : Nat := 40
abbrev f_regex_reader_put : Nat := 41
abbrev f_ref05_parser_row : Nat := 42
abbrev f_ref05_parser_is : Nat := 43
abbrev f_ref05_parser_lay : Nat := 44
abbrev f_slices_Index_int_int : Nat := 45
abbrev f_regex_dot : Nat := 46
abbrev f_class_Count : Nat := 47
abbrev f_class_Text : Nat := 48
abbrev f_ref01_digit : Nat := 49
abbrev f_ref04_Has : Nat := 50
abbrev f_class_Span : Nat := 51
abbrev f_ref05_Dot : Nat := 52
abbrev f_ref04_Count : Nat := 53
abbrev f_ref04_Text : Nat := 54
abbrev f_ref05_inside : Nat := 55
abbrev f_regex_reader_piece : Nat := 56
abbrev f_ref05_parser_piece : Nat := 57
abbrev f_class_Not : Nat := 58
abbrev f_bits_OnesCount64 : Nat := 59
abbrev f_class_runs : Nat := 60
abbrev f_class_Plain : Nat := 61
abbrev f_ref04_Not : Nat := 62
abbrev f_regex_reader_atom : Nat := 63
abbrev f_strings_IndexByte : Nat := 64
abbrev f_ref05_parser_atom : Nat := 65
abbrev f_class_runs_1 : Nat := 66
abbrev f_class_Has : Nat := 67
abbrev f_class_isWord : Nat := 68
abbrev f_hex_Hex : Nat := 69
abbrev f_regex_reader_group : Nat := 70
abbrev f_class_Read : Nat := 71
abbrev f_class_Sign : Nat := 72
abbrev f_stringslite_IndexByte : Nat := 73
abbrev f_ref04_Read : Nat := 74
abbrev f_ref04_Sign : Nat := 75
abbrev f_class_Read_1 : Nat := 76
abbrev f_class_Or : Nat := 77
abbrev f_hex_Digit : Nat := 78
abbrev f_bytealg_IndexByteString : Nat := 79
abbrev f_ref04_Or : Nat := 80
abbrev f_ref04_Span : Nat := 81
abbrev f_ref01_Digit : Nat := 82
-- dragoman/dragomanlaw05.RegexReads
def o_law05_RegexReads_0 : List AOp := [
  { dst := some 2, op := .asg (.c (.d (.bool false))) }]
def o_law05_RegexReads_1 : List AOp := [
  { dst := some 8, op := .callZ (.f f_law05_shown) [] },
  { dst := some 3, op := .asg (.t 8) }]
def o_law05_RegexReads_2 : List AOp := [
  { dst := some 9, op := .mov (.t 0) },
  { dst := some 10, op := .lenS (.t 9) },
  { dst := some 11, op := .bin .gtr (.t 10) (.c (.nat .i64 3000)) }]
def o_law05_RegexReads_3 : List AOp := [
  { dst := some 12, op := .mov (.t 3) },
  { dst := some 2, op := .asg (.t 12) }]
def o_law05_RegexReads_4 : List AOp := [
  { dst := some 14, op := .mov (.t 0) },
  { dst := some 15, op := .call (.f f_regex_Read) [.t 14] },
  { dst := some 13, op := .mov (.t 15) },
  { dst := some 16, op := .extr (.t 13) 0 },
  { dst := some 17, op := .extr (.t 13) 1 },
  { dst := some 4, op := .asg (.t 16) },
  { dst := some 5, op := .asg (.t 17) }]
def o_law05_RegexReads_5 : List AOp := [
  { dst := some 19, op := .mov (.t 0) },
  { dst := some 20, op := .call (.f f_ref05_Read) [.t 19] },
  { dst := some 18, op := .mov (.t 20) },
  { dst := some 21, op := .extr (.t 18) 0 },
  { dst := some 22, op := .extr (.t 18) 1 },
  { dst := some 6, op := .asg (.t 21) },
  { dst := some 7, op := .asg (.t 22) }]
def o_law05_RegexReads_6 : List AOp := [
  { dst := some 23, op := .mov (.t 3) },
  { dst := some 24, op := .mov (.t 23) },
  { dst := some 25, op := .mov (.t 4), guard := some (24, true) },
  { dst := some 26, op := .mov (.t 6), guard := some (24, true) },
  { dst := some 27, op := .call (.f f_ref05_Same) [.t 25, .t 26], guard := some (24, true) },
  { dst := some 28, op := .pick (.t 24) (.t 27) (.c (.d (.bool false))) },
  { dst := some 29, op := .mov (.t 28) },
  { dst := some 30, op := .mov (.t 5), guard := some (29, true) },
  { dst := some 31, op := .mov (.t 7), guard := some (29, true) },
  { dst := some 32, op := .bin .eql (.t 30) (.t 31), guard := some (29, true) },
  { dst := some 33, op := .pick (.t 29) (.t 32) (.c (.d (.bool false))) },
  { dst := some 2, op := .asg (.t 33) }]
def c_law05_RegexReads : AC :=
  (.seq (.ops o_law05_RegexReads_0)
  (.seq (.ops o_law05_RegexReads_1)
  (.seq (.seq (.ops o_law05_RegexReads_2)
  (.cond (.t 11) (.seq (.ops o_law05_RegexReads_3)
  .ret) .skip))
  (.seq (.ops o_law05_RegexReads_4)
  (.seq (.ops o_law05_RegexReads_5)
  (.seq (.ops o_law05_RegexReads_6)
  .ret))))))
def a_law05_RegexReads : AFn := { body := c_law05_RegexReads, res := [.tmp 2] }

-- dragoman/dragomanlaw05.RegexBack
def o_law05_RegexBack_0 : List AOp := [
  { dst := some 2, op := .asg (.c (.d (.bool false))) }]
def o_law05_RegexBack_1 : List AOp := [
  { dst := some 8, op := .callZ (.f f_law05_shown) [] },
  { dst := some 3, op := .asg (.t 8) }]
def o_law05_RegexBack_2 : List AOp := [
  { dst := some 9, op := .mov (.t 0) },
  { dst := some 10, op := .lenS (.t 9) },
  { dst := some 11, op := .bin .gtr (.t 10) (.c (.nat .i64 1500)) }]
def o_law05_RegexBack_3 : List AOp := [
  { dst := some 12, op := .mov (.t 3) },
  { dst := some 2, op := .asg (.t 12) }]
def o_law05_RegexBack_4 : List AOp := [
  { dst := some 14, op := .mov (.t 0) },
  { dst := some 15, op := .call (.f f_regex_Read) [.t 14] },
  { dst := some 13, op := .mov (.t 15) },
  { dst := some 16, op := .extr (.t 13) 0 },
  { dst := some 17, op := .extr (.t 13) 1 },
  { dst := some 4, op := .asg (.t 16) },
  { dst := some 5, op := .asg (.t 17) }]
def o_law05_RegexBack_5 : List AOp := [
  { dst := some 18, op := .mov (.t 5) },
  { dst := some 19, op := .bin .neq (.t 18) (.c (.nat .i64 0)) }]
def o_law05_RegexBack_6 : List AOp := [
  { dst := some 20, op := .mov (.t 3) },
  { dst := some 21, op := .mov (.t 20) },
  { dst := some 22, op := .mov (.t 4), guard := some (21, true) },
  { dst := some 23, op := .len (.t 22), guard := some (21, true) },
  { dst := some 24, op := .bin .eql (.t 23) (.c (.nat .i64 0)), guard := some (21, true) },
  { dst := some 25, op := .pick (.t 21) (.t 24) (.c (.d (.bool false))) },
  { dst := some 2, op := .asg (.t 25) }]
def o_law05_RegexBack_7 : List AOp := [
  { dst := some 27, op := .mov (.t 4) },
  { dst := some 28, op := .call (.f f_regex_Text) [.t 27] },
  { dst := some 29, op := .call (.f f_regex_Read) [.t 28] },
  { dst := some 26, op := .mov (.t 29) },
  { dst := some 30, op := .extr (.t 26) 0 },
  { dst := some 31, op := .extr (.t 26) 1 },
  { dst := some 6, op := .asg (.t 30) },
  { dst := some 7, op := .asg (.t 31) }]
def o_law05_RegexBack_8 : List AOp := [
  { dst := some 32, op := .mov (.t 3) },
  { dst := some 33, op := .mov (.t 32) },
  { dst := some 34, op := .mov (.t 4), guard := some (33, true) },
  { dst := some 35, op := .call (.f f_ref05_Right) [.t 34], guard := some (33, true) },
  { dst := some 36, op := .pick (.t 33) (.t 35) (.c (.d (.bool false))) },
  { dst := some 37, op := .mov (.t 36) },
  { dst := some 38, op := .mov (.t 7), guard := some (37, true) },
  { dst := some 39, op := .bin .eql (.t 38) (.c (.nat .i64 7)), guard := some (37, true) },
  { dst := some 40, op := .mov (.t 39), guard := some (37, true) },
  { dst := some 41, op := .mov (.t 7), guard := some (40, false) },
  { dst := some 42, op := .bin .eql (.t 41) (.c (.nat .i64 0)), guard := some (40, false) },
  { dst := some 43, op := .mov (.t 42), guard := some (40, false) },
  { dst := some 44, op := .mov (.t 6), guard := some (43, true) },
  { dst := some 45, op := .mov (.t 4), guard := some (43, true) },
  { dst := some 46, op := .call (.f f_ref05_Same) [.t 44, .t 45], guard := some (43, true) },
  { dst := some 47, op := .pick (.t 43) (.t 46) (.c (.d (.bool false))), guard := some (40, false) },
  { dst := some 48, op := .pick (.t 40) (.c (.d (.bool true))) (.t 47), guard := some (37, true) },
  { dst := some 49, op := .pick (.t 37) (.t 48) (.c (.d (.bool false))) },
  { dst := some 2, op := .asg (.t 49) }]
def c_law05_RegexBack : AC :=
  (.seq (.ops o_law05_RegexBack_0)
  (.seq (.ops o_law05_RegexBack_1)
  (.seq (.seq (.ops o_law05_RegexBack_2)
  (.cond (.t 11) (.seq (.ops o_law05_RegexBack_3)
  .ret) .skip))
  (.seq (.ops o_law05_RegexBack_4)
  (.seq (.seq (.ops o_law05_RegexBack_5)
  (.cond (.t 19) (.seq (.ops o_law05_RegexBack_6)
  .ret) .skip))
  (.seq (.ops o_law05_RegexBack_7)
  (.seq (.ops o_law05_RegexBack_8)
  .ret)))))))
def a_law05_RegexBack : AFn := { body := c_law05_RegexBack, res := [.tmp 2] }

-- dragoman/dragomanlaw05.RegexWraps
def o_law05_RegexWraps_0 : List AOp := [
  { dst := some 4, op := .asg (.c (.d (.bool false))) }]
def o_law05_RegexWraps_1 : List AOp := [
  { dst := some 16, op := .callZ (.f f_law05_shown) [] },
  { dst := some 5, op := .asg (.t 16) }]
def o_law05_RegexWraps_2 : List AOp := [
  { dst := some 17, op := .mov (.t 0) },
  { dst := some 18, op := .lenS (.t 17) },
  { dst := some 19, op := .mov (.t 1) },
  { dst := some 20, op := .lenS (.t 19) },
  { dst := some 21, op := .bin .add (.t 18) (.t 20) },
  { dst := some 22, op := .bin .gtr (.t 21) (.c (.nat .i64 900)) }]
def o_law05_RegexWraps_3 : List AOp := [
  { dst := some 23, op := .mov (.t 5) },
  { dst := some 4, op := .asg (.t 23) }]
def o_law05_RegexWraps_4 : List AOp := [
  { dst := some 25, op := .mov (.t 0) },
  { dst := some 26, op := .call (.f f_regex_Read) [.t 25] },
  { dst := some 24, op := .mov (.t 26) },
  { dst := some 27, op := .extr (.t 24) 0 },
  { dst := some 28, op := .extr (.t 24) 1 },
  { dst := some 6, op := .asg (.t 27) },
  { dst := some 7, op := .asg (.t 28) }]
def o_law05_RegexWraps_5 : List AOp := [
  { dst := some 30, op := .mov (.t 0) },
  { dst := some 31, op := .bin .add (.c (.d (.str [40]))) (.t 30) },
  { dst := some 32, op := .bin .add (.t 31) (.c (.d (.str [41]))) },
  { dst := some 33, op := .call (.f f_regex_Read) [.t 32] },
  { dst := some 29, op := .mov (.t 33) },
  { dst := some 34, op := .extr (.t 29) 0 },
  { dst := some 35, op := .extr (.t 29) 1 },
  { dst := some 8, op := .asg (.t 34) },
  { dst := some 9, op := .asg (.t 35) }]
def o_law05_RegexWraps_6 : List AOp := [
  { dst := some 37, op := .mov (.t 1) },
  { dst := some 38, op := .call (.f f_regex_Read) [.t 37] },
  { dst := some 36, op := .mov (.t 38) },
  { dst := some 39, op := .extr (.t 36) 0 },
  { dst := some 40, op := .extr (.t 36) 1 },
  { dst := some 10, op := .asg (.t 39) },
  { dst := some 11, op := .asg (.t 40) }]
def o_law05_RegexWraps_7 : List AOp := [
  { dst := some 42, op := .mov (.t 0) },
  { dst := some 43, op := .bin .add (.c (.d (.str [40]))) (.t 42) },
  { dst := some 44, op := .bin .add (.t 43) (.c (.d (.str [41, 124, 40]))) },
  { dst := some 45, op := .mov (.t 1) },
  { dst := some 46, op := .bin .add (.t 44) (.t 45) },
  { dst := some 47, op := .bin .add (.t 46) (.c (.d (.str [41]))) },
  { dst := some 48, op := .call (.f f_regex_Read) [.t 47] },
  { dst := some 41, op := .mov (.t 48) },
  { dst := some 49, op := .extr (.t 41) 0 },
  { dst := some 50, op := .extr (.t 41) 1 },
  { dst := some 12, op := .asg (.t 49) },
  { dst := some 13, op := .asg (.t 50) }]
def o_law05_RegexWraps_8 : List AOp := [
  { dst := some 51, op := .mov (.t 7) },
  { dst := some 52, op := .bin .neq (.t 51) (.c (.nat .i64 0)) },
  { dst := some 53, op := .mov (.t 52) },
  { dst := some 54, op := .mov (.t 11), guard := some (53, false) },
  { dst := some 55, op := .bin .neq (.t 54) (.c (.nat .i64 0)), guard := some (53, false) },
  { dst := some 56, op := .pick (.t 53) (.c (.d (.bool true))) (.t 55) },
  { dst := some 57, op := .mov (.t 56) },
  { dst := some 58, op := .mov (.t 9), guard := some (57, false) },
  { dst := some 59, op := .bin .eql (.t 58) (.c (.nat .i64 7)), guard := some (57, false) },
  { dst := some 60, op := .pick (.t 57) (.c (.d (.bool true))) (.t 59) },
  { dst := some 61, op := .mov (.t 60) },
  { dst := some 62, op := .mov (.t 13), guard := some (61, false) },
  { dst := some 63, op := .bin .eql (.t 62) (.c (.nat .i64 7)), guard := some (61, false) },
  { dst := some 64, op := .pick (.t 61) (.c (.d (.bool true))) (.t 63) }]
def o_law05_RegexWraps_9 : List AOp := [
  { dst := some 65, op := .mov (.t 5) },
  { dst := some 4, op := .asg (.t 65) }]
def o_law05_RegexWraps_10 : List AOp := [
  { dst := some 67, op := .mov (.t 6) },
  { dst := some 68, op := .mov (.t 10) },
  { dst := some 69, op := .call (.f f_ref05_Join) [.t 67, .t 68, .c (.nat .i64 3)] },
  { dst := some 66, op := .mov (.t 69) },
  { dst := some 70, op := .extr (.t 66) 0 },
  { dst := some 71, op := .extr (.t 66) 1 },
  { dst := some 14, op := .asg (.t 70) },
  { dst := some 15, op := .asg (.t 71) }]
def o_law05_RegexWraps_11 : List AOp := [
  { dst := some 72, op := .mov (.t 5) },
  { dst := some 73, op := .mov (.t 72) },
  { dst := some 74, op := .mov (.t 9), guard := some (73, true) },
  { dst := some 75, op := .bin .eql (.t 74) (.c (.nat .i64 0)), guard := some (73, true) },
  { dst := some 76, op := .pick (.t 73) (.t 75) (.c (.d (.bool false))) },
  { dst := some 77, op := .mov (.t 76) },
  { dst := some 78, op := .mov (.t 6), guard := some (77, true) },
  { dst := some 79, op := .mov (.t 8), guard := some (77, true) },
  { dst := some 80, op := .call (.f f_ref05_Same) [.t 78, .t 79], guard := some (77, true) },
  { dst := some 81, op := .pick (.t 77) (.t 80) (.c (.d (.bool false))) },
  { dst := some 82, op := .mov (.t 81) },
  { dst := some 83, op := .mov (.t 15), guard := some (82, true) },
  { dst := some 84, op := .bin .neq (.t 83) (.c (.nat .i64 0)), guard := some (82, true) },
  { dst := some 85, op := .mov (.t 84), guard := some (82, true) },
  { dst := some 86, op := .mov (.t 13), guard := some (85, false) },
  { dst := some 87, op := .bin .eql (.t 86) (.c (.nat .i64 0)), guard := some (85, false) },
  { dst := some 88, op := .mov (.t 87), guard := some (85, false) },
  { dst := some 89, op := .mov (.t 12), guard := some (88, true) },
  { dst := some 90, op := .mov (.t 14), guard := some (88, true) },
  { dst := some 91, op := .call (.f f_ref05_Same) [.t 89, .t 90], guard := some (88, true) },
  { dst := some 92, op := .pick (.t 88) (.t 91) (.c (.d (.bool false))), guard := some (85, false) },
  { dst := some 93, op := .pick (.t 85) (.c (.d (.bool true))) (.t 92), guard := some (82, true) },
  { dst := some 94, op := .pick (.t 82) (.t 93) (.c (.d (.bool false))) },
  { dst := some 4, op := .asg (.t 94) }]
def c_law05_RegexWraps : AC :=
  (.seq (.ops o_law05_RegexWraps_0)
  (.seq (.ops o_law05_RegexWraps_1)
  (.seq (.seq (.ops o_law05_RegexWraps_2)
  (.cond (.t 22) (.seq (.ops o_law05_RegexWraps_3)
  .ret) .skip))
  (.seq (.ops o_law05_RegexWraps_4)
  (.seq (.ops o_law05_RegexWraps_5)
  (.seq (.ops o_law05_RegexWraps_6)
  (.seq (.ops o_law05_RegexWraps_7)
  (.seq (.seq (.ops o_law05_RegexWraps_8)
  (.cond (.t 64) (.seq (.ops o_law05_RegexWraps_9)
  .ret) .skip))
  (.seq (.ops o_law05_RegexWraps_10)
  (.seq (.ops o_law05_RegexWraps_11)
  .ret))))))))))
def a_law05_RegexWraps : AFn := { body := c_law05_RegexWraps, res := [.tmp 4] }

-- dragoman/dragomanlaw05.RegexSigns
def o_law05_RegexSigns_0 : List AOp := [
  { dst := some 2, op := .asg (.c (.d (.bool false))) }]
def o_law05_RegexSigns_1 : List AOp := [
  { dst := some 11, op := .callZ (.f f_law05_shown) [] },
  { dst := some 3, op := .asg (.t 11) }]
def o_law05_RegexSigns_2 : List AOp := [
  { dst := some 12, op := .mov (.t 0) },
  { dst := some 13, op := .call (.f f_ref04_Plain) [.t 12] },
  { dst := some 4, op := .asg (.t 13) }]
def o_law05_RegexSigns_3 : List AOp := [
  { dst := some 15, op := .mov (.t 4) },
  { dst := some 16, op := .call (.f f_regex_Read) [.t 15] },
  { dst := some 14, op := .mov (.t 16) },
  { dst := some 17, op := .extr (.t 14) 0 },
  { dst := some 18, op := .extr (.t 14) 1 },
  { dst := some 5, op := .asg (.t 17) },
  { dst := some 6, op := .asg (.t 18) }]
def o_law05_RegexSigns_4 : List AOp := [
  { dst := some 19, op := .mov (.t 6) },
  { dst := some 20, op := .bin .neq (.t 19) (.c (.nat .i64 0)) },
  { dst := some 21, op := .mov (.t 20) },
  { dst := some 22, op := .mov (.t 5), guard := some (21, false) },
  { dst := some 23, op := .len (.t 22), guard := some (21, false) },
  { dst := some 24, op := .bin .neq (.t 23) (.c (.nat .i64 1)), guard := some (21, false) },
  { dst := some 25, op := .pick (.t 21) (.c (.d (.bool true))) (.t 24) },
  { dst := some 26, op := .mov (.t 25) },
  { dst := some 27, op := .mov (.t 5), guard := some (26, false) },
  { dst := some 28, op := .idxA none 7 (.t 27) (.c (.nat .i64 0)), guard := some (26, false) },
  { dst := some 29, op := .fldA 0 (.t 28), guard := some (26, false) },
  { dst := some 30, op := .load none (.t 29), guard := some (26, false) },
  { dst := some 31, op := .bin .neq (.t 30) (.c (.nat .i64 1)), guard := some (26, false) },
  { dst := some 32, op := .pick (.t 26) (.c (.d (.bool true))) (.t 31) },
  { dst := some 33, op := .mov (.t 32) },
  { dst := some 34, op := .mov (.t 5), guard := some (33, false), may := false },
  { dst := some 35, op := .idxA none 7 (.t 34) (.c (.nat .i64 0)), guard := some (33, false), may := false },
  { dst := some 36, op := .fldA 1 (.t 35), guard := some (33, false), may := false },
  { dst := some 37, op := .load (some 4) (.t 36), guard := some (33, false), may := false },
  { dst := some 38, op := .mov (.t 0), guard := some (33, false), may := false },
  { dst := some 39, op := .callZ (.f f_ref04_One) [.t 38], guard := some (33, false), may := false },
  { dst := some 40, op := .eqc true [.int .u64, .int .u64, .int .u64, .int .u64] (.t 37) (.t 39), guard := some (33, false) },
  { dst := some 41, op := .pick (.t 33) (.c (.d (.bool true))) (.t 40) },
  { dst := some 42, op := .mov (.t 41) },
  { dst := some 43, op := .mov (.t 5), guard := some (42, false), may := false },
  { dst := some 44, op := .call (.f f_regex_Text) [.t 43], guard := some (42, false), may := false },
  { dst := some 45, op := .mov (.t 4), guard := some (42, false), may := false },
  { dst := some 46, op := .bin .neq (.t 44) (.t 45), guard := some (42, false) },
  { dst := some 47, op := .pick (.t 42) (.c (.d (.bool true))) (.t 46) }]
def o_law05_RegexSigns_5 : List AOp := [
  { dst := some 2, op := .asg (.c (.d (.bool false))) }]
def o_law05_RegexSigns_6 : List AOp := [
  { dst := some 49, op := .mov (.t 4) },
  { dst := some 50, op := .bin .add (.t 49) (.c (.d (.str [42]))) },
  { dst := some 51, op := .call (.f f_regex_Read) [.t 50] },
  { dst := some 48, op := .mov (.t 51) },
  { dst := some 52, op := .extr (.t 48) 0 },
  { dst := some 53, op := .extr (.t 48) 1 },
  { dst := some 7, op := .asg (.t 52) },
  { dst := some 8, op := .asg (.t 53) }]
def o_law05_RegexSigns_7 : List AOp := [
  { dst := some 55, op := .mov (.t 4) },
  { dst := some 56, op := .bin .add (.t 55) (.c (.d (.str [43, 63]))) },
  { dst := some 57, op := .call (.f f_regex_Read) [.t 56] },
  { dst := some 54, op := .mov (.t 57) },
  { dst := some 58, op := .extr (.t 54) 0 },
  { dst := some 59, op := .extr (.t 54) 1 },
  { dst := some 9, op := .asg (.t 58) },
  { dst := some 10, op := .asg (.t 59) }]
def o_law05_RegexSigns_8 : List AOp := [
  { dst := some 60, op := .mov (.t 3) },
  { dst := some 61, op := .mov (.t 60) },
  { dst := some 62, op := .mov (.t 8), guard := some (61, true) },
  { dst := some 63, op := .bin .eql (.t 62) (.c (.nat .i64 0)), guard := some (61, true) },
  { dst := some 64, op := .pick (.t 61) (.t 63) (.c (.d (.bool false))) },
  { dst := some 65, op := .mov (.t 64) },
  { dst := some 66, op := .mov (.t 7), guard := some (65, true) },
  { dst := some 67, op := .len (.t 66), guard := some (65, true) },
  { dst := some 68, op := .bin .eql (.t 67) (.c (.nat .i64 2)), guard := some (65, true) },
  { dst := some 69, op := .pick (.t 65) (.t 68) (.c (.d (.bool false))) },
  { dst := some 70, op := .mov (.t 69) },
  { dst := some 71, op := .mov (.t 7), guard := some (70, true) },
  { dst := some 72, op := .idxA none 7 (.t 71) (.c (.nat .i64 1)), guard := some (70, true) },
  { dst := some 73, op := .fldA 0 (.t 72), guard := some (70, true) },
  { dst := some 74, op := .load none (.t 73), guard := some (70, true) },
  { dst := some 75, op := .bin .eql (.t 74) (.c (.nat .i64 4)), guard := some (70, true) },
  { dst := some 76, op := .pick (.t 70) (.t 75) (.c (.d (.bool false))) },
  { dst := some 77, op := .mov (.t 76) },
  { dst := some 78, op := .mov (.t 10), guard := some (77, true) },
  { dst := some 79, op := .bin .eql (.t 78) (.c (.nat .i64 0)), guard := some (77, true) },
  { dst := some 80, op := .pick (.t 77) (.t 79) (.c (.d (.bool false))) },
  { dst := some 81, op := .mov (.t 80) },
  { dst := some 82, op := .mov (.t 9), guard := some (81, true) },
  { dst := some 83, op := .len (.t 82), guard := some (81, true) },
  { dst := some 84, op := .bin .eql (.t 83) (.c (.nat .i64 3)), guard := some (81, true) },
  { dst := some 85, op := .pick (.t 81) (.t 84) (.c (.d (.bool false))) },
  { dst := some 86, op := .mov (.t 85) },
  { dst := some 87, op := .mov (.t 9), guard := some (86, true) },
  { dst := some 88, op := .idxA none 7 (.t 87) (.c (.nat .i64 1)), guard := some (86, true) },
  { dst := some 89, op := .fldA 0 (.t 88), guard := some (86, true) },
  { dst := some 90, op := .load none (.t 89), guard := some (86, true) },
  { dst := some 91, op := .bin .eql (.t 90) (.c (.nat .i64 5)), guard := some (86, true) },
  { dst := some 92, op := .pick (.t 86) (.t 91) (.c (.d (.bool false))) },
  { dst := some 93, op := .mov (.t 92) },
  { dst := some 94, op := .mov (.t 9), guard := some (93, true) },
  { dst := some 95, op := .idxA none 7 (.t 94) (.c (.nat .i64 2)), guard := some (93, true) },
  { dst := some 96, op := .fldA 0 (.t 95), guard := some (93, true) },
  { dst := some 97, op := .load none (.t 96), guard := some (93, true) },
  { dst := some 98, op := .bin .eql (.t 97) (.c (.nat .i64 6)), guard := some (93, true) },
  { dst := some 99, op := .pick (.t 93) (.t 98) (.c (.d (.bool false))) },
  { dst := some 2, op := .asg (.t 99) }]
def c_law05_RegexSigns : AC :=
  (.seq (.ops o_law05_RegexSigns_0)
  (.seq (.ops o_law05_RegexSigns_1)
  (.seq (.ops o_law05_RegexSigns_2)
  (.seq (.ops o_law05_RegexSigns_3)
  (.seq (.seq (.ops o_law05_RegexSigns_4)
  (.cond (.t 47) (.seq (.ops o_law05_RegexSigns_5)
  .ret) .skip))
  (.seq (.ops o_law05_RegexSigns_6)
  (.seq (.ops o_law05_RegexSigns_7)
  (.seq (.ops o_law05_RegexSigns_8)
  .ret))))))))
def a_law05_RegexSigns : AFn := { body := c_law05_RegexSigns, res := [.tmp 2] }

-- dragoman/dragomanlaw05.RegexJoins
def o_law05_RegexJoins_0 : List AOp := [
  { dst := some 6, op := .asg (.c (.d (.bool false))) }]
def o_law05_RegexJoins_1 : List AOp := [
  { dst := some 14, op := .callZ (.f f_law05_shown) [] },
  { dst := some 7, op := .asg (.t 14) }]
def o_law05_RegexJoins_2 : List AOp := [
  { dst := some 15, op := .mov (.t 0) },
  { dst := some 16, op := .len (.t 15) },
  { dst := some 17, op := .bin .gtr (.t 16) (.c (.nat .i64 300)) },
  { dst := some 18, op := .mov (.t 17) },
  { dst := some 19, op := .mov (.t 1), guard := some (18, false) },
  { dst := some 20, op := .len (.t 19), guard := some (18, false) },
  { dst := some 21, op := .bin .gtr (.t 20) (.c (.nat .i64 300)), guard := some (18, false) },
  { dst := some 22, op := .pick (.t 18) (.c (.d (.bool true))) (.t 21) },
  { dst := some 23, op := .mov (.t 22) },
  { dst := some 24, op := .mov (.t 2), guard := some (23, false) },
  { dst := some 25, op := .lenS (.t 24), guard := some (23, false) },
  { dst := some 26, op := .bin .gtr (.t 25) (.c (.nat .i64 500)), guard := some (23, false) },
  { dst := some 27, op := .pick (.t 23) (.c (.d (.bool true))) (.t 26) },
  { dst := some 28, op := .mov (.t 27) },
  { dst := some 29, op := .mov (.t 0), guard := some (28, false) },
  { dst := some 30, op := .call (.f f_ref05_Right) [.t 29], guard := some (28, false) },
  { dst := some 31, op := .un .not (.t 30), guard := some (28, false) },
  { dst := some 32, op := .pick (.t 28) (.c (.d (.bool true))) (.t 31) },
  { dst := some 33, op := .mov (.t 32) },
  { dst := some 34, op := .mov (.t 1), guard := some (33, false) },
  { dst := some 35, op := .call (.f f_ref05_Right) [.t 34], guard := some (33, false) },
  { dst := some 36, op := .un .not (.t 35), guard := some (33, false) },
  { dst := some 37, op := .pick (.t 33) (.c (.d (.bool true))) (.t 36) }]
def o_law05_RegexJoins_3 : List AOp := [
  { dst := some 38, op := .mov (.t 7) },
  { dst := some 6, op := .asg (.t 38) }]
def o_law05_RegexJoins_4 : List AOp := [
  { dst := some 40, op := .mov (.t 0) },
  { dst := some 41, op := .mov (.t 1) },
  { dst := some 42, op := .call (.f f_regex_Join) [.t 40, .t 41, .c (.nat .i64 2)] },
  { dst := some 39, op := .mov (.t 42) },
  { dst := some 43, op := .extr (.t 39) 0 },
  { dst := some 44, op := .extr (.t 39) 1 },
  { dst := some 8, op := .asg (.t 43) },
  { dst := some 9, op := .asg (.t 44) }]
def o_law05_RegexJoins_5 : List AOp := [
  { dst := some 46, op := .mov (.t 0) },
  { dst := some 47, op := .mov (.t 1) },
  { dst := some 48, op := .call (.f f_regex_Join) [.t 46, .t 47, .c (.nat .i64 3)] },
  { dst := some 45, op := .mov (.t 48) },
  { dst := some 49, op := .extr (.t 45) 0 },
  { dst := some 50, op := .extr (.t 45) 1 },
  { dst := some 10, op := .asg (.t 49) },
  { dst := some 11, op := .asg (.t 50) }]
def o_law05_RegexJoins_6 : List AOp := [
  { dst := some 52, op := .mov (.t 2) },
  { dst := some 53, op := .call (.f f_regex_Lit) [.t 52] },
  { dst := some 51, op := .mov (.t 53) },
  { dst := some 54, op := .extr (.t 51) 0 },
  { dst := some 55, op := .extr (.t 51) 1 },
  { dst := some 12, op := .asg (.t 54) },
  { dst := some 13, op := .asg (.t 55) }]
def o_law05_RegexJoins_7 : List AOp := [
  { dst := some 56, op := .mov (.t 9) },
  { dst := some 57, op := .bin .neq (.t 56) (.c (.nat .i64 0)) },
  { dst := some 58, op := .mov (.t 57) },
  { dst := some 59, op := .mov (.t 11), guard := some (58, false) },
  { dst := some 60, op := .bin .neq (.t 59) (.c (.nat .i64 0)), guard := some (58, false) },
  { dst := some 61, op := .pick (.t 58) (.c (.d (.bool true))) (.t 60) },
  { dst := some 62, op := .mov (.t 61) },
  { dst := some 63, op := .mov (.t 13), guard := some (62, false) },
  { dst := some 64, op := .bin .neq (.t 63) (.c (.nat .i64 0)), guard := some (62, false) },
  { dst := some 65, op := .pick (.t 62) (.c (.d (.bool true))) (.t 64) }]
def o_law05_RegexJoins_8 : List AOp := [
  { dst := some 6, op := .asg (.c (.d (.bool false))) }]
def o_law05_RegexJoins_9 : List AOp := [
  { dst := some 66, op := .mov (.t 7) },
  { dst := some 67, op := .mov (.t 66) },
  { dst := some 68, op := .mov (.t 8), guard := some (67, true) },
  { dst := some 69, op := .call (.f f_ref05_Right) [.t 68], guard := some (67, true) },
  { dst := some 70, op := .pick (.t 67) (.t 69) (.c (.d (.bool false))) },
  { dst := some 71, op := .mov (.t 70) },
  { dst := some 72, op := .mov (.t 10), guard := some (71, true) },
  { dst := some 73, op := .call (.f f_ref05_Right) [.t 72], guard := some (71, true) },
  { dst := some 74, op := .pick (.t 71) (.t 73) (.c (.d (.bool false))) },
  { dst := some 75, op := .mov (.t 74) },
  { dst := some 76, op := .mov (.t 8), guard := some (75, true) },
  { dst := some 77, op := .len (.t 76), guard := some (75, true) },
  { dst := some 78, op := .mov (.t 0), guard := some (75, true) },
  { dst := some 79, op := .len (.t 78), guard := some (75, true) },
  { dst := some 80, op := .mov (.t 1), guard := some (75, true) },
  { dst := some 81, op := .len (.t 80), guard := some (75, true) },
  { dst := some 82, op := .bin .add (.t 79) (.t 81), guard := some (75, true) },
  { dst := some 83, op := .bin .add (.t 82) (.c (.nat .i64 1)), guard := some (75, true) },
  { dst := some 84, op := .bin .eql (.t 77) (.t 83), guard := some (75, true) },
  { dst := some 85, op := .pick (.t 75) (.t 84) (.c (.d (.bool false))) },
  { dst := some 86, op := .mov (.t 85) },
  { dst := some 87, op := .mov (.t 10), guard := some (86, true) },
  { dst := some 88, op := .len (.t 87), guard := some (86, true) },
  { dst := some 89, op := .mov (.t 8), guard := some (86, true) },
  { dst := some 90, op := .len (.t 89), guard := some (86, true) },
  { dst := some 91, op := .bin .eql (.t 88) (.t 90), guard := some (86, true) },
  { dst := some 92, op := .pick (.t 86) (.t 91) (.c (.d (.bool false))) },
  { dst := some 93, op := .mov (.t 92) },
  { dst := some 94, op := .mov (.t 12), guard := some (93, true) },
  { dst := some 95, op := .call (.f f_ref05_Right) [.t 94], guard := some (93, true) },
  { dst := some 96, op := .pick (.t 93) (.t 95) (.c (.d (.bool false))) },
  { dst := some 6, op := .asg (.t 96) }]
def c_law05_RegexJoins : AC :=
  (.seq (.ops o_law05_RegexJoins_0)
  (.seq (.ops o_law05_RegexJoins_1)
  (.seq (.seq (.ops o_law05_RegexJoins_2)
  (.cond (.t 37) (.seq (.ops o_law05_RegexJoins_3)
  .ret) .skip))
  (.seq (.ops o_law05_RegexJoins_4)
  (.seq (.ops o_law05_RegexJoins_5)
  (.seq (.ops o_law05_RegexJoins_6)
  (.seq (.seq (.ops o_law05_RegexJoins_7)
  (.cond (.t 65) (.seq (.ops o_law05_RegexJoins_8)
  .ret) .skip))
  (.seq (.ops o_law05_RegexJoins_9)
  .ret))))))))
def a_law05_RegexJoins : AFn := { body := c_law05_RegexJoins, res := [.tmp 6] }

-- dragoman/dragomanlaw05.RegexTrees
def o_law05_RegexTrees_0 : List AOp := [
  { dst := some 1, op := .box (.t 0) },
  { dst := some 2, op := .asg (.c (.d (.bool false))) }]
def o_law05_RegexTrees_1 : List AOp := [
  { dst := some 18, op := .fldA 0 (.t 1) },
  { dst := some 19, op := .load none (.t 18) },
  { dst := some 3, op := .asg (.t 19) }]
def o_law05_RegexTrees_2 : List AOp := [
  { dst := some 20, op := .fldA 1 (.t 1) },
  { dst := some 21, op := .load none (.t 20) },
  { dst := some 4, op := .asg (.t 21) }]
def o_law05_RegexTrees_3 : List AOp := [
  { dst := some 22, op := .fldA 2 (.t 1) },
  { dst := some 23, op := .load none (.t 22) },
  { dst := some 5, op := .asg (.t 23) }]
def o_law05_RegexTrees_4 : List AOp := [
  { dst := some 24, op := .fldA 3 (.t 1) },
  { dst := some 25, op := .load none (.t 24) },
  { dst := some 6, op := .asg (.t 25) }]
def o_law05_RegexTrees_5 : List AOp := [
  { dst := some 26, op := .callZ (.f f_law05_shown) [] },
  { dst := some 7, op := .asg (.t 26) }]
def o_law05_RegexTrees_6 : List AOp := [
  { dst := some 27, op := .mov (.t 3) },
  { dst := some 28, op := .len (.t 27) },
  { dst := some 29, op := .bin .gtr (.t 28) (.c (.nat .i64 300)) },
  { dst := some 30, op := .mov (.t 29) },
  { dst := some 31, op := .mov (.t 4), guard := some (30, false) },
  { dst := some 32, op := .len (.t 31), guard := some (30, false) },
  { dst := some 33, op := .bin .gtr (.t 32) (.c (.nat .i64 300)), guard := some (30, false) },
  { dst := some 34, op := .pick (.t 30) (.c (.d (.bool true))) (.t 33) },
  { dst := some 35, op := .mov (.t 34) },
  { dst := some 36, op := .mov (.t 6), guard := some (35, false) },
  { dst := some 37, op := .lenS (.t 36), guard := some (35, false) },
  { dst := some 38, op := .bin .gtr (.t 37) (.c (.nat .i64 1200)), guard := some (35, false) },
  { dst := some 39, op := .pick (.t 35) (.c (.d (.bool true))) (.t 38) }]
def o_law05_RegexTrees_7 : List AOp := [
  { dst := some 40, op := .mov (.t 7) },
  { dst := some 2, op := .asg (.t 40) }]
def o_law05_RegexTrees_8 : List AOp := [
  { dst := some 41, op := .mov (.t 3) },
  { dst := some 42, op := .call (.f f_ref05_Right) [.t 41] },
  { dst := some 8, op := .asg (.t 42) }]
def o_law05_RegexTrees_9 : List AOp := [
  { dst := some 44, op := .mov (.t 6) },
  { dst := some 45, op := .call (.f f_regex_Lit) [.t 44] },
  { dst := some 43, op := .mov (.t 45) },
  { dst := some 46, op := .extr (.t 43) 0 },
  { dst := some 47, op := .extr (.t 43) 1 },
  { dst := some 9, op := .asg (.t 46) },
  { dst := some 10, op := .asg (.t 47) }]
def o_law05_RegexTrees_10 : List AOp := [
  { dst := some 49, op := .mov (.t 6) },
  { dst := some 50, op := .call (.f f_ref05_Lit) [.t 49] },
  { dst := some 48, op := .mov (.t 50) },
  { dst := some 51, op := .extr (.t 48) 0 },
  { dst := some 52, op := .extr (.t 48) 1 },
  { dst := some 11, op := .asg (.t 51) },
  { dst := some 12, op := .asg (.t 52) }]
def o_law05_RegexTrees_11 : List AOp := [
  { dst := some 53, op := .mov (.t 9) },
  { dst := some 54, op := .mov (.t 11) },
  { dst := some 55, op := .call (.f f_ref05_Same) [.t 53, .t 54] },
  { dst := some 56, op := .mov (.t 55) },
  { dst := some 57, op := .mov (.t 10), guard := some (56, true) },
  { dst := some 58, op := .mov (.t 12), guard := some (56, true) },
  { dst := some 59, op := .bin .eql (.t 57) (.t 58), guard := some (56, true) },
  { dst := some 60, op := .pick (.t 56) (.t 59) (.c (.d (.bool false))) },
  { dst := some 13, op := .asg (.t 60) }]
def o_law05_RegexTrees_12 : List AOp := [
  { dst := some 61, op := .mov (.t 3) },
  { dst := some 62, op := .call (.f f_regex_Right) [.t 61] },
  { dst := some 63, op := .mov (.t 8) },
  { dst := some 64, op := .beq true (.t 62) (.t 63) },
  { dst := some 65, op := .mov (.t 64) },
  { dst := some 66, op := .mov (.t 13), guard := some (65, false) },
  { dst := some 67, op := .un .not (.t 66), guard := some (65, false) },
  { dst := some 68, op := .pick (.t 65) (.c (.d (.bool true))) (.t 67) }]
def o_law05_RegexTrees_13 : List AOp := [
  { dst := some 2, op := .asg (.c (.d (.bool false))) }]
def o_law05_RegexTrees_14 : List AOp := [
  { dst := some 69, op := .mov (.t 8) },
  { dst := some 70, op := .un .not (.t 69) },
  { dst := some 71, op := .mov (.t 70) },
  { dst := some 72, op := .mov (.t 4), guard := some (71, false) },
  { dst := some 73, op := .call (.f f_ref05_Right) [.t 72], guard := some (71, false) },
  { dst := some 74, op := .un .not (.t 73), guard := some (71, false) },
  { dst := some 75, op := .pick (.t 71) (.c (.d (.bool true))) (.t 74) }]
def o_law05_RegexTrees_15 : List AOp := [
  { dst := some 76, op := .mov (.t 7) },
  { dst := some 2, op := .asg (.t 76) }]
def o_law05_RegexTrees_16 : List AOp := [
  { dst := some 78, op := .mov (.t 3) },
  { dst := some 79, op := .mov (.t 4) },
  { dst := some 80, op := .mov (.t 5) },
  { dst := some 81, op := .call (.f f_regex_Join) [.t 78, .t 79, .t 80] },
  { dst := some 77, op := .mov (.t 81) },
  { dst := some 82, op := .extr (.t 77) 0 },
  { dst := some 83, op := .extr (.t 77) 1 },
  { dst := some 14, op := .asg (.t 82) },
  { dst := some 15, op := .asg (.t 83) }]
def o_law05_RegexTrees_17 : List AOp := [
  { dst := some 85, op := .mov (.t 3) },
  { dst := some 86, op := .mov (.t 4) },
  { dst := some 87, op := .mov (.t 5) },
  { dst := some 88, op := .call (.f f_ref05_Join) [.t 85, .t 86, .t 87] },
  { dst := some 84, op := .mov (.t 88) },
  { dst := some 89, op := .extr (.t 84) 0 },
  { dst := some 90, op := .extr (.t 84) 1 },
  { dst := some 16, op := .asg (.t 89) },
  { dst := some 17, op := .asg (.t 90) }]
def o_law05_RegexTrees_18 : List AOp := [
  { dst := some 91, op := .mov (.t 7) },
  { dst := some 92, op := .mov (.t 91) },
  { dst := some 93, op := .mov (.t 3), guard := some (92, true) },
  { dst := some 94, op := .call (.f f_regex_Text) [.t 93], guard := some (92, true) },
  { dst := some 95, op := .mov (.t 3), guard := some (92, true) },
  { dst := some 96, op := .call (.f f_ref05_Text) [.t 95], guard := some (92, true) },
  { dst := some 97, op := .bin .eql (.t 94) (.t 96), guard := some (92, true) },
  { dst := some 98, op := .pick (.t 92) (.t 97) (.c (.d (.bool false))) },
  { dst := some 99, op := .mov (.t 98) },
  { dst := some 100, op := .mov (.t 14), guard := some (99, true) },
  { dst := some 101, op := .mov (.t 16), guard := some (99, true) },
  { dst := some 102, op := .call (.f f_ref05_Same) [.t 100, .t 101], guard := some (99, true) },
  { dst := some 103, op := .pick (.t 99) (.t 102) (.c (.d (.bool false))) },
  { dst := some 104, op := .mov (.t 103) },
  { dst := some 105, op := .mov (.t 15), guard := some (104, true) },
  { dst := some 106, op := .mov (.t 17), guard := some (104, true) },
  { dst := some 107, op := .bin .eql (.t 105) (.t 106), guard := some (104, true) },
  { dst := some 108, op := .pick (.t 104) (.t 107) (.c (.d (.bool false))) },
  { dst := some 2, op := .asg (.t 108) }]
def c_law05_RegexTrees : AC :=
  (.seq (.ops o_law05_RegexTrees_0)
  (.seq (.ops o_law05_RegexTrees_1)
  (.seq (.ops o_law05_RegexTrees_2)
  (.seq (.ops o_law05_RegexTrees_3)
  (.seq (.ops o_law05_RegexTrees_4)
  (.seq (.ops o_law05_RegexTrees_5)
  (.seq (.seq (.ops o_law05_RegexTrees_6)
  (.cond (.t 39) (.seq (.ops o_law05_RegexTrees_7)
  .ret) .skip))
  (.seq (.ops o_law05_RegexTrees_8)
  (.seq (.ops o_law05_RegexTrees_9)
  (.seq (.ops o_law05_RegexTrees_10)
  (.seq (.ops o_law05_RegexTrees_11)
  (.seq (.seq (.ops o_law05_RegexTrees_12)
  (.cond (.t 68) (.seq (.ops o_law05_RegexTrees_13)
  .ret) .skip))
  (.seq (.seq (.ops o_law05_RegexTrees_14)
  (.cond (.t 75) (.seq (.ops o_law05_RegexTrees_15)
  .ret) .skip))
  (.seq (.ops o_law05_RegexTrees_16)
  (.seq (.ops o_law05_RegexTrees_17)
  (.seq (.ops o_law05_RegexTrees_18)
  .ret))))))))))))))))
def a_law05_RegexTrees : AFn := { body := c_law05_RegexTrees, res := [.tmp 2] }

-- dragoman/dragomanlaw05.shown
def o_law05_shown_0 : List AOp := [
  { dst := some 0, op := .asg (.c (.d (.bool false))) }]
def o_law05_shown_1 : List AOp := [
  { dst := some 4, op := .call (.f f_regex_Read) [.c (.d (.str [97, 124, 98, 42]))] },
  { dst := some 3, op := .mov (.t 4) },
  { dst := some 5, op := .extr (.t 3) 0 },
  { dst := some 6, op := .extr (.t 3) 1 },
  { dst := some 1, op := .asg (.t 5) },
  { dst := some 2, op := .asg (.t 6) }]
def o_law05_shown_2 : List AOp := [
  { dst := some 7, op := .mov (.t 2) },
  { dst := some 8, op := .bin .eql (.t 7) (.c (.nat .i64 0)) },
  { dst := some 9, op := .mov (.t 8) },
  { dst := some 10, op := .mov (.t 1), guard := some (9, true) },
  { dst := some 11, op := .len (.t 10), guard := some (9, true) },
  { dst := some 12, op := .bin .eql (.t 11) (.c (.nat .i64 4)), guard := some (9, true) },
  { dst := some 13, op := .pick (.t 9) (.t 12) (.c (.d (.bool false))) },
  { dst := some 14, op := .mov (.t 13) },
  { dst := some 15, op := .mov (.t 1), guard := some (14, true) },
  { dst := some 16, op := .idxA none 7 (.t 15) (.c (.nat .i64 2)), guard := some (14, true) },
  { dst := some 17, op := .fldA 0 (.t 16), guard := some (14, true) },
  { dst := some 18, op := .load none (.t 17), guard := some (14, true) },
  { dst := some 19, op := .bin .eql (.t 18) (.c (.nat .i64 4)), guard := some (14, true) },
  { dst := some 20, op := .pick (.t 14) (.t 19) (.c (.d (.bool false))) },
  { dst := some 21, op := .mov (.t 20) },
  { dst := some 22, op := .mov (.t 1), guard := some (21, true) },
  { dst := some 23, op := .idxA none 7 (.t 22) (.c (.nat .i64 3)), guard := some (21, true) },
  { dst := some 24, op := .fldA 0 (.t 23), guard := some (21, true) },
  { dst := some 25, op := .load none (.t 24), guard := some (21, true) },
  { dst := some 26, op := .bin .eql (.t 25) (.c (.nat .i64 3)), guard := some (21, true) },
  { dst := some 27, op := .pick (.t 21) (.t 26) (.c (.d (.bool false))) },
  { dst := some 28, op := .mov (.t 27) },
  { dst := some 29, op := .mov (.t 1), guard := some (28, true) },
  { dst := some 30, op := .idxA none 7 (.t 29) (.c (.nat .i64 3)), guard := some (28, true) },
  { dst := some 31, op := .fldA 5 (.t 30), guard := some (28, true) },
  { dst := some 32, op := .load (some 2) (.t 31), guard := some (28, true) },
  { dst := some 33, op := .build [.nat .i64 0, .nat .i64 0] [(0, 1, (.c (.nat .i64 0))), (1, 1, (.c (.nat .i64 2)))], guard := some (28, true) },
  { dst := some 34, op := .eqc false [.int .i64, .int .i64] (.t 32) (.t 33), guard := some (28, true) },
  { dst := some 35, op := .pick (.t 28) (.t 34) (.c (.d (.bool false))) },
  { dst := some 36, op := .mov (.t 35) },
  { dst := some 37, op := .mov (.t 1), guard := some (36, true) },
  { dst := some 38, op := .call (.f f_regex_Text) [.t 37], guard := some (36, true) },
  { dst := some 39, op := .bin .eql (.t 38) (.c (.d (.str [97, 124, 98, 42]))), guard := some (36, true) },
  { dst := some 40, op := .pick (.t 36) (.t 39) (.c (.d (.bool false))) },
  { dst := some 0, op := .asg (.t 40) }]
def c_law05_shown : AC :=
  (.seq (.ops o_law05_shown_0)
  (.seq (.ops o_law05_shown_1)
  (.seq (.ops o_law05_shown_2)
  .ret)))
def a_law05_shown : AFn := { body := c_law05_shown, res := [.tmp 0] }

-- dragoman/regex.Read
def o_regex_Read_0 : List AOp := [
  { dst := some 2, op := .alloc [.nil] },
  { dst := some 3, op := .alloc [.nat .i64 0] }]
def o_regex_Read_1 : List AOp := [
  { dst := some 5, op := .mkfn (.func f_regex_Read_1) [] [.t 2, .t 3] },
  { dst := none, op := .defer (.t 5) [] }]
def o_regex_Read_2 : List AOp := [
  { dst := some 6, op := .mov (.t 0) },
  { dst := some 7, op := .build [.d (.str []), .nat .i64 0, .nat .i64 0, .nil] [(0, 1, (.t 6))] },
  { dst := some 8, op := .box (.t 7) },
  { dst := some 4, op := .asg (.t 8) }]
def o_regex_Read_3 : List AOp := [
  { dst := some 9, op := .mov (.t 4) },
  { dst := some 10, op := .call (.f f_regex_reader_all) [.t 9] }]
def o_regex_Read_4 : List AOp := [
  { dst := some 11, op := .mov (.t 4) },
  { dst := some 12, op := .nilchk (.t 11) },
  { dst := some 13, op := .fldA 1 (.t 12) },
  { dst := some 14, op := .load none (.t 13) },
  { dst := some 15, op := .mov (.t 0) },
  { dst := some 16, op := .lenS (.t 15) },
  { dst := some 17, op := .bin .lss (.t 14) (.t 16) }]
def o_regex_Read_5 : List AOp := [
  { dst := none, op := .store 1 (.t 2) (.c (.nil)) },
  { dst := none, op := .store 1 (.t 3) (.c (.nat .i64 9)) }]
def o_regex_Read_6 : List AOp := [
  { dst := some 18, op := .mov (.t 4) },
  { dst := some 19, op := .nilchk (.t 18) },
  { dst := some 20, op := .fldA 3 (.t 19) },
  { dst := some 21, op := .load none (.t 20) },
  { dst := none, op := .store 1 (.t 2) (.t 21) },
  { dst := none, op := .store 1 (.t 3) (.c (.nat .i64 0)) }]
def c_regex_Read : AC :=
  (.seq (.ops o_regex_Read_0)
  (.seq (.ops o_regex_Read_1)
  (.seq (.ops o_regex_Read_2)
  (.seq (.ops o_regex_Read_3)
  (.seq (.seq (.ops o_regex_Read_4)
  (.cond (.t 17) (.seq (.ops o_regex_Read_5)
  .ret) .skip))
  (.seq (.ops o_regex_Read_6)
  .ret))))))
def a_regex_Read : AFn := { body := c_regex_Read, res := [.cell 2 none, .cell 3 none] }

-- dragoman/dragomanref05.Read
def o_ref05_Read_0 : List AOp := [
  { dst := some 2, op := .asg (.c (.nil)) },
  { dst := some 3, op := .asg (.c (.nat .i64 0)) }]
def o_ref05_Read_1 : List AOp := [
  { dst := some 5, op := .mov (.t 0) },
  { dst := some 6, op := .build [.d (.str []), .nat .i64 0, .nat .i64 0, .nil, .nat .i64 0] [(0, 1, (.t 5))] },
  { dst := some 7, op := .box (.t 6) },
  { dst := some 4, op := .asg (.t 7) }]
def o_ref05_Read_2 : List AOp := [
  { dst := some 8, op := .mov (.t 4) },
  { dst := some 9, op := .call (.f f_ref05_parser_whole) [.t 8] }]
def o_ref05_Read_3 : List AOp := [
  { dst := some 10, op := .mov (.t 4) },
  { dst := some 11, op := .nilchk (.t 10) },
  { dst := some 12, op := .fldA 4 (.t 11) },
  { dst := some 13, op := .load none (.t 12) },
  { dst := some 14, op := .bin .eql (.t 13) (.c (.nat .i64 0)) },
  { dst := some 15, op := .mov (.t 14) },
  { dst := some 16, op := .mov (.t 4), guard := some (15, true) },
  { dst := some 17, op := .nilchk (.t 16), guard := some (15, true) },
  { dst := some 18, op := .fldA 1 (.t 17), guard := some (15, true) },
  { dst := some 19, op := .load none (.t 18), guard := some (15, true) },
  { dst := some 20, op := .mov (.t 0), guard := some (15, true) },
  { dst := some 21, op := .lenS (.t 20), guard := some (15, true) },
  { dst := some 22, op := .bin .lss (.t 19) (.t 21), guard := some (15, true) },
  { dst := some 23, op := .pick (.t 15) (.t 22) (.c (.d (.bool false))) }]
def o_ref05_Read_4 : List AOp := [
  { dst := some 24, op := .mov (.t 4) },
  { dst := some 25, op := .call (.f f_ref05_parser_fail) [.t 24, .c (.nat .i64 9)] }]
def o_ref05_Read_5 : List AOp := [
  { dst := some 26, op := .mov (.t 4) },
  { dst := some 27, op := .nilchk (.t 26) },
  { dst := some 28, op := .fldA 4 (.t 27) },
  { dst := some 29, op := .load none (.t 28) },
  { dst := some 30, op := .bin .neq (.t 29) (.c (.nat .i64 0)) }]
def o_ref05_Read_6 : List AOp := [
  { dst := some 31, op := .mov (.t 4), may := false },
  { dst := some 32, op := .nilchk (.t 31), may := false },
  { dst := some 33, op := .fldA 4 (.t 32), may := false },
  { dst := some 34, op := .load none (.t 33), may := false },
  { dst := some 2, op := .asg (.c (.nil)), may := false },
  { dst := some 3, op := .asg (.t 34) }]
def o_ref05_Read_7 : List AOp := [
  { dst := some 35, op := .mov (.t 4) },
  { dst := some 36, op := .nilchk (.t 35) },
  { dst := some 37, op := .fldA 3 (.t 36) },
  { dst := some 38, op := .load none (.t 37) },
  { dst := some 2, op := .asg (.t 38) },
  { dst := some 3, op := .asg (.c (.nat .i64 0)) }]
def c_ref05_Read : AC :=
  (.seq (.ops o_ref05_Read_0)
  (.seq (.ops o_ref05_Read_1)
  (.seq (.ops o_ref05_Read_2)
  (.seq (.seq (.ops o_ref05_Read_3)
  (.cond (.t 23) (.ops o_ref05_Read_4) .skip))
  (.seq (.seq (.ops o_ref05_Read_5)
  (.cond (.t 30) (.seq (.ops o_ref05_Read_6)
  .ret) .skip))
  (.seq (.ops o_ref05_Read_7)
  .ret))))))
def a_ref05_Read : AFn := { body := c_ref05_Read, res := [.tmp 2, .tmp 3] }

-- dragoman/dragomanref05.Same
def o_ref05_Same_0 : List AOp := [
  { dst := some 4, op := .asg (.c (.d (.bool false))) }]
def o_ref05_Same_1 : List AOp := [
  { dst := some 6, op := .mov (.t 0) },
  { dst := some 7, op := .len (.t 6) },
  { dst := some 8, op := .mov (.t 1) },
  { dst := some 9, op := .len (.t 8) },
  { dst := some 10, op := .bin .neq (.t 7) (.t 9) }]
def o_ref05_Same_2 : List AOp := [
  { dst := some 4, op := .asg (.c (.d (.bool false))) }]
def o_ref05_Same_3 : List AOp := [
  { dst := some 5, op := .asg (.c (.nat .i64 0)) }]
def o_ref05_Same_4 : List AOp := [
  { dst := some 11, op := .mov (.t 5) },
  { dst := some 12, op := .mov (.t 0) },
  { dst := some 13, op := .len (.t 12) },
  { dst := some 14, op := .bin .lss (.t 11) (.t 13) }]
def o_ref05_Same_6 : List AOp := [
  { dst := some 17, op := .mov (.t 0), may := false },
  { dst := some 18, op := .mov (.t 5), may := false },
  { dst := some 19, op := .idxA none 7 (.t 17) (.t 18), may := false },
  { dst := some 20, op := .load (some 7) (.t 19), may := false },
  { dst := some 21, op := .mov (.t 1), may := false },
  { dst := some 22, op := .mov (.t 5), may := false },
  { dst := some 23, op := .idxA none 7 (.t 21) (.t 22), may := false },
  { dst := some 24, op := .load (some 7) (.t 23), may := false },
  { dst := some 25, op := .eqc true [.int .i64, .int .u64, .int .u64, .int .u64, .int .u64, .int .i64, .int .i64] (.t 20) (.t 24) }]
def o_ref05_Same_7 : List AOp := [
  { dst := some 4, op := .asg (.c (.d (.bool false))) }]
def o_ref05_Same_5 : List AOp := [
  { dst := some 15, op := .mov (.t 5) },
  { dst := some 16, op := .bin .add (.t 15) (.c (.nat .i64 1)) },
  { dst := some 5, op := .asg (.t 16) }]
def b_ref05_Same_0 : AC := (.seq (.seq (.ops o_ref05_Same_4)
  (.cond (.t 14) .skip (.exit 0)))
  (.seq (.trim [0, 1, 5] (.block 1 (.seq (.ops o_ref05_Same_6)
  (.cond (.t 25) (.seq (.ops o_ref05_Same_7)
  .ret) .skip))))
  (.ops o_ref05_Same_5)))
def o_ref05_Same_8 : List AOp := [
  { dst := some 4, op := .asg (.c (.d (.bool true))) }]
def c_ref05_Same : AC :=
  (.seq (.ops o_ref05_Same_0)
  (.seq (.seq (.ops o_ref05_Same_1)
  (.cond (.t 10) (.seq (.ops o_ref05_Same_2)
  .ret) .skip))
  (.seq (.seq (.ops o_ref05_Same_3)
  (.trim [] (.block 0 (.loop [0, 1, 5] b_ref05_Same_0))))
  (.seq (.ops o_ref05_Same_8)
  .ret))))
def a_ref05_Same : AFn := { body := c_ref05_Same, res := [.tmp 4] }

-- dragoman/regex.Text
def o_regex_Text_0 : List AOp := [
  { dst := some 1, op := .box (.t 0) },
  { dst := some 2, op := .asg (.c (.d (.str []))) }]
def o_regex_Text_1 : List AOp := [
  { dst := some 3, op := .alloc [.d .nilF] }]
def o_regex_Text_2 : List AOp := [
  { dst := some 5, op := .mkfn (.func f_regex_Text_1) [] [.t 1, .t 3] },
  { dst := some 4, op := .alloc [.d .nilF] },
  { dst := none, op := .store 1 (.t 4) (.t 5) }]
def o_regex_Text_3 : List AOp := [
  { dst := some 6, op := .mkfn (.func f_regex_Text_2) [] [.t 1, .t 4, .t 3] },
  { dst := none, op := .store 1 (.t 3) (.t 6) }]
def o_regex_Text_4 : List AOp := [
  { dst := some 7, op := .load none (.t 3) },
  { dst := some 8, op := .load none (.t 1) },
  { dst := some 9, op := .len (.t 8) },
  { dst := some 10, op := .bin .sub (.t 9) (.c (.nat .i64 1)) },
  { dst := some 11, op := .call (.t 7) [.t 10] },
  { dst := some 2, op := .asg (.t 11) }]
def c_regex_Text : AC :=
  (.seq (.ops o_regex_Text_0)
  (.seq (.ops o_regex_Text_1)
  (.seq (.ops o_regex_Text_2)
  (.seq (.ops o_regex_Text_3)
  (.seq (.ops o_regex_Text_4)
  .ret)))))
def a_regex_Text : AFn := { body := c_regex_Text, res := [.tmp 2] }

-- dragoman/dragomanref05.Right
def o_ref05_Right_0 : List AOp := [
  { dst := some 2, op := .asg (.c (.d (.bool false))) }]
def o_ref05_Right_1 : List AOp := [
  { dst := some 3, op := .mov (.t 0) },
  { dst := some 4, op := .len (.t 3) },
  { dst := some 5, op := .bin .leq (.t 4) (.c (.nat .i64 2000)) },
  { dst := some 6, op := .mov (.t 5) },
  { dst := some 7, op := .mov (.t 0), guard := some (6, true) },
  { dst := some 8, op := .len (.t 7), guard := some (6, true) },
  { dst := some 9, op := .bin .gtr (.t 8) (.c (.nat .i64 0)), guard := some (6, true) },
  { dst := some 10, op := .pick (.t 6) (.t 9) (.c (.d (.bool false))) },
  { dst := some 11, op := .mov (.t 10) },
  { dst := some 12, op := .mov (.t 0), guard := some (11, true) },
  { dst := some 13, op := .mov (.t 0), guard := some (11, true) },
  { dst := some 14, op := .len (.t 13), guard := some (11, true) },
  { dst := some 15, op := .bin .sub (.t 14) (.c (.nat .i64 1)), guard := some (11, true) },
  { dst := some 16, op := .call (.f f_ref05_begin) [.t 12, .t 15], guard := some (11, true) },
  { dst := some 17, op := .bin .eql (.t 16) (.c (.nat .i64 0)), guard := some (11, true) },
  { dst := some 18, op := .pick (.t 11) (.t 17) (.c (.d (.bool false))) },
  { dst := some 2, op := .asg (.t 18) }]
def c_ref05_Right : AC :=
  (.seq (.ops o_ref05_Right_0)
  (.seq (.ops o_ref05_Right_1)
  .ret))
def a_ref05_Right : AFn := { body := c_ref05_Right, res := [.tmp 2] }

-- dragoman/dragomanref05.Join
def o_ref05_Join_0 : List AOp := [
  { dst := some 6, op := .asg (.c (.nil)) },
  { dst := some 7, op := .asg (.c (.nat .i64 0)) }]
def o_ref05_Join_1 : List AOp := [
  { dst := some 13, op := .mov (.t 2) },
  { dst := some 14, op := .bin .neq (.t 13) (.c (.nat .i64 2)) },
  { dst := some 15, op := .mov (.t 14) },
  { dst := some 16, op := .mov (.t 2), guard := some (15, true) },
  { dst := some 17, op := .bin .neq (.t 16) (.c (.nat .i64 3)), guard := some (15, true) },
  { dst := some 18, op := .pick (.t 15) (.t 17) (.c (.d (.bool false))) }]
def o_ref05_Join_2 : List AOp := [
  { dst := some 6, op := .asg (.c (.nil)) },
  { dst := some 7, op := .asg (.c (.nat .i64 1)) }]
def o_ref05_Join_3 : List AOp := [
  { dst := some 19, op := .mov (.t 0) },
  { dst := some 20, op := .len (.t 19) },
  { dst := some 8, op := .asg (.t 20) }]
def o_ref05_Join_4 : List AOp := [
  { dst := some 21, op := .mov (.t 8) },
  { dst := some 22, op := .mov (.t 1) },
  { dst := some 23, op := .len (.t 22) },
  { dst := some 24, op := .bin .add (.t 21) (.t 23) },
  { dst := some 25, op := .bin .geq (.t 24) (.c (.nat .i64 2000)) }]
def o_ref05_Join_5 : List AOp := [
  { dst := some 6, op := .asg (.c (.nil)) },
  { dst := some 7, op := .asg (.c (.nat .i64 6)) }]
def o_ref05_Join_6 : List AOp := [
  { dst := some 26, op := .mkls 7 [] [] },
  { dst := some 27, op := .mov (.t 0) },
  { dst := some 28, op := .append 7 (.t 26) (.t 27) },
  { dst := some 9, op := .asg (.t 28) }]
def o_ref05_Join_7 : List AOp := [
  { dst := some 10, op := .asg (.c (.nat .i64 0)) }]
def o_ref05_Join_8 : List AOp := [
  { dst := some 29, op := .mov (.t 10) },
  { dst := some 30, op := .mov (.t 1) },
  { dst := some 31, op := .len (.t 30) },
  { dst := some 32, op := .bin .lss (.t 29) (.t 31) }]
def o_ref05_Join_10 : List AOp := [
  { dst := some 35, op := .mov (.t 1) },
  { dst := some 36, op := .mov (.t 10) },
  { dst := some 37, op := .idxA none 7 (.t 35) (.t 36) },
  { dst := some 38, op := .load (some 7) (.t 37) },
  { dst := some 11, op := .alloc [.nat .i64 0, .nat .u64 0, .nat .u64 0, .nat .u64 0, .nat .u64 0, .nat .i64 0, .nat .i64 0] },
  { dst := none, op := .store 7 (.t 11) (.t 38) }]
def o_ref05_Join_11 : List AOp := [
  { dst := some 39, op := .fldA 0 (.t 11) },
  { dst := some 40, op := .load none (.t 39) },
  { dst := some 41, op := .call (.f f_ref05_many) [.t 40] },
  { dst := some 12, op := .asg (.t 41) }]
def o_ref05_Join_12 : List AOp := [
  { dst := some 42, op := .mov (.t 12) },
  { dst := some 43, op := .bin .gtr (.t 42) (.c (.nat .i64 0)) }]
def o_ref05_Join_13 : List AOp := [
  { dst := some 44, op := .fldA 5 (.t 11) },
  { dst := some 45, op := .idxA (some 2) 1 (.t 44) (.c (.nat .i64 0)) },
  { dst := some 46, op := .load none (.t 45) },
  { dst := some 47, op := .mov (.t 8) },
  { dst := some 48, op := .bin .add (.t 46) (.t 47) },
  { dst := some 49, op := .fldA 5 (.t 11) },
  { dst := some 50, op := .idxA (some 2) 1 (.t 49) (.c (.nat .i64 0)) },
  { dst := none, op := .store 1 (.t 50) (.t 48) }]
def o_ref05_Join_14 : List AOp := [
  { dst := some 51, op := .mov (.t 12) },
  { dst := some 52, op := .bin .gtr (.t 51) (.c (.nat .i64 1)) }]
def o_ref05_Join_15 : List AOp := [
  { dst := some 53, op := .fldA 5 (.t 11) },
  { dst := some 54, op := .idxA (some 2) 1 (.t 53) (.c (.nat .i64 1)) },
  { dst := some 55, op := .load none (.t 54) },
  { dst := some 56, op := .mov (.t 8) },
  { dst := some 57, op := .bin .add (.t 55) (.t 56) },
  { dst := some 58, op := .fldA 5 (.t 11) },
  { dst := some 59, op := .idxA (some 2) 1 (.t 58) (.c (.nat .i64 1)) },
  { dst := none, op := .store 1 (.t 59) (.t 57) }]
def o_ref05_Join_16 : List AOp := [
  { dst := some 60, op := .take 9 },
  { dst := some 61, op := .load (some 7) (.t 11) },
  { dst := some 62, op := .mkls 7 [.nat .i64 0, .nat .u64 0, .nat .u64 0, .nat .u64 0, .nat .u64 0, .nat .i64 0, .nat .i64 0] [(0, 7, (.t 61))] },
  { dst := some 63, op := .append 7 (.t 60) (.t 62) },
  { dst := some 9, op := .asg (.t 63) }]
def o_ref05_Join_9 : List AOp := [
  { dst := some 33, op := .mov (.t 10) },
  { dst := some 34, op := .bin .add (.t 33) (.c (.nat .i64 1)) },
  { dst := some 10, op := .asg (.t 34) }]
def b_ref05_Join_0 : AC := (.seq (.seq (.ops o_ref05_Join_8)
  (.cond (.t 32) .skip (.exit 0)))
  (.seq (.trim [1, 2, 8, 9, 10] (.block 1 (.seq (.ops o_ref05_Join_10)
  (.seq (.ops o_ref05_Join_11)
  (.seq (.seq (.ops o_ref05_Join_12)
  (.cond (.t 43) (.ops o_ref05_Join_13) .skip))
  (.seq (.seq (.ops o_ref05_Join_14)
  (.cond (.t 52) (.ops o_ref05_Join_15) .skip))
  (.ops o_ref05_Join_16)))))))
  (.ops o_ref05_Join_9)))
def o_ref05_Join_17 : List AOp := [
  { dst := some 64, op := .take 9 },
  { dst := some 65, op := .mov (.t 2) },
  { dst := some 66, op := .mov (.t 8) },
  { dst := some 67, op := .bin .sub (.t 66) (.c (.nat .i64 1)) },
  { dst := some 68, op := .mov (.t 8) },
  { dst := some 69, op := .mov (.t 1) },
  { dst := some 70, op := .len (.t 69) },
  { dst := some 71, op := .bin .add (.t 68) (.t 70) },
  { dst := some 72, op := .bin .sub (.t 71) (.c (.nat .i64 1)) },
  { dst := some 73, op := .build [.nat .i64 0, .nat .i64 0] [(0, 1, (.t 67)), (1, 1, (.t 72))] },
  { dst := some 74, op := .build [.nat .i64 0, .nat .u64 0, .nat .u64 0, .nat .u64 0, .nat .u64 0, .nat .i64 0, .nat .i64 0] [(0, 1, (.t 65)), (5, 2, (.t 73))] },
  { dst := some 75, op := .mkls 7 [.nat .i64 0, .nat .u64 0, .nat .u64 0, .nat .u64 0, .nat .u64 0, .nat .i64 0, .nat .i64 0] [(0, 7, (.t 74))] },
  { dst := some 76, op := .append 7 (.t 64) (.t 75) },
  { dst := some 6, op := .asg (.t 76) },
  { dst := some 7, op := .asg (.c (.nat .i64 0)) }]
def c_ref05_Join : AC :=
  (.seq (.ops o_ref05_Join_0)
  (.seq (.seq (.ops o_ref05_Join_1)
  (.cond (.t 18) (.seq (.ops o_ref05_Join_2)
  .ret) .skip))
  (.seq (.ops o_ref05_Join_3)
  (.seq (.seq (.ops o_ref05_Join_4)
  (.cond (.t 25) (.seq (.ops o_ref05_Join_5)
  .ret) .skip))
  (.seq (.ops o_ref05_Join_6)
  (.seq (.seq (.ops o_ref05_Join_7)
  (.trim [1, 2, 8, 9] (.block 0 (.loop [1, 2, 8, 9, 10] b_ref05_Join_0))))
  (.seq (.ops o_ref05_Join_17)
  .ret)))))))
def a_ref05_Join : AFn := { body := c_ref05_Join, res := [.tmp 6, .tmp 7] }

-- dragoman/dragomanref04.Plain
def o_ref04_Plain_0 : List AOp := [
  { dst := some 2, op := .asg (.c (.d (.str []))) }]
def o_ref04_Plain_1 : List AOp := [
  { dst := some 4, op := .mov (.t 0) },
  { dst := some 5, op := .mkls 1 [.nat .u8 0] [(0, 1, (.t 4))] },
  { dst := some 6, op := .bytesStr (.t 5) },
  { dst := some 3, op := .asg (.t 6) }]
def o_ref04_Plain_2 : List AOp := [
  { dst := some 7, op := .mov (.t 0) },
  { dst := some 8, op := .bin .eql (.t 7) (.c (.nat .u8 32)) },
  { dst := some 9, op := .mov (.t 8) },
  { dst := some 10, op := .mov (.t 0), guard := some (9, false) },
  { dst := some 11, op := .bin .eql (.t 10) (.c (.nat .u8 95)), guard := some (9, false) },
  { dst := some 12, op := .pick (.t 9) (.c (.d (.bool true))) (.t 11) },
  { dst := some 13, op := .mov (.t 12) },
  { dst := some 14, op := .mov (.t 0), guard := some (13, false) },
  { dst := some 15, op := .bin .geq (.t 14) (.c (.nat .u8 48)), guard := some (13, false) },
  { dst := some 16, op := .mov (.t 15), guard := some (13, false) },
  { dst := some 17, op := .mov (.t 0), guard := some (16, true) },
  { dst := some 18, op := .bin .leq (.t 17) (.c (.nat .u8 57)), guard := some (16, true) },
  { dst := some 19, op := .pick (.t 16) (.t 18) (.c (.d (.bool false))), guard := some (13, false) },
  { dst := some 20, op := .pick (.t 13) (.c (.d (.bool true))) (.t 19) },
  { dst := some 21, op := .mov (.t 20) },
  { dst := some 22, op := .mov (.t 0), guard := some (21, false) },
  { dst := some 23, op := .bin .geq (.t 22) (.c (.nat .u8 65)), guard := some (21, false) },
  { dst := some 24, op := .mov (.t 23), guard := some (21, false) },
  { dst := some 25, op := .mov (.t 0), guard := some (24, true) },
  { dst := some 26, op := .bin .leq (.t 25) (.c (.nat .u8 90)), guard := some (24, true) },
  { dst := some 27, op := .pick (.t 24) (.t 26) (.c (.d (.bool false))), guard := some (21, false) },
  { dst := some 28, op := .pick (.t 21) (.c (.d (.bool true))) (.t 27) },
  { dst := some 29, op := .mov (.t 28) },
  { dst := some 30, op := .mov (.t 0), guard := some (29, false) },
  { dst := some 31, op := .bin .geq (.t 30) (.c (.nat .u8 97)), guard := some (29, false) },
  { dst := some 32, op := .mov (.t 31), guard := some (29, false) },
  { dst := some 33, op := .mov (.t 0), guard := some (32, true) },
  { dst := some 34, op := .bin .leq (.t 33) (.c (.nat .u8 122)), guard := some (32, true) },
  { dst := some 35, op := .pick (.t 32) (.t 34) (.c (.d (.bool false))), guard := some (29, false) },
  { dst := some 36, op := .pick (.t 29) (.c (.d (.bool true))) (.t 35) }]
def o_ref04_Plain_3 : List AOp := [
  { dst := some 37, op := .mov (.t 3) },
  { dst := some 2, op := .asg (.t 37) }]
def o_ref04_Plain_4 : List AOp := [
  { dst := some 38, op := .mov (.t 3) },
  { dst := some 39, op := .call (.f f_ref01_Hex) [.t 38] },
  { dst := some 40, op := .bin .add (.c (.d (.str [92]))) (.t 39) },
  { dst := some 2, op := .asg (.t 40) }]
def c_ref04_Plain : AC :=
  (.seq (.ops o_ref04_Plain_0)
  (.seq (.ops o_ref04_Plain_1)
  (.seq (.seq (.ops o_ref04_Plain_2)
  (.cond (.t 36) (.seq (.ops o_ref04_Plain_3)
  .ret) .skip))
  (.seq (.ops o_ref04_Plain_4)
  .ret))))
def a_ref04_Plain : AFn := { body := c_ref04_Plain, res := [.tmp 2] }

-- dragoman/dragomanref04.One
def o_ref04_One_0 : List AOp := [
  { dst := some 2, op := .alloc [.nat .u64 0, .nat .u64 0, .nat .u64 0, .nat .u64 0] }]
def o_ref04_One_1 : List AOp := [
  { dst := some 3, op := .build [.nat .u64 0, .nat .u64 0, .nat .u64 0, .nat .u64 0] [] },
  { dst := some 4, op := .mov (.t 0) },
  { dst := some 5, op := .call (.f f_ref04_with) [.t 3, .t 4] },
  { dst := none, op := .store 4 (.t 2) (.t 5) }]
def c_ref04_One : AC :=
  (.seq (.ops o_ref04_One_0)
  (.seq (.ops o_ref04_One_1)
  .ret))
def a_ref04_One : AFn := { body := c_ref04_One, res := [.cell 2 (some 4)] }

-- dragoman/regex.Join
def o_regex_Join_0 : List AOp := [
  { dst := some 6, op := .asg (.c (.nil)) },
  { dst := some 7, op := .asg (.c (.nat .i64 0)) }]
def o_regex_Join_1 : List AOp := [
  { dst := some 13, op := .mov (.t 2) },
  { dst := some 14, op := .bin .neq (.t 13) (.c (.nat .i64 2)) },
  { dst := some 15, op := .mov (.t 14) },
  { dst := some 16, op := .mov (.t 2), guard := some (15, true) },
  { dst := some 17, op := .bin .neq (.t 16) (.c (.nat .i64 3)), guard := some (15, true) },
  { dst := some 18, op := .pick (.t 15) (.t 17) (.c (.d (.bool false))) },
  { dst := some 12, op := .asg (.t 18) }]
def o_regex_Join_2 : List AOp := [
  { dst := some 6, op := .asg (.c (.nil)) },
  { dst := some 7, op := .asg (.c (.nat .i64 1)) }]
def o_regex_Join_3 : List AOp := [
  { dst := some 20, op := .mov (.t 0) },
  { dst := some 21, op := .len (.t 20) },
  { dst := some 22, op := .mov (.t 1) },
  { dst := some 23, op := .len (.t 22) },
  { dst := some 24, op := .bin .add (.t 21) (.t 23) },
  { dst := some 25, op := .bin .add (.t 24) (.c (.nat .i64 1)) },
  { dst := some 26, op := .bin .gtr (.t 25) (.c (.nat .i64 2000)) },
  { dst := some 19, op := .asg (.t 26) }]
def o_regex_Join_4 : List AOp := [
  { dst := some 6, op := .asg (.c (.nil)) },
  { dst := some 7, op := .asg (.c (.nat .i64 6)) }]
def o_regex_Join_5 : List AOp := [
  { dst := some 27, op := .mov (.t 0) },
  { dst := some 28, op := .call (.f f_slices_Clone_api_Re_api_Re) [.t 27] },
  { dst := some 8, op := .asg (.t 28) }]
def o_regex_Join_6 : List AOp := [
  { dst := some 29, op := .mov (.t 1) },
  { dst := some 30, op := .len (.t 29) },
  { dst := some 31, op := .mov (.c (.nat .i64 0)) }]
def o_regex_Join_7 : List AOp := [
  { dst := some 32, op := .bin .lss (.t 31) (.t 30) }]
def o_regex_Join_8 : List AOp := [
  { dst := some 33, op := .idxA none 7 (.t 29) (.t 31) },
  { dst := some 34, op := .load (some 7) (.t 33) },
  { dst := some 10, op := .alloc [.nat .i64 0, .nat .u64 0, .nat .u64 0, .nat .u64 0, .nat .u64 0, .nat .i64 0, .nat .i64 0] },
  { dst := none, op := .store 7 (.t 10) (.t 34) }]
def o_regex_Join_9 : List AOp := [
  { dst := some 35, op := .fldA 0 (.t 10) },
  { dst := some 36, op := .load none (.t 35) },
  { dst := some 37, op := .call (.f f_regex_kids) [.t 36] },
  { dst := some 38, op := .mov (.c (.nat .i64 0)) }]
def o_regex_Join_10 : List AOp := [
  { dst := some 39, op := .bin .lss (.t 38) (.t 37) }]
def o_regex_Join_11 : List AOp := [
  { dst := some 40, op := .mov (.t 38) },
  { dst := some 11, op := .asg (.t 40) }]
def o_regex_Join_12 : List AOp := [
  { dst := some 41, op := .mov (.t 11) },
  { dst := some 42, op := .fldA 5 (.t 10) },
  { dst := some 43, op := .idxA (some 2) 1 (.t 42) (.t 41) },
  { dst := some 44, op := .load none (.t 43) },
  { dst := some 45, op := .mov (.t 0) },
  { dst := some 46, op := .len (.t 45) },
  { dst := some 47, op := .bin .add (.t 44) (.t 46) },
  { dst := some 48, op := .fldA 5 (.t 10) },
  { dst := some 49, op := .idxA (some 2) 1 (.t 48) (.t 41) },
  { dst := none, op := .store 1 (.t 49) (.t 47) }]
def o_regex_Join_13 : List AOp := [
  { dst := some 50, op := .bin .add (.t 38) (.c (.nat .i64 1)) },
  { dst := some 38, op := .mov (.t 50) }]
def b_regex_Join_0 : AC := (.seq (.ops o_regex_Join_10)
  (.seq (.cond (.t 39) .skip (.exit 3))
  (.seq (.trim [0, 2, 8, 10, 29, 30, 31, 37, 38] (.block 4 (.seq (.ops o_regex_Join_11)
  (.ops o_regex_Join_12))))
  (.ops o_regex_Join_13))))
def o_regex_Join_14 : List AOp := [
  { dst := some 51, op := .take 8 },
  { dst := some 52, op := .load (some 7) (.t 10) },
  { dst := some 53, op := .mkls 7 [.nat .i64 0, .nat .u64 0, .nat .u64 0, .nat .u64 0, .nat .u64 0, .nat .i64 0, .nat .i64 0] [(0, 7, (.t 52))] },
  { dst := some 54, op := .append 7 (.t 51) (.t 53) },
  { dst := some 8, op := .asg (.t 54) }]
def o_regex_Join_15 : List AOp := [
  { dst := some 55, op := .bin .add (.t 31) (.c (.nat .i64 1)) },
  { dst := some 31, op := .mov (.t 55) }]
def b_regex_Join_1 : AC := (.seq (.ops o_regex_Join_7)
  (.seq (.cond (.t 32) .skip (.exit 1))
  (.seq (.trim [0, 2, 8, 29, 30, 31] (.block 2 (.seq (.ops o_regex_Join_8)
  (.seq (.seq (.ops o_regex_Join_9)
  (.trim [0, 2, 8, 10, 29, 30, 31] (.block 3 (.loop [0, 2, 8, 10, 29, 30, 31, 37, 38] b_regex_Join_0))))
  (.ops o_regex_Join_14)))))
  (.ops o_regex_Join_15))))
def o_regex_Join_16 : List AOp := [
  { dst := some 56, op := .take 8 },
  { dst := some 57, op := .mov (.t 2) },
  { dst := some 58, op := .mov (.t 0) },
  { dst := some 59, op := .len (.t 58) },
  { dst := some 60, op := .bin .sub (.t 59) (.c (.nat .i64 1)) },
  { dst := some 61, op := .mov (.t 8) },
  { dst := some 62, op := .len (.t 61) },
  { dst := some 63, op := .bin .sub (.t 62) (.c (.nat .i64 1)) },
  { dst := some 64, op := .build [.nat .i64 0, .nat .i64 0] [(0, 1, (.t 60)), (1, 1, (.t 63))] },
  { dst := some 65, op := .build [.nat .i64 0, .nat .u64 0, .nat .u64 0, .nat .u64 0, .nat .u64 0, .nat .i64 0, .nat .i64 0] [(0, 1, (.t 57)), (5, 2, (.t 64))] },
  { dst := some 66, op := .mkls 7 [.nat .i64 0, .nat .u64 0, .nat .u64 0, .nat .u64 0, .nat .u64 0, .nat .i64 0, .nat .i64 0] [(0, 7, (.t 65))] },
  { dst := some 67, op := .append 7 (.t 56) (.t 66) },
  { dst := some 6, op := .asg (.t 67) },
  { dst := some 7, op := .asg (.c (.nat .i64 0)) }]
def c_regex_Join : AC :=
  (.seq (.ops o_regex_Join_0)
  (.seq (.trim [0, 1, 2] (.block 0 (.seq (.ops o_regex_Join_1)
  (.cond (.t 12) (.seq (.ops o_regex_Join_2)
  .ret) (.seq (.ops o_regex_Join_3)
  (.cond (.t 19) (.seq (.ops o_regex_Join_4)
  .ret) .skip))))))
  (.seq (.ops o_regex_Join_5)
  (.seq (.seq (.ops o_regex_Join_6)
  (.trim [0, 2, 8] (.block 1 (.loop [0, 2, 8, 29, 30, 31] b_regex_Join_1))))
  (.seq (.ops o_regex_Join_16)
  .ret)))))
def a_regex_Join : AFn := { body := c_regex_Join, res := [.tmp 6, .tmp 7] }

-- dragoman/regex.Lit
def o_regex_Lit_0 : List AOp := [
  { dst := some 2, op := .asg (.c (.nil)) },
  { dst := some 3, op := .asg (.c (.nat .i64 0)) }]
def o_regex_Lit_1 : List AOp := [
  { dst := some 7, op := .mov (.t 0) },
  { dst := some 8, op := .bin .eql (.t 7) (.c (.d (.str []))) }]
def o_regex_Lit_2 : List AOp := [
  { dst := some 9, op := .build [.nat .i64 0, .nat .u64 0, .nat .u64 0, .nat .u64 0, .nat .u64 0, .nat .i64 0, .nat .i64 0] [] },
  { dst := some 10, op := .mkls 7 [.nat .i64 0, .nat .u64 0, .nat .u64 0, .nat .u64 0, .nat .u64 0, .nat .i64 0, .nat .i64 0] [(0, 7, (.t 9))] },
  { dst := some 2, op := .asg (.t 10) },
  { dst := some 3, op := .asg (.c (.nat .i64 0)) }]
def o_regex_Lit_3 : List AOp := [
  { dst := some 11, op := .mov (.t 0) },
  { dst := some 12, op := .lenS (.t 11) },
  { dst := some 13, op := .bin .mul (.c (.nat .i64 2)) (.t 12) },
  { dst := some 14, op := .bin .sub (.t 13) (.c (.nat .i64 1)) },
  { dst := some 15, op := .bin .gtr (.t 14) (.c (.nat .i64 2000)) }]
def o_regex_Lit_4 : List AOp := [
  { dst := some 2, op := .asg (.c (.nil)) },
  { dst := some 3, op := .asg (.c (.nat .i64 6)) }]
def o_regex_Lit_5 : List AOp := [
  { dst := some 4, op := .asg (.c (.nil)) }]
def o_regex_Lit_6 : List AOp := [
  { dst := some 16, op := .mov (.t 0) },
  { dst := some 17, op := .strBytes (.t 16) },
  { dst := some 18, op := .len (.t 17) },
  { dst := some 19, op := .mov (.c (.nat .i64 0)) }]
def o_regex_Lit_7 : List AOp := [
  { dst := some 20, op := .bin .lss (.t 19) (.t 18) }]
def o_regex_Lit_8 : List AOp := [
  { dst := some 21, op := .mov (.t 19) },
  { dst := some 22, op := .idxA none 1 (.t 17) (.t 19) },
  { dst := some 23, op := .load none (.t 22) },
  { dst := some 5, op := .asg (.t 21) },
  { dst := some 6, op := .asg (.t 23) }]
def o_regex_Lit_9 : List AOp := [
  { dst := some 24, op := .take 4 },
  { dst := some 25, op := .mov (.t 6) },
  { dst := some 26, op := .call (.f f_class_One) [.t 25] },
  { dst := some 27, op := .build [.nat .i64 0, .nat .u64 0, .nat .u64 0, .nat .u64 0, .nat .u64 0, .nat .i64 0, .nat .i64 0] [(0, 1, (.c (.nat .i64 1))), (1, 4, (.t 26))] },
  { dst := some 28, op := .mkls 7 [.nat .i64 0, .nat .u64 0, .nat .u64 0, .nat .u64 0, .nat .u64 0, .nat .i64 0, .nat .i64 0] [(0, 7, (.t 27))] },
  { dst := some 29, op := .append 7 (.t 24) (.t 28) },
  { dst := some 4, op := .asg (.t 29) }]
def o_regex_Lit_10 : List AOp := [
  { dst := some 30, op := .mov (.t 5) },
  { dst := some 31, op := .bin .gtr (.t 30) (.c (.nat .i64 0)) }]
def o_regex_Lit_11 : List AOp := [
  { dst := some 32, op := .take 4 },
  { dst := some 33, op := .mov (.t 4) },
  { dst := some 34, op := .len (.t 33) },
  { dst := some 35, op := .bin .sub (.t 34) (.c (.nat .i64 2)) },
  { dst := some 36, op := .mov (.t 4) },
  { dst := some 37, op := .len (.t 36) },
  { dst := some 38, op := .bin .sub (.t 37) (.c (.nat .i64 1)) },
  { dst := some 39, op := .build [.nat .i64 0, .nat .i64 0] [(0, 1, (.t 35)), (1, 1, (.t 38))] },
  { dst := some 40, op := .build [.nat .i64 0, .nat .u64 0, .nat .u64 0, .nat .u64 0, .nat .u64 0, .nat .i64 0, .nat .i64 0] [(0, 1, (.c (.nat .i64 2))), (5, 2, (.t 39))] },
  { dst := some 41, op := .mkls 7 [.nat .i64 0, .nat .u64 0, .nat .u64 0, .nat .u64 0, .nat .u64 0, .nat .i64 0, .nat .i64 0] [(0, 7, (.t 40))] },
  { dst := some 42, op := .append 7 (.t 32) (.t 41) },
  { dst := some 4, op := .asg (.t 42) }]
def o_regex_Lit_12 : List AOp := [
  { dst := some 43, op := .bin .add (.t 19) (.c (.nat .i64 1)) },
  { dst := some 19, op := .mov (.t 43) }]
def b_regex_Lit_0 : AC := (.seq (.ops o_regex_Lit_7)
  (.seq (.cond (.t 20) .skip (.exit 0))
  (.seq (.trim [4, 17, 18, 19] (.block 1 (.seq (.ops o_regex_Lit_8)
  (.seq (.ops o_regex_Lit_9)
  (.seq (.ops o_regex_Lit_10)
  (.cond (.t 31) (.ops o_regex_Lit_11) .skip))))))
  (.ops o_regex_Lit_12))))
def o_regex_Lit_13 : List AOp := [
  { dst := some 44, op := .mov (.t 4) },
  { dst := some 2, op := .asg (.t 44) },
  { dst := some 3, op := .asg (.c (.nat .i64 0)) }]
def c_regex_Lit : AC :=
  (.seq (.ops o_regex_Lit_0)
  (.seq (.seq (.ops o_regex_Lit_1)
  (.cond (.t 8) (.seq (.ops o_regex_Lit_2)
  .ret) .skip))
  (.seq (.seq (.ops o_regex_Lit_3)
  (.cond (.t 15) (.seq (.ops o_regex_Lit_4)
  .ret) .skip))
  (.seq (.ops o_regex_Lit_5)
  (.seq (.seq (.ops o_regex_Lit_6)
  (.trim [4] (.block 0 (.loop [4, 17, 18, 19] b_regex_Lit_0))))
  (.seq (.ops o_regex_Lit_13)
  .ret))))))
def a_regex_Lit : AFn := { body := c_regex_Lit, res := [.tmp 2, .tmp 3] }

-- dragoman/dragomanref05.Lit
def o_ref05_Lit_0 : List AOp := [
  { dst := some 2, op := .asg (.c (.nil)) },
  { dst := some 3, op := .asg (.c (.nat .i64 0)) }]
def o_ref05_Lit_1 : List AOp := [
  { dst := some 7, op := .mov (.t 0) },
  { dst := some 8, op := .lenS (.t 7) },
  { dst := some 9, op := .bin .gtr (.t 8) (.c (.nat .i64 1000)) }]
def o_ref05_Lit_2 : List AOp := [
  { dst := some 2, op := .asg (.c (.nil)) },
  { dst := some 3, op := .asg (.c (.nat .i64 6)) }]
def o_ref05_Lit_3 : List AOp := [
  { dst := some 10, op := .build [.nat .i64 0, .nat .u64 0, .nat .u64 0, .nat .u64 0, .nat .u64 0, .nat .i64 0, .nat .i64 0] [] },
  { dst := some 11, op := .mkls 7 [.nat .i64 0, .nat .u64 0, .nat .u64 0, .nat .u64 0, .nat .u64 0, .nat .i64 0, .nat .i64 0] [(0, 7, (.t 10))] },
  { dst := some 4, op := .asg (.t 11) }]
def o_ref05_Lit_4 : List AOp := [
  { dst := some 5, op := .asg (.c (.nat .i64 0)) }]
def o_ref05_Lit_5 : List AOp := [
  { dst := some 12, op := .mov (.t 5) },
  { dst := some 13, op := .mov (.t 0) },
  { dst := some 14, op := .lenS (.t 13) },
  { dst := some 15, op := .bin .lss (.t 12) (.t 14) }]
def o_ref05_Lit_7 : List AOp := [
  { dst := some 18, op := .mov (.t 0) },
  { dst := some 19, op := .mov (.t 5) },
  { dst := some 20, op := .idxS (.t 18) (.t 19) },
  { dst := some 21, op := .call (.f f_ref04_One) [.t 20] },
  { dst := some 22, op := .build [.nat .i64 0, .nat .u64 0, .nat .u64 0, .nat .u64 0, .nat .u64 0, .nat .i64 0, .nat .i64 0] [(0, 1, (.c (.nat .i64 1))), (1, 4, (.t 21))] },
  { dst := some 23, op := .mkls 7 [.nat .i64 0, .nat .u64 0, .nat .u64 0, .nat .u64 0, .nat .u64 0, .nat .i64 0, .nat .i64 0] [(0, 7, (.t 22))] },
  { dst := some 6, op := .asg (.t 23) }]
def o_ref05_Lit_8 : List AOp := [
  { dst := some 24, op := .mov (.t 5) },
  { dst := some 25, op := .bin .eql (.t 24) (.c (.nat .i64 0)) }]
def o_ref05_Lit_9 : List AOp := [
  { dst := some 26, op := .mov (.t 6) },
  { dst := some 4, op := .asg (.t 26) }]
def o_ref05_Lit_10 : List AOp := [
  { dst := some 28, op := .mov (.t 4) },
  { dst := some 29, op := .mov (.t 6) },
  { dst := some 30, op := .call (.f f_ref05_Join) [.t 28, .t 29, .c (.nat .i64 2)] },
  { dst := some 27, op := .mov (.t 30) },
  { dst := some 31, op := .extr (.t 27) 0 },
  { dst := some 32, op := .extr (.t 27) 1 },
  { dst := some 4, op := .asg (.t 31) }]
def o_ref05_Lit_6 : List AOp := [
  { dst := some 16, op := .mov (.t 5) },
  { dst := some 17, op := .bin .add (.t 16) (.c (.nat .i64 1)) },
  { dst := some 5, op := .asg (.t 17) }]
def b_ref05_Lit_0 : AC := (.seq (.seq (.ops o_ref05_Lit_5)
  (.cond (.t 15) .skip (.exit 0)))
  (.seq (.trim [0, 4, 5] (.block 1 (.seq (.ops o_ref05_Lit_7)
  (.seq (.ops o_ref05_Lit_8)
  (.cond (.t 25) (.ops o_ref05_Lit_9) (.ops o_ref05_Lit_10))))))
  (.ops o_ref05_Lit_6)))
def o_ref05_Lit_11 : List AOp := [
  { dst := some 33, op := .mov (.t 4) },
  { dst := some 2, op := .asg (.t 33) },
  { dst := some 3, op := .asg (.c (.nat .i64 0)) }]
def c_ref05_Lit : AC :=
  (.seq (.ops o_ref05_Lit_0)
  (.seq (.seq (.ops o_ref05_Lit_1)
  (.cond (.t 9) (.seq (.ops o_ref05_Lit_2)
  .ret) .skip))
  (.seq (.ops o_ref05_Lit_3)
  (.seq (.seq (.ops o_ref05_Lit_4)
  (.trim [4] (.block 0 (.loop [0, 4, 5] b_ref05_Lit_0))))
  (.seq (.ops o_ref05_Lit_11)
  .ret)))))
def a_ref05_Lit : AFn := { body := c_ref05_Lit, res := [.tmp 2, .tmp 3] }

-- dragoman/regex.Right
def o_regex_Right_0 : List AOp := [
  { dst := some 2, op := .asg (.c (.d (.bool false))) }]
def o_regex_Right_1 : List AOp := [
  { dst := some 3, op := .asg (.c (.nil)) }]
def o_regex_Right_2 : List AOp := [
  { dst := some 8, op := .mov (.t 0) },
  { dst := some 9, op := .len (.t 8) },
  { dst := some 10, op := .mov (.c (.nat .i64 0)) }]
def o_regex_Right_3 : List AOp := [
  { dst := some 11, op := .bin .lss (.t 10) (.t 9) }]
def o_regex_Right_4 : List AOp := [
  { dst := some 12, op := .mov (.t 10) },
  { dst := some 13, op := .idxA none 7 (.t 8) (.t 10) },
  { dst := some 14, op := .load (some 7) (.t 13) },
  { dst := some 5, op := .alloc [.nat .i64 0, .nat .u64 0, .nat .u64 0, .nat .u64 0, .nat .u64 0, .nat .i64 0, .nat .i64 0] },
  { dst := some 4, op := .asg (.t 12) },
  { dst := none, op := .store 7 (.t 5) (.t 14) }]
def o_regex_Right_5 : List AOp := [
  { dst := some 15, op := .fldA 0 (.t 5) },
  { dst := some 16, op := .load none (.t 15) },
  { dst := some 17, op := .call (.f f_regex_kids) [.t 16] },
  { dst := some 6, op := .asg (.t 17) }]
def o_regex_Right_6 : List AOp := [
  { dst := some 18, op := .mov (.t 6) },
  { dst := some 19, op := .bin .lss (.t 18) (.c (.nat .i64 0)) },
  { dst := some 20, op := .mov (.t 19) },
  { dst := some 21, op := .mov (.t 6), guard := some (20, false) },
  { dst := some 22, op := .mov (.t 3), guard := some (20, false) },
  { dst := some 23, op := .len (.t 22), guard := some (20, false) },
  { dst := some 24, op := .bin .gtr (.t 21) (.t 23), guard := some (20, false) },
  { dst := some 25, op := .pick (.t 20) (.c (.d (.bool true))) (.t 24) },
  { dst := some 26, op := .mov (.t 25) },
  { dst := some 27, op := .fldA 0 (.t 5), guard := some (26, false) },
  { dst := some 28, op := .load none (.t 27), guard := some (26, false) },
  { dst := some 29, op := .bin .neq (.t 28) (.c (.nat .i64 1)), guard := some (26, false) },
  { dst := some 30, op := .mov (.t 29), guard := some (26, false) },
  { dst := some 31, op := .fldA 1 (.t 5), guard := some (30, true) },
  { dst := some 32, op := .load (some 4) (.t 31), guard := some (30, true) },
  { dst := some 33, op := .build [.nat .u64 0, .nat .u64 0, .nat .u64 0, .nat .u64 0] [], guard := some (30, true) },
  { dst := some 34, op := .eqc true [.int .u64, .int .u64, .int .u64, .int .u64] (.t 32) (.t 33), guard := some (30, true) },
  { dst := some 35, op := .pick (.t 30) (.t 34) (.c (.d (.bool false))), guard := some (26, false) },
  { dst := some 36, op := .pick (.t 26) (.c (.d (.bool true))) (.t 35) }]
def o_regex_Right_7 : List AOp := [
  { dst := some 2, op := .asg (.c (.d (.bool false))) }]
def o_regex_Right_8 : List AOp := [
  { dst := some 37, op := .build [.nat .i64 0, .nat .i64 0] [] },
  { dst := some 7, op := .alloc [.nat .i64 0, .nat .i64 0] },
  { dst := none, op := .store 2 (.t 7) (.t 37) }]
def o_regex_Right_9 : List AOp := [
  { dst := some 38, op := .slArr 2 (.t 7) none none, may := false },
  { dst := some 39, op := .mov (.t 3), may := false },
  { dst := some 40, op := .mov (.t 3), may := false },
  { dst := some 41, op := .len (.t 40), may := false },
  { dst := some 42, op := .mov (.t 6), may := false },
  { dst := some 43, op := .bin .sub (.t 41) (.t 42), may := false },
  { dst := some 44, op := .slice 1 (.t 39) (some (.t 43)) none, may := false },
  { dst := some 45, op := .copy (.t 38) (.t 44) }]
def o_regex_Right_10 : List AOp := [
  { dst := some 46, op := .fldA 5 (.t 5) },
  { dst := some 47, op := .load (some 2) (.t 46) },
  { dst := some 48, op := .load (some 2) (.t 7) },
  { dst := some 49, op := .eqc true [.int .i64, .int .i64] (.t 47) (.t 48) }]
def o_regex_Right_11 : List AOp := [
  { dst := some 2, op := .asg (.c (.d (.bool false))) }]
def o_regex_Right_12 : List AOp := [
  { dst := some 50, op := .mov (.t 3) },
  { dst := some 51, op := .mov (.t 3) },
  { dst := some 52, op := .len (.t 51) },
  { dst := some 53, op := .mov (.t 6) },
  { dst := some 54, op := .bin .sub (.t 52) (.t 53) },
  { dst := some 55, op := .slice 1 (.t 50) none (some (.t 54)) },
  { dst := some 56, op := .mov (.t 4) },
  { dst := some 57, op := .mkls 1 [.nat .i64 0] [(0, 1, (.t 56))] },
  { dst := some 58, op := .append 1 (.t 55) (.t 57) },
  { dst := some 3, op := .asg (.t 58) }]
def o_regex_Right_13 : List AOp := [
  { dst := some 59, op := .bin .add (.t 10) (.c (.nat .i64 1)) },
  { dst := some 10, op := .mov (.t 59) }]
def b_regex_Right_0 : AC := (.seq (.ops o_regex_Right_3)
  (.seq (.cond (.t 11) .skip (.exit 0))
  (.seq (.trim [0, 3, 8, 9, 10] (.block 1 (.seq (.ops o_regex_Right_4)
  (.seq (.ops o_regex_Right_5)
  (.seq (.seq (.ops o_regex_Right_6)
  (.cond (.t 36) (.seq (.ops o_regex_Right_7)
  .ret) .skip))
  (.seq (.ops o_regex_Right_8)
  (.seq (.ops o_regex_Right_9)
  (.seq (.seq (.ops o_regex_Right_10)
  (.cond (.t 49) (.seq (.ops o_regex_Right_11)
  .ret) .skip))
  (.ops o_regex_Right_12)))))))))
  (.ops o_regex_Right_13))))
def o_regex_Right_14 : List AOp := [
  { dst := some 60, op := .mov (.t 3) },
  { dst := some 61, op := .len (.t 60) },
  { dst := some 62, op := .bin .eql (.t 61) (.c (.nat .i64 1)) },
  { dst := some 63, op := .mov (.t 62) },
  { dst := some 64, op := .mov (.t 0), guard := some (63, true) },
  { dst := some 65, op := .len (.t 64), guard := some (63, true) },
  { dst := some 66, op := .bin .leq (.t 65) (.c (.nat .i64 2000)), guard := some (63, true) },
  { dst := some 67, op := .pick (.t 63) (.t 66) (.c (.d (.bool false))) },
  { dst := some 2, op := .asg (.t 67) }]
def c_regex_Right : AC :=
  (.seq (.ops o_regex_Right_0)
  (.seq (.ops o_regex_Right_1)
  (.seq (.seq (.ops o_regex_Right_2)
  (.trim [0, 3] (.block 0 (.loop [0, 3, 8, 9, 10] b_regex_Right_0))))
  (.seq (.ops o_regex_Right_14)
  .ret))))
def a_regex_Right : AFn := { body := c_regex_Right, res := [.tmp 2] }

-- dragoman/dragomanref05.Text
def o_ref05_Text_0 : List AOp := [
  { dst := some 2, op := .asg (.c (.d (.str []))) }]
def o_ref05_Text_1 : List AOp := [
  { dst := some 3, op := .mov (.t 0) },
  { dst := some 4, op := .mov (.t 0) },
  { dst := some 5, op := .len (.t 4) },
  { dst := some 6, op := .bin .sub (.t 5) (.c (.nat .i64 1)) },
  { dst := some 7, op := .call (.f f_ref05_told) [.t 3, .t 6] },
  { dst := some 2, op := .asg (.t 7) }]
def c_ref05_Text : AC :=
  (.seq (.ops o_ref05_Text_0)
  (.seq (.ops o_ref05_Text_1)
  .ret))
def a_ref05_Text : AFn := { body := c_ref05_Text, res := [.tmp 2] }

-- dragoman/regex.Read$1
def o_regex_Read_1_0 : List AOp := [
  { dst := some 5, op := .recover },
  { dst := some 2, op := .asg (.t 5) }]
def o_regex_Read_1_1 : List AOp := [
  { dst := some 6, op := .mov (.t 2) },
  { dst := some 7, op := .eqnil 1 true (.t 6) }]
def o_regex_Read_1_2 : List AOp := [
  { dst := some 9, op := .mov (.t 2) },
  { dst := some 10, op := .assertT 50 (.agg [.nat .i64 0]) (.t 9) },
  { dst := some 8, op := .mov (.t 10) },
  { dst := some 11, op := .extr (.t 8) 0 },
  { dst := some 12, op := .extr (.t 8) 1 },
  { dst := some 3, op := .alloc [.nat .i64 0] },
  { dst := none, op := .store 1 (.t 3) (.t 11) },
  { dst := some 4, op := .asg (.t 12) }]
def o_regex_Read_1_3 : List AOp := [
  { dst := some 13, op := .mov (.t 4) },
  { dst := some 14, op := .un .not (.t 13) }]
def o_regex_Read_1_4 : List AOp := [
  { dst := some 15, op := .mov (.t 2) },
  { dst := none, op := .panic (.t 15) }]
def o_regex_Read_1_5 : List AOp := [
  { dst := some 16, op := .fldA 0 (.t 3), may := false },
  { dst := some 17, op := .loadB none (.t 16) (.t 3), may := false },
  { dst := none, op := .storeW 1 (.t 0) (.c (.nil)) [.t 3], may := false },
  { dst := none, op := .store 1 (.t 1) (.t 17) }]
def c_regex_Read_1 : AC :=
  (.seq (.ops o_regex_Read_1_0)
  (.seq (.ops o_regex_Read_1_1)
  (.cond (.t 7) (.seq (.ops o_regex_Read_1_2)
  (.seq (.seq (.ops o_regex_Read_1_3)
  (.cond (.t 14) (.ops o_regex_Read_1_4) .skip))
  (.ops o_regex_Read_1_5))) .skip)))
def a_regex_Read_1 : AFn := { body := c_regex_Read_1, res := [] }

-- (*dragoman/regex.reader).all
def o_regex_reader_all_0 : List AOp := [
  { dst := some 2, op := .asg (.c (.nat .i64 0)) }]
def o_regex_reader_all_1 : List AOp := [
  { dst := some 5, op := .mov (.t 0) },
  { dst := some 6, op := .call (.f f_regex_reader_cat) [.t 5] },
  { dst := some 3, op := .asg (.t 6) }]
def o_regex_reader_all_2 : List AOp := [
  { dst := some 7, op := .mov (.t 0) },
  { dst := some 8, op := .call (.f f_regex_reader_sees) [.t 7, .c (.nat .u8 124)] }]
def o_regex_reader_all_3 : List AOp := [
  { dst := some 9, op := .mov (.t 0) },
  { dst := some 10, op := .nilchk (.t 9) },
  { dst := some 11, op := .fldA 1 (.t 10) },
  { dst := some 12, op := .load none (.t 11) },
  { dst := some 13, op := .bin .add (.t 12) (.c (.nat .i64 1)) },
  { dst := some 14, op := .nilchk (.t 9) },
  { dst := some 15, op := .fldA 1 (.t 14) },
  { dst := none, op := .store 1 (.t 15) (.t 13) }]
def o_regex_reader_all_4 : List AOp := [
  { dst := some 16, op := .mov (.t 0) },
  { dst := some 17, op := .call (.f f_regex_reader_cat) [.t 16] },
  { dst := some 4, op := .asg (.t 17) }]
def o_regex_reader_all_5 : List AOp := [
  { dst := some 18, op := .mov (.t 0) },
  { dst := some 19, op := .mov (.t 3) },
  { dst := some 20, op := .mov (.t 4) },
  { dst := some 21, op := .build [.nat .i64 0, .nat .i64 0] [(0, 1, (.t 19)), (1, 1, (.t 20))] },
  { dst := some 22, op := .build [.nat .i64 0, .nat .u64 0, .nat .u64 0, .nat .u64 0, .nat .u64 0, .nat .i64 0, .nat .i64 0] [(0, 1, (.c (.nat .i64 3))), (5, 2, (.t 21))] },
  { dst := some 23, op := .call (.f f_regex_reader_put) [.t 18, .t 22] },
  { dst := some 3, op := .asg (.t 23) }]
def b_regex_reader_all_0 : AC := (.seq (.seq (.ops o_regex_reader_all_2)
  (.cond (.t 8) .skip (.exit 0)))
  (.trim [0, 3] (.block 1 (.seq (.ops o_regex_reader_all_3)
  (.seq (.ops o_regex_reader_all_4)
  (.ops o_regex_reader_all_5))))))
def o_regex_reader_all_6 : List AOp := [
  { dst := some 24, op := .mov (.t 3) },
  { dst := some 2, op := .asg (.t 24) }]
def c_regex_reader_all : AC :=
  (.seq (.ops o_regex_reader_all_0)
  (.seq (.ops o_regex_reader_all_1)
  (.seq (.trim [3] (.block 0 (.loop [0, 3] b_regex_reader_all_0)))
  (.seq (.ops o_regex_reader_all_6)
  .ret))))
def a_regex_reader_all : AFn := { body := c_regex_reader_all, res := [.tmp 2] }

-- (*dragoman/dragomanref05.parser).whole
def o_ref05_parser_whole_0 : List AOp := [
  { dst := some 2, op := .asg (.c (.nat .i64 0)) }]
def o_ref05_parser_whole_1 : List AOp := [
  { dst := some 5, op := .mov (.t 0) },
  { dst := some 6, op := .call (.f f_ref05_parser_row) [.t 5] },
  { dst := some 3, op := .asg (.t 6) }]
def o_ref05_parser_whole_2 : List AOp := [
  { dst := some 7, op := .mov (.t 0) },
  { dst := some 8, op := .call (.f f_ref05_parser_is) [.t 7, .c (.nat .u8 124)] }]
def o_ref05_parser_whole_3 : List AOp := [
  { dst := some 9, op := .mov (.t 0) },
  { dst := some 10, op := .nilchk (.t 9) },
  { dst := some 11, op := .fldA 1 (.t 10) },
  { dst := some 12, op := .load none (.t 11) },
  { dst := some 13, op := .bin .add (.t 12) (.c (.nat .i64 1)) },
  { dst := some 14, op := .nilchk (.t 9) },
  { dst := some 15, op := .fldA 1 (.t 14) },
  { dst := none, op := .store 1 (.t 15) (.t 13) }]
def o_ref05_parser_whole_4 : List AOp := [
  { dst := some 16, op := .mov (.t 0) },
  { dst := some 17, op := .call (.f f_ref05_parser_row) [.t 16] },
  { dst := some 4, op := .asg (.t 17) }]
def o_ref05_parser_whole_5 : List AOp := [
  { dst := some 18, op := .mov (.t 0) },
  { dst := some 19, op := .build [.nat .u64 0, .nat .u64 0, .nat .u64 0, .nat .u64 0] [] },
  { dst := some 20, op := .mov (.t 3) },
  { dst := some 21, op := .mov (.t 4) },
  { dst := some 22, op := .call (.f f_ref05_parser_lay) [.t 18, .c (.nat .i64 3), .t 19, .t 20, .t 21] },
  { dst := some 3, op := .asg (.t 22) }]
def b_ref05_parser_whole_0 : AC := (.seq (.seq (.ops o_ref05_parser_whole_2)
  (.cond (.t 8) .skip (.exit 0)))
  (.trim [0, 3] (.block 1 (.seq (.ops o_ref05_parser_whole_3)
  (.seq (.ops o_ref05_parser_whole_4)
  (.ops o_ref05_parser_whole_5))))))
def o_ref05_parser_whole_6 : List AOp := [
  { dst := some 23, op := .mov (.t 3) },
  { dst := some 2, op := .asg (.t 23) }]
def c_ref05_parser_whole : AC :=
  (.seq (.ops o_ref05_parser_whole_0)
  (.seq (.ops o_ref05_parser_whole_1)
  (.seq (.trim [3] (.block 0 (.loop [0, 3] b_ref05_parser_whole_0)))
  (.seq (.ops o_ref05_parser_whole_6)
  .ret))))
def a_ref05_parser_whole : AFn := { body := c_ref05_parser_whole, res := [.tmp 2] }

-- (*dragoman/dragomanref05.parser).fail
def o_ref05_parser_fail_0 : List AOp := [
  { dst := some 4, op := .mov (.t 0) },
  { dst := some 5, op := .nilchk (.t 4) },
  { dst := some 6, op := .fldA 4 (.t 5) },
  { dst := some 7, op := .load none (.t 6) },
  { dst := some 8, op := .bin .eql (.t 7) (.c (.nat .i64 0)) }]
def o_ref05_parser_fail_1 : List AOp := [
  { dst := some 9, op := .mov (.t 0) },
  { dst := some 10, op := .mov (.t 1) },
  { dst := some 11, op := .nilchk (.t 9) },
  { dst := some 12, op := .fldA 4 (.t 11) },
  { dst := none, op := .store 1 (.t 12) (.t 10) }]
def c_ref05_parser_fail : AC :=
  (.seq (.ops o_ref05_parser_fail_0)
  (.cond (.t 8) (.ops o_ref05_parser_fail_1) .skip))
def a_ref05_parser_fail : AFn := { body := c_ref05_parser_fail, res := [] }

-- dragoman/regex.Text$1
def o_regex_Text_1_0 : List AOp := [
  { dst := some 6, op := .asg (.c (.d (.str []))) }]
def o_regex_Text_1_1 : List AOp := [
  { dst := some 7, op := .mov (.t 1) },
  { dst := some 8, op := .load none (.t 2) },
  { dst := some 9, op := .mov (.t 0) },
  { dst := some 10, op := .idxA none 7 (.t 8) (.t 9) },
  { dst := some 11, op := .fldA 0 (.t 10) },
  { dst := some 12, op := .load none (.t 11) },
  { dst := some 13, op := .call (.f f_slices_Contains_int_int) [.t 7, .t 12] }]
def o_regex_Text_1_2 : List AOp := [
  { dst := some 14, op := .load none (.t 3) },
  { dst := some 15, op := .mov (.t 0) },
  { dst := some 16, op := .call (.t 14) [.t 15] },
  { dst := some 17, op := .bin .add (.c (.d (.str [40]))) (.t 16) },
  { dst := some 18, op := .bin .add (.t 17) (.c (.d (.str [41]))) },
  { dst := some 6, op := .asg (.t 18) }]
def o_regex_Text_1_3 : List AOp := [
  { dst := some 19, op := .load none (.t 3) },
  { dst := some 20, op := .mov (.t 0) },
  { dst := some 21, op := .call (.t 19) [.t 20] },
  { dst := some 6, op := .asg (.t 21) }]
def c_regex_Text_1 : AC :=
  (.seq (.ops o_regex_Text_1_0)
  (.seq (.seq (.ops o_regex_Text_1_1)
  (.cond (.t 13) (.seq (.ops o_regex_Text_1_2)
  .ret) .skip))
  (.seq (.ops o_regex_Text_1_3)
  .ret)))
def a_regex_Text_1 : AFn := { body := c_regex_Text_1, res := [.tmp 6] }

-- slices.Contains[[]int,int]
def o_slices_Contains_int_int_0 : List AOp := [
  { dst := some 4, op := .asg (.c (.d (.bool false))) }]
def o_slices_Contains_int_int_1 : List AOp := [
  { dst := some 5, op := .mov (.t 0) },
  { dst := some 6, op := .mov (.t 1) },
  { dst := some 7, op := .call (.f f_slices_Index_int_int) [.t 5, .t 6] },
  { dst := some 8, op := .bin .geq (.t 7) (.c (.nat .i64 0)) },
  { dst := some 4, op := .asg (.t 8) }]
def c_slices_Contains_int_int : AC :=
  (.seq (.ops o_slices_Contains_int_int_0)
  (.seq (.ops o_slices_Contains_int_int_1)
  .ret))
def a_slices_Contains_int_int : AFn := { body := c_slices_Contains_int_int, res := [.tmp 4] }

-- dragoman/regex.Text$2
def o_regex_Text_2_0 : List AOp := [
  { dst := some 5, op := .asg (.c (.d (.str []))) }]
def o_regex_Text_2_1 : List AOp := [
  { dst := some 7, op := .load none (.t 1) },
  { dst := some 8, op := .mov (.t 0) },
  { dst := some 9, op := .idxA none 7 (.t 7) (.t 8) },
  { dst := some 10, op := .load (some 7) (.t 9) },
  { dst := some 6, op := .alloc [.nat .i64 0, .nat .u64 0, .nat .u64 0, .nat .u64 0, .nat .u64 0, .nat .i64 0, .nat .i64 0] },
  { dst := none, op := .store 7 (.t 6) (.t 10) }]
def o_regex_Text_2_2 : List AOp := [
  { dst := some 11, op := .fldA 0 (.t 6) },
  { dst := some 12, op := .load none (.t 11) }]
def o_regex_Text_2_3 : List AOp := [
  { dst := some 14, op := .bin .eql (.t 12) (.c (.nat .i64 0)) },
  { dst := some 13, op := .asg (.t 14) }]
def o_regex_Text_2_4 : List AOp := [
  { dst := some 5, op := .asg (.c (.d (.str [40, 41]))) }]
def o_regex_Text_2_5 : List AOp := [
  { dst := some 16, op := .bin .eql (.t 12) (.c (.nat .i64 1)) },
  { dst := some 15, op := .asg (.t 16) }]
def o_regex_Text_2_6 : List AOp := [
  { dst := some 17, op := .fldA 1 (.t 6) },
  { dst := some 18, op := .load (some 4) (.t 17) },
  { dst := some 19, op := .call (.f f_regex_setText) [.t 18] },
  { dst := some 5, op := .asg (.t 19) }]
def o_regex_Text_2_7 : List AOp := [
  { dst := some 21, op := .bin .eql (.t 12) (.c (.nat .i64 7)) },
  { dst := some 20, op := .asg (.t 21) }]
def o_regex_Text_2_8 : List AOp := [
  { dst := some 5, op := .asg (.c (.d (.str [94]))) }]
def o_regex_Text_2_9 : List AOp := [
  { dst := some 23, op := .bin .eql (.t 12) (.c (.nat .i64 8)) },
  { dst := some 22, op := .asg (.t 23) }]
def o_regex_Text_2_10 : List AOp := [
  { dst := some 5, op := .asg (.c (.d (.str [36]))) }]
def o_regex_Text_2_11 : List AOp := [
  { dst := some 25, op := .bin .eql (.t 12) (.c (.nat .i64 2)) },
  { dst := some 24, op := .asg (.t 25) }]
def o_regex_Text_2_12 : List AOp := [
  { dst := some 26, op := .load none (.t 2), may := false },
  { dst := some 27, op := .fldA 5 (.t 6), may := false },
  { dst := some 28, op := .idxA (some 2) 1 (.t 27) (.c (.nat .i64 0)), may := false },
  { dst := some 29, op := .load none (.t 28), may := false },
  { dst := some 30, op := .mkls 1 [.nat .i64 0] [(0, 1, (.c (.nat .i64 3)))], may := false },
  { dst := some 31, op := .callQ (.t 26) [.t 29, .t 30], may := false },
  { dst := some 32, op := .load none (.t 2), may := false },
  { dst := some 33, op := .fldA 5 (.t 6), may := false },
  { dst := some 34, op := .idxA (some 2) 1 (.t 33) (.c (.nat .i64 1)), may := false },
  { dst := some 35, op := .load none (.t 34), may := false },
  { dst := some 36, op := .mkls 1 [.nat .i64 0, .nat .i64 0] [(0, 1, (.c (.nat .i64 3))), (1, 1, (.c (.nat .i64 2)))], may := false },
  { dst := some 37, op := .call (.t 32) [.t 35, .t 36] },
  { dst := some 38, op := .bin .add (.t 31) (.t 37) },
  { dst := some 5, op := .asg (.t 38) }]
def o_regex_Text_2_13 : List AOp := [
  { dst := some 40, op := .bin .eql (.t 12) (.c (.nat .i64 3)) },
  { dst := some 39, op := .asg (.t 40) }]
def o_regex_Text_2_14 : List AOp := [
  { dst := some 41, op := .load none (.t 3), may := false },
  { dst := some 42, op := .fldA 5 (.t 6), may := false },
  { dst := some 43, op := .idxA (some 2) 1 (.t 42) (.c (.nat .i64 0)), may := false },
  { dst := some 44, op := .load none (.t 43), may := false },
  { dst := some 45, op := .callQ (.t 41) [.t 44], may := false },
  { dst := some 46, op := .bin .add (.t 45) (.c (.d (.str [124]))), may := false },
  { dst := some 47, op := .load none (.t 2), may := false },
  { dst := some 48, op := .fldA 5 (.t 6), may := false },
  { dst := some 49, op := .idxA (some 2) 1 (.t 48) (.c (.nat .i64 1)), may := false },
  { dst := some 50, op := .load none (.t 49), may := false },
  { dst := some 51, op := .mkls 1 [.nat .i64 0] [(0, 1, (.c (.nat .i64 3)))], may := false },
  { dst := some 52, op := .call (.t 47) [.t 50, .t 51], may := false },
  { dst := some 53, op := .bin .add (.t 46) (.t 52) },
  { dst := some 5, op := .asg (.t 53) }]
def o_regex_Text_2_15 : List AOp := [
  { dst := some 54, op := .load none (.t 2), may := false },
  { dst := some 55, op := .fldA 5 (.t 6), may := false },
  { dst := some 56, op := .idxA (some 2) 1 (.t 55) (.c (.nat .i64 0)), may := false },
  { dst := some 57, op := .load none (.t 56), may := false },
  { dst := some 58, op := .mkls 1 [.nat .i64 0, .nat .i64 0] [(0, 1, (.c (.nat .i64 3))), (1, 1, (.c (.nat .i64 2)))], may := false },
  { dst := some 59, op := .callQ (.t 54) [.t 57, .t 58], may := false },
  { dst := some 60, op := .fldA 0 (.t 6), may := false },
  { dst := some 61, op := .load none (.t 60), may := false },
  { dst := some 62, op := .bin .sub (.t 61) (.c (.nat .i64 4)), may := false },
  { dst := some 63, op := .fldA 0 (.t 6), may := false },
  { dst := some 64, op := .load none (.t 63), may := false },
  { dst := some 65, op := .bin .sub (.t 64) (.c (.nat .i64 4)), may := false },
  { dst := some 66, op := .bin .add (.t 65) (.c (.nat .i64 1)), may := false },
  { dst := some 67, op := .sliceS (.c (.d (.str [42, 43, 63]))) (some (.t 62)) (some (.t 66)), may := false },
  { dst := some 68, op := .bin .add (.t 59) (.t 67) },
  { dst := some 5, op := .asg (.t 68) }]
def c_regex_Text_2 : AC :=
  (.seq (.ops o_regex_Text_2_0)
  (.seq (.ops o_regex_Text_2_1)
  (.seq (.seq (.ops o_regex_Text_2_2)
  (.trim [2, 6] (.block 0 (.seq (.ops o_regex_Text_2_3)
  (.cond (.t 13) (.seq (.ops o_regex_Text_2_4)
  .ret) (.seq (.ops o_regex_Text_2_5)
  (.cond (.t 15) (.seq (.ops o_regex_Text_2_6)
  .ret) (.seq (.ops o_regex_Text_2_7)
  (.cond (.t 20) (.seq (.ops o_regex_Text_2_8)
  .ret) (.seq (.ops o_regex_Text_2_9)
  (.cond (.t 22) (.seq (.ops o_regex_Text_2_10)
  .ret) (.seq (.ops o_regex_Text_2_11)
  (.cond (.t 24) (.seq (.ops o_regex_Text_2_12)
  .ret) (.seq (.ops o_regex_Text_2_13)
  (.cond (.t 39) (.seq (.ops o_regex_Text_2_14)
  .ret) .skip)))))))))))))))
  (.seq (.ops o_regex_Text_2_15)
  .ret))))
def a_regex_Text_2 : AFn := { body := c_regex_Text_2, res := [.tmp 5] }

-- dragoman/regex.setText
def o_regex_setText_0 : List AOp := [
  { dst := some 1, op := .box (.t 0) },
  { dst := some 2, op := .asg (.c (.d (.str []))) }]
def o_regex_setText_1 : List AOp := [
  { dst := some 5, op := .load (some 4) (.t 1), may := false },
  { dst := some 6, op := .callZ (.f f_regex_dot) [], may := false },
  { dst := some 7, op := .eqc false [.int .u64, .int .u64, .int .u64, .int .u64] (.t 5) (.t 6) },
  { dst := some 4, op := .asg (.t 7) }]
def o_regex_setText_2 : List AOp := [
  { dst := some 2, op := .asg (.c (.d (.str [46]))) }]
def o_regex_setText_3 : List AOp := [
  { dst := some 9, op := .load (some 4) (.t 1) },
  { dst := some 10, op := .call (.f f_class_Count) [.t 9] },
  { dst := some 11, op := .bin .eql (.t 10) (.c (.nat .i64 0)) },
  { dst := some 8, op := .asg (.t 11) }]
def o_regex_setText_4 : List AOp := [
  { dst := some 2, op := .asg (.c (.d (.str [91, 94, 92, 120, 48, 48, 45, 92, 120, 102, 102, 93]))) }]
def o_regex_setText_5 : List AOp := [
  { dst := some 13, op := .load (some 4) (.t 1) },
  { dst := some 14, op := .call (.f f_class_Count) [.t 13] },
  { dst := some 15, op := .bin .neq (.t 14) (.c (.nat .i64 1)) },
  { dst := some 12, op := .asg (.t 15) }]
def o_regex_setText_6 : List AOp := [
  { dst := some 16, op := .load (some 4) (.t 1) },
  { dst := some 17, op := .call (.f f_class_Text) [.t 16] },
  { dst := some 2, op := .asg (.t 17) }]
def o_regex_setText_7 : List AOp := [
  { dst := some 18, op := .load (some 4) (.t 1) },
  { dst := some 19, op := .call (.f f_class_Text) [.t 18] },
  { dst := some 3, op := .asg (.t 19) }]
def o_regex_setText_8 : List AOp := [
  { dst := some 20, op := .mov (.t 3) },
  { dst := some 21, op := .mov (.t 3) },
  { dst := some 22, op := .lenS (.t 21) },
  { dst := some 23, op := .bin .sub (.t 22) (.c (.nat .i64 1)) },
  { dst := some 24, op := .sliceS (.t 20) (some (.c (.nat .i64 1))) (some (.t 23)) },
  { dst := some 2, op := .asg (.t 24) }]
def c_regex_setText : AC :=
  (.seq (.ops o_regex_setText_0)
  (.seq (.trim [1] (.block 0 (.seq (.ops o_regex_setText_1)
  (.cond (.t 4) (.seq (.ops o_regex_setText_2)
  .ret) (.seq (.ops o_regex_setText_3)
  (.cond (.t 8) (.seq (.ops o_regex_setText_4)
  .ret) (.seq (.ops o_regex_setText_5)
  (.cond (.t 12) (.seq (.ops o_regex_setText_6)
  .ret) .skip))))))))
  (.seq (.ops o_regex_setText_7)
  (.seq (.ops o_regex_setText_8)
  .ret))))
def a_regex_setText : AFn := { body := c_regex_setText, res := [.tmp 2] }

-- dragoman/dragomanref05.begin
def o_ref05_begin_0 : List AOp := [
  { dst := some 4, op := .asg (.c (.nat .i64 0)) }]
def o_ref05_begin_1 : List AOp := [
  { dst := some 8, op := .mov (.t 1) },
  { dst := some 9, op := .bin .lss (.t 8) (.c (.nat .i64 0)) }]
def o_ref05_begin_2 : List AOp := [
  { dst := some 4, op := .asg (.c (.d (.int .i64 (-1)))) }]
def o_ref05_begin_3 : List AOp := [
  { dst := some 10, op := .mov (.t 0) },
  { dst := some 11, op := .mov (.t 1) },
  { dst := some 12, op := .idxA none 7 (.t 10) (.t 11) },
  { dst := some 13, op := .load (some 7) (.t 12) },
  { dst := some 5, op := .alloc [.nat .i64 0, .nat .u64 0, .nat .u64 0, .nat .u64 0, .nat .u64 0, .nat .i64 0, .nat .i64 0] },
  { dst := none, op := .store 7 (.t 5) (.t 13) }]
def o_ref05_begin_4 : List AOp := [
  { dst := some 14, op := .fldA 0 (.t 5) },
  { dst := some 15, op := .load none (.t 14) },
  { dst := some 16, op := .call (.f f_ref05_many) [.t 15] },
  { dst := some 6, op := .asg (.t 16) }]
def o_ref05_begin_5 : List AOp := [
  { dst := some 17, op := .mov (.t 6) },
  { dst := some 18, op := .bin .lss (.t 17) (.c (.nat .i64 0)) },
  { dst := some 19, op := .mov (.t 18) },
  { dst := some 20, op := .fldA 0 (.t 5), guard := some (19, false) },
  { dst := some 21, op := .load none (.t 20), guard := some (19, false) },
  { dst := some 22, op := .bin .neq (.t 21) (.c (.nat .i64 1)), guard := some (19, false) },
  { dst := some 23, op := .mov (.t 22), guard := some (19, false) },
  { dst := some 24, op := .fldA 1 (.t 5), guard := some (23, true) },
  { dst := some 25, op := .load (some 4) (.t 24), guard := some (23, true) },
  { dst := some 26, op := .build [.nat .u64 0, .nat .u64 0, .nat .u64 0, .nat .u64 0] [], guard := some (23, true) },
  { dst := some 27, op := .eqc true [.int .u64, .int .u64, .int .u64, .int .u64] (.t 25) (.t 26), guard := some (23, true) },
  { dst := some 28, op := .pick (.t 23) (.t 27) (.c (.d (.bool false))), guard := some (19, false) },
  { dst := some 29, op := .pick (.t 19) (.c (.d (.bool true))) (.t 28) }]
def o_ref05_begin_6 : List AOp := [
  { dst := some 4, op := .asg (.c (.d (.int .i64 (-1)))) }]
def o_ref05_begin_7 : List AOp := [
  { dst := some 30, op := .mov (.t 6) },
  { dst := some 31, op := .bin .eql (.t 30) (.c (.nat .i64 0)) }]
def o_ref05_begin_8 : List AOp := [
  { dst := some 32, op := .fldA 5 (.t 5) },
  { dst := some 33, op := .load (some 2) (.t 32) },
  { dst := some 34, op := .build [.nat .i64 0, .nat .i64 0] [(0, 1, (.c (.nat .i64 0))), (1, 1, (.c (.nat .i64 0)))] },
  { dst := some 35, op := .eqc true [.int .i64, .int .i64] (.t 33) (.t 34) }]
def o_ref05_begin_9 : List AOp := [
  { dst := some 4, op := .asg (.c (.d (.int .i64 (-1)))) }]
def o_ref05_begin_10 : List AOp := [
  { dst := some 36, op := .mov (.t 1) },
  { dst := some 4, op := .asg (.t 36) }]
def o_ref05_begin_11 : List AOp := [
  { dst := some 37, op := .mov (.t 6) },
  { dst := some 38, op := .bin .eql (.t 37) (.c (.nat .i64 1)) }]
def o_ref05_begin_12 : List AOp := [
  { dst := some 39, op := .fldA 5 (.t 5) },
  { dst := some 40, op := .load (some 2) (.t 39) },
  { dst := some 41, op := .mov (.t 1) },
  { dst := some 42, op := .bin .sub (.t 41) (.c (.nat .i64 1)) },
  { dst := some 43, op := .build [.nat .i64 0, .nat .i64 0] [(0, 1, (.t 42)), (1, 1, (.c (.nat .i64 0)))] },
  { dst := some 44, op := .eqc true [.int .i64, .int .i64] (.t 40) (.t 43) }]
def o_ref05_begin_13 : List AOp := [
  { dst := some 4, op := .asg (.c (.d (.int .i64 (-1)))) }]
def o_ref05_begin_14 : List AOp := [
  { dst := some 45, op := .mov (.t 0) },
  { dst := some 46, op := .mov (.t 1) },
  { dst := some 47, op := .bin .sub (.t 46) (.c (.nat .i64 1)) },
  { dst := some 48, op := .call (.f f_ref05_begin) [.t 45, .t 47] },
  { dst := some 4, op := .asg (.t 48) }]
def o_ref05_begin_15 : List AOp := [
  { dst := some 49, op := .mov (.t 0) },
  { dst := some 50, op := .mov (.t 1) },
  { dst := some 51, op := .bin .sub (.t 50) (.c (.nat .i64 1)) },
  { dst := some 52, op := .call (.f f_ref05_begin) [.t 49, .t 51] },
  { dst := some 7, op := .asg (.t 52) }]
def o_ref05_begin_16 : List AOp := [
  { dst := some 53, op := .mov (.t 7) },
  { dst := some 54, op := .bin .lss (.t 53) (.c (.nat .i64 1)) },
  { dst := some 55, op := .mov (.t 54) },
  { dst := some 56, op := .fldA 5 (.t 5), guard := some (55, false) },
  { dst := some 57, op := .load (some 2) (.t 56), guard := some (55, false) },
  { dst := some 58, op := .mov (.t 7), guard := some (55, false) },
  { dst := some 59, op := .bin .sub (.t 58) (.c (.nat .i64 1)), guard := some (55, false) },
  { dst := some 60, op := .mov (.t 1), guard := some (55, false) },
  { dst := some 61, op := .bin .sub (.t 60) (.c (.nat .i64 1)), guard := some (55, false) },
  { dst := some 62, op := .build [.nat .i64 0, .nat .i64 0] [(0, 1, (.t 59)), (1, 1, (.t 61))], guard := some (55, false) },
  { dst := some 63, op := .eqc true [.int .i64, .int .i64] (.t 57) (.t 62), guard := some (55, false) },
  { dst := some 64, op := .pick (.t 55) (.c (.d (.bool true))) (.t 63) }]
def o_ref05_begin_17 : List AOp := [
  { dst := some 4, op := .asg (.c (.d (.int .i64 (-1)))) }]
def o_ref05_begin_18 : List AOp := [
  { dst := some 65, op := .mov (.t 0) },
  { dst := some 66, op := .mov (.t 7) },
  { dst := some 67, op := .bin .sub (.t 66) (.c (.nat .i64 1)) },
  { dst := some 68, op := .call (.f f_ref05_begin) [.t 65, .t 67] },
  { dst := some 4, op := .asg (.t 68) }]
def c_ref05_begin : AC :=
  (.seq (.ops o_ref05_begin_0)
  (.seq (.seq (.ops o_ref05_begin_1)
  (.cond (.t 9) (.seq (.ops o_ref05_begin_2)
  .ret) .skip))
  (.seq (.ops o_ref05_begin_3)
  (.seq (.ops o_ref05_begin_4)
  (.seq (.seq (.ops o_ref05_begin_5)
  (.cond (.t 29) (.seq (.ops o_ref05_begin_6)
  .ret) .skip))
  (.seq (.seq (.ops o_ref05_begin_7)
  (.cond (.t 31) (.seq (.seq (.ops o_ref05_begin_8)
  (.cond (.t 35) (.seq (.ops o_ref05_begin_9)
  .ret) .skip))
  (.seq (.ops o_ref05_begin_10)
  .ret)) .skip))
  (.seq (.seq (.ops o_ref05_begin_11)
  (.cond (.t 38) (.seq (.seq (.ops o_ref05_begin_12)
  (.cond (.t 44) (.seq (.ops o_ref05_begin_13)
  .ret) .skip))
  (.seq (.ops o_ref05_begin_14)
  .ret)) .skip))
  (.seq (.ops o_ref05_begin_15)
  (.seq (.seq (.ops o_ref05_begin_16)
  (.cond (.t 64) (.seq (.ops o_ref05_begin_17)
  .ret) .skip))
  (.seq (.ops o_ref05_begin_18)
  .ret))))))))))
def a_ref05_begin : AFn := { body := c_ref05_begin, res := [.tmp 4] }

-- dragoman/dragomanref05.many
def o_ref05_many_0 : List AOp := [
  { dst := some 2, op := .asg (.c (.nat .i64 0)) }]
def o_ref05_many_1 : List AOp := [
  { dst := some 3, op := .mov (.t 0) },
  { dst := some 4, op := .bin .eql (.t 3) (.c (.nat .i64 2)) },
  { dst := some 5, op := .mov (.t 4) },
  { dst := some 6, op := .mov (.t 0), guard := some (5, false) },
  { dst := some 7, op := .bin .eql (.t 6) (.c (.nat .i64 3)), guard := some (5, false) },
  { dst := some 8, op := .pick (.t 5) (.c (.d (.bool true))) (.t 7) }]
def o_ref05_many_2 : List AOp := [
  { dst := some 2, op := .asg (.c (.nat .i64 2)) }]
def o_ref05_many_3 : List AOp := [
  { dst := some 9, op := .mov (.t 0) },
  { dst := some 10, op := .bin .geq (.t 9) (.c (.nat .i64 4)) },
  { dst := some 11, op := .mov (.t 10) },
  { dst := some 12, op := .mov (.t 0), guard := some (11, true) },
  { dst := some 13, op := .bin .leq (.t 12) (.c (.nat .i64 6)), guard := some (11, true) },
  { dst := some 14, op := .pick (.t 11) (.t 13) (.c (.d (.bool false))) }]
def o_ref05_many_4 : List AOp := [
  { dst := some 2, op := .asg (.c (.nat .i64 1)) }]
def o_ref05_many_5 : List AOp := [
  { dst := some 15, op := .mov (.t 0) },
  { dst := some 16, op := .bin .eql (.t 15) (.c (.nat .i64 0)) },
  { dst := some 17, op := .mov (.t 16) },
  { dst := some 18, op := .mov (.t 0), guard := some (17, false) },
  { dst := some 19, op := .bin .eql (.t 18) (.c (.nat .i64 1)), guard := some (17, false) },
  { dst := some 20, op := .pick (.t 17) (.c (.d (.bool true))) (.t 19) },
  { dst := some 21, op := .mov (.t 20) },
  { dst := some 22, op := .mov (.t 0), guard := some (21, false) },
  { dst := some 23, op := .bin .eql (.t 22) (.c (.nat .i64 7)), guard := some (21, false) },
  { dst := some 24, op := .pick (.t 21) (.c (.d (.bool true))) (.t 23) },
  { dst := some 25, op := .mov (.t 24) },
  { dst := some 26, op := .mov (.t 0), guard := some (25, false) },
  { dst := some 27, op := .bin .eql (.t 26) (.c (.nat .i64 8)), guard := some (25, false) },
  { dst := some 28, op := .pick (.t 25) (.c (.d (.bool true))) (.t 27) }]
def o_ref05_many_6 : List AOp := [
  { dst := some 2, op := .asg (.c (.nat .i64 0)) }]
def o_ref05_many_7 : List AOp := [
  { dst := some 2, op := .asg (.c (.d (.int .i64 (-1)))) }]
def c_ref05_many : AC :=
  (.seq (.ops o_ref05_many_0)
  (.seq (.seq (.ops o_ref05_many_1)
  (.cond (.t 8) (.seq (.ops o_ref05_many_2)
  .ret) .skip))
  (.seq (.seq (.ops o_ref05_many_3)
  (.cond (.t 14) (.seq (.ops o_ref05_many_4)
  .ret) .skip))
  (.seq (.seq (.ops o_ref05_many_5)
  (.cond (.t 28) (.seq (.ops o_ref05_many_6)
  .ret) .skip))
  (.seq (.ops o_ref05_many_7)
  .ret)))))
def a_ref05_many : AFn := { body := c_ref05_many, res := [.tmp 2] }

-- dragoman/dragomanref01.Hex
def o_ref01_Hex_0 : List AOp := [
  { dst := some 2, op := .asg (.c (.d (.str []))) }]
def o_ref01_Hex_1 : List AOp := [
  { dst := some 3, op := .asg (.c (.d (.str [120]))) }]
def o_ref01_Hex_2 : List AOp := [
  { dst := some 4, op := .asg (.c (.nat .i64 0)) }]
def o_ref01_Hex_3 : List AOp := [
  { dst := some 5, op := .mov (.t 4) },
  { dst := some 6, op := .mov (.t 0) },
  { dst := some 7, op := .lenS (.t 6) },
  { dst := some 8, op := .bin .lss (.t 5) (.t 7) }]
def o_ref01_Hex_5 : List AOp := [
  { dst := some 11, op := .mov (.t 3), may := false },
  { dst := some 12, op := .mov (.t 0), may := false },
  { dst := some 13, op := .mov (.t 4), may := false },
  { dst := some 14, op := .idxS (.t 12) (.t 13), may := false },
  { dst := some 15, op := .bin .quo (.t 14) (.c (.nat .u8 16)), may := false },
  { dst := some 16, op := .call (.f f_ref01_digit) [.t 15], may := false },
  { dst := some 17, op := .bin .add (.t 11) (.t 16), may := false },
  { dst := some 18, op := .mov (.t 0), may := false },
  { dst := some 19, op := .mov (.t 4), may := false },
  { dst := some 20, op := .idxS (.t 18) (.t 19), may := false },
  { dst := some 21, op := .bin .rem (.t 20) (.c (.nat .u8 16)), may := false },
  { dst := some 22, op := .call (.f f_ref01_digit) [.t 21], may := false },
  { dst := some 23, op := .bin .add (.t 17) (.t 22) },
  { dst := some 3, op := .asg (.t 23) }]
def o_ref01_Hex_4 : List AOp := [
  { dst := some 9, op := .mov (.t 4) },
  { dst := some 10, op := .bin .add (.t 9) (.c (.nat .i64 1)) },
  { dst := some 4, op := .asg (.t 10) }]
def b_ref01_Hex_0 : AC := (.seq (.seq (.ops o_ref01_Hex_3)
  (.cond (.t 8) .skip (.exit 0)))
  (.seq (.trim [0, 3, 4] (.block 1 (.ops o_ref01_Hex_5)))
  (.ops o_ref01_Hex_4)))
def o_ref01_Hex_6 : List AOp := [
  { dst := some 24, op := .mov (.t 3) },
  { dst := some 2, op := .asg (.t 24) }]
def c_ref01_Hex : AC :=
  (.seq (.ops o_ref01_Hex_0)
  (.seq (.ops o_ref01_Hex_1)
  (.seq (.seq (.ops o_ref01_Hex_2)
  (.trim [3] (.block 0 (.loop [0, 3, 4] b_ref01_Hex_0))))
  (.seq (.ops o_ref01_Hex_6)
  .ret))))
def a_ref01_Hex : AFn := { body := c_ref01_Hex, res := [.tmp 2] }

-- dragoman/dragomanref04.with
def o_ref04_with_0 : List AOp := [
  { dst := some 2, op := .box (.t 0) },
  { dst := some 4, op := .alloc [.nat .u64 0, .nat .u64 0, .nat .u64 0, .nat .u64 0] }]
def o_ref04_with_1 : List AOp := [
  { dst := some 6, op := .load (some 4) (.t 2) },
  { dst := some 7, op := .mov (.t 1) },
  { dst := some 8, op := .call (.f f_ref04_Has) [.t 6, .t 7] },
  { dst := some 5, op := .asg (.t 8) }]
def o_ref04_with_2 : List AOp := [
  { dst := some 9, op := .mov (.t 5) },
  { dst := some 10, op := .un .not (.t 9) }]
def o_ref04_with_3 : List AOp := [
  { dst := some 11, op := .mov (.t 1) },
  { dst := some 12, op := .bin .quo (.t 11) (.c (.nat .u8 64)) },
  { dst := some 13, op := .mov (.t 1) },
  { dst := some 14, op := .bin .quo (.t 13) (.c (.nat .u8 64)) },
  { dst := some 15, op := .idxA (some 4) 1 (.t 2) (.t 14) },
  { dst := some 16, op := .load none (.t 15) },
  { dst := some 17, op := .mov (.t 1) },
  { dst := some 18, op := .bin .rem (.t 17) (.c (.nat .u8 64)) },
  { dst := some 19, op := .toInt .u64 (.t 18) },
  { dst := some 20, op := .bin .shl (.c (.nat .u64 1)) (.t 19) },
  { dst := some 21, op := .bin .add (.t 16) (.t 20) },
  { dst := some 22, op := .idxA (some 4) 1 (.t 2) (.t 12) },
  { dst := none, op := .store 1 (.t 22) (.t 21) }]
def o_ref04_with_4 : List AOp := [
  { dst := some 23, op := .load (some 4) (.t 2) },
  { dst := none, op := .store 4 (.t 4) (.t 23) }]
def c_ref04_with : AC :=
  (.seq (.ops o_ref04_with_0)
  (.seq (.ops o_ref04_with_1)
  (.seq (.seq (.ops o_ref04_with_2)
  (.cond (.t 10) (.ops o_ref04_with_3) .skip))
  (.seq (.ops o_ref04_with_4)
  .ret))))
def a_ref04_with : AFn := { body := c_ref04_with, res := [.cell 4 (some 4)] }

-- slices.Clone[[]dragoman/api.Re,dragoman/api.Re]
def o_slices_Clone_api_Re_api_Re_0 : List AOp := [
  { dst := some 2, op := .asg (.c (.nil)) }]
def o_slices_Clone_api_Re_api_Re_1 : List AOp := [
  { dst := some 3, op := .mov (.t 0) },
  { dst := some 4, op := .eqnil 3 false (.t 3) }]
def o_slices_Clone_api_Re_api_Re_2 : List AOp := [
  { dst := some 2, op := .asg (.c (.nil)) }]
def o_slices_Clone_api_Re_api_Re_3 : List AOp := [
  { dst := some 5, op := .mkls 7 [] [] },
  { dst := some 6, op := .mov (.t 0) },
  { dst := some 7, op := .append 7 (.t 5) (.t 6) },
  { dst := some 2, op := .asg (.t 7) }]
def c_slices_Clone_api_Re_api_Re : AC :=
  (.seq (.ops o_slices_Clone_api_Re_api_Re_0)
  (.seq (.seq (.ops o_slices_Clone_api_Re_api_Re_1)
  (.cond (.t 4) (.seq (.ops o_slices_Clone_api_Re_api_Re_2)
  .ret) .skip))
  (.seq (.ops o_slices_Clone_api_Re_api_Re_3)
  .ret)))
def a_slices_Clone_api_Re_api_Re : AFn := { body := c_slices_Clone_api_Re_api_Re, res := [.tmp 2] }

-- dragoman/regex.kids
def o_regex_kids_0 : List AOp := [
  { dst := some 2, op := .asg (.c (.nat .i64 0)) }]
def o_regex_kids_1 : List AOp := [
  { dst := some 3, op := .mov (.t 0) }]
def o_regex_kids_2 : List AOp := [
  { dst := some 5, op := .bin .eql (.t 3) (.c (.nat .i64 0)) },
  { dst := some 4, op := .asg (.t 5) }]
def o_regex_kids_3 : List AOp := [
  { dst := some 6, op := .bin .eql (.t 3) (.c (.nat .i64 1)) },
  { dst := some 4, op := .asg (.t 6) }]
def o_regex_kids_4 : List AOp := [
  { dst := some 7, op := .bin .eql (.t 3) (.c (.nat .i64 7)) },
  { dst := some 4, op := .asg (.t 7) }]
def o_regex_kids_5 : List AOp := [
  { dst := some 8, op := .bin .eql (.t 3) (.c (.nat .i64 8)) },
  { dst := some 4, op := .asg (.t 8) }]
def o_regex_kids_6 : List AOp := [
  { dst := some 2, op := .asg (.c (.nat .i64 0)) }]
def o_regex_kids_7 : List AOp := [
  { dst := some 10, op := .bin .eql (.t 3) (.c (.nat .i64 4)) },
  { dst := some 9, op := .asg (.t 10) }]
def o_regex_kids_8 : List AOp := [
  { dst := some 11, op := .bin .eql (.t 3) (.c (.nat .i64 5)) },
  { dst := some 9, op := .asg (.t 11) }]
def o_regex_kids_9 : List AOp := [
  { dst := some 12, op := .bin .eql (.t 3) (.c (.nat .i64 6)) },
  { dst := some 9, op := .asg (.t 12) }]
def o_regex_kids_10 : List AOp := [
  { dst := some 2, op := .asg (.c (.nat .i64 1)) }]
def o_regex_kids_11 : List AOp := [
  { dst := some 14, op := .bin .eql (.t 3) (.c (.nat .i64 2)) },
  { dst := some 13, op := .asg (.t 14) }]
def o_regex_kids_12 : List AOp := [
  { dst := some 15, op := .bin .eql (.t 3) (.c (.nat .i64 3)) },
  { dst := some 13, op := .asg (.t 15) }]
def o_regex_kids_13 : List AOp := [
  { dst := some 2, op := .asg (.c (.nat .i64 2)) }]
def o_regex_kids_14 : List AOp := [
  { dst := some 2, op := .asg (.c (.d (.int .i64 (-1)))) }]
def c_regex_kids : AC :=
  (.seq (.ops o_regex_kids_0)
  (.seq (.seq (.ops o_regex_kids_1)
  (.trim [] (.block 0 (.seq (.seq (.ops o_regex_kids_2)
  (.cond (.t 4) .skip (.seq (.ops o_regex_kids_3)
  (.cond (.t 4) .skip (.seq (.ops o_regex_kids_4)
  (.cond (.t 4) .skip (.ops o_regex_kids_5)))))))
  (.cond (.t 4) (.seq (.ops o_regex_kids_6)
  .ret) (.seq (.seq (.ops o_regex_kids_7)
  (.cond (.t 9) .skip (.seq (.ops o_regex_kids_8)
  (.cond (.t 9) .skip (.ops o_regex_kids_9)))))
  (.cond (.t 9) (.seq (.ops o_regex_kids_10)
  .ret) (.seq (.seq (.ops o_regex_kids_11)
  (.cond (.t 13) .skip (.ops o_regex_kids_12)))
  (.cond (.t 13) (.seq (.ops o_regex_kids_13)
  .ret) .skip)))))))))
  (.seq (.ops o_regex_kids_14)
  .ret)))
def a_regex_kids : AFn := { body := c_regex_kids, res := [.tmp 2] }

-- dragoman/class.One
def o_class_One_0 : List AOp := [
  { dst := some 2, op := .alloc [.nat .u64 0, .nat .u64 0, .nat .u64 0, .nat .u64 0] }]
def o_class_One_1 : List AOp := [
  { dst := some 3, op := .mov (.t 0) },
  { dst := some 4, op := .mov (.t 0) },
  { dst := some 5, op := .call (.f f_class_Span) [.t 3, .t 4] },
  { dst := none, op := .store 4 (.t 2) (.t 5) }]
def c_class_One : AC :=
  (.seq (.ops o_class_One_0)
  (.seq (.ops o_class_One_1)
  .ret))
def a_class_One : AFn := { body := c_class_One, res := [.cell 2 (some 4)] }

-- dragoman/dragomanref05.told
def o_ref05_told_0 : List AOp := [
  { dst := some 4, op := .asg (.c (.d (.str []))) }]
def o_ref05_told_1 : List AOp := [
  { dst := some 7, op := .mov (.t 0) },
  { dst := some 8, op := .mov (.t 1) },
  { dst := some 9, op := .idxA none 7 (.t 7) (.t 8) },
  { dst := some 10, op := .load (some 7) (.t 9) },
  { dst := some 5, op := .alloc [.nat .i64 0, .nat .u64 0, .nat .u64 0, .nat .u64 0, .nat .u64 0, .nat .i64 0, .nat .i64 0] },
  { dst := none, op := .store 7 (.t 5) (.t 10) }]
def o_ref05_told_2 : List AOp := [
  { dst := some 11, op := .fldA 0 (.t 5) },
  { dst := some 12, op := .load none (.t 11) }]
def o_ref05_told_3 : List AOp := [
  { dst := some 14, op := .bin .eql (.t 12) (.c (.nat .i64 0)) },
  { dst := some 13, op := .asg (.t 14) }]
def o_ref05_told_4 : List AOp := [
  { dst := some 4, op := .asg (.c (.d (.str [40, 41]))) }]
def o_ref05_told_5 : List AOp := [
  { dst := some 16, op := .bin .eql (.t 12) (.c (.nat .i64 1)) },
  { dst := some 15, op := .asg (.t 16) }]
def o_ref05_told_6 : List AOp := [
  { dst := some 17, op := .fldA 1 (.t 5), may := false },
  { dst := some 18, op := .load (some 4) (.t 17), may := false },
  { dst := some 19, op := .callZ (.f f_ref05_Dot) [], may := false },
  { dst := some 20, op := .eqc false [.int .u64, .int .u64, .int .u64, .int .u64] (.t 18) (.t 19) }]
def o_ref05_told_7 : List AOp := [
  { dst := some 4, op := .asg (.c (.d (.str [46]))) }]
def o_ref05_told_8 : List AOp := [
  { dst := some 21, op := .fldA 1 (.t 5) },
  { dst := some 22, op := .load (some 4) (.t 21) },
  { dst := some 23, op := .call (.f f_ref04_Count) [.t 22] },
  { dst := some 24, op := .bin .eql (.t 23) (.c (.nat .i64 1)) }]
def o_ref05_told_9 : List AOp := [
  { dst := some 6, op := .asg (.c (.nat .i64 0)) }]
def o_ref05_told_10 : List AOp := [
  { dst := some 25, op := .mov (.t 6) },
  { dst := some 26, op := .bin .lss (.t 25) (.c (.nat .i64 256)) }]
def o_ref05_told_12 : List AOp := [
  { dst := some 29, op := .fldA 1 (.t 5) },
  { dst := some 30, op := .load (some 4) (.t 29) },
  { dst := some 31, op := .mov (.t 6) },
  { dst := some 32, op := .toInt .u8 (.t 31) },
  { dst := some 33, op := .call (.f f_ref04_Has) [.t 30, .t 32] }]
def o_ref05_told_13 : List AOp := [
  { dst := some 34, op := .mov (.t 6) },
  { dst := some 35, op := .toInt .u8 (.t 34) },
  { dst := some 36, op := .call (.f f_ref04_Plain) [.t 35] },
  { dst := some 4, op := .asg (.t 36) }]
def o_ref05_told_11 : List AOp := [
  { dst := some 27, op := .mov (.t 6) },
  { dst := some 28, op := .bin .add (.t 27) (.c (.nat .i64 1)) },
  { dst := some 6, op := .asg (.t 28) }]
def b_ref05_told_0 : AC := (.seq (.seq (.ops o_ref05_told_10)
  (.cond (.t 26) .skip (.exit 1)))
  (.seq (.trim [5, 6] (.block 2 (.seq (.ops o_ref05_told_12)
  (.cond (.t 33) (.seq (.ops o_ref05_told_13)
  .ret) .skip))))
  (.ops o_ref05_told_11)))
def o_ref05_told_14 : List AOp := [
  { dst := some 37, op := .fldA 1 (.t 5) },
  { dst := some 38, op := .load (some 4) (.t 37) },
  { dst := some 39, op := .build [.nat .u64 0, .nat .u64 0, .nat .u64 0, .nat .u64 0] [] },
  { dst := some 40, op := .eqc false [.int .u64, .int .u64, .int .u64, .int .u64] (.t 38) (.t 39) }]
def o_ref05_told_15 : List AOp := [
  { dst := some 4, op := .asg (.c (.d (.str [91, 94, 92, 120, 48, 48, 45, 92, 120, 102, 102, 93]))) }]
def o_ref05_told_16 : List AOp := [
  { dst := some 41, op := .fldA 1 (.t 5) },
  { dst := some 42, op := .load (some 4) (.t 41) },
  { dst := some 43, op := .call (.f f_ref04_Text) [.t 42] },
  { dst := some 4, op := .asg (.t 43) }]
def o_ref05_told_17 : List AOp := [
  { dst := some 45, op := .bin .eql (.t 12) (.c (.nat .i64 2)) },
  { dst := some 44, op := .asg (.t 45) }]
def o_ref05_told_18 : List AOp := [
  { dst := some 46, op := .mov (.t 0), may := false },
  { dst := some 47, op := .fldA 5 (.t 5), may := false },
  { dst := some 48, op := .idxA (some 2) 1 (.t 47) (.c (.nat .i64 0)), may := false },
  { dst := some 49, op := .load none (.t 48), may := false },
  { dst := some 50, op := .callZ (.f f_ref05_inside) [.t 46, .t 49, .c (.nat .i64 3), .c (.nat .i64 3)], may := false },
  { dst := some 51, op := .mov (.t 0), may := false },
  { dst := some 52, op := .fldA 5 (.t 5), may := false },
  { dst := some 53, op := .idxA (some 2) 1 (.t 52) (.c (.nat .i64 1)), may := false },
  { dst := some 54, op := .load none (.t 53), may := false },
  { dst := some 55, op := .call (.f f_ref05_inside) [.t 51, .t 54, .c (.nat .i64 3), .c (.nat .i64 2)] },
  { dst := some 56, op := .bin .add (.t 50) (.t 55) },
  { dst := some 4, op := .asg (.t 56) }]
def o_ref05_told_19 : List AOp := [
  { dst := some 58, op := .bin .eql (.t 12) (.c (.nat .i64 3)) },
  { dst := some 57, op := .asg (.t 58) }]
def o_ref05_told_20 : List AOp := [
  { dst := some 59, op := .mov (.t 0), may := false },
  { dst := some 60, op := .fldA 5 (.t 5), may := false },
  { dst := some 61, op := .idxA (some 2) 1 (.t 60) (.c (.nat .i64 0)), may := false },
  { dst := some 62, op := .load none (.t 61), may := false },
  { dst := some 63, op := .callZ (.f f_ref05_told) [.t 59, .t 62], may := false },
  { dst := some 64, op := .bin .add (.t 63) (.c (.d (.str [124]))), may := false },
  { dst := some 65, op := .mov (.t 0), may := false },
  { dst := some 66, op := .fldA 5 (.t 5), may := false },
  { dst := some 67, op := .idxA (some 2) 1 (.t 66) (.c (.nat .i64 1)), may := false },
  { dst := some 68, op := .load none (.t 67), may := false },
  { dst := some 69, op := .call (.f f_ref05_inside) [.t 65, .t 68, .c (.nat .i64 3), .c (.nat .i64 3)], may := false },
  { dst := some 70, op := .bin .add (.t 64) (.t 69) },
  { dst := some 4, op := .asg (.t 70) }]
def o_ref05_told_21 : List AOp := [
  { dst := some 72, op := .bin .eql (.t 12) (.c (.nat .i64 4)) },
  { dst := some 71, op := .asg (.t 72) }]
def o_ref05_told_22 : List AOp := [
  { dst := some 73, op := .mov (.t 0) },
  { dst := some 74, op := .fldA 5 (.t 5) },
  { dst := some 75, op := .idxA (some 2) 1 (.t 74) (.c (.nat .i64 0)) },
  { dst := some 76, op := .load none (.t 75) },
  { dst := some 77, op := .call (.f f_ref05_inside) [.t 73, .t 76, .c (.nat .i64 3), .c (.nat .i64 2)] },
  { dst := some 78, op := .bin .add (.t 77) (.c (.d (.str [42]))) },
  { dst := some 4, op := .asg (.t 78) }]
def o_ref05_told_23 : List AOp := [
  { dst := some 80, op := .bin .eql (.t 12) (.c (.nat .i64 5)) },
  { dst := some 79, op := .asg (.t 80) }]
def o_ref05_told_24 : List AOp := [
  { dst := some 81, op := .mov (.t 0) },
  { dst := some 82, op := .fldA 5 (.t 5) },
  { dst := some 83, op := .idxA (some 2) 1 (.t 82) (.c (.nat .i64 0)) },
  { dst := some 84, op := .load none (.t 83) },
  { dst := some 85, op := .call (.f f_ref05_inside) [.t 81, .t 84, .c (.nat .i64 3), .c (.nat .i64 2)] },
  { dst := some 86, op := .bin .add (.t 85) (.c (.d (.str [43]))) },
  { dst := some 4, op := .asg (.t 86) }]
def o_ref05_told_25 : List AOp := [
  { dst := some 88, op := .bin .eql (.t 12) (.c (.nat .i64 6)) },
  { dst := some 87, op := .asg (.t 88) }]
def o_ref05_told_26 : List AOp := [
  { dst := some 89, op := .mov (.t 0) },
  { dst := some 90, op := .fldA 5 (.t 5) },
  { dst := some 91, op := .idxA (some 2) 1 (.t 90) (.c (.nat .i64 0)) },
  { dst := some 92, op := .load none (.t 91) },
  { dst := some 93, op := .call (.f f_ref05_inside) [.t 89, .t 92, .c (.nat .i64 3), .c (.nat .i64 2)] },
  { dst := some 94, op := .bin .add (.t 93) (.c (.d (.str [63]))) },
  { dst := some 4, op := .asg (.t 94) }]
def o_ref05_told_27 : List AOp := [
  { dst := some 96, op := .bin .eql (.t 12) (.c (.nat .i64 7)) },
  { dst := some 95, op := .asg (.t 96) }]
def o_ref05_told_28 : List AOp := [
  { dst := some 4, op := .asg (.c (.d (.str [94]))) }]
def o_ref05_told_29 : List AOp := [
  { dst := some 4, op := .asg (.c (.d (.str [36]))) }]
def c_ref05_told : AC :=
  (.seq (.ops o_ref05_told_0)
  (.seq (.ops o_ref05_told_1)
  (.seq (.seq (.ops o_ref05_told_2)
  (.trim [] (.block 0 (.seq (.ops o_ref05_told_3)
  (.cond (.t 13) (.seq (.ops o_ref05_told_4)
  .ret) (.seq (.ops o_ref05_told_5)
  (.cond (.t 15) (.seq (.seq (.ops o_ref05_told_6)
  (.cond (.t 20) (.seq (.ops o_ref05_told_7)
  .ret) .skip))
  (.seq (.seq (.ops o_ref05_told_8)
  (.cond (.t 24) (.seq (.ops o_ref05_told_9)
  (.trim [5] (.block 1 (.loop [5, 6] b_ref05_told_0)))) .skip))
  (.seq (.seq (.ops o_ref05_told_14)
  (.cond (.t 40) (.seq (.ops o_ref05_told_15)
  .ret) .skip))
  (.seq (.ops o_ref05_told_16)
  .ret)))) (.seq (.ops o_ref05_told_17)
  (.cond (.t 44) (.seq (.ops o_ref05_told_18)
  .ret) (.seq (.ops o_ref05_told_19)
  (.cond (.t 57) (.seq (.ops o_ref05_told_20)
  .ret) (.seq (.ops o_ref05_told_21)
  (.cond (.t 71) (.seq (.ops o_ref05_told_22)
  .ret) (.seq (.ops o_ref05_told_23)
  (.cond (.t 79) (.seq (.ops o_ref05_told_24)
  .ret) (.seq (.ops o_ref05_told_25)
  (.cond (.t 87) (.seq (.ops o_ref05_told_26)
  .ret) (.seq (.ops o_ref05_told_27)
  (.cond (.t 95) (.seq (.ops o_ref05_told_28)
  .ret) .skip)))))))))))))))))))
  (.seq (.ops o_ref05_told_29)
  .ret))))
def a_ref05_told : AFn := { body := c_ref05_told, res := [.tmp 4] }

-- (*dragoman/regex.reader).cat
def o_regex_reader_cat_0 : List AOp := [
  { dst := some 2, op := .asg (.c (.nat .i64 0)) }]
def o_regex_reader_cat_1 : List AOp := [
  { dst := some 3, op := .asg (.c (.d (.int .i64 (-1)))) }]
def o_regex_reader_cat_2 : List AOp := [
  { dst := some 5, op := .mov (.t 0), may := false },
  { dst := some 6, op := .nilchk (.t 5), may := false },
  { dst := some 7, op := .fldA 1 (.t 6), may := false },
  { dst := some 8, op := .load none (.t 7), may := false },
  { dst := some 9, op := .mov (.t 0), may := false },
  { dst := some 10, op := .nilchk (.t 9), may := false },
  { dst := some 11, op := .fldA 0 (.t 10), may := false },
  { dst := some 12, op := .load none (.t 11), may := false },
  { dst := some 13, op := .lenS (.t 12), may := false },
  { dst := some 14, op := .bin .lss (.t 8) (.t 13) },
  { dst := some 15, op := .mov (.t 14) },
  { dst := some 16, op := .mov (.t 0), guard := some (15, true) },
  { dst := some 17, op := .call (.f f_regex_reader_sees) [.t 16, .c (.nat .u8 124)], guard := some (15, true) },
  { dst := some 18, op := .un .not (.t 17), guard := some (15, true) },
  { dst := some 19, op := .pick (.t 15) (.t 18) (.c (.d (.bool false))) },
  { dst := some 20, op := .mov (.t 19) },
  { dst := some 21, op := .mov (.t 0), guard := some (20, true) },
  { dst := some 22, op := .call (.f f_regex_reader_sees) [.t 21, .c (.nat .u8 41)], guard := some (20, true) },
  { dst := some 23, op := .un .not (.t 22), guard := some (20, true) },
  { dst := some 24, op := .pick (.t 20) (.t 23) (.c (.d (.bool false))) }]
def o_regex_reader_cat_3 : List AOp := [
  { dst := some 25, op := .mov (.t 0) },
  { dst := some 26, op := .call (.f f_regex_reader_piece) [.t 25] },
  { dst := some 4, op := .asg (.t 26) }]
def o_regex_reader_cat_4 : List AOp := [
  { dst := some 27, op := .mov (.t 3) },
  { dst := some 28, op := .bin .geq (.t 27) (.c (.nat .i64 0)) }]
def o_regex_reader_cat_5 : List AOp := [
  { dst := some 29, op := .mov (.t 0) },
  { dst := some 30, op := .mov (.t 3) },
  { dst := some 31, op := .mov (.t 4) },
  { dst := some 32, op := .build [.nat .i64 0, .nat .i64 0] [(0, 1, (.t 30)), (1, 1, (.t 31))] },
  { dst := some 33, op := .build [.nat .i64 0, .nat .u64 0, .nat .u64 0, .nat .u64 0, .nat .u64 0, .nat .i64 0, .nat .i64 0] [(0, 1, (.c (.nat .i64 2))), (5, 2, (.t 32))] },
  { dst := some 34, op := .call (.f f_regex_reader_put) [.t 29, .t 33] },
  { dst := some 4, op := .asg (.t 34) }]
def o_regex_reader_cat_6 : List AOp := [
  { dst := some 35, op := .mov (.t 4) },
  { dst := some 3, op := .asg (.t 35) }]
def b_regex_reader_cat_0 : AC := (.seq (.seq (.ops o_regex_reader_cat_2)
  (.cond (.t 24) .skip (.exit 0)))
  (.trim [0, 3] (.block 1 (.seq (.ops o_regex_reader_cat_3)
  (.seq (.seq (.ops o_regex_reader_cat_4)
  (.cond (.t 28) (.ops o_regex_reader_cat_5) .skip))
  (.ops o_regex_reader_cat_6))))))
def o_regex_reader_cat_7 : List AOp := [
  { dst := some 36, op := .mov (.t 3) },
  { dst := some 37, op := .bin .lss (.t 36) (.c (.nat .i64 0)) }]
def o_regex_reader_cat_8 : List AOp := [
  { dst := some 38, op := .mov (.t 0) },
  { dst := some 39, op := .build [.nat .i64 0, .nat .u64 0, .nat .u64 0, .nat .u64 0, .nat .u64 0, .nat .i64 0, .nat .i64 0] [] },
  { dst := some 40, op := .call (.f f_regex_reader_put) [.t 38, .t 39] },
  { dst := some 2, op := .asg (.t 40) }]
def o_regex_reader_cat_9 : List AOp := [
  { dst := some 41, op := .mov (.t 3) },
  { dst := some 2, op := .asg (.t 41) }]
def c_regex_reader_cat : AC :=
  (.seq (.ops o_regex_reader_cat_0)
  (.seq (.ops o_regex_reader_cat_1)
  (.seq (.trim [0, 3] (.block 0 (.loop [0, 3] b_regex_reader_cat_0)))
  (.seq (.seq (.ops o_regex_reader_cat_7)
  (.cond (.t 37) (.seq (.ops o_regex_reader_cat_8)
  .ret) .skip))
  (.seq (.ops o_regex_reader_cat_9)
  .ret)))))
def a_regex_reader_cat : AFn := { body := c_regex_reader_cat, res := [.tmp 2] }

-- (*dragoman/regex.reader).sees
def o_regex_reader_sees_0 : List AOp := [
  { dst := some 4, op := .asg (.c (.d (.bool false))) }]
def o_regex_reader_sees_1 : List AOp := [
  { dst := some 5, op := .mov (.t 0), may := false },
  { dst := some 6, op := .nilchk (.t 5), may := false },
  { dst := some 7, op := .fldA 1 (.t 6), may := false },
  { dst := some 8, op := .load none (.t 7), may := false },
  { dst := some 9, op := .mov (.t 0), may := false },
  { dst := some 10, op := .nilchk (.t 9), may := false },
  { dst := some 11, op := .fldA 0 (.t 10), may := false },
  { dst := some 12, op := .load none (.t 11), may := false },
  { dst := some 13, op := .lenS (.t 12), may := false },
  { dst := some 14, op := .bin .lss (.t 8) (.t 13) },
  { dst := some 15, op := .mov (.t 14) },
  { dst := some 16, op := .mov (.t 0), guard := some (15, true), may := false },
  { dst := some 17, op := .nilchk (.t 16), guard := some (15, true), may := false },
  { dst := some 18, op := .fldA 0 (.t 17), guard := some (15, true), may := false },
  { dst := some 19, op := .load none (.t 18), guard := some (15, true), may := false },
  { dst := some 20, op := .mov (.t 0), guard := some (15, true), may := false },
  { dst := some 21, op := .nilchk (.t 20), guard := some (15, true), may := false },
  { dst := some 22, op := .fldA 1 (.t 21), guard := some (15, true), may := false },
  { dst := some 23, op := .load none (.t 22), guard := some (15, true), may := false },
  { dst := some 24, op := .idxS (.t 19) (.t 23), guard := some (15, true), may := false },
  { dst := some 25, op := .mov (.t 1), guard := some (15, true), may := false },
  { dst := some 26, op := .bin .eql (.t 24) (.t 25), guard := some (15, true) },
  { dst := some 27, op := .pick (.t 15) (.t 26) (.c (.d (.bool false))) },
  { dst := some 4, op := .asg (.t 27) }]
def c_regex_reader_sees : AC :=
  (.seq (.ops o_regex_reader_sees_0)
  (.seq (.ops o_regex_reader_sees_1)
  .ret))
def a_regex_reader_sees : AFn := { body := c_regex_reader_sees, res := [.tmp 4] }

-- (*dragoman/regex.reader).put
def o_regex_reader_put_0 : List AOp := [
  { dst := some 3, op := .box (.t 1) },
  { dst := some 4, op := .asg (.c (.nat .i64 0)) }]
def o_regex_reader_put_1 : List AOp := [
  { dst := some 5, op := .mov (.t 0) },
  { dst := some 6, op := .nilchk (.t 5) },
  { dst := some 7, op := .fldA 3 (.t 6) },
  { dst := some 8, op := .load none (.t 7) },
  { dst := some 9, op := .len (.t 8) },
  { dst := some 10, op := .bin .geq (.t 9) (.c (.nat .i64 2000)) }]
def o_regex_reader_put_2 : List AOp := [
  { dst := some 11, op := .build [.nat .i64 0] [(0, 1, (.c (.nat .i64 6)))] },
  { dst := some 12, op := .mkifc 50 (.t 11) },
  { dst := none, op := .panic (.t 12) }]
def o_regex_reader_put_3 : List AOp := [
  { dst := some 13, op := .mov (.t 0), may := false },
  { dst := some 14, op := .mov (.t 0), may := false },
  { dst := some 15, op := .nilchk (.t 14), may := false },
  { dst := some 16, op := .fldA 3 (.t 15), may := false },
  { dst := some 17, op := .takeload (.t 16), may := false },
  { dst := some 18, op := .load (some 7) (.t 3), may := false },
  { dst := some 19, op := .mkls 7 [.nat .i64 0, .nat .u64 0, .nat .u64 0, .nat .u64 0, .nat .u64 0, .nat .i64 0, .nat .i64 0] [(0, 7, (.t 18))], may := false },
  { dst := some 20, op := .append 7 (.t 17) (.t 19), may := false },
  { dst := some 21, op := .nilchk (.t 13) },
  { dst := some 22, op := .fldA 3 (.t 21) },
  { dst := none, op := .store 1 (.t 22) (.t 20) }]
def o_regex_reader_put_4 : List AOp := [
  { dst := some 23, op := .mov (.t 0) },
  { dst := some 24, op := .nilchk (.t 23) },
  { dst := some 25, op := .fldA 3 (.t 24) },
  { dst := some 26, op := .load none (.t 25) },
  { dst := some 27, op := .len (.t 26) },
  { dst := some 28, op := .bin .sub (.t 27) (.c (.nat .i64 1)) },
  { dst := some 4, op := .asg (.t 28) }]
def c_regex_reader_put : AC :=
  (.seq (.ops o_regex_reader_put_0)
  (.seq (.seq (.ops o_regex_reader_put_1)
  (.cond (.t 10) (.ops o_regex_reader_put_2) .skip))
  (.seq (.ops o_regex_reader_put_3)
  (.seq (.ops o_regex_reader_put_4)
  .ret))))
def a_regex_reader_put : AFn := { body := c_regex_reader_put, res := [.tmp 4] }

-- (*dragoman/dragomanref05.parser).row
def o_ref05_parser_row_0 : List AOp := [
  { dst := some 2, op := .asg (.c (.nat .i64 0)) }]
def o_ref05_parser_row_1 : List AOp := [
  { dst := some 5, op := .mov (.t 0), may := false },
  { dst := some 6, op := .nilchk (.t 5), may := false },
  { dst := some 7, op := .fldA 1 (.t 6), may := false },
  { dst := some 8, op := .load none (.t 7), may := false },
  { dst := some 9, op := .mov (.t 0), may := false },
  { dst := some 10, op := .nilchk (.t 9), may := false },
  { dst := some 11, op := .fldA 0 (.t 10), may := false },
  { dst := some 12, op := .load none (.t 11), may := false },
  { dst := some 13, op := .lenS (.t 12), may := false },
  { dst := some 14, op := .bin .eql (.t 8) (.t 13) },
  { dst := some 15, op := .mov (.t 14) },
  { dst := some 16, op := .mov (.t 0), guard := some (15, false) },
  { dst := some 17, op := .call (.f f_ref05_parser_is) [.t 16, .c (.nat .u8 124)], guard := some (15, false) },
  { dst := some 18, op := .pick (.t 15) (.c (.d (.bool true))) (.t 17) },
  { dst := some 19, op := .mov (.t 18) },
  { dst := some 20, op := .mov (.t 0), guard := some (19, false) },
  { dst := some 21, op := .call (.f f_ref05_parser_is) [.t 20, .c (.nat .u8 41)], guard := some (19, false) },
  { dst := some 22, op := .pick (.t 19) (.c (.d (.bool true))) (.t 21) }]
def o_ref05_parser_row_2 : List AOp := [
  { dst := some 23, op := .mov (.t 0) },
  { dst := some 24, op := .build [.nat .u64 0, .nat .u64 0, .nat .u64 0, .nat .u64 0] [] },
  { dst := some 25, op := .call (.f f_ref05_parser_lay) [.t 23, .c (.nat .i64 0), .t 24, .c (.nat .i64 0), .c (.nat .i64 0)] },
  { dst := some 2, op := .asg (.t 25) }]
def o_ref05_parser_row_3 : List AOp := [
  { dst := some 26, op := .mov (.t 0) },
  { dst := some 27, op := .call (.f f_ref05_parser_piece) [.t 26] },
  { dst := some 3, op := .asg (.t 27) }]
def o_ref05_parser_row_4 : List AOp := [
  { dst := some 28, op := .mov (.t 0) },
  { dst := some 29, op := .nilchk (.t 28) },
  { dst := some 30, op := .fldA 4 (.t 29) },
  { dst := some 31, op := .load none (.t 30) },
  { dst := some 32, op := .bin .eql (.t 31) (.c (.nat .i64 0)) },
  { dst := some 33, op := .mov (.t 32) },
  { dst := some 34, op := .mov (.t 0), guard := some (33, true), may := false },
  { dst := some 35, op := .nilchk (.t 34), guard := some (33, true), may := false },
  { dst := some 36, op := .fldA 1 (.t 35), guard := some (33, true), may := false },
  { dst := some 37, op := .load none (.t 36), guard := some (33, true), may := false },
  { dst := some 38, op := .mov (.t 0), guard := some (33, true), may := false },
  { dst := some 39, op := .nilchk (.t 38), guard := some (33, true), may := false },
  { dst := some 40, op := .fldA 0 (.t 39), guard := some (33, true), may := false },
  { dst := some 41, op := .load none (.t 40), guard := some (33, true), may := false },
  { dst := some 42, op := .lenS (.t 41), guard := some (33, true), may := false },
  { dst := some 43, op := .bin .lss (.t 37) (.t 42), guard := some (33, true) },
  { dst := some 44, op := .pick (.t 33) (.t 43) (.c (.d (.bool false))) },
  { dst := some 45, op := .mov (.t 44) },
  { dst := some 46, op := .mov (.t 0), guard := some (45, true), may := false },
  { dst := some 47, op := .nilchk (.t 46), guard := some (45, true), may := false },
  { dst := some 48, op := .fldA 0 (.t 47), guard := some (45, true), may := false },
  { dst := some 49, op := .load none (.t 48), guard := some (45, true), may := false },
  { dst := some 50, op := .mov (.t 0), guard := some (45, true), may := false },
  { dst := some 51, op := .nilchk (.t 50), guard := some (45, true), may := false },
  { dst := some 52, op := .fldA 1 (.t 51), guard := some (45, true), may := false },
  { dst := some 53, op := .load none (.t 52), guard := some (45, true), may := false },
  { dst := some 54, op := .idxS (.t 49) (.t 53), guard := some (45, true) },
  { dst := some 55, op := .bin .neq (.t 54) (.c (.nat .u8 124)), guard := some (45, true) },
  { dst := some 56, op := .pick (.t 45) (.t 55) (.c (.d (.bool false))) },
  { dst := some 57, op := .mov (.t 56) },
  { dst := some 58, op := .mov (.t 0), guard := some (57, true), may := false },
  { dst := some 59, op := .nilchk (.t 58), guard := some (57, true), may := false },
  { dst := some 60, op := .fldA 0 (.t 59), guard := some (57, true), may := false },
  { dst := some 61, op := .load none (.t 60), guard := some (57, true), may := false },
  { dst := some 62, op := .mov (.t 0), guard := some (57, true), may := false },
  { dst := some 63, op := .nilchk (.t 62), guard := some (57, true), may := false },
  { dst := some 64, op := .fldA 1 (.t 63), guard := some (57, true), may := false },
  { dst := some 65, op := .load none (.t 64), guard := some (57, true), may := false },
  { dst := some 66, op := .idxS (.t 61) (.t 65), guard := some (57, true) },
  { dst := some 67, op := .bin .neq (.t 66) (.c (.nat .u8 41)), guard := some (57, true) },
  { dst := some 68, op := .pick (.t 57) (.t 67) (.c (.d (.bool false))) }]
def o_ref05_parser_row_5 : List AOp := [
  { dst := some 69, op := .mov (.t 0) },
  { dst := some 70, op := .call (.f f_ref05_parser_piece) [.t 69] },
  { dst := some 4, op := .asg (.t 70) }]
def o_ref05_parser_row_6 : List AOp := [
  { dst := some 71, op := .mov (.t 0) },
  { dst := some 72, op := .build [.nat .u64 0, .nat .u64 0, .nat .u64 0, .nat .u64 0] [] },
  { dst := some 73, op := .mov (.t 3) },
  { dst := some 74, op := .mov (.t 4) },
  { dst := some 75, op := .call (.f f_ref05_parser_lay) [.t 71, .c (.nat .i64 2), .t 72, .t 73, .t 74] },
  { dst := some 3, op := .asg (.t 75) }]
def b_ref05_parser_row_0 : AC := (.seq (.seq (.ops o_ref05_parser_row_4)
  (.cond (.t 68) .skip (.exit 0)))
  (.trim [0, 3] (.block 1 (.seq (.ops o_ref05_parser_row_5)
  (.ops o_ref05_parser_row_6)))))
def o_ref05_parser_row_7 : List AOp := [
  { dst := some 76, op := .mov (.t 3) },
  { dst := some 2, op := .asg (.t 76) }]
def c_ref05_parser_row : AC :=
  (.seq (.ops o_ref05_parser_row_0)
  (.seq (.seq (.ops o_ref05_parser_row_1)
  (.cond (.t 22) (.seq (.ops o_ref05_parser_row_2)
  .ret) .skip))
  (.seq (.ops o_ref05_parser_row_3)
  (.seq (.trim [3] (.block 0 (.loop [0, 3] b_ref05_parser_row_0)))
  (.seq (.ops o_ref05_parser_row_7)
  .ret)))))
def a_ref05_parser_row : AFn := { body := c_ref05_parser_row, res := [.tmp 2] }

-- (*dragoman/dragomanref05.parser).is
def o_ref05_parser_is_0 : List AOp := [
  { dst := some 4, op := .asg (.c (.d (.bool false))) }]
def o_ref05_parser_is_1 : List AOp := [
  { dst := some 5, op := .mov (.t 0) },
  { dst := some 6, op := .nilchk (.t 5) },
  { dst := some 7, op := .fldA 4 (.t 6) },
  { dst := some 8, op := .load none (.t 7) },
  { dst := some 9, op := .bin .eql (.t 8) (.c (.nat .i64 0)) },
  { dst := some 10, op := .mov (.t 9) },
  { dst := some 11, op := .mov (.t 0), guard := some (10, true), may := false },
  { dst := some 12, op := .nilchk (.t 11), guard := some (10, true), may := false },
  { dst := some 13, op := .fldA 1 (.t 12), guard := some (10, true), may := false },
  { dst := some 14, op := .load none (.t 13), guard := some (10, true), may := false },
  { dst := some 15, op := .mov (.t 0), guard := some (10, true), may := false },
  { dst := some 16, op := .nilchk (.t 15), guard := some (10, true), may := false },
  { dst := some 17, op := .fldA 0 (.t 16), guard := some (10, true), may := false },
  { dst := some 18, op := .load none (.t 17), guard := some (10, true), may := false },
  { dst := some 19, op := .lenS (.t 18), guard := some (10, true), may := false },
  { dst := some 20, op := .bin .lss (.t 14) (.t 19), guard := some (10, true) },
  { dst := some 21, op := .pick (.t 10) (.t 20) (.c (.d (.bool false))) },
  { dst := some 22, op := .mov (.t 21) },
  { dst := some 23, op := .mov (.t 0), guard := some (22, true), may := false },
  { dst := some 24, op := .nilchk (.t 23), guard := some (22, true), may := false },
  { dst := some 25, op := .fldA 0 (.t 24), guard := some (22, true), may := false },
  { dst := some 26, op := .load none (.t 25), guard := some (22, true), may := false },
  { dst := some 27, op := .mov (.t 0), guard := some (22, true), may := false },
  { dst := some 28, op := .nilchk (.t 27), guard := some (22, true), may := false },
  { dst := some 29, op := .fldA 1 (.t 28), guard := some (22, true), may := false },
  { dst := some 30, op := .load none (.t 29), guard := some (22, true), may := false },
  { dst := some 31, op := .idxS (.t 26) (.t 30), guard := some (22, true), may := false },
  { dst := some 32, op := .mov (.t 1), guard := some (22, true), may := false },
  { dst := some 33, op := .bin .eql (.t 31) (.t 32), guard := some (22, true) },
  { dst := some 34, op := .pick (.t 22) (.t 33) (.c (.d (.bool false))) },
  { dst := some 4, op := .asg (.t 34) }]
def c_ref05_parser_is : AC :=
  (.seq (.ops o_ref05_parser_is_0)
  (.seq (.ops o_ref05_parser_is_1)
  .ret))
def a_ref05_parser_is : AFn := { body := c_ref05_parser_is, res := [.tmp 4] }

-- (*dragoman/dragomanref05.parser).lay
def o_ref05_parser_lay_0 : List AOp := [
  { dst := some 7, op := .box (.t 2) },
  { dst := some 10, op := .asg (.c (.nat .i64 0)) }]
def o_ref05_parser_lay_1 : List AOp := [
  { dst := some 11, op := .mov (.t 0) },
  { dst := some 12, op := .nilchk (.t 11) },
  { dst := some 13, op := .fldA 4 (.t 12) },
  { dst := some 14, op := .load none (.t 13) },
  { dst := some 15, op := .bin .eql (.t 14) (.c (.nat .i64 0)) },
  { dst := some 16, op := .mov (.t 15) },
  { dst := some 17, op := .mov (.t 0), guard := some (16, true) },
  { dst := some 18, op := .nilchk (.t 17), guard := some (16, true) },
  { dst := some 19, op := .fldA 3 (.t 18), guard := some (16, true) },
  { dst := some 20, op := .load none (.t 19), guard := some (16, true) },
  { dst := some 21, op := .len (.t 20), guard := some (16, true) },
  { dst := some 22, op := .bin .eql (.t 21) (.c (.nat .i64 2000)), guard := some (16, true) },
  { dst := some 23, op := .pick (.t 16) (.t 22) (.c (.d (.bool false))) }]
def o_ref05_parser_lay_2 : List AOp := [
  { dst := some 24, op := .mov (.t 0) },
  { dst := some 25, op := .call (.f f_ref05_parser_fail) [.t 24, .c (.nat .i64 6)] }]
def o_ref05_parser_lay_3 : List AOp := [
  { dst := some 26, op := .mov (.t 0) },
  { dst := some 27, op := .nilchk (.t 26) },
  { dst := some 28, op := .fldA 4 (.t 27) },
  { dst := some 29, op := .load none (.t 28) },
  { dst := some 30, op := .bin .eql (.t 29) (.c (.nat .i64 0)) }]
def o_ref05_parser_lay_4 : List AOp := [
  { dst := some 31, op := .mov (.t 0), may := false },
  { dst := some 32, op := .mov (.t 0), may := false },
  { dst := some 33, op := .nilchk (.t 32), may := false },
  { dst := some 34, op := .fldA 3 (.t 33), may := false },
  { dst := some 35, op := .takeload (.t 34), may := false },
  { dst := some 36, op := .mov (.t 1), may := false },
  { dst := some 37, op := .load (some 4) (.t 7), may := false },
  { dst := some 38, op := .mov (.t 3), may := false },
  { dst := some 39, op := .mov (.t 4), may := false },
  { dst := some 40, op := .build [.nat .i64 0, .nat .i64 0] [(0, 1, (.t 38)), (1, 1, (.t 39))], may := false },
  { dst := some 41, op := .build [.nat .i64 0, .nat .u64 0, .nat .u64 0, .nat .u64 0, .nat .u64 0, .nat .i64 0, .nat .i64 0] [(0, 1, (.t 36)), (1, 4, (.t 37)), (5, 2, (.t 40))], may := false },
  { dst := some 42, op := .mkls 7 [.nat .i64 0, .nat .u64 0, .nat .u64 0, .nat .u64 0, .nat .u64 0, .nat .i64 0, .nat .i64 0] [(0, 7, (.t 41))], may := false },
  { dst := some 43, op := .append 7 (.t 35) (.t 42), may := false },
  { dst := some 44, op := .nilchk (.t 31) },
  { dst := some 45, op := .fldA 3 (.t 44) },
  { dst := none, op := .store 1 (.t 45) (.t 43) }]
def o_ref05_parser_lay_5 : List AOp := [
  { dst := some 46, op := .mov (.t 0) },
  { dst := some 47, op := .nilchk (.t 46) },
  { dst := some 48, op := .fldA 3 (.t 47) },
  { dst := some 49, op := .load none (.t 48) },
  { dst := some 50, op := .len (.t 49) },
  { dst := some 51, op := .bin .sub (.t 50) (.c (.nat .i64 1)) },
  { dst := some 10, op := .asg (.t 51) }]
def c_ref05_parser_lay : AC :=
  (.seq (.ops o_ref05_parser_lay_0)
  (.seq (.seq (.ops o_ref05_parser_lay_1)
  (.cond (.t 23) (.ops o_ref05_parser_lay_2) .skip))
  (.seq (.seq (.ops o_ref05_parser_lay_3)
  (.cond (.t 30) (.ops o_ref05_parser_lay_4) .skip))
  (.seq (.ops o_ref05_parser_lay_5)
  .ret))))
def a_ref05_parser_lay : AFn := { body := c_ref05_parser_lay, res := [.tmp 10] }

-- slices.Index[[]int,int]
def o_slices_Index_int_int_0 : List AOp := [
  { dst := some 4, op := .asg (.c (.nat .i64 0)) }]
def o_slices_Index_int_int_1 : List AOp := [
  { dst := some 6, op := .mov (.t 0) },
  { dst := some 7, op := .len (.t 6) },
  { dst := some 8, op := .mov (.c (.nat .i64 0)) }]
def o_slices_Index_int_int_2 : List AOp := [
  { dst := some 9, op := .bin .lss (.t 8) (.t 7) }]
def o_slices_Index_int_int_3 : List AOp := [
  { dst := some 10, op := .mov (.t 8) },
  { dst := some 5, op := .asg (.t 10) }]
def o_slices_Index_int_int_4 : List AOp := [
  { dst := some 11, op := .mov (.t 1) },
  { dst := some 12, op := .mov (.t 0) },
  { dst := some 13, op := .mov (.t 5) },
  { dst := some 14, op := .idxA none 1 (.t 12) (.t 13) },
  { dst := some 15, op := .load none (.t 14) },
  { dst := some 16, op := .bin .eql (.t 11) (.t 15) }]
def o_slices_Index_int_int_5 : List AOp := [
  { dst := some 17, op := .mov (.t 5) },
  { dst := some 4, op := .asg (.t 17) }]
def o_slices_Index_int_int_6 : List AOp := [
  { dst := some 18, op := .bin .add (.t 8) (.c (.nat .i64 1)) },
  { dst := some 8, op := .mov (.t 18) }]
def b_slices_Index_int_int_0 : AC := (.seq (.ops o_slices_Index_int_int_2)
  (.seq (.cond (.t 9) .skip (.exit 0))
  (.seq (.trim [0, 1, 7, 8] (.block 1 (.seq (.ops o_slices_Index_int_int_3)
  (.seq (.ops o_slices_Index_int_int_4)
  (.cond (.t 16) (.seq (.ops o_slices_Index_int_int_5)
  .ret) .skip)))))
  (.ops o_slices_Index_int_int_6))))
def o_slices_Index_int_int_7 : List AOp := [
  { dst := some 4, op := .asg (.c (.d (.int .i64 (-1)))) }]
def c_slices_Index_int_int : AC :=
  (.seq (.ops o_slices_Index_int_int_0)
  (.seq (.seq (.ops o_slices_Index_int_int_1)
  (.trim [] (.block 0 (.loop [0, 1, 7, 8] b_slices_Index_int_int_0))))
  (.seq (.ops o_slices_Index_int_int_7)
  .ret)))
def a_slices_Index_int_int : AFn := { body := c_slices_Index_int_int, res := [.tmp 4] }

-- dragoman/regex.dot
def o_regex_dot_0 : List AOp := [
  { dst := some 0, op := .alloc [.nat .u64 0, .nat .u64 0, .nat .u64 0, .nat .u64 0] }]
def o_regex_dot_1 : List AOp := [
  { dst := some 1, op := .call (.f f_class_One) [.c (.nat .u8 10)] },
  { dst := some 2, op := .call (.f f_class_Not) [.t 1] },
  { dst := none, op := .store 4 (.t 0) (.t 2) }]
def c_regex_dot : AC :=
  (.seq (.ops o_regex_dot_0)
  (.seq (.ops o_regex_dot_1)
  .ret))
def a_regex_dot : AFn := { body := c_regex_dot, res := [.cell 0 (some 4)] }

-- dragoman/class.Count
def o_class_Count_0 : List AOp := [
  { dst := some 1, op := .box (.t 0) },
  { dst := some 2, op := .asg (.c (.nat .i64 0)) }]
def o_class_Count_1 : List AOp := [
  { dst := some 3, op := .asg (.c (.nat .i64 0)) }]
def o_class_Count_2 : List AOp := [
  { dst := some 6, op := .load (some 4) (.t 1) },
  { dst := some 7, op := .mov (.c (.nat .i64 0)) }]
def o_class_Count_3 : List AOp := [
  { dst := some 8, op := .bin .lss (.t 7) (.c (.nat .i64 4)) }]
def o_class_Count_4 : List AOp := [
  { dst := some 9, op := .idxV 4 1 none (.t 6) (.t 7) },
  { dst := some 5, op := .asg (.t 9) }]
def o_class_Count_5 : List AOp := [
  { dst := some 10, op := .mov (.t 3) },
  { dst := some 11, op := .mov (.t 5) },
  { dst := some 12, op := .call (.f f_bits_OnesCount64) [.t 11] },
  { dst := some 13, op := .bin .add (.t 10) (.t 12) },
  { dst := some 3, op := .asg (.t 13) }]
def o_class_Count_6 : List AOp := [
  { dst := some 14, op := .bin .add (.t 7) (.c (.nat .i64 1)) },
  { dst := some 7, op := .mov (.t 14) }]
def b_class_Count_0 : AC := (.seq (.ops o_class_Count_3)
  (.seq (.cond (.t 8) .skip (.exit 0))
  (.seq (.trim [3, 6, 7] (.block 1 (.seq (.ops o_class_Count_4)
  (.ops o_class_Count_5))))
  (.ops o_class_Count_6))))
def o_class_Count_7 : List AOp := [
  { dst := some 15, op := .mov (.t 3) },
  { dst := some 2, op := .asg (.t 15) }]
def c_class_Count : AC :=
  (.seq (.ops o_class_Count_0)
  (.seq (.ops o_class_Count_1)
  (.seq (.seq (.ops o_class_Count_2)
  (.trim [3] (.block 0 (.loop [3, 6, 7] b_class_Count_0))))
  (.seq (.ops o_class_Count_7)
  .ret))))
def a_class_Count : AFn := { body := c_class_Count, res := [.tmp 2] }

-- dragoman/class.Text
def o_class_Text_0 : List AOp := [
  { dst := some 1, op := .box (.t 0) },
  { dst := some 2, op := .asg (.c (.d (.str []))) }]
def o_class_Text_1 : List AOp := [
  { dst := some 3, op := .alloc [.d (.str [])] },
  { dst := none, op := .store 1 (.t 3) (.c (.d (.str [91]))) }]
def o_class_Text_2 : List AOp := [
  { dst := some 6, op := .load (some 4) (.t 1) },
  { dst := some 7, op := .call (.f f_class_runs) [.t 6] }]
def o_class_Text_5 : List AOp := [
  { dst := some 10, op := .load none (.t 3), may := false },
  { dst := some 11, op := .mov (.t 4), may := false },
  { dst := some 12, op := .callZ (.f f_class_Plain) [.t 11], may := false },
  { dst := some 13, op := .bin .add (.t 10) (.t 12) },
  { dst := none, op := .store 1 (.t 3) (.t 13) }]
def o_class_Text_6 : List AOp := [
  { dst := some 15, op := .mov (.t 5) },
  { dst := some 16, op := .toInt .i64 (.t 15) },
  { dst := some 17, op := .mov (.t 4) },
  { dst := some 18, op := .toInt .i64 (.t 17) },
  { dst := some 19, op := .bin .add (.t 18) (.c (.nat .i64 1)) },
  { dst := some 20, op := .bin .gtr (.t 16) (.t 19) },
  { dst := some 14, op := .asg (.t 20) }]
def o_class_Text_7 : List AOp := [
  { dst := some 21, op := .load none (.t 3), may := false },
  { dst := some 22, op := .mov (.t 5), may := false },
  { dst := some 23, op := .callZ (.f f_class_Plain) [.t 22], may := false },
  { dst := some 24, op := .bin .add (.c (.d (.str [45]))) (.t 23), may := false },
  { dst := some 25, op := .bin .add (.t 21) (.t 24) },
  { dst := none, op := .store 1 (.t 3) (.t 25) }]
def o_class_Text_8 : List AOp := [
  { dst := some 27, op := .mov (.t 5) },
  { dst := some 28, op := .mov (.t 4) },
  { dst := some 29, op := .bin .gtr (.t 27) (.t 28) },
  { dst := some 26, op := .asg (.t 29) }]
def o_class_Text_9 : List AOp := [
  { dst := some 30, op := .load none (.t 3), may := false },
  { dst := some 31, op := .mov (.t 5), may := false },
  { dst := some 32, op := .callZ (.f f_class_Plain) [.t 31], may := false },
  { dst := some 33, op := .bin .add (.t 30) (.t 32) },
  { dst := none, op := .store 1 (.t 3) (.t 33) }]
def r_class_Text_0 : AC := (.trim [3] (.block 1 (.seq (.ops o_class_Text_5)
  (.trim [3] (.block 2 (.seq (.ops o_class_Text_6)
  (.cond (.t 14) (.ops o_class_Text_7) (.seq (.ops o_class_Text_8)
  (.cond (.t 26) (.ops o_class_Text_9) .skip)))))))))
def o_class_Text_10 : List AOp := [
  { dst := some 34, op := .load none (.t 3) },
  { dst := some 35, op := .bin .add (.t 34) (.c (.d (.str [93]))) },
  { dst := some 2, op := .asg (.t 35) }]
def c_class_Text : AC :=
  (.seq (.ops o_class_Text_0)
  (.seq (.ops o_class_Text_1)
  (.seq (.seq (.ops o_class_Text_2)
  (.trim [3] (.block 0 .hole)))
  (.seq (.ops o_class_Text_10)
  .ret))))
def a_class_Text : AFn := { body := c_class_Text, res := [.tmp 2] }

-- dragoman/dragomanref01.digit
def o_ref01_digit_0 : List AOp := [
  { dst := some 2, op := .asg (.c (.d (.str []))) }]
def o_ref01_digit_1 : List AOp := [
  { dst := some 3, op := .mov (.t 0) },
  { dst := some 4, op := .bin .lss (.t 3) (.c (.nat .u8 10)) }]
def o_ref01_digit_2 : List AOp := [
  { dst := some 5, op := .mov (.t 0) },
  { dst := some 6, op := .bin .add (.c (.nat .u8 48)) (.t 5) },
  { dst := some 7, op := .mkls 1 [.nat .u8 0] [(0, 1, (.t 6))] },
  { dst := some 8, op := .bytesStr (.t 7) },
  { dst := some 2, op := .asg (.t 8) }]
def o_ref01_digit_3 : List AOp := [
  { dst := some 9, op := .mov (.t 0) },
  { dst := some 10, op := .bin .add (.c (.nat .u8 87)) (.t 9) },
  { dst := some 11, op := .mkls 1 [.nat .u8 0] [(0, 1, (.t 10))] },
  { dst := some 12, op := .bytesStr (.t 11) },
  { dst := some 2, op := .asg (.t 12) }]
def c_ref01_digit : AC :=
  (.seq (.ops o_ref01_digit_0)
  (.seq (.seq (.ops o_ref01_digit_1)
  (.cond (.t 4) (.seq (.ops o_ref01_digit_2)
  .ret) .skip))
  (.seq (.ops o_ref01_digit_3)
  .ret)))
def a_ref01_digit : AFn := { body := c_ref01_digit, res := [.tmp 2] }

-- dragoman/dragomanref04.Has
def o_ref04_Has_0 : List AOp := [
  { dst := some 2, op := .box (.t 0) },
  { dst := some 4, op := .asg (.c (.d (.bool false))) }]
def o_ref04_Has_1 : List AOp := [
  { dst := some 5, op := .mov (.t 1) },
  { dst := some 6, op := .bin .quo (.t 5) (.c (.nat .u8 64)) },
  { dst := some 7, op := .idxA (some 4) 1 (.t 2) (.t 6) },
  { dst := some 8, op := .load none (.t 7) },
  { dst := some 9, op := .mov (.t 1) },
  { dst := some 10, op := .bin .rem (.t 9) (.c (.nat .u8 64)) },
  { dst := some 11, op := .toInt .u64 (.t 10) },
  { dst := some 12, op := .bin .shl (.c (.nat .u64 1)) (.t 11) },
  { dst := some 13, op := .bin .quo (.t 8) (.t 12) },
  { dst := some 14, op := .bin .rem (.t 13) (.c (.nat .u64 2)) },
  { dst := some 15, op := .bin .eql (.t 14) (.c (.nat .u64 1)) },
  { dst := some 4, op := .asg (.t 15) }]
def c_ref04_Has : AC :=
  (.seq (.ops o_ref04_Has_0)
  (.seq (.ops o_ref04_Has_1)
  .ret))
def a_ref04_Has : AFn := { body := c_ref04_Has, res := [.tmp 4] }

-- dragoman/class.Span
def o_class_Span_0 : List AOp := [
  { dst := some 4, op := .alloc [.nat .u64 0, .nat .u64 0, .nat .u64 0, .nat .u64 0] }]
def o_class_Span_1 : List AOp := [
  { dst := some 5, op := .alloc [.nat .u64 0, .nat .u64 0, .nat .u64 0, .nat .u64 0] }]
def o_class_Span_2 : List AOp := [
  { dst := some 7, op := .mov (.t 0) },
  { dst := some 8, op := .toInt .i64 (.t 7) },
  { dst := some 6, op := .asg (.t 8) }]
def o_class_Span_3 : List AOp := [
  { dst := some 9, op := .mov (.t 6) },
  { dst := some 10, op := .mov (.t 1) },
  { dst := some 11, op := .toInt .i64 (.t 10) },
  { dst := some 12, op := .bin .leq (.t 9) (.t 11) }]
def o_class_Span_5 : List AOp := [
  { dst := some 15, op := .mov (.t 6), may := false },
  { dst := some 16, op := .bin .quo (.t 15) (.c (.nat .i64 64)), may := false },
  { dst := some 17, op := .idxA (some 4) 1 (.t 5) (.t 16), may := false },
  { dst := some 18, op := .load none (.t 17), may := false },
  { dst := some 19, op := .mov (.t 6), may := false },
  { dst := some 20, op := .bin .rem (.t 19) (.c (.nat .i64 64)), may := false },
  { dst := some 21, op := .bin .shl (.c (.nat .u64 1)) (.t 20), may := false },
  { dst := some 22, op := .bin .or (.t 18) (.t 21) },
  { dst := some 23, op := .idxA (some 4) 1 (.t 5) (.t 16) },
  { dst := none, op := .store 1 (.t 23) (.t 22) }]
def o_class_Span_4 : List AOp := [
  { dst := some 13, op := .mov (.t 6) },
  { dst := some 14, op := .bin .add (.t 13) (.c (.nat .i64 1)) },
  { dst := some 6, op := .asg (.t 14) }]
def b_class_Span_0 : AC := (.seq (.seq (.ops o_class_Span_3)
  (.cond (.t 12) .skip (.exit 0)))
  (.seq (.trim [1, 4, 5, 6] (.block 1 (.ops o_class_Span_5)))
  (.ops o_class_Span_4)))
def o_class_Span_6 : List AOp := [
  { dst := some 24, op := .load (some 4) (.t 5) },
  { dst := none, op := .store 4 (.t 4) (.t 24) }]
def c_class_Span : AC :=
  (.seq (.ops o_class_Span_0)
  (.seq (.ops o_class_Span_1)
  (.seq (.seq (.ops o_class_Span_2)
  (.trim [4, 5] (.block 0 (.loop [1, 4, 5, 6] b_class_Span_0))))
  (.seq (.ops o_class_Span_6)
  .ret))))
def a_class_Span : AFn := { body := c_class_Span, res := [.cell 4 (some 4)] }

-- dragoman/dragomanref05.Dot
def o_ref05_Dot_0 : List AOp := [
  { dst := some 0, op := .alloc [.nat .u64 0, .nat .u64 0, .nat .u64 0, .nat .u64 0] }]
def o_ref05_Dot_1 : List AOp := [
  { dst := some 1, op := .call (.f f_ref04_One) [.c (.nat .u8 10)] },
  { dst := some 2, op := .call (.f f_ref04_Not) [.t 1] },
  { dst := none, op := .store 4 (.t 0) (.t 2) }]
def c_ref05_Dot : AC :=
  (.seq (.ops o_ref05_Dot_0)
  (.seq (.ops o_ref05_Dot_1)
  .ret))
def a_ref05_Dot : AFn := { body := c_ref05_Dot, res := [.cell 0 (some 4)] }

-- dragoman/dragomanref04.Count
def o_ref04_Count_0 : List AOp := [
  { dst := some 1, op := .box (.t 0) },
  { dst := some 2, op := .asg (.c (.nat .i64 0)) }]
def o_ref04_Count_1 : List AOp := [
  { dst := some 3, op := .asg (.c (.nat .i64 0)) }]
def o_ref04_Count_2 : List AOp := [
  { dst := some 4, op := .asg (.c (.nat .i64 0)) }]
def o_ref04_Count_3 : List AOp := [
  { dst := some 6, op := .mov (.t 4) },
  { dst := some 7, op := .bin .lss (.t 6) (.c (.nat .i64 256)) }]
def o_ref04_Count_5 : List AOp := [
  { dst := some 10, op := .load (some 4) (.t 1) },
  { dst := some 11, op := .mov (.t 4) },
  { dst := some 12, op := .toInt .u8 (.t 11) },
  { dst := some 13, op := .call (.f f_ref04_Has) [.t 10, .t 12] },
  { dst := some 5, op := .asg (.t 13) }]
def o_ref04_Count_6 : List AOp := [
  { dst := some 14, op := .mov (.t 5) }]
def o_ref04_Count_7 : List AOp := [
  { dst := some 15, op := .mov (.t 3) },
  { dst := some 16, op := .bin .add (.t 15) (.c (.nat .i64 1)) },
  { dst := some 3, op := .asg (.t 16) }]
def o_ref04_Count_4 : List AOp := [
  { dst := some 8, op := .mov (.t 4) },
  { dst := some 9, op := .bin .add (.t 8) (.c (.nat .i64 1)) },
  { dst := some 4, op := .asg (.t 9) }]
def b_ref04_Count_0 : AC := (.seq (.seq (.ops o_ref04_Count_3)
  (.cond (.t 7) .skip (.exit 0)))
  (.seq (.trim [1, 3, 4] (.block 1 (.seq (.ops o_ref04_Count_5)
  (.seq (.ops o_ref04_Count_6)
  (.cond (.t 14) (.ops o_ref04_Count_7) .skip)))))
  (.ops o_ref04_Count_4)))
def o_ref04_Count_8 : List AOp := [
  { dst := some 17, op := .mov (.t 3) },
  { dst := some 2, op := .asg (.t 17) }]
def c_ref04_Count : AC :=
  (.seq (.ops o_ref04_Count_0)
  (.seq (.ops o_ref04_Count_1)
  (.seq (.seq (.ops o_ref04_Count_2)
  (.trim [3] (.block 0 (.loop [1, 3, 4] b_ref04_Count_0))))
  (.seq (.ops o_ref04_Count_8)
  .ret))))
def a_ref04_Count : AFn := { body := c_ref04_Count, res := [.tmp 2] }

-- dragoman/dragomanref04.Text
def o_ref04_Text_0 : List AOp := [
  { dst := some 1, op := .box (.t 0) },
  { dst := some 2, op := .asg (.c (.d (.str []))) }]
def o_ref04_Text_1 : List AOp := [
  { dst := some 3, op := .asg (.c (.d (.str [91]))) }]
def o_ref04_Text_2 : List AOp := [
  { dst := some 4, op := .asg (.c (.d (.int .i64 (-1)))) }]
def o_ref04_Text_3 : List AOp := [
  { dst := some 5, op := .asg (.c (.nat .i64 0)) }]
def o_ref04_Text_4 : List AOp := [
  { dst := some 7, op := .mov (.t 5) },
  { dst := some 8, op := .bin .leq (.t 7) (.c (.nat .i64 256)) }]
def o_ref04_Text_6 : List AOp := [
  { dst := some 11, op := .mov (.t 5) },
  { dst := some 12, op := .bin .lss (.t 11) (.c (.nat .i64 256)) },
  { dst := some 13, op := .mov (.t 12) },
  { dst := some 14, op := .load (some 4) (.t 1), guard := some (13, true) },
  { dst := some 15, op := .mov (.t 5), guard := some (13, true) },
  { dst := some 16, op := .toInt .u8 (.t 15), guard := some (13, true) },
  { dst := some 17, op := .call (.f f_ref04_Has) [.t 14, .t 16], guard := some (13, true) },
  { dst := some 18, op := .pick (.t 13) (.t 17) (.c (.d (.bool false))) },
  { dst := some 6, op := .asg (.t 18) }]
def o_ref04_Text_7 : List AOp := [
  { dst := some 19, op := .mov (.t 6) },
  { dst := some 20, op := .mov (.t 19) },
  { dst := some 21, op := .mov (.t 4), guard := some (20, true) },
  { dst := some 22, op := .bin .lss (.t 21) (.c (.nat .i64 0)), guard := some (20, true) },
  { dst := some 23, op := .pick (.t 20) (.t 22) (.c (.d (.bool false))) }]
def o_ref04_Text_8 : List AOp := [
  { dst := some 24, op := .mov (.t 5) },
  { dst := some 4, op := .asg (.t 24) }]
def o_ref04_Text_9 : List AOp := [
  { dst := some 25, op := .mov (.t 6) },
  { dst := some 26, op := .un .not (.t 25) },
  { dst := some 27, op := .mov (.t 26) },
  { dst := some 28, op := .mov (.t 4), guard := some (27, true) },
  { dst := some 29, op := .bin .geq (.t 28) (.c (.nat .i64 0)), guard := some (27, true) },
  { dst := some 30, op := .pick (.t 27) (.t 29) (.c (.d (.bool false))) }]
def o_ref04_Text_10 : List AOp := [
  { dst := some 31, op := .mov (.t 3) },
  { dst := some 32, op := .mov (.t 4) },
  { dst := some 33, op := .toInt .u8 (.t 32) },
  { dst := some 34, op := .call (.f f_ref04_Plain) [.t 33] },
  { dst := some 35, op := .bin .add (.t 31) (.t 34) },
  { dst := some 3, op := .asg (.t 35) }]
def o_ref04_Text_11 : List AOp := [
  { dst := some 36, op := .mov (.t 5) },
  { dst := some 37, op := .mov (.t 4) },
  { dst := some 38, op := .bin .sub (.t 36) (.t 37) },
  { dst := some 39, op := .bin .gtr (.t 38) (.c (.nat .i64 2)) }]
def o_ref04_Text_12 : List AOp := [
  { dst := some 40, op := .mov (.t 3) },
  { dst := some 41, op := .bin .add (.t 40) (.c (.d (.str [45]))) },
  { dst := some 3, op := .asg (.t 41) }]
def o_ref04_Text_13 : List AOp := [
  { dst := some 42, op := .mov (.t 5) },
  { dst := some 43, op := .mov (.t 4) },
  { dst := some 44, op := .bin .sub (.t 42) (.t 43) },
  { dst := some 45, op := .bin .gtr (.t 44) (.c (.nat .i64 1)) }]
def o_ref04_Text_14 : List AOp := [
  { dst := some 46, op := .mov (.t 3) },
  { dst := some 47, op := .mov (.t 5) },
  { dst := some 48, op := .bin .sub (.t 47) (.c (.nat .i64 1)) },
  { dst := some 49, op := .toInt .u8 (.t 48) },
  { dst := some 50, op := .call (.f f_ref04_Plain) [.t 49] },
  { dst := some 51, op := .bin .add (.t 46) (.t 50) },
  { dst := some 3, op := .asg (.t 51) }]
def o_ref04_Text_15 : List AOp := [
  { dst := some 4, op := .asg (.c (.d (.int .i64 (-1)))) }]
def o_ref04_Text_5 : List AOp := [
  { dst := some 9, op := .mov (.t 5) },
  { dst := some 10, op := .bin .add (.t 9) (.c (.nat .i64 1)) },
  { dst := some 5, op := .asg (.t 10) }]
def b_ref04_Text_0 : AC := (.seq (.seq (.ops o_ref04_Text_4)
  (.cond (.t 8) .skip (.exit 0)))
  (.seq (.trim [1, 3, 4, 5] (.block 1 (.seq (.ops o_ref04_Text_6)
  (.seq (.seq (.ops o_ref04_Text_7)
  (.cond (.t 23) (.ops o_ref04_Text_8) .skip))
  (.seq (.ops o_ref04_Text_9)
  (.cond (.t 30) (.seq (.ops o_ref04_Text_10)
  (.seq (.seq (.ops o_ref04_Text_11)
  (.cond (.t 39) (.ops o_ref04_Text_12) .skip))
  (.seq (.seq (.ops o_ref04_Text_13)
  (.cond (.t 45) (.ops o_ref04_Text_14) .skip))
  (.ops o_ref04_Text_15)))) .skip))))))
  (.ops o_ref04_Text_5)))
def o_ref04_Text_16 : List AOp := [
  { dst := some 52, op := .mov (.t 3) },
  { dst := some 53, op := .bin .add (.t 52) (.c (.d (.str [93]))) },
  { dst := some 2, op := .asg (.t 53) }]
def c_ref04_Text : AC :=
  (.seq (.ops o_ref04_Text_0)
  (.seq (.ops o_ref04_Text_1)
  (.seq (.ops o_ref04_Text_2)
  (.seq (.seq (.ops o_ref04_Text_3)
  (.trim [3] (.block 0 (.loop [1, 3, 4, 5] b_ref04_Text_0))))
  (.seq (.ops o_ref04_Text_16)
  .ret)))))
def a_ref04_Text : AFn := { body := c_ref04_Text, res := [.tmp 2] }

-- dragoman/dragomanref05.inside
def o_ref05_inside_0 : List AOp := [
  { dst := some 8, op := .asg (.c (.d (.str []))) }]
def o_ref05_inside_1 : List AOp := [
  { dst := some 9, op := .mov (.t 0) },
  { dst := some 10, op := .mov (.t 1) },
  { dst := some 11, op := .idxA none 7 (.t 9) (.t 10) },
  { dst := some 12, op := .fldA 0 (.t 11) },
  { dst := some 13, op := .load none (.t 12) },
  { dst := some 14, op := .mov (.t 2) },
  { dst := some 15, op := .bin .eql (.t 13) (.t 14) },
  { dst := some 16, op := .mov (.t 15) },
  { dst := some 17, op := .mov (.t 0), guard := some (16, false) },
  { dst := some 18, op := .mov (.t 1), guard := some (16, false) },
  { dst := some 19, op := .idxA none 7 (.t 17) (.t 18), guard := some (16, false) },
  { dst := some 20, op := .fldA 0 (.t 19), guard := some (16, false) },
  { dst := some 21, op := .load none (.t 20), guard := some (16, false) },
  { dst := some 22, op := .mov (.t 3), guard := some (16, false) },
  { dst := some 23, op := .bin .eql (.t 21) (.t 22), guard := some (16, false) },
  { dst := some 24, op := .pick (.t 16) (.c (.d (.bool true))) (.t 23) }]
def o_ref05_inside_2 : List AOp := [
  { dst := some 25, op := .mov (.t 0) },
  { dst := some 26, op := .mov (.t 1) },
  { dst := some 27, op := .call (.f f_ref05_told) [.t 25, .t 26] },
  { dst := some 28, op := .bin .add (.c (.d (.str [40]))) (.t 27) },
  { dst := some 29, op := .bin .add (.t 28) (.c (.d (.str [41]))) },
  { dst := some 8, op := .asg (.t 29) }]
def o_ref05_inside_3 : List AOp := [
  { dst := some 30, op := .mov (.t 0) },
  { dst := some 31, op := .mov (.t 1) },
  { dst := some 32, op := .call (.f f_ref05_told) [.t 30, .t 31] },
  { dst := some 8, op := .asg (.t 32) }]
def c_ref05_inside : AC :=
  (.seq (.ops o_ref05_inside_0)
  (.seq (.seq (.ops o_ref05_inside_1)
  (.cond (.t 24) (.seq (.ops o_ref05_inside_2)
  .ret) .skip))
  (.seq (.ops o_ref05_inside_3)
  .ret)))
def a_ref05_inside : AFn := { body := c_ref05_inside, res := [.tmp 8] }

-- (*dragoman/regex.reader).piece
def o_regex_reader_piece_0 : List AOp := [
  { dst := some 2, op := .asg (.c (.nat .i64 0)) }]
def o_regex_reader_piece_1 : List AOp := [
  { dst := some 5, op := .mov (.t 0) },
  { dst := some 6, op := .call (.f f_regex_reader_atom) [.t 5] },
  { dst := some 3, op := .asg (.t 6) }]
def o_regex_reader_piece_2 : List AOp := [
  { dst := some 7, op := .mov (.t 0), may := false },
  { dst := some 8, op := .nilchk (.t 7), may := false },
  { dst := some 9, op := .fldA 1 (.t 8), may := false },
  { dst := some 10, op := .load none (.t 9), may := false },
  { dst := some 11, op := .mov (.t 0), may := false },
  { dst := some 12, op := .nilchk (.t 11), may := false },
  { dst := some 13, op := .fldA 0 (.t 12), may := false },
  { dst := some 14, op := .load none (.t 13), may := false },
  { dst := some 15, op := .lenS (.t 14), may := false },
  { dst := some 16, op := .bin .lss (.t 10) (.t 15) }]
def o_regex_reader_piece_3 : List AOp := [
  { dst := some 17, op := .mov (.t 0), may := false },
  { dst := some 18, op := .nilchk (.t 17), may := false },
  { dst := some 19, op := .fldA 0 (.t 18), may := false },
  { dst := some 20, op := .load none (.t 19), may := false },
  { dst := some 21, op := .mov (.t 0), may := false },
  { dst := some 22, op := .nilchk (.t 21), may := false },
  { dst := some 23, op := .fldA 1 (.t 22), may := false },
  { dst := some 24, op := .load none (.t 23), may := false },
  { dst := some 25, op := .idxS (.t 20) (.t 24) },
  { dst := some 26, op := .call (.f f_strings_IndexByte) [.c (.d (.str [42, 43, 63])), .t 25] },
  { dst := some 4, op := .asg (.t 26) }]
def o_regex_reader_piece_4 : List AOp := [
  { dst := some 27, op := .mov (.t 4) },
  { dst := some 28, op := .bin .lss (.t 27) (.c (.nat .i64 0)) }]
def o_regex_reader_piece_5 : List AOp := [
  { dst := some 29, op := .mov (.t 0) },
  { dst := some 30, op := .nilchk (.t 29) },
  { dst := some 31, op := .fldA 1 (.t 30) },
  { dst := some 32, op := .load none (.t 31) },
  { dst := some 33, op := .bin .add (.t 32) (.c (.nat .i64 1)) },
  { dst := some 34, op := .nilchk (.t 29) },
  { dst := some 35, op := .fldA 1 (.t 34) },
  { dst := none, op := .store 1 (.t 35) (.t 33) }]
def o_regex_reader_piece_6 : List AOp := [
  { dst := some 36, op := .mov (.t 0) },
  { dst := some 37, op := .mov (.t 4) },
  { dst := some 38, op := .bin .add (.c (.nat .i64 4)) (.t 37) },
  { dst := some 39, op := .mov (.t 3) },
  { dst := some 40, op := .build [.nat .i64 0, .nat .i64 0] [(0, 1, (.t 39))] },
  { dst := some 41, op := .build [.nat .i64 0, .nat .u64 0, .nat .u64 0, .nat .u64 0, .nat .u64 0, .nat .i64 0, .nat .i64 0] [(0, 1, (.t 38)), (5, 2, (.t 40))] },
  { dst := some 42, op := .call (.f f_regex_reader_put) [.t 36, .t 41] },
  { dst := some 3, op := .asg (.t 42) }]
def b_regex_reader_piece_0 : AC := (.seq (.seq (.ops o_regex_reader_piece_2)
  (.cond (.t 16) .skip (.exit 0)))
  (.trim [0, 3] (.block 1 (.seq (.ops o_regex_reader_piece_3)
  (.seq (.seq (.ops o_regex_reader_piece_4)
  (.cond (.t 28) (.exit 0) .skip))
  (.seq (.ops o_regex_reader_piece_5)
  (.ops o_regex_reader_piece_6)))))))
def o_regex_reader_piece_7 : List AOp := [
  { dst := some 43, op := .mov (.t 3) },
  { dst := some 2, op := .asg (.t 43) }]
def c_regex_reader_piece : AC :=
  (.seq (.ops o_regex_reader_piece_0)
  (.seq (.ops o_regex_reader_piece_1)
  (.seq (.trim [3] (.block 0 (.loop [0, 3] b_regex_reader_piece_0)))
  (.seq (.ops o_regex_reader_piece_7)
  .ret))))
def a_regex_reader_piece : AFn := { body := c_regex_reader_piece, res := [.tmp 2] }

-- (*dragoman/dragomanref05.parser).piece
def o_ref05_parser_piece_0 : List AOp := [
  { dst := some 2, op := .asg (.c (.nat .i64 0)) }]
def o_ref05_parser_piece_1 : List AOp := [
  { dst := some 6, op := .mov (.t 0) },
  { dst := some 7, op := .call (.f f_ref05_parser_atom) [.t 6] },
  { dst := some 3, op := .asg (.t 7) }]
def o_ref05_parser_piece_2 : List AOp := [
  { dst := some 4, op := .asg (.c (.d (.bool true))) }]
def o_ref05_parser_piece_3 : List AOp := [
  { dst := some 8, op := .mov (.t 4) }]
def o_ref05_parser_piece_4 : List AOp := [
  { dst := some 4, op := .asg (.c (.d (.bool false))) }]
def o_ref05_parser_piece_5 : List AOp := [
  { dst := some 5, op := .asg (.c (.nat .i64 0)) }]
def o_ref05_parser_piece_6 : List AOp := [
  { dst := some 9, op := .mov (.t 0) },
  { dst := some 10, op := .call (.f f_ref05_parser_is) [.t 9, .c (.nat .u8 42)] }]
def o_ref05_parser_piece_7 : List AOp := [
  { dst := some 5, op := .asg (.c (.nat .i64 4)) }]
def o_ref05_parser_piece_8 : List AOp := [
  { dst := some 11, op := .mov (.t 0) },
  { dst := some 12, op := .call (.f f_ref05_parser_is) [.t 11, .c (.nat .u8 43)] }]
def o_ref05_parser_piece_9 : List AOp := [
  { dst := some 5, op := .asg (.c (.nat .i64 5)) }]
def o_ref05_parser_piece_10 : List AOp := [
  { dst := some 13, op := .mov (.t 0) },
  { dst := some 14, op := .call (.f f_ref05_parser_is) [.t 13, .c (.nat .u8 63)] }]
def o_ref05_parser_piece_11 : List AOp := [
  { dst := some 5, op := .asg (.c (.nat .i64 6)) }]
def o_ref05_parser_piece_12 : List AOp := [
  { dst := some 15, op := .mov (.t 5) },
  { dst := some 16, op := .bin .gtr (.t 15) (.c (.nat .i64 0)) }]
def o_ref05_parser_piece_13 : List AOp := [
  { dst := some 17, op := .mov (.t 0) },
  { dst := some 18, op := .nilchk (.t 17) },
  { dst := some 19, op := .fldA 1 (.t 18) },
  { dst := some 20, op := .load none (.t 19) },
  { dst := some 21, op := .bin .add (.t 20) (.c (.nat .i64 1)) },
  { dst := some 22, op := .nilchk (.t 17) },
  { dst := some 23, op := .fldA 1 (.t 22) },
  { dst := none, op := .store 1 (.t 23) (.t 21) }]
def o_ref05_parser_piece_14 : List AOp := [
  { dst := some 24, op := .mov (.t 0) },
  { dst := some 25, op := .mov (.t 5) },
  { dst := some 26, op := .build [.nat .u64 0, .nat .u64 0, .nat .u64 0, .nat .u64 0] [] },
  { dst := some 27, op := .mov (.t 3) },
  { dst := some 28, op := .call (.f f_ref05_parser_lay) [.t 24, .t 25, .t 26, .t 27, .c (.nat .i64 0)] },
  { dst := some 3, op := .asg (.t 28) }]
def o_ref05_parser_piece_15 : List AOp := [
  { dst := some 4, op := .asg (.c (.d (.bool true))) }]
def b_ref05_parser_piece_0 : AC := (.seq (.seq (.ops o_ref05_parser_piece_3)
  (.cond (.t 8) .skip (.exit 0)))
  (.trim [0, 3, 4] (.block 1 (.seq (.ops o_ref05_parser_piece_4)
  (.seq (.ops o_ref05_parser_piece_5)
  (.seq (.seq (.ops o_ref05_parser_piece_6)
  (.cond (.t 10) (.ops o_ref05_parser_piece_7) .skip))
  (.seq (.seq (.ops o_ref05_parser_piece_8)
  (.cond (.t 12) (.ops o_ref05_parser_piece_9) .skip))
  (.seq (.seq (.ops o_ref05_parser_piece_10)
  (.cond (.t 14) (.ops o_ref05_parser_piece_11) .skip))
  (.seq (.ops o_ref05_parser_piece_12)
  (.cond (.t 16) (.seq (.ops o_ref05_parser_piece_13)
  (.seq (.ops o_ref05_parser_piece_14)
  (.ops o_ref05_parser_piece_15))) .skip))))))))))
def o_ref05_parser_piece_16 : List AOp := [
  { dst := some 29, op := .mov (.t 3) },
  { dst := some 2, op := .asg (.t 29) }]
def c_ref05_parser_piece : AC :=
  (.seq (.ops o_ref05_parser_piece_0)
  (.seq (.ops o_ref05_parser_piece_1)
  (.seq (.ops o_ref05_parser_piece_2)
  (.seq (.trim [3] (.block 0 (.loop [0, 3, 4] b_ref05_parser_piece_0)))
  (.seq (.ops o_ref05_parser_piece_16)
  .ret)))))
def a_ref05_parser_piece : AFn := { body := c_ref05_parser_piece, res := [.tmp 2] }

-- dragoman/class.Not
def o_class_Not_0 : List AOp := [
  { dst := some 1, op := .box (.t 0) },
  { dst := some 2, op := .alloc [.nat .u64 0, .nat .u64 0, .nat .u64 0, .nat .u64 0] }]
def o_class_Not_1 : List AOp := [
  { dst := some 4, op := .mov (.c (.nat .i64 0)) }]
def o_class_Not_2 : List AOp := [
  { dst := some 5, op := .bin .lss (.t 4) (.c (.nat .i64 4)) }]
def o_class_Not_3 : List AOp := [
  { dst := some 6, op := .mov (.t 4) },
  { dst := some 3, op := .asg (.t 6) }]
def o_class_Not_4 : List AOp := [
  { dst := some 7, op := .mov (.t 3) },
  { dst := some 8, op := .mov (.t 3) },
  { dst := some 9, op := .idxA (some 4) 1 (.t 1) (.t 8) },
  { dst := some 10, op := .load none (.t 9) },
  { dst := some 11, op := .un .xor (.t 10) },
  { dst := some 12, op := .idxA (some 4) 1 (.t 1) (.t 7) },
  { dst := none, op := .store 1 (.t 12) (.t 11) }]
def o_class_Not_5 : List AOp := [
  { dst := some 13, op := .bin .add (.t 4) (.c (.nat .i64 1)) },
  { dst := some 4, op := .mov (.t 13) }]
def b_class_Not_0 : AC := (.seq (.ops o_class_Not_2)
  (.seq (.cond (.t 5) .skip (.exit 0))
  (.seq (.trim [1, 2, 4] (.block 1 (.seq (.ops o_class_Not_3)
  (.ops o_class_Not_4))))
  (.ops o_class_Not_5))))
def o_class_Not_6 : List AOp := [
  { dst := some 14, op := .load (some 4) (.t 1) },
  { dst := none, op := .store 4 (.t 2) (.t 14) }]
def c_class_Not : AC :=
  (.seq (.ops o_class_Not_0)
  (.seq (.seq (.ops o_class_Not_1)
  (.trim [1, 2] (.block 0 (.loop [1, 2, 4] b_class_Not_0))))
  (.seq (.ops o_class_Not_6)
  .ret)))
def a_class_Not : AFn := { body := c_class_Not, res := [.cell 2 (some 4)] }

-- math/bits.OnesCount64
def o_bits_OnesCount64_0 : List AOp := [
  { dst := some 2, op := .asg (.c (.nat .i64 0)) }]
def o_bits_OnesCount64_1 : List AOp := [
  { dst := some 3, op := .mov (.t 0) },
  { dst := some 4, op := .bin .shr (.t 3) (.c (.nat .u64 1)) },
  { dst := some 5, op := .bin .and (.t 4) (.c (.nat .u64 6148914691236517205)) },
  { dst := some 6, op := .mov (.t 0) },
  { dst := some 7, op := .bin .and (.t 6) (.c (.nat .u64 6148914691236517205)) },
  { dst := some 8, op := .bin .add (.t 5) (.t 7) },
  { dst := some 0, op := .asg (.t 8) }]
def o_bits_OnesCount64_2 : List AOp := [
  { dst := some 9, op := .mov (.t 0) },
  { dst := some 10, op := .bin .shr (.t 9) (.c (.nat .u64 2)) },
  { dst := some 11, op := .bin .and (.t 10) (.c (.nat .u64 3689348814741910323)) },
  { dst := some 12, op := .mov (.t 0) },
  { dst := some 13, op := .bin .and (.t 12) (.c (.nat .u64 3689348814741910323)) },
  { dst := some 14, op := .bin .add (.t 11) (.t 13) },
  { dst := some 0, op := .asg (.t 14) }]
def o_bits_OnesCount64_3 : List AOp := [
  { dst := some 15, op := .mov (.t 0) },
  { dst := some 16, op := .bin .shr (.t 15) (.c (.nat .u64 4)) },
  { dst := some 17, op := .mov (.t 0) },
  { dst := some 18, op := .bin .add (.t 16) (.t 17) },
  { dst := some 19, op := .bin .and (.t 18) (.c (.nat .u64 1085102592571150095)) },
  { dst := some 0, op := .asg (.t 19) }]
def o_bits_OnesCount64_4 : List AOp := [
  { dst := some 20, op := .mov (.t 0) },
  { dst := some 21, op := .mov (.t 0) },
  { dst := some 22, op := .bin .shr (.t 21) (.c (.nat .u64 8)) },
  { dst := some 23, op := .bin .add (.t 20) (.t 22) },
  { dst := some 0, op := .asg (.t 23) }]
def o_bits_OnesCount64_5 : List AOp := [
  { dst := some 24, op := .mov (.t 0) },
  { dst := some 25, op := .mov (.t 0) },
  { dst := some 26, op := .bin .shr (.t 25) (.c (.nat .u64 16)) },
  { dst := some 27, op := .bin .add (.t 24) (.t 26) },
  { dst := some 0, op := .asg (.t 27) }]
def o_bits_OnesCount64_6 : List AOp := [
  { dst := some 28, op := .mov (.t 0) },
  { dst := some 29, op := .mov (.t 0) },
  { dst := some 30, op := .bin .shr (.t 29) (.c (.nat .u64 32)) },
  { dst := some 31, op := .bin .add (.t 28) (.t 30) },
  { dst := some 0, op := .asg (.t 31) }]
def o_bits_OnesCount64_7 : List AOp := [
  { dst := some 32, op := .mov (.t 0) },
  { dst := some 33, op := .toInt .i64 (.t 32) },
  { dst := some 34, op := .bin .and (.t 33) (.c (.nat .i64 127)) },
  { dst := some 2, op := .asg (.t 34) }]
def c_bits_OnesCount64 : AC :=
  (.seq (.ops o_bits_OnesCount64_0)
  (.seq (.ops o_bits_OnesCount64_1)
  (.seq (.ops o_bits_OnesCount64_2)
  (.seq (.ops o_bits_OnesCount64_3)
  (.seq (.ops o_bits_OnesCount64_4)
  (.seq (.ops o_bits_OnesCount64_5)
  (.seq (.ops o_bits_OnesCount64_6)
  (.seq (.ops o_bits_OnesCount64_7)
  .ret))))))))
def a_bits_OnesCount64 : AFn := { body := c_bits_OnesCount64, res := [.tmp 2] }

-- dragoman/class.runs
def o_class_runs_0 : List AOp := [
  { dst := some 1, op := .box (.t 0) },
  { dst := some 2, op := .asg (.c (.d .nilF)) }]
def o_class_runs_1 : List AOp := [
  { dst := some 3, op := .mkfn (.func f_class_runs_1) [] [.t 1] },
  { dst := some 2, op := .asg (.t 3) }]
def c_class_runs : AC :=
  (.seq (.ops o_class_runs_0)
  (.seq (.ops o_class_runs_1)
  .ret))
def a_class_runs : AFn := { body := c_class_runs, res := [.tmp 2] }

-- dragoman/class.Plain
def o_class_Plain_0 : List AOp := [
  { dst := some 2, op := .asg (.c (.d (.str []))) }]
def o_class_Plain_1 : List AOp := [
  { dst := some 3, op := .mov (.t 0) },
  { dst := some 4, op := .call (.f f_class_isWord) [.t 3] }]
def o_class_Plain_2 : List AOp := [
  { dst := some 5, op := .mov (.t 0) },
  { dst := some 6, op := .mkls 1 [.nat .u8 0] [(0, 1, (.t 5))] },
  { dst := some 7, op := .bytesStr (.t 6) },
  { dst := some 2, op := .asg (.t 7) }]
def o_class_Plain_3 : List AOp := [
  { dst := some 8, op := .mov (.t 0) },
  { dst := some 9, op := .mkls 1 [.nat .u8 0] [(0, 1, (.t 8))] },
  { dst := some 10, op := .bytesStr (.t 9) },
  { dst := some 11, op := .call (.f f_hex_Hex) [.t 10] },
  { dst := some 12, op := .bin .add (.c (.d (.str [92]))) (.t 11) },
  { dst := some 2, op := .asg (.t 12) }]
def c_class_Plain : AC :=
  (.seq (.ops o_class_Plain_0)
  (.seq (.seq (.ops o_class_Plain_1)
  (.cond (.t 4) (.seq (.ops o_class_Plain_2)
  .ret) .skip))
  (.seq (.ops o_class_Plain_3)
  .ret)))
def a_class_Plain : AFn := { body := c_class_Plain, res := [.tmp 2] }

-- dragoman/dragomanref04.Not
def o_ref04_Not_0 : List AOp := [
  { dst := some 1, op := .box (.t 0) },
  { dst := some 2, op := .alloc [.nat .u64 0, .nat .u64 0, .nat .u64 0, .nat .u64 0] }]
def o_ref04_Not_1 : List AOp := [
  { dst := some 6, op := .build [.nat .u64 0, .nat .u64 0, .nat .u64 0, .nat .u64 0] [] },
  { dst := some 3, op := .alloc [.nat .u64 0, .nat .u64 0, .nat .u64 0, .nat .u64 0] },
  { dst := none, op := .store 4 (.t 3) (.t 6) }]
def o_ref04_Not_2 : List AOp := [
  { dst := some 4, op := .asg (.c (.nat .i64 0)) }]
def o_ref04_Not_3 : List AOp := [
  { dst := some 7, op := .mov (.t 4) },
  { dst := some 8, op := .bin .lss (.t 7) (.c (.nat .i64 256)) }]
def o_ref04_Not_5 : List AOp := [
  { dst := some 11, op := .load (some 4) (.t 1) },
  { dst := some 12, op := .mov (.t 4) },
  { dst := some 13, op := .toInt .u8 (.t 12) },
  { dst := some 14, op := .call (.f f_ref04_Has) [.t 11, .t 13] },
  { dst := some 5, op := .asg (.t 14) }]
def o_ref04_Not_6 : List AOp := [
  { dst := some 15, op := .mov (.t 5) },
  { dst := some 16, op := .un .not (.t 15) }]
def o_ref04_Not_7 : List AOp := [
  { dst := some 17, op := .load (some 4) (.t 3) },
  { dst := some 18, op := .mov (.t 4) },
  { dst := some 19, op := .toInt .u8 (.t 18) },
  { dst := some 20, op := .call (.f f_ref04_with) [.t 17, .t 19] },
  { dst := none, op := .store 4 (.t 3) (.t 20) }]
def o_ref04_Not_4 : List AOp := [
  { dst := some 9, op := .mov (.t 4) },
  { dst := some 10, op := .bin .add (.t 9) (.c (.nat .i64 1)) },
  { dst := some 4, op := .asg (.t 10) }]
def b_ref04_Not_0 : AC := (.seq (.seq (.ops o_ref04_Not_3)
  (.cond (.t 8) .skip (.exit 0)))
  (.seq (.trim [1, 2, 3, 4] (.block 1 (.seq (.ops o_ref04_Not_5)
  (.seq (.ops o_ref04_Not_6)
  (.cond (.t 16) (.ops o_ref04_Not_7) .skip)))))
  (.ops o_ref04_Not_4)))
def o_ref04_Not_8 : List AOp := [
  { dst := some 21, op := .load (some 4) (.t 3) },
  { dst := none, op := .store 4 (.t 2) (.t 21) }]
def c_ref04_Not : AC :=
  (.seq (.ops o_ref04_Not_0)
  (.seq (.ops o_ref04_Not_1)
  (.seq (.seq (.ops o_ref04_Not_2)
  (.trim [2, 3] (.block 0 (.loop [1, 2, 3, 4] b_ref04_Not_0))))
  (.seq (.ops o_ref04_Not_8)
  .ret))))
def a_ref04_Not : AFn := { body := c_ref04_Not, res := [.cell 2 (some 4)] }

-- (*dragoman/regex.reader).atom
def o_regex_reader_atom_0 : List AOp := [
  { dst := some 2, op := .asg (.c (.nat .i64 0)) }]
def o_regex_reader_atom_1 : List AOp := [
  { dst := some 12, op := .mov (.t 0), may := false },
  { dst := some 13, op := .nilchk (.t 12), may := false },
  { dst := some 14, op := .fldA 0 (.t 13), may := false },
  { dst := some 15, op := .load none (.t 14), may := false },
  { dst := some 16, op := .mov (.t 0), may := false },
  { dst := some 17, op := .nilchk (.t 16), may := false },
  { dst := some 18, op := .fldA 1 (.t 17), may := false },
  { dst := some 19, op := .load none (.t 18), may := false },
  { dst := some 20, op := .idxS (.t 15) (.t 19) },
  { dst := some 3, op := .asg (.t 20) }]
def o_regex_reader_atom_2 : List AOp := [
  { dst := some 21, op := .build [.nat .i64 0, .nat .u64 0, .nat .u64 0, .nat .u64 0, .nat .u64 0, .nat .i64 0, .nat .i64 0] [(0, 1, (.c (.nat .i64 1)))] },
  { dst := some 4, op := .alloc [.nat .i64 0, .nat .u64 0, .nat .u64 0, .nat .u64 0, .nat .u64 0, .nat .i64 0, .nat .i64 0] },
  { dst := none, op := .store 7 (.t 4) (.t 21) }]
def o_regex_reader_atom_3 : List AOp := [
  { dst := some 5, op := .asg (.c (.nat .i64 1)) }]
def o_regex_reader_atom_8 : List AOp := [
  { dst := some 45, op := .mov (.t 3) },
  { dst := some 46, op := .bin .eql (.t 45) (.c (.nat .u8 40)) },
  { dst := some 44, op := .asg (.t 46) }]
def o_regex_reader_atom_9 : List AOp := [
  { dst := some 47, op := .mov (.t 0) },
  { dst := some 48, op := .call (.f f_regex_reader_group) [.t 47] },
  { dst := some 2, op := .asg (.t 48) }]
def o_regex_reader_atom_10 : List AOp := [
  { dst := some 50, op := .mov (.t 3) },
  { dst := some 51, op := .bin .eql (.t 50) (.c (.nat .u8 46)) },
  { dst := some 49, op := .asg (.t 51) }]
def o_regex_reader_atom_11 : List AOp := [
  { dst := some 52, op := .call (.f f_regex_dot) [] },
  { dst := some 53, op := .fldA 1 (.t 4) },
  { dst := none, op := .store 4 (.t 53) (.t 52) }]
def o_regex_reader_atom_12 : List AOp := [
  { dst := some 55, op := .mov (.t 3) },
  { dst := some 56, op := .bin .eql (.t 55) (.c (.nat .u8 94)) },
  { dst := some 54, op := .asg (.t 56) }]
def o_regex_reader_atom_13 : List AOp := [
  { dst := some 57, op := .build [.nat .i64 0, .nat .u64 0, .nat .u64 0, .nat .u64 0, .nat .u64 0, .nat .i64 0, .nat .i64 0] [(0, 1, (.c (.nat .i64 7)))] },
  { dst := none, op := .store 7 (.t 4) (.t 57) }]
def o_regex_reader_atom_14 : List AOp := [
  { dst := some 59, op := .mov (.t 3) },
  { dst := some 60, op := .bin .eql (.t 59) (.c (.nat .u8 36)) },
  { dst := some 58, op := .asg (.t 60) }]
def o_regex_reader_atom_15 : List AOp := [
  { dst := some 61, op := .build [.nat .i64 0, .nat .u64 0, .nat .u64 0, .nat .u64 0, .nat .u64 0, .nat .i64 0, .nat .i64 0] [(0, 1, (.c (.nat .i64 8)))] },
  { dst := none, op := .store 7 (.t 4) (.t 61) }]
def o_regex_reader_atom_16 : List AOp := [
  { dst := some 63, op := .mov (.t 3) },
  { dst := some 64, op := .bin .eql (.t 63) (.c (.nat .u8 91)) },
  { dst := some 62, op := .asg (.t 64) }]
def o_regex_reader_atom_17 : List AOp := [
  { dst := some 66, op := .mov (.t 0), may := false },
  { dst := some 67, op := .nilchk (.t 66), may := false },
  { dst := some 68, op := .fldA 0 (.t 67), may := false },
  { dst := some 69, op := .load none (.t 68), may := false },
  { dst := some 70, op := .mov (.t 0), may := false },
  { dst := some 71, op := .nilchk (.t 70), may := false },
  { dst := some 72, op := .fldA 1 (.t 71), may := false },
  { dst := some 73, op := .load none (.t 72), may := false },
  { dst := some 74, op := .sliceS (.t 69) (some (.t 73)) none, may := false },
  { dst := some 75, op := .callZ (.f f_class_Read) [.t 74], may := false },
  { dst := some 65, op := .mov (.t 75), may := false },
  { dst := some 76, op := .extr (.t 65) 0, may := false },
  { dst := some 77, op := .extr (.t 65) 1, may := false },
  { dst := some 78, op := .extr (.t 65) 2, may := false },
  { dst := some 6, op := .alloc [.nat .u64 0, .nat .u64 0, .nat .u64 0, .nat .u64 0], may := false },
  { dst := none, op := .store 4 (.t 6) (.t 76), may := false },
  { dst := some 7, op := .asg (.t 77), may := false },
  { dst := some 8, op := .asg (.t 78) }]
def o_regex_reader_atom_18 : List AOp := [
  { dst := some 79, op := .mov (.t 8) },
  { dst := some 80, op := .bin .neq (.t 79) (.c (.nat .i64 0)) }]
def o_regex_reader_atom_19 : List AOp := [
  { dst := some 81, op := .build [.nat .i64 0] [(0, 1, (.c (.nat .i64 9)))] },
  { dst := some 82, op := .mkifc 50 (.t 81) },
  { dst := none, op := .panic (.t 82) }]
def o_regex_reader_atom_20 : List AOp := [
  { dst := some 83, op := .load (some 4) (.t 6) },
  { dst := some 84, op := .mov (.t 7) },
  { dst := some 85, op := .fldA 1 (.t 4) },
  { dst := none, op := .store 4 (.t 85) (.t 83) },
  { dst := some 5, op := .asg (.t 84) }]
def o_regex_reader_atom_21 : List AOp := [
  { dst := some 87, op := .mov (.t 3) },
  { dst := some 88, op := .call (.f f_strings_IndexByte) [.c (.d (.str [42, 43, 63, 41, 124, 123, 125, 47])), .t 87] },
  { dst := some 89, op := .bin .geq (.t 88) (.c (.nat .i64 0)) },
  { dst := some 86, op := .asg (.t 89) }]
def o_regex_reader_atom_22 : List AOp := [
  { dst := some 90, op := .build [.nat .i64 0] [(0, 1, (.c (.nat .i64 9)))] },
  { dst := some 91, op := .mkifc 50 (.t 90) },
  { dst := none, op := .panic (.t 91) }]
def o_regex_reader_atom_4 : List AOp := [
  { dst := some 23, op := .mov (.t 0), may := false },
  { dst := some 24, op := .nilchk (.t 23), may := false },
  { dst := some 25, op := .fldA 0 (.t 24), may := false },
  { dst := some 26, op := .load none (.t 25), may := false },
  { dst := some 27, op := .mov (.t 0), may := false },
  { dst := some 28, op := .nilchk (.t 27), may := false },
  { dst := some 29, op := .fldA 1 (.t 28), may := false },
  { dst := some 30, op := .load none (.t 29), may := false },
  { dst := some 31, op := .sliceS (.t 26) (some (.t 30)) none },
  { dst := some 32, op := .call (.f f_class_Sign) [.t 31] },
  { dst := some 22, op := .mov (.t 32) },
  { dst := some 33, op := .extr (.t 22) 0, may := false },
  { dst := some 34, op := .extr (.t 22) 1, may := false },
  { dst := some 35, op := .extr (.t 22) 2, may := false },
  { dst := some 9, op := .asg (.t 33), may := false },
  { dst := some 10, op := .asg (.t 34), may := false },
  { dst := some 11, op := .asg (.t 35) }]
def o_regex_reader_atom_5 : List AOp := [
  { dst := some 36, op := .mov (.t 11) },
  { dst := some 37, op := .bin .neq (.t 36) (.c (.nat .i64 0)) }]
def o_regex_reader_atom_6 : List AOp := [
  { dst := some 38, op := .build [.nat .i64 0] [(0, 1, (.c (.nat .i64 9)))] },
  { dst := some 39, op := .mkifc 50 (.t 38) },
  { dst := none, op := .panic (.t 39) }]
def o_regex_reader_atom_7 : List AOp := [
  { dst := some 40, op := .mov (.t 9) },
  { dst := some 41, op := .call (.f f_class_One) [.t 40] },
  { dst := some 42, op := .mov (.t 10) },
  { dst := some 43, op := .fldA 1 (.t 4) },
  { dst := none, op := .store 4 (.t 43) (.t 41) },
  { dst := some 5, op := .asg (.t 42) }]
def o_regex_reader_atom_23 : List AOp := [
  { dst := some 92, op := .mov (.t 0) },
  { dst := some 93, op := .nilchk (.t 92) },
  { dst := some 94, op := .fldA 1 (.t 93) },
  { dst := some 95, op := .load none (.t 94) },
  { dst := some 96, op := .mov (.t 5) },
  { dst := some 97, op := .bin .add (.t 95) (.t 96) },
  { dst := some 98, op := .nilchk (.t 92) },
  { dst := some 99, op := .fldA 1 (.t 98) },
  { dst := none, op := .store 1 (.t 99) (.t 97) }]
def o_regex_reader_atom_24 : List AOp := [
  { dst := some 100, op := .mov (.t 0) },
  { dst := some 101, op := .load (some 7) (.t 4) },
  { dst := some 102, op := .call (.f f_regex_reader_put) [.t 100, .t 101] },
  { dst := some 2, op := .asg (.t 102) }]
def c_regex_reader_atom : AC :=
  (.seq (.ops o_regex_reader_atom_0)
  (.seq (.ops o_regex_reader_atom_1)
  (.seq (.ops o_regex_reader_atom_2)
  (.seq (.ops o_regex_reader_atom_3)
  (.seq (.trim [0, 4, 5] (.block 0 (.seq (.ops o_regex_reader_atom_8)
  (.cond (.t 44) (.seq (.ops o_regex_reader_atom_9)
  .ret) (.seq (.ops o_regex_reader_atom_10)
  (.cond (.t 49) (.ops o_regex_reader_atom_11) (.seq (.ops o_regex_reader_atom_12)
  (.cond (.t 54) (.ops o_regex_reader_atom_13) (.seq (.ops o_regex_reader_atom_14)
  (.cond (.t 58) (.ops o_regex_reader_atom_15) (.seq (.ops o_regex_reader_atom_16)
  (.cond (.t 62) (.seq (.ops o_regex_reader_atom_17)
  (.seq (.seq (.ops o_regex_reader_atom_18)
  (.cond (.t 80) (.ops o_regex_reader_atom_19) .skip))
  (.ops o_regex_reader_atom_20))) (.seq (.ops o_regex_reader_atom_21)
  (.cond (.t 86) (.ops o_regex_reader_atom_22) (.seq (.ops o_regex_reader_atom_4)
  (.seq (.seq (.ops o_regex_reader_atom_5)
  (.cond (.t 37) (.ops o_regex_reader_atom_6) .skip))
  (.ops o_regex_reader_atom_7)))))))))))))))))
  (.seq (.ops o_regex_reader_atom_23)
  (.seq (.ops o_regex_reader_atom_24)
  .ret)))))))
def a_regex_reader_atom : AFn := { body := c_regex_reader_atom, res := [.tmp 2] }

-- strings.IndexByte
def o_strings_IndexByte_0 : List AOp := [
  { dst := some 4, op := .asg (.c (.nat .i64 0)) }]
def o_strings_IndexByte_1 : List AOp := [
  { dst := some 5, op := .mov (.t 0) },
  { dst := some 6, op := .mov (.t 1) },
  { dst := some 7, op := .call (.f f_stringslite_IndexByte) [.t 5, .t 6] },
  { dst := some 4, op := .asg (.t 7) }]
def c_strings_IndexByte : AC :=
  (.seq (.ops o_strings_IndexByte_0)
  (.seq (.ops o_strings_IndexByte_1)
  .ret))
def a_strings_IndexByte : AFn := { body := c_strings_IndexByte, res := [.tmp 4] }

-- (*dragoman/dragomanref05.parser).atom
def o_ref05_parser_atom_0 : List AOp := [
  { dst := some 2, op := .asg (.c (.nat .i64 0)) }]
def o_ref05_parser_atom_1 : List AOp := [
  { dst := some 11, op := .mov (.t 0) },
  { dst := some 12, op := .call (.f f_ref05_parser_is) [.t 11, .c (.nat .u8 40)] }]
def o_ref05_parser_atom_2 : List AOp := [
  { dst := some 13, op := .mov (.t 0) },
  { dst := some 14, op := .nilchk (.t 13) },
  { dst := some 15, op := .fldA 2 (.t 14) },
  { dst := some 16, op := .load none (.t 15) },
  { dst := some 17, op := .bin .eql (.t 16) (.c (.nat .i64 30)) }]
def o_ref05_parser_atom_3 : List AOp := [
  { dst := some 18, op := .mov (.t 0) },
  { dst := some 19, op := .call (.f f_ref05_parser_fail) [.t 18, .c (.nat .i64 7)] }]
def o_ref05_parser_atom_4 : List AOp := [
  { dst := some 2, op := .asg (.c (.nat .i64 0)) }]
def o_ref05_parser_atom_5 : List AOp := [
  { dst := some 20, op := .mov (.t 0) },
  { dst := some 21, op := .nilchk (.t 20) },
  { dst := some 22, op := .fldA 2 (.t 21) },
  { dst := some 23, op := .load none (.t 22) },
  { dst := some 24, op := .bin .add (.t 23) (.c (.nat .i64 1)) },
  { dst := some 25, op := .nilchk (.t 20) },
  { dst := some 26, op := .fldA 2 (.t 25) },
  { dst := none, op := .store 1 (.t 26) (.t 24) }]
def o_ref05_parser_atom_6 : List AOp := [
  { dst := some 27, op := .mov (.t 0) },
  { dst := some 28, op := .nilchk (.t 27) },
  { dst := some 29, op := .fldA 1 (.t 28) },
  { dst := some 30, op := .load none (.t 29) },
  { dst := some 31, op := .bin .add (.t 30) (.c (.nat .i64 1)) },
  { dst := some 32, op := .nilchk (.t 27) },
  { dst := some 33, op := .fldA 1 (.t 32) },
  { dst := none, op := .store 1 (.t 33) (.t 31) }]
def o_ref05_parser_atom_7 : List AOp := [
  { dst := some 34, op := .mov (.t 0) },
  { dst := some 35, op := .call (.f f_ref05_parser_whole) [.t 34] },
  { dst := some 3, op := .asg (.t 35) }]
def o_ref05_parser_atom_8 : List AOp := [
  { dst := some 36, op := .mov (.t 0) },
  { dst := some 37, op := .call (.f f_ref05_parser_is) [.t 36, .c (.nat .u8 41)] },
  { dst := some 38, op := .un .not (.t 37) }]
def o_ref05_parser_atom_9 : List AOp := [
  { dst := some 39, op := .mov (.t 0) },
  { dst := some 40, op := .call (.f f_ref05_parser_fail) [.t 39, .c (.nat .i64 9)] }]
def o_ref05_parser_atom_10 : List AOp := [
  { dst := some 41, op := .mov (.t 0) },
  { dst := some 42, op := .nilchk (.t 41) },
  { dst := some 43, op := .fldA 1 (.t 42) },
  { dst := some 44, op := .load none (.t 43) },
  { dst := some 45, op := .bin .add (.t 44) (.c (.nat .i64 1)) },
  { dst := some 46, op := .nilchk (.t 41) },
  { dst := some 47, op := .fldA 1 (.t 46) },
  { dst := none, op := .store 1 (.t 47) (.t 45) }]
def o_ref05_parser_atom_11 : List AOp := [
  { dst := some 48, op := .mov (.t 0) },
  { dst := some 49, op := .nilchk (.t 48) },
  { dst := some 50, op := .fldA 2 (.t 49) },
  { dst := some 51, op := .load none (.t 50) },
  { dst := some 52, op := .bin .sub (.t 51) (.c (.nat .i64 1)) },
  { dst := some 53, op := .nilchk (.t 48) },
  { dst := some 54, op := .fldA 2 (.t 53) },
  { dst := none, op := .store 1 (.t 54) (.t 52) }]
def o_ref05_parser_atom_12 : List AOp := [
  { dst := some 55, op := .mov (.t 3) },
  { dst := some 2, op := .asg (.t 55) }]
def o_ref05_parser_atom_13 : List AOp := [
  { dst := some 56, op := .mov (.t 0) },
  { dst := some 57, op := .call (.f f_ref05_parser_is) [.t 56, .c (.nat .u8 46)] }]
def o_ref05_parser_atom_14 : List AOp := [
  { dst := some 58, op := .mov (.t 0) },
  { dst := some 59, op := .nilchk (.t 58) },
  { dst := some 60, op := .fldA 1 (.t 59) },
  { dst := some 61, op := .load none (.t 60) },
  { dst := some 62, op := .bin .add (.t 61) (.c (.nat .i64 1)) },
  { dst := some 63, op := .nilchk (.t 58) },
  { dst := some 64, op := .fldA 1 (.t 63) },
  { dst := none, op := .store 1 (.t 64) (.t 62) }]
def o_ref05_parser_atom_15 : List AOp := [
  { dst := some 65, op := .mov (.t 0) },
  { dst := some 66, op := .call (.f f_ref05_Dot) [] },
  { dst := some 67, op := .call (.f f_ref05_parser_lay) [.t 65, .c (.nat .i64 1), .t 66, .c (.nat .i64 0), .c (.nat .i64 0)] },
  { dst := some 2, op := .asg (.t 67) }]
def o_ref05_parser_atom_16 : List AOp := [
  { dst := some 68, op := .mov (.t 0) },
  { dst := some 69, op := .call (.f f_ref05_parser_is) [.t 68, .c (.nat .u8 94)] }]
def o_ref05_parser_atom_17 : List AOp := [
  { dst := some 70, op := .mov (.t 0) },
  { dst := some 71, op := .nilchk (.t 70) },
  { dst := some 72, op := .fldA 1 (.t 71) },
  { dst := some 73, op := .load none (.t 72) },
  { dst := some 74, op := .bin .add (.t 73) (.c (.nat .i64 1)) },
  { dst := some 75, op := .nilchk (.t 70) },
  { dst := some 76, op := .fldA 1 (.t 75) },
  { dst := none, op := .store 1 (.t 76) (.t 74) }]
def o_ref05_parser_atom_18 : List AOp := [
  { dst := some 77, op := .mov (.t 0) },
  { dst := some 78, op := .build [.nat .u64 0, .nat .u64 0, .nat .u64 0, .nat .u64 0] [] },
  { dst := some 79, op := .call (.f f_ref05_parser_lay) [.t 77, .c (.nat .i64 7), .t 78, .c (.nat .i64 0), .c (.nat .i64 0)] },
  { dst := some 2, op := .asg (.t 79) }]
def o_ref05_parser_atom_19 : List AOp := [
  { dst := some 80, op := .mov (.t 0) },
  { dst := some 81, op := .call (.f f_ref05_parser_is) [.t 80, .c (.nat .u8 36)] }]
def o_ref05_parser_atom_20 : List AOp := [
  { dst := some 82, op := .mov (.t 0) },
  { dst := some 83, op := .nilchk (.t 82) },
  { dst := some 84, op := .fldA 1 (.t 83) },
  { dst := some 85, op := .load none (.t 84) },
  { dst := some 86, op := .bin .add (.t 85) (.c (.nat .i64 1)) },
  { dst := some 87, op := .nilchk (.t 82) },
  { dst := some 88, op := .fldA 1 (.t 87) },
  { dst := none, op := .store 1 (.t 88) (.t 86) }]
def o_ref05_parser_atom_21 : List AOp := [
  { dst := some 89, op := .mov (.t 0) },
  { dst := some 90, op := .build [.nat .u64 0, .nat .u64 0, .nat .u64 0, .nat .u64 0] [] },
  { dst := some 91, op := .call (.f f_ref05_parser_lay) [.t 89, .c (.nat .i64 8), .t 90, .c (.nat .i64 0), .c (.nat .i64 0)] },
  { dst := some 2, op := .asg (.t 91) }]
def o_ref05_parser_atom_22 : List AOp := [
  { dst := some 92, op := .mov (.t 0) },
  { dst := some 93, op := .call (.f f_ref05_parser_is) [.t 92, .c (.nat .u8 91)] }]
def o_ref05_parser_atom_23 : List AOp := [
  { dst := some 95, op := .mov (.t 0), may := false },
  { dst := some 96, op := .nilchk (.t 95), may := false },
  { dst := some 97, op := .fldA 0 (.t 96), may := false },
  { dst := some 98, op := .load none (.t 97), may := false },
  { dst := some 99, op := .mov (.t 0), may := false },
  { dst := some 100, op := .nilchk (.t 99), may := false },
  { dst := some 101, op := .fldA 1 (.t 100), may := false },
  { dst := some 102, op := .load none (.t 101), may := false },
  { dst := some 103, op := .sliceS (.t 98) (some (.t 102)) none, may := false },
  { dst := some 104, op := .callZ (.f f_ref04_Read) [.t 103], may := false },
  { dst := some 94, op := .mov (.t 104), may := false },
  { dst := some 105, op := .extr (.t 94) 0, may := false },
  { dst := some 106, op := .extr (.t 94) 1, may := false },
  { dst := some 107, op := .extr (.t 94) 2, may := false },
  { dst := some 4, op := .alloc [.nat .u64 0, .nat .u64 0, .nat .u64 0, .nat .u64 0], may := false },
  { dst := none, op := .store 4 (.t 4) (.t 105), may := false },
  { dst := some 5, op := .asg (.t 106), may := false },
  { dst := some 6, op := .asg (.t 107) }]
def o_ref05_parser_atom_24 : List AOp := [
  { dst := some 108, op := .mov (.t 6) },
  { dst := some 109, op := .bin .neq (.t 108) (.c (.nat .i64 0)) }]
def o_ref05_parser_atom_25 : List AOp := [
  { dst := some 110, op := .mov (.t 0) },
  { dst := some 111, op := .call (.f f_ref05_parser_fail) [.t 110, .c (.nat .i64 9)] }]
def o_ref05_parser_atom_26 : List AOp := [
  { dst := some 112, op := .mov (.t 0) },
  { dst := some 113, op := .mov (.t 0) },
  { dst := some 114, op := .nilchk (.t 113) },
  { dst := some 115, op := .fldA 1 (.t 114) },
  { dst := some 116, op := .load none (.t 115) },
  { dst := some 117, op := .mov (.t 5) },
  { dst := some 118, op := .bin .add (.t 116) (.t 117) },
  { dst := some 119, op := .nilchk (.t 112) },
  { dst := some 120, op := .fldA 1 (.t 119) },
  { dst := none, op := .store 1 (.t 120) (.t 118) }]
def o_ref05_parser_atom_27 : List AOp := [
  { dst := some 121, op := .mov (.t 0) },
  { dst := some 122, op := .load (some 4) (.t 4) },
  { dst := some 123, op := .call (.f f_ref05_parser_lay) [.t 121, .c (.nat .i64 1), .t 122, .c (.nat .i64 0), .c (.nat .i64 0)] },
  { dst := some 2, op := .asg (.t 123) }]
def o_ref05_parser_atom_28 : List AOp := [
  { dst := some 124, op := .mov (.t 0), may := false },
  { dst := some 125, op := .nilchk (.t 124), may := false },
  { dst := some 126, op := .fldA 0 (.t 125), may := false },
  { dst := some 127, op := .load none (.t 126), may := false },
  { dst := some 128, op := .mov (.t 0), may := false },
  { dst := some 129, op := .nilchk (.t 128), may := false },
  { dst := some 130, op := .fldA 1 (.t 129), may := false },
  { dst := some 131, op := .load none (.t 130), may := false },
  { dst := some 132, op := .idxS (.t 127) (.t 131) },
  { dst := some 7, op := .asg (.t 132) }]
def o_ref05_parser_atom_29 : List AOp := [
  { dst := some 133, op := .mov (.t 7) },
  { dst := some 134, op := .bin .eql (.t 133) (.c (.nat .u8 42)) },
  { dst := some 135, op := .mov (.t 134) },
  { dst := some 136, op := .mov (.t 7), guard := some (135, false) },
  { dst := some 137, op := .bin .eql (.t 136) (.c (.nat .u8 43)), guard := some (135, false) },
  { dst := some 138, op := .pick (.t 135) (.c (.d (.bool true))) (.t 137) },
  { dst := some 139, op := .mov (.t 138) },
  { dst := some 140, op := .mov (.t 7), guard := some (139, false) },
  { dst := some 141, op := .bin .eql (.t 140) (.c (.nat .u8 63)), guard := some (139, false) },
  { dst := some 142, op := .pick (.t 139) (.c (.d (.bool true))) (.t 141) },
  { dst := some 143, op := .mov (.t 142) },
  { dst := some 144, op := .mov (.t 7), guard := some (143, false) },
  { dst := some 145, op := .bin .eql (.t 144) (.c (.nat .u8 41)), guard := some (143, false) },
  { dst := some 146, op := .pick (.t 143) (.c (.d (.bool true))) (.t 145) },
  { dst := some 147, op := .mov (.t 146) },
  { dst := some 148, op := .mov (.t 7), guard := some (147, false) },
  { dst := some 149, op := .bin .eql (.t 148) (.c (.nat .u8 124)), guard := some (147, false) },
  { dst := some 150, op := .pick (.t 147) (.c (.d (.bool true))) (.t 149) },
  { dst := some 151, op := .mov (.t 150) },
  { dst := some 152, op := .mov (.t 7), guard := some (151, false) },
  { dst := some 153, op := .bin .eql (.t 152) (.c (.nat .u8 123)), guard := some (151, false) },
  { dst := some 154, op := .pick (.t 151) (.c (.d (.bool true))) (.t 153) },
  { dst := some 155, op := .mov (.t 154) },
  { dst := some 156, op := .mov (.t 7), guard := some (155, false) },
  { dst := some 157, op := .bin .eql (.t 156) (.c (.nat .u8 125)), guard := some (155, false) },
  { dst := some 158, op := .pick (.t 155) (.c (.d (.bool true))) (.t 157) },
  { dst := some 159, op := .mov (.t 158) },
  { dst := some 160, op := .mov (.t 7), guard := some (159, false) },
  { dst := some 161, op := .bin .eql (.t 160) (.c (.nat .u8 47)), guard := some (159, false) },
  { dst := some 162, op := .pick (.t 159) (.c (.d (.bool true))) (.t 161) }]
def o_ref05_parser_atom_30 : List AOp := [
  { dst := some 163, op := .mov (.t 0) },
  { dst := some 164, op := .call (.f f_ref05_parser_fail) [.t 163, .c (.nat .i64 9)] }]
def o_ref05_parser_atom_31 : List AOp := [
  { dst := some 2, op := .asg (.c (.nat .i64 0)) }]
def o_ref05_parser_atom_32 : List AOp := [
  { dst := some 166, op := .mov (.t 0), may := false },
  { dst := some 167, op := .nilchk (.t 166), may := false },
  { dst := some 168, op := .fldA 0 (.t 167), may := false },
  { dst := some 169, op := .load none (.t 168), may := false },
  { dst := some 170, op := .mov (.t 0), may := false },
  { dst := some 171, op := .nilchk (.t 170), may := false },
  { dst := some 172, op := .fldA 1 (.t 171), may := false },
  { dst := some 173, op := .load none (.t 172), may := false },
  { dst := some 174, op := .sliceS (.t 169) (some (.t 173)) none },
  { dst := some 175, op := .call (.f f_ref04_Sign) [.t 174] },
  { dst := some 165, op := .mov (.t 175) },
  { dst := some 176, op := .extr (.t 165) 0, may := false },
  { dst := some 177, op := .extr (.t 165) 1, may := false },
  { dst := some 178, op := .extr (.t 165) 2, may := false },
  { dst := some 8, op := .asg (.t 176), may := false },
  { dst := some 9, op := .asg (.t 177), may := false },
  { dst := some 10, op := .asg (.t 178) }]
def o_ref05_parser_atom_33 : List AOp := [
  { dst := some 179, op := .mov (.t 10) },
  { dst := some 180, op := .bin .neq (.t 179) (.c (.nat .i64 0)) }]
def o_ref05_parser_atom_34 : List AOp := [
  { dst := some 181, op := .mov (.t 0) },
  { dst := some 182, op := .call (.f f_ref05_parser_fail) [.t 181, .c (.nat .i64 9)] }]
def o_ref05_parser_atom_35 : List AOp := [
  { dst := some 183, op := .mov (.t 0) },
  { dst := some 184, op := .mov (.t 0) },
  { dst := some 185, op := .nilchk (.t 184) },
  { dst := some 186, op := .fldA 1 (.t 185) },
  { dst := some 187, op := .load none (.t 186) },
  { dst := some 188, op := .mov (.t 9) },
  { dst := some 189, op := .bin .add (.t 187) (.t 188) },
  { dst := some 190, op := .nilchk (.t 183) },
  { dst := some 191, op := .fldA 1 (.t 190) },
  { dst := none, op := .store 1 (.t 191) (.t 189) }]
def o_ref05_parser_atom_36 : List AOp := [
  { dst := some 192, op := .mov (.t 0) },
  { dst := some 193, op := .mov (.t 8) },
  { dst := some 194, op := .call (.f f_ref04_One) [.t 193] },
  { dst := some 195, op := .call (.f f_ref05_parser_lay) [.t 192, .c (.nat .i64 1), .t 194, .c (.nat .i64 0), .c (.nat .i64 0)] },
  { dst := some 2, op := .asg (.t 195) }]
def c_ref05_parser_atom : AC :=
  (.seq (.ops o_ref05_parser_atom_0)
  (.seq (.seq (.ops o_ref05_parser_atom_1)
  (.cond (.t 12) (.seq (.seq (.ops o_ref05_parser_atom_2)
  (.cond (.t 17) (.seq (.ops o_ref05_parser_atom_3)
  (.seq (.ops o_ref05_parser_atom_4)
  .ret)) .skip))
  (.seq (.ops o_ref05_parser_atom_5)
  (.seq (.ops o_ref05_parser_atom_6)
  (.seq (.ops o_ref05_parser_atom_7)
  (.seq (.seq (.ops o_ref05_parser_atom_8)
  (.cond (.t 38) (.ops o_ref05_parser_atom_9) .skip))
  (.seq (.ops o_ref05_parser_atom_10)
  (.seq (.ops o_ref05_parser_atom_11)
  (.seq (.ops o_ref05_parser_atom_12)
  .ret)))))))) .skip))
  (.seq (.seq (.ops o_ref05_parser_atom_13)
  (.cond (.t 57) (.seq (.ops o_ref05_parser_atom_14)
  (.seq (.ops o_ref05_parser_atom_15)
  .ret)) .skip))
  (.seq (.seq (.ops o_ref05_parser_atom_16)
  (.cond (.t 69) (.seq (.ops o_ref05_parser_atom_17)
  (.seq (.ops o_ref05_parser_atom_18)
  .ret)) .skip))
  (.seq (.seq (.ops o_ref05_parser_atom_19)
  (.cond (.t 81) (.seq (.ops o_ref05_parser_atom_20)
  (.seq (.ops o_ref05_parser_atom_21)
  .ret)) .skip))
  (.seq (.seq (.ops o_ref05_parser_atom_22)
  (.cond (.t 93) (.seq (.ops o_ref05_parser_atom_23)
  (.seq (.seq (.ops o_ref05_parser_atom_24)
  (.cond (.t 109) (.ops o_ref05_parser_atom_25) .skip))
  (.seq (.ops o_ref05_parser_atom_26)
  (.seq (.ops o_ref05_parser_atom_27)
  .ret)))) .skip))
  (.seq (.ops o_ref05_parser_atom_28)
  (.seq (.seq (.ops o_ref05_parser_atom_29)
  (.cond (.t 162) (.seq (.ops o_ref05_parser_atom_30)
  (.seq (.ops o_ref05_parser_atom_31)
  .ret)) .skip))
  (.seq (.ops o_ref05_parser_atom_32)
  (.seq (.seq (.ops o_ref05_parser_atom_33)
  (.cond (.t 180) (.ops o_ref05_parser_atom_34) .skip))
  (.seq (.ops o_ref05_parser_atom_35)
  (.seq (.ops o_ref05_parser_atom_36)
  .ret))))))))))))
def a_ref05_parser_atom : AFn := { body := c_ref05_parser_atom, res := [.tmp 2] }

-- dragoman/class.runs$1
def o_class_runs_1_0 : List AOp := [
  { dst := some 3, op := .asg (.c (.nat .i64 0)) }]
def o_class_runs_1_1 : List AOp := [
  { dst := some 5, op := .mov (.t 3) },
  { dst := some 6, op := .bin .lss (.t 5) (.c (.nat .i64 256)) }]
def o_class_runs_1_3 : List AOp := [
  { dst := some 9, op := .mov (.t 3) },
  { dst := some 4, op := .asg (.t 9) }]
def o_class_runs_1_4 : List AOp := [
  { dst := some 10, op := .mov (.t 3) },
  { dst := some 11, op := .bin .lss (.t 10) (.c (.nat .i64 256)) },
  { dst := some 12, op := .mov (.t 11) },
  { dst := some 13, op := .load (some 4) (.t 1), guard := some (12, true) },
  { dst := some 14, op := .mov (.t 3), guard := some (12, true) },
  { dst := some 15, op := .toInt .u8 (.t 14), guard := some (12, true) },
  { dst := some 16, op := .call (.f f_class_Has) [.t 13, .t 15], guard := some (12, true) },
  { dst := some 17, op := .pick (.t 12) (.t 16) (.c (.d (.bool false))) }]
def o_class_runs_1_5 : List AOp := [
  { dst := some 18, op := .mov (.t 3) },
  { dst := some 19, op := .bin .add (.t 18) (.c (.nat .i64 1)) },
  { dst := some 3, op := .asg (.t 19) }]
def b_class_runs_1_0 : AC := (.seq (.seq (.ops o_class_runs_1_4)
  (.cond (.t 17) .skip (.exit 2)))
  (.trim [0, 1, 3, 4] (.block 3 (.ops o_class_runs_1_5))))
def o_class_runs_1_6 : List AOp := [
  { dst := some 20, op := .mov (.t 3) },
  { dst := some 21, op := .mov (.t 4) },
  { dst := some 22, op := .bin .gtr (.t 20) (.t 21) },
  { dst := some 23, op := .mov (.t 22) },
  { dst := some 24, op := .mov (.t 0), guard := some (23, true) },
  { dst := some 25, op := .mov (.t 4), guard := some (23, true) },
  { dst := some 26, op := .toInt .u8 (.t 25), guard := some (23, true) },
  { dst := some 27, op := .mov (.t 3), guard := some (23, true) },
  { dst := some 28, op := .bin .sub (.t 27) (.c (.nat .i64 1)), guard := some (23, true) },
  { dst := some 29, op := .toInt .u8 (.t 28), guard := some (23, true) },
  { dst := some 30, op := .call (.t 24) [.t 26, .t 29], guard := some (23, true) },
  { dst := some 31, op := .un .not (.t 30), guard := some (23, true) },
  { dst := some 32, op := .pick (.t 23) (.t 31) (.c (.d (.bool false))) }]
def o_class_runs_1_2 : List AOp := [
  { dst := some 7, op := .mov (.t 3) },
  { dst := some 8, op := .bin .add (.t 7) (.c (.nat .i64 1)) },
  { dst := some 3, op := .asg (.t 8) }]
def b_class_runs_1_1 : AC := (.seq (.seq (.ops o_class_runs_1_1)
  (.cond (.t 6) .skip (.exit 0)))
  (.seq (.trim [0, 1, 3] (.block 1 (.seq (.ops o_class_runs_1_3)
  (.seq (.trim [0, 1, 3, 4] (.block 2 (.loop [0, 1, 3, 4] b_class_runs_1_0)))
  (.seq (.ops o_class_runs_1_6)
  (.cond (.t 32) .ret .skip))))))
  (.ops o_class_runs_1_2)))
def c_class_runs_1 : AC :=
  (.seq (.ops o_class_runs_1_0)
  (.trim [] (.block 0 (.loop [0, 1, 3] b_class_runs_1_1))))
def a_class_runs_1 : AFn := { body := c_class_runs_1, res := [] }

-- dragoman/class.Has
def o_class_Has_0 : List AOp := [
  { dst := some 2, op := .box (.t 0) },
  { dst := some 4, op := .asg (.c (.d (.bool false))) }]
def o_class_Has_1 : List AOp := [
  { dst := some 5, op := .mov (.t 1) },
  { dst := some 6, op := .bin .quo (.t 5) (.c (.nat .u8 64)) },
  { dst := some 7, op := .idxA (some 4) 1 (.t 2) (.t 6) },
  { dst := some 8, op := .load none (.t 7) },
  { dst := some 9, op := .mov (.t 1) },
  { dst := some 10, op := .bin .rem (.t 9) (.c (.nat .u8 64)) },
  { dst := some 11, op := .bin .shr (.t 8) (.t 10) },
  { dst := some 12, op := .bin .and (.t 11) (.c (.nat .u64 1)) },
  { dst := some 13, op := .bin .eql (.t 12) (.c (.nat .u64 1)) },
  { dst := some 4, op := .asg (.t 13) }]
def c_class_Has : AC :=
  (.seq (.ops o_class_Has_0)
  (.seq (.ops o_class_Has_1)
  .ret))
def a_class_Has : AFn := { body := c_class_Has, res := [.tmp 4] }

-- dragoman/class.isWord
def o_class_isWord_0 : List AOp := [
  { dst := some 2, op := .asg (.c (.d (.bool false))) }]
def o_class_isWord_1 : List AOp := [
  { dst := some 3, op := .mov (.t 0) },
  { dst := some 4, op := .bin .eql (.t 3) (.c (.nat .u8 32)) },
  { dst := some 5, op := .mov (.t 4) },
  { dst := some 6, op := .mov (.t 0), guard := some (5, false) },
  { dst := some 7, op := .bin .eql (.t 6) (.c (.nat .u8 95)), guard := some (5, false) },
  { dst := some 8, op := .pick (.t 5) (.c (.d (.bool true))) (.t 7) },
  { dst := some 9, op := .mov (.t 8) },
  { dst := some 10, op := .mov (.t 0), guard := some (9, false) },
  { dst := some 11, op := .bin .geq (.t 10) (.c (.nat .u8 48)), guard := some (9, false) },
  { dst := some 12, op := .mov (.t 11), guard := some (9, false) },
  { dst := some 13, op := .mov (.t 0), guard := some (12, true) },
  { dst := some 14, op := .bin .leq (.t 13) (.c (.nat .u8 57)), guard := some (12, true) },
  { dst := some 15, op := .pick (.t 12) (.t 14) (.c (.d (.bool false))), guard := some (9, false) },
  { dst := some 16, op := .pick (.t 9) (.c (.d (.bool true))) (.t 15) },
  { dst := some 17, op := .mov (.t 16) },
  { dst := some 18, op := .mov (.t 0), guard := some (17, false) },
  { dst := some 19, op := .bin .geq (.t 18) (.c (.nat .u8 65)), guard := some (17, false) },
  { dst := some 20, op := .mov (.t 19), guard := some (17, false) },
  { dst := some 21, op := .mov (.t 0), guard := some (20, true) },
  { dst := some 22, op := .bin .leq (.t 21) (.c (.nat .u8 90)), guard := some (20, true) },
  { dst := some 23, op := .pick (.t 20) (.t 22) (.c (.d (.bool false))), guard := some (17, false) },
  { dst := some 24, op := .pick (.t 17) (.c (.d (.bool true))) (.t 23) },
  { dst := some 25, op := .mov (.t 24) },
  { dst := some 26, op := .mov (.t 0), guard := some (25, false) },
  { dst := some 27, op := .bin .geq (.t 26) (.c (.nat .u8 97)), guard := some (25, false) },
  { dst := some 28, op := .mov (.t 27), guard := some (25, false) },
  { dst := some 29, op := .mov (.t 0), guard := some (28, true) },
  { dst := some 30, op := .bin .leq (.t 29) (.c (.nat .u8 122)), guard := some (28, true) },
  { dst := some 31, op := .pick (.t 28) (.t 30) (.c (.d (.bool false))), guard := some (25, false) },
  { dst := some 32, op := .pick (.t 25) (.c (.d (.bool true))) (.t 31) },
  { dst := some 2, op := .asg (.t 32) }]
def c_class_isWord : AC :=
  (.seq (.ops o_class_isWord_0)
  (.seq (.ops o_class_isWord_1)
  .ret))
def a_class_isWord : AFn := { body := c_class_isWord, res := [.tmp 2] }

-- dragoman/hex.Hex
def o_hex_Hex_0 : List AOp := [
  { dst := some 2, op := .asg (.c (.d (.str []))) }]
def o_hex_Hex_1 : List AOp := [
  { dst := some 5, op := .mkls 1 [.nat .u8 0] [(0, 1, (.c (.nat .u8 120)))] },
  { dst := some 6, op := .same (.t 5) },
  { dst := some 3, op := .asg (.t 6) }]
def o_hex_Hex_2 : List AOp := [
  { dst := some 7, op := .mov (.t 0) },
  { dst := some 8, op := .lenS (.t 7) },
  { dst := some 9, op := .mov (.c (.nat .i64 0)) }]
def o_hex_Hex_3 : List AOp := [
  { dst := some 10, op := .bin .lss (.t 9) (.t 8) }]
def o_hex_Hex_4 : List AOp := [
  { dst := some 11, op := .mov (.t 9) },
  { dst := some 4, op := .asg (.t 11) }]
def o_hex_Hex_5 : List AOp := [
  { dst := some 12, op := .take 3, may := false },
  { dst := some 13, op := .mov (.t 0), may := false },
  { dst := some 14, op := .mov (.t 4), may := false },
  { dst := some 15, op := .idxS (.t 13) (.t 14), may := false },
  { dst := some 16, op := .bin .shr (.t 15) (.c (.nat .u64 4)), may := false },
  { dst := some 17, op := .idxS (.c (.d (.str [48, 49, 50, 51, 52, 53, 54, 55, 56, 57, 97, 98, 99, 100, 101, 102]))) (.t 16), may := false },
  { dst := some 18, op := .mov (.t 0), may := false },
  { dst := some 19, op := .mov (.t 4), may := false },
  { dst := some 20, op := .idxS (.t 18) (.t 19), may := false },
  { dst := some 21, op := .bin .and (.t 20) (.c (.nat .u8 15)), may := false },
  { dst := some 22, op := .idxS (.c (.d (.str [48, 49, 50, 51, 52, 53, 54, 55, 56, 57, 97, 98, 99, 100, 101, 102]))) (.t 21), may := false },
  { dst := some 23, op := .mkls 1 [.nat .u8 0, .nat .u8 0] [(0, 1, (.t 17)), (1, 1, (.t 22))], may := false },
  { dst := some 24, op := .append 1 (.t 12) (.t 23) },
  { dst := some 3, op := .asg (.t 24) }]
def o_hex_Hex_6 : List AOp := [
  { dst := some 25, op := .bin .add (.t 9) (.c (.nat .i64 1)) },
  { dst := some 9, op := .mov (.t 25) }]
def b_hex_Hex_0 : AC := (.seq (.ops o_hex_Hex_3)
  (.seq (.cond (.t 10) .skip (.exit 0))
  (.seq (.trim [0, 3, 8, 9] (.block 1 (.seq (.ops o_hex_Hex_4)
  (.ops o_hex_Hex_5))))
  (.ops o_hex_Hex_6))))
def o_hex_Hex_7 : List AOp := [
  { dst := some 26, op := .mov (.t 3) },
  { dst := some 27, op := .bytesStr (.t 26) },
  { dst := some 2, op := .asg (.t 27) }]
def c_hex_Hex : AC :=
  (.seq (.ops o_hex_Hex_0)
  (.seq (.ops o_hex_Hex_1)
  (.seq (.seq (.ops o_hex_Hex_2)
  (.trim [3] (.block 0 (.loop [0, 3, 8, 9] b_hex_Hex_0))))
  (.seq (.ops o_hex_Hex_7)
  .ret))))
def a_hex_Hex : AFn := { body := c_hex_Hex, res := [.tmp 2] }

-- (*dragoman/regex.reader).group
def o_regex_reader_group_0 : List AOp := [
  { dst := some 2, op := .asg (.c (.nat .i64 0)) }]
def o_regex_reader_group_1 : List AOp := [
  { dst := some 4, op := .mov (.t 0) },
  { dst := some 5, op := .nilchk (.t 4) },
  { dst := some 6, op := .fldA 2 (.t 5) },
  { dst := some 7, op := .load none (.t 6) },
  { dst := some 8, op := .bin .geq (.t 7) (.c (.nat .i64 30)) }]
def o_regex_reader_group_2 : List AOp := [
  { dst := some 9, op := .build [.nat .i64 0] [(0, 1, (.c (.nat .i64 7)))] },
  { dst := some 10, op := .mkifc 50 (.t 9) },
  { dst := none, op := .panic (.t 10) }]
def o_regex_reader_group_3 : List AOp := [
  { dst := some 11, op := .mov (.t 0) },
  { dst := some 12, op := .nilchk (.t 11) },
  { dst := some 13, op := .fldA 2 (.t 12) },
  { dst := some 14, op := .load none (.t 13) },
  { dst := some 15, op := .bin .add (.t 14) (.c (.nat .i64 1)) },
  { dst := some 16, op := .nilchk (.t 11) },
  { dst := some 17, op := .fldA 2 (.t 16) },
  { dst := none, op := .store 1 (.t 17) (.t 15) }]
def o_regex_reader_group_4 : List AOp := [
  { dst := some 18, op := .mov (.t 0) },
  { dst := some 19, op := .nilchk (.t 18) },
  { dst := some 20, op := .fldA 1 (.t 19) },
  { dst := some 21, op := .load none (.t 20) },
  { dst := some 22, op := .bin .add (.t 21) (.c (.nat .i64 1)) },
  { dst := some 23, op := .nilchk (.t 18) },
  { dst := some 24, op := .fldA 1 (.t 23) },
  { dst := none, op := .store 1 (.t 24) (.t 22) }]
def o_regex_reader_group_5 : List AOp := [
  { dst := some 25, op := .mov (.t 0) },
  { dst := some 26, op := .call (.f f_regex_reader_all) [.t 25] },
  { dst := some 3, op := .asg (.t 26) }]
def o_regex_reader_group_6 : List AOp := [
  { dst := some 27, op := .mov (.t 0) },
  { dst := some 28, op := .call (.f f_regex_reader_sees) [.t 27, .c (.nat .u8 41)] },
  { dst := some 29, op := .un .not (.t 28) }]
def o_regex_reader_group_7 : List AOp := [
  { dst := some 30, op := .build [.nat .i64 0] [(0, 1, (.c (.nat .i64 9)))] },
  { dst := some 31, op := .mkifc 50 (.t 30) },
  { dst := none, op := .panic (.t 31) }]
def o_regex_reader_group_8 : List AOp := [
  { dst := some 32, op := .mov (.t 0) },
  { dst := some 33, op := .nilchk (.t 32) },
  { dst := some 34, op := .fldA 1 (.t 33) },
  { dst := some 35, op := .load none (.t 34) },
  { dst := some 36, op := .bin .add (.t 35) (.c (.nat .i64 1)) },
  { dst := some 37, op := .nilchk (.t 32) },
  { dst := some 38, op := .fldA 1 (.t 37) },
  { dst := none, op := .store 1 (.t 38) (.t 36) }]
def o_regex_reader_group_9 : List AOp := [
  { dst := some 39, op := .mov (.t 0) },
  { dst := some 40, op := .nilchk (.t 39) },
  { dst := some 41, op := .fldA 2 (.t 40) },
  { dst := some 42, op := .load none (.t 41) },
  { dst := some 43, op := .bin .sub (.t 42) (.c (.nat .i64 1)) },
  { dst := some 44, op := .nilchk (.t 39) },
  { dst := some 45, op := .fldA 2 (.t 44) },
  { dst := none, op := .store 1 (.t 45) (.t 43) }]
def o_regex_reader_group_10 : List AOp := [
  { dst := some 46, op := .mov (.t 3) },
  { dst := some 2, op := .asg (.t 46) }]
def c_regex_reader_group : AC :=
  (.seq (.ops o_regex_reader_group_0)
  (.seq (.seq (.ops o_regex_reader_group_1)
  (.cond (.t 8) (.ops o_regex_reader_group_2) .skip))
  (.seq (.ops o_regex_reader_group_3)
  (.seq (.ops o_regex_reader_group_4)
  (.seq (.ops o_regex_reader_group_5)
  (.seq (.seq (.ops o_regex_reader_group_6)
  (.cond (.t 29) (.ops o_regex_reader_group_7) .skip))
  (.seq (.ops o_regex_reader_group_8)
  (.seq (.ops o_regex_reader_group_9)
  (.seq (.ops o_regex_reader_group_10)
  .ret)))))))))
def a_regex_reader_group : AFn := { body := c_regex_reader_group, res := [.tmp 2] }

-- dragoman/class.Read
def o_class_Read_0 : List AOp := [
  { dst := some 1, op := .box (.t 0) },
  { dst := some 2, op := .alloc [.nat .u64 0, .nat .u64 0, .nat .u64 0, .nat .u64 0] },
  { dst := some 3, op := .asg (.c (.nat .i64 0)) },
  { dst := some 4, op := .asg (.c (.nat .i64 0)) }]
def o_class_Read_1 : List AOp := [
  { dst := some 5, op := .alloc [.nat .u64 0, .nat .u64 0, .nat .u64 0, .nat .u64 0] }]
def o_class_Read_2 : List AOp := [
  { dst := some 6, op := .alloc [.nat .i64 0] },
  { dst := none, op := .store 1 (.t 6) (.c (.nat .i64 0)) }]
def o_class_Read_3 : List AOp := [
  { dst := some 14, op := .mkfn (.func f_class_Read_1) [] [.t 6, .t 1] },
  { dst := some 7, op := .asg (.t 14) }]
def o_class_Read_4 : List AOp := [
  { dst := some 15, op := .mov (.t 7) },
  { dst := some 16, op := .call (.t 15) [.c (.nat .u8 91)] },
  { dst := some 17, op := .un .not (.t 16) }]
def o_class_Read_5 : List AOp := [
  { dst := some 18, op := .load (some 4) (.t 5) },
  { dst := none, op := .store 4 (.t 2) (.t 18) },
  { dst := some 3, op := .asg (.c (.nat .i64 0)) },
  { dst := some 4, op := .asg (.c (.nat .i64 2)) }]
def o_class_Read_6 : List AOp := [
  { dst := some 19, op := .mov (.t 7) },
  { dst := some 20, op := .call (.t 19) [.c (.nat .u8 94)] },
  { dst := some 8, op := .asg (.t 20) }]
def o_class_Read_7 : List AOp := [
  { dst := some 9, op := .asg (.c (.nat .i64 0)) }]
def o_class_Read_9 : List AOp := [
  { dst := some 23, op := .mov (.t 9) },
  { dst := some 24, op := .bin .gtr (.t 23) (.c (.nat .i64 0)) },
  { dst := some 25, op := .mov (.t 24) },
  { dst := some 26, op := .mov (.t 7), guard := some (25, true) },
  { dst := some 27, op := .call (.t 26) [.c (.nat .u8 93)], guard := some (25, true) },
  { dst := some 28, op := .pick (.t 25) (.t 27) (.c (.d (.bool false))) }]
def o_class_Read_10 : List AOp := [
  { dst := some 30, op := .load none (.t 1) },
  { dst := some 31, op := .load none (.t 6) },
  { dst := some 32, op := .sliceS (.t 30) (some (.t 31)) none },
  { dst := some 33, op := .call (.f f_class_Sign) [.t 32] },
  { dst := some 29, op := .mov (.t 33) },
  { dst := some 34, op := .extr (.t 29) 0 },
  { dst := some 35, op := .extr (.t 29) 1 },
  { dst := some 36, op := .extr (.t 29) 2 },
  { dst := some 10, op := .asg (.t 34) },
  { dst := some 11, op := .asg (.t 35) },
  { dst := some 12, op := .asg (.t 36) }]
def o_class_Read_11 : List AOp := [
  { dst := some 37, op := .mov (.t 12) },
  { dst := some 38, op := .bin .neq (.t 37) (.c (.nat .i64 0)) }]
def o_class_Read_12 : List AOp := [
  { dst := some 39, op := .build [.nat .u64 0, .nat .u64 0, .nat .u64 0, .nat .u64 0] [] },
  { dst := some 40, op := .mov (.t 12) },
  { dst := none, op := .store 4 (.t 2) (.t 39) },
  { dst := some 3, op := .asg (.c (.nat .i64 0)) },
  { dst := some 4, op := .asg (.t 40) }]
def o_class_Read_13 : List AOp := [
  { dst := some 41, op := .load none (.t 6) },
  { dst := some 42, op := .mov (.t 11) },
  { dst := some 43, op := .bin .add (.t 41) (.t 42) },
  { dst := none, op := .store 1 (.t 6) (.t 43) }]
def o_class_Read_14 : List AOp := [
  { dst := some 44, op := .mov (.t 10) },
  { dst := some 13, op := .asg (.t 44) }]
def o_class_Read_15 : List AOp := [
  { dst := some 45, op := .mov (.t 7) },
  { dst := some 46, op := .call (.t 45) [.c (.nat .u8 45)] }]
def o_class_Read_16 : List AOp := [
  { dst := some 48, op := .load none (.t 1) },
  { dst := some 49, op := .load none (.t 6) },
  { dst := some 50, op := .sliceS (.t 48) (some (.t 49)) none },
  { dst := some 51, op := .call (.f f_class_Sign) [.t 50] },
  { dst := some 47, op := .mov (.t 51) },
  { dst := some 52, op := .extr (.t 47) 0 },
  { dst := some 53, op := .extr (.t 47) 1 },
  { dst := some 54, op := .extr (.t 47) 2 },
  { dst := some 13, op := .asg (.t 52) },
  { dst := some 11, op := .asg (.t 53) },
  { dst := some 12, op := .asg (.t 54) }]
def o_class_Read_17 : List AOp := [
  { dst := some 55, op := .mov (.t 12) },
  { dst := some 56, op := .bin .neq (.t 55) (.c (.nat .i64 0)) },
  { dst := some 57, op := .mov (.t 56) },
  { dst := some 58, op := .mov (.t 10), guard := some (57, false) },
  { dst := some 59, op := .mov (.t 13), guard := some (57, false) },
  { dst := some 60, op := .bin .gtr (.t 58) (.t 59), guard := some (57, false) },
  { dst := some 61, op := .pick (.t 57) (.c (.d (.bool true))) (.t 60) }]
def o_class_Read_18 : List AOp := [
  { dst := some 62, op := .build [.nat .u64 0, .nat .u64 0, .nat .u64 0, .nat .u64 0] [] },
  { dst := none, op := .store 4 (.t 2) (.t 62) },
  { dst := some 3, op := .asg (.c (.nat .i64 0)) },
  { dst := some 4, op := .asg (.c (.nat .i64 2)) }]
def o_class_Read_19 : List AOp := [
  { dst := some 63, op := .load none (.t 6) },
  { dst := some 64, op := .mov (.t 11) },
  { dst := some 65, op := .bin .add (.t 63) (.t 64) },
  { dst := none, op := .store 1 (.t 6) (.t 65) }]
def o_class_Read_20 : List AOp := [
  { dst := some 66, op := .load (some 4) (.t 5), may := false },
  { dst := some 67, op := .mov (.t 10), may := false },
  { dst := some 68, op := .mov (.t 13), may := false },
  { dst := some 69, op := .callZ (.f f_class_Span) [.t 67, .t 68], may := false },
  { dst := some 70, op := .call (.f f_class_Or) [.t 66, .t 69] },
  { dst := none, op := .store 4 (.t 5) (.t 70) }]
def o_class_Read_8 : List AOp := [
  { dst := some 21, op := .mov (.t 9) },
  { dst := some 22, op := .bin .add (.t 21) (.c (.nat .i64 1)) },
  { dst := some 9, op := .asg (.t 22) }]
def b_class_Read_0 : AC := (.seq (.trim [1, 2, 5, 6, 7, 8, 9] (.block 1 (.seq (.seq (.ops o_class_Read_9)
  (.cond (.t 28) (.exit 0) .skip))
  (.seq (.ops o_class_Read_10)
  (.seq (.seq (.ops o_class_Read_11)
  (.cond (.t 38) (.seq (.ops o_class_Read_12)
  .ret) .skip))
  (.seq (.ops o_class_Read_13)
  (.seq (.ops o_class_Read_14)
  (.seq (.seq (.ops o_class_Read_15)
  (.cond (.t 46) (.seq (.seq (.ops o_class_Read_16)
  (.seq (.ops o_class_Read_17)
  (.cond (.t 61) (.seq (.ops o_class_Read_18)
  .ret) .skip)))
  (.ops o_class_Read_19)) .skip))
  (.ops o_class_Read_20)))))))))
  (.ops o_class_Read_8))
def o_class_Read_21 : List AOp := [
  { dst := some 71, op := .mov (.t 8) }]
def o_class_Read_22 : List AOp := [
  { dst := some 72, op := .load (some 4) (.t 5), may := false },
  { dst := some 73, op := .callZ (.f f_class_One) [.c (.nat .u8 10)], may := false },
  { dst := some 74, op := .call (.f f_class_Or) [.t 72, .t 73] },
  { dst := some 75, op := .call (.f f_class_Not) [.t 74] },
  { dst := none, op := .store 4 (.t 5) (.t 75) }]
def o_class_Read_23 : List AOp := [
  { dst := some 76, op := .load (some 4) (.t 5), may := false },
  { dst := some 77, op := .loadB none (.t 6) (.t 6), may := false },
  { dst := none, op := .storeW 4 (.t 2) (.t 76) [.t 6], may := false },
  { dst := some 3, op := .asg (.t 77) },
  { dst := some 4, op := .asg (.c (.nat .i64 0)) }]
def c_class_Read : AC :=
  (.seq (.ops o_class_Read_0)
  (.seq (.ops o_class_Read_1)
  (.seq (.ops o_class_Read_2)
  (.seq (.ops o_class_Read_3)
  (.seq (.seq (.ops o_class_Read_4)
  (.cond (.t 17) (.seq (.ops o_class_Read_5)
  .ret) .skip))
  (.seq (.ops o_class_Read_6)
  (.seq (.seq (.ops o_class_Read_7)
  (.trim [2, 5, 6, 8] (.block 0 (.loop [1, 2, 5, 6, 7, 8, 9] b_class_Read_0))))
  (.seq (.seq (.ops o_class_Read_21)
  (.cond (.t 71) (.ops o_class_Read_22) .skip))
  (.seq (.ops o_class_Read_23)
  .ret)))))))))
def a_class_Read : AFn := { body := c_class_Read, res := [.cell 2 (some 4), .tmp 3, .tmp 4] }

-- dragoman/class.Sign
def o_class_Sign_0 : List AOp := [
  { dst := some 2, op := .asg (.c (.nat .u8 0)) },
  { dst := some 3, op := .asg (.c (.nat .i64 0)) },
  { dst := some 4, op := .asg (.c (.nat .i64 0)) }]
def o_class_Sign_1 : List AOp := [
  { dst := some 6, op := .mov (.t 0) },
  { dst := some 7, op := .bin .eql (.t 6) (.c (.d (.str []))) },
  { dst := some 8, op := .mov (.t 7) },
  { dst := some 9, op := .mov (.t 0), guard := some (8, false) },
  { dst := some 10, op := .idxS (.t 9) (.c (.nat .i64 0)), guard := some (8, false) },
  { dst := some 11, op := .bin .neq (.t 10) (.c (.nat .u8 92)), guard := some (8, false) },
  { dst := some 12, op := .mov (.t 11), guard := some (8, false) },
  { dst := some 13, op := .mov (.t 0), guard := some (12, true) },
  { dst := some 14, op := .idxS (.t 13) (.c (.nat .i64 0)), guard := some (12, true) },
  { dst := some 15, op := .call (.f f_strings_IndexByte) [.c (.d (.str [10, 93, 91, 94, 45])), .t 14], guard := some (12, true) },
  { dst := some 16, op := .bin .geq (.t 15) (.c (.nat .i64 0)), guard := some (12, true) },
  { dst := some 17, op := .pick (.t 12) (.t 16) (.c (.d (.bool false))), guard := some (8, false) },
  { dst := some 18, op := .pick (.t 8) (.c (.d (.bool true))) (.t 17) },
  { dst := some 5, op := .asg (.t 18) }]
def o_class_Sign_2 : List AOp := [
  { dst := some 2, op := .asg (.c (.nat .u8 0)) },
  { dst := some 3, op := .asg (.c (.nat .i64 0)) },
  { dst := some 4, op := .asg (.c (.nat .i64 2)) }]
def o_class_Sign_3 : List AOp := [
  { dst := some 20, op := .mov (.t 0) },
  { dst := some 21, op := .idxS (.t 20) (.c (.nat .i64 0)) },
  { dst := some 22, op := .bin .neq (.t 21) (.c (.nat .u8 92)) },
  { dst := some 19, op := .asg (.t 22) }]
def o_class_Sign_4 : List AOp := [
  { dst := some 23, op := .mov (.t 0) },
  { dst := some 24, op := .idxS (.t 23) (.c (.nat .i64 0)) },
  { dst := some 2, op := .asg (.t 24) },
  { dst := some 3, op := .asg (.c (.nat .i64 1)) },
  { dst := some 4, op := .asg (.c (.nat .i64 0)) }]
def o_class_Sign_5 : List AOp := [
  { dst := some 26, op := .mov (.t 0) },
  { dst := some 27, op := .lenS (.t 26) },
  { dst := some 28, op := .bin .lss (.t 27) (.c (.nat .i64 2)) },
  { dst := some 25, op := .asg (.t 28) }]
def o_class_Sign_6 : List AOp := [
  { dst := some 2, op := .asg (.c (.nat .u8 0)) },
  { dst := some 3, op := .asg (.c (.nat .i64 0)) },
  { dst := some 4, op := .asg (.c (.nat .i64 2)) }]
def o_class_Sign_7 : List AOp := [
  { dst := some 30, op := .mov (.t 0) },
  { dst := some 31, op := .idxS (.t 30) (.c (.nat .i64 1)) },
  { dst := some 32, op := .call (.f f_strings_IndexByte) [.c (.d (.str [92, 93, 91, 94, 45, 47, 46, 42, 43, 63, 40, 41, 124, 123, 125, 36])), .t 31] },
  { dst := some 33, op := .bin .geq (.t 32) (.c (.nat .i64 0)) },
  { dst := some 29, op := .asg (.t 33) }]
def o_class_Sign_8 : List AOp := [
  { dst := some 34, op := .mov (.t 0) },
  { dst := some 35, op := .idxS (.t 34) (.c (.nat .i64 1)) },
  { dst := some 2, op := .asg (.t 35) },
  { dst := some 3, op := .asg (.c (.nat .i64 2)) },
  { dst := some 4, op := .asg (.c (.nat .i64 0)) }]
def o_class_Sign_9 : List AOp := [
  { dst := some 37, op := .mov (.t 0) },
  { dst := some 38, op := .lenS (.t 37) },
  { dst := some 39, op := .bin .lss (.t 38) (.c (.nat .i64 4)) },
  { dst := some 40, op := .mov (.t 39) },
  { dst := some 41, op := .mov (.t 0), guard := some (40, false) },
  { dst := some 42, op := .idxS (.t 41) (.c (.nat .i64 1)), guard := some (40, false) },
  { dst := some 43, op := .bin .neq (.t 42) (.c (.nat .u8 120)), guard := some (40, false) },
  { dst := some 44, op := .pick (.t 40) (.c (.d (.bool true))) (.t 43) },
  { dst := some 45, op := .mov (.t 44) },
  { dst := some 46, op := .mov (.t 0), guard := some (45, false) },
  { dst := some 47, op := .idxS (.t 46) (.c (.nat .i64 2)), guard := some (45, false) },
  { dst := some 48, op := .call (.f f_hex_Digit) [.t 47], guard := some (45, false) },
  { dst := some 49, op := .bin .lss (.t 48) (.c (.nat .i64 0)), guard := some (45, false) },
  { dst := some 50, op := .pick (.t 45) (.c (.d (.bool true))) (.t 49) },
  { dst := some 51, op := .mov (.t 50) },
  { dst := some 52, op := .mov (.t 0), guard := some (51, false) },
  { dst := some 53, op := .idxS (.t 52) (.c (.nat .i64 3)), guard := some (51, false) },
  { dst := some 54, op := .call (.f f_hex_Digit) [.t 53], guard := some (51, false) },
  { dst := some 55, op := .bin .lss (.t 54) (.c (.nat .i64 0)), guard := some (51, false) },
  { dst := some 56, op := .pick (.t 51) (.c (.d (.bool true))) (.t 55) },
  { dst := some 36, op := .asg (.t 56) }]
def o_class_Sign_10 : List AOp := [
  { dst := some 2, op := .asg (.c (.nat .u8 0)) },
  { dst := some 3, op := .asg (.c (.nat .i64 0)) },
  { dst := some 4, op := .asg (.c (.nat .i64 2)) }]
def o_class_Sign_11 : List AOp := [
  { dst := some 57, op := .mov (.t 0), may := false },
  { dst := some 58, op := .idxS (.t 57) (.c (.nat .i64 2)), may := false },
  { dst := some 59, op := .call (.f f_hex_Digit) [.t 58], may := false },
  { dst := some 60, op := .bin .shl (.t 59) (.c (.nat .u64 4)), may := false },
  { dst := some 61, op := .mov (.t 0), may := false },
  { dst := some 62, op := .idxS (.t 61) (.c (.nat .i64 3)), may := false },
  { dst := some 63, op := .call (.f f_hex_Digit) [.t 62], may := false },
  { dst := some 64, op := .bin .or (.t 60) (.t 63) },
  { dst := some 65, op := .toInt .u8 (.t 64) },
  { dst := some 2, op := .asg (.t 65) },
  { dst := some 3, op := .asg (.c (.nat .i64 4)) },
  { dst := some 4, op := .asg (.c (.nat .i64 0)) }]
def c_class_Sign : AC :=
  (.seq (.ops o_class_Sign_0)
  (.seq (.trim [0] (.block 0 (.seq (.ops o_class_Sign_1)
  (.cond (.t 5) (.seq (.ops o_class_Sign_2)
  .ret) (.seq (.ops o_class_Sign_3)
  (.cond (.t 19) (.seq (.ops o_class_Sign_4)
  .ret) (.seq (.ops o_class_Sign_5)
  (.cond (.t 25) (.seq (.ops o_class_Sign_6)
  .ret) (.seq (.ops o_class_Sign_7)
  (.cond (.t 29) (.seq (.ops o_class_Sign_8)
  .ret) (.seq (.ops o_class_Sign_9)
  (.cond (.t 36) (.seq (.ops o_class_Sign_10)
  .ret) .skip))))))))))))
  (.seq (.ops o_class_Sign_11)
  .ret)))
def a_class_Sign : AFn := { body := c_class_Sign, res := [.tmp 2, .tmp 3, .tmp 4] }

-- internal/stringslite.IndexByte
def o_stringslite_IndexByte_0 : List AOp := [
  { dst := some 4, op := .asg (.c (.nat .i64 0)) }]
def o_stringslite_IndexByte_1 : List AOp := [
  { dst := some 5, op := .mov (.t 0) },
  { dst := some 6, op := .mov (.t 1) },
  { dst := some 7, op := .call (.f f_bytealg_IndexByteString) [.t 5, .t 6] },
  { dst := some 4, op := .asg (.t 7) }]
def c_stringslite_IndexByte : AC :=
  (.seq (.ops o_stringslite_IndexByte_0)
  (.seq (.ops o_stringslite_IndexByte_1)
  .ret))
def a_stringslite_IndexByte : AFn := { body := c_stringslite_IndexByte, res := [.tmp 4] }

-- dragoman/dragomanref04.Read
def o_ref04_Read_0 : List AOp := [
  { dst := some 2, op := .alloc [.nat .u64 0, .nat .u64 0, .nat .u64 0, .nat .u64 0] },
  { dst := some 3, op := .asg (.c (.nat .i64 0)) },
  { dst := some 4, op := .asg (.c (.nat .i64 0)) }]
def o_ref04_Read_1 : List AOp := [
  { dst := some 15, op := .mov (.t 0) },
  { dst := some 16, op := .lenS (.t 15) },
  { dst := some 17, op := .bin .lss (.t 16) (.c (.nat .i64 2)) },
  { dst := some 18, op := .mov (.t 17) },
  { dst := some 19, op := .mov (.t 0), guard := some (18, false) },
  { dst := some 20, op := .idxS (.t 19) (.c (.nat .i64 0)), guard := some (18, false) },
  { dst := some 21, op := .bin .neq (.t 20) (.c (.nat .u8 91)), guard := some (18, false) },
  { dst := some 22, op := .pick (.t 18) (.c (.d (.bool true))) (.t 21) }]
def o_ref04_Read_2 : List AOp := [
  { dst := some 23, op := .build [.nat .u64 0, .nat .u64 0, .nat .u64 0, .nat .u64 0] [] },
  { dst := none, op := .store 4 (.t 2) (.t 23) },
  { dst := some 3, op := .asg (.c (.nat .i64 0)) },
  { dst := some 4, op := .asg (.c (.nat .i64 2)) }]
def o_ref04_Read_3 : List AOp := [
  { dst := some 5, op := .asg (.c (.nat .i64 1)) }]
def o_ref04_Read_4 : List AOp := [
  { dst := some 24, op := .mov (.t 0) },
  { dst := some 25, op := .idxS (.t 24) (.c (.nat .i64 1)) },
  { dst := some 26, op := .bin .eql (.t 25) (.c (.nat .u8 94)) },
  { dst := some 6, op := .asg (.t 26) }]
def o_ref04_Read_5 : List AOp := [
  { dst := some 27, op := .mov (.t 6) }]
def o_ref04_Read_6 : List AOp := [
  { dst := some 5, op := .asg (.c (.nat .i64 2)) }]
def o_ref04_Read_7 : List AOp := [
  { dst := some 28, op := .build [.nat .u64 0, .nat .u64 0, .nat .u64 0, .nat .u64 0] [] },
  { dst := some 7, op := .alloc [.nat .u64 0, .nat .u64 0, .nat .u64 0, .nat .u64 0] },
  { dst := none, op := .store 4 (.t 7) (.t 28) }]
def o_ref04_Read_8 : List AOp := [
  { dst := some 8, op := .asg (.c (.d (.bool true))) }]
def o_ref04_Read_9 : List AOp := [
  { dst := some 29, op := .mov (.t 8) },
  { dst := some 30, op := .mov (.t 29) },
  { dst := some 31, op := .mov (.t 5), guard := some (30, false) },
  { dst := some 32, op := .mov (.t 0), guard := some (30, false) },
  { dst := some 33, op := .lenS (.t 32), guard := some (30, false) },
  { dst := some 34, op := .bin .geq (.t 31) (.t 33), guard := some (30, false) },
  { dst := some 35, op := .pick (.t 30) (.c (.d (.bool true))) (.t 34) },
  { dst := some 36, op := .mov (.t 35) },
  { dst := some 37, op := .mov (.t 0), guard := some (36, false) },
  { dst := some 38, op := .mov (.t 5), guard := some (36, false) },
  { dst := some 39, op := .idxS (.t 37) (.t 38), guard := some (36, false) },
  { dst := some 40, op := .bin .neq (.t 39) (.c (.nat .u8 93)), guard := some (36, false) },
  { dst := some 41, op := .pick (.t 36) (.c (.d (.bool true))) (.t 40) }]
def o_ref04_Read_10 : List AOp := [
  { dst := some 8, op := .asg (.c (.d (.bool false))) }]
def o_ref04_Read_11 : List AOp := [
  { dst := some 43, op := .mov (.t 0) },
  { dst := some 44, op := .mov (.t 5) },
  { dst := some 45, op := .sliceS (.t 43) (some (.t 44)) none },
  { dst := some 46, op := .call (.f f_ref04_Sign) [.t 45] },
  { dst := some 42, op := .mov (.t 46) },
  { dst := some 47, op := .extr (.t 42) 0 },
  { dst := some 48, op := .extr (.t 42) 1 },
  { dst := some 49, op := .extr (.t 42) 2 },
  { dst := some 9, op := .asg (.t 47) },
  { dst := some 10, op := .asg (.t 48) },
  { dst := some 11, op := .asg (.t 49) }]
def o_ref04_Read_12 : List AOp := [
  { dst := some 50, op := .mov (.t 11) },
  { dst := some 51, op := .bin .neq (.t 50) (.c (.nat .i64 0)) }]
def o_ref04_Read_13 : List AOp := [
  { dst := some 52, op := .build [.nat .u64 0, .nat .u64 0, .nat .u64 0, .nat .u64 0] [] },
  { dst := none, op := .store 4 (.t 2) (.t 52) },
  { dst := some 3, op := .asg (.c (.nat .i64 0)) },
  { dst := some 4, op := .asg (.c (.nat .i64 2)) }]
def o_ref04_Read_14 : List AOp := [
  { dst := some 53, op := .mov (.t 5) },
  { dst := some 54, op := .mov (.t 10) },
  { dst := some 55, op := .bin .add (.t 53) (.t 54) },
  { dst := some 5, op := .asg (.t 55) }]
def o_ref04_Read_15 : List AOp := [
  { dst := some 56, op := .mov (.t 5) },
  { dst := some 57, op := .mov (.t 0) },
  { dst := some 58, op := .lenS (.t 57) },
  { dst := some 59, op := .bin .lss (.t 56) (.t 58) },
  { dst := some 60, op := .mov (.t 59) },
  { dst := some 61, op := .mov (.t 0), guard := some (60, true) },
  { dst := some 62, op := .mov (.t 5), guard := some (60, true) },
  { dst := some 63, op := .idxS (.t 61) (.t 62), guard := some (60, true) },
  { dst := some 64, op := .bin .eql (.t 63) (.c (.nat .u8 45)), guard := some (60, true) },
  { dst := some 65, op := .pick (.t 60) (.t 64) (.c (.d (.bool false))) }]
def o_ref04_Read_16 : List AOp := [
  { dst := some 67, op := .mov (.t 0) },
  { dst := some 68, op := .mov (.t 5) },
  { dst := some 69, op := .bin .add (.t 68) (.c (.nat .i64 1)) },
  { dst := some 70, op := .sliceS (.t 67) (some (.t 69)) none },
  { dst := some 71, op := .call (.f f_ref04_Sign) [.t 70] },
  { dst := some 66, op := .mov (.t 71) },
  { dst := some 72, op := .extr (.t 66) 0 },
  { dst := some 73, op := .extr (.t 66) 1 },
  { dst := some 74, op := .extr (.t 66) 2 },
  { dst := some 12, op := .asg (.t 72) },
  { dst := some 13, op := .asg (.t 73) },
  { dst := some 14, op := .asg (.t 74) }]
def o_ref04_Read_17 : List AOp := [
  { dst := some 75, op := .mov (.t 14) },
  { dst := some 76, op := .bin .neq (.t 75) (.c (.nat .i64 0)) },
  { dst := some 77, op := .mov (.t 76) },
  { dst := some 78, op := .mov (.t 9), guard := some (77, false) },
  { dst := some 79, op := .mov (.t 12), guard := some (77, false) },
  { dst := some 80, op := .bin .gtr (.t 78) (.t 79), guard := some (77, false) },
  { dst := some 81, op := .pick (.t 77) (.c (.d (.bool true))) (.t 80) }]
def o_ref04_Read_18 : List AOp := [
  { dst := some 82, op := .build [.nat .u64 0, .nat .u64 0, .nat .u64 0, .nat .u64 0] [] },
  { dst := none, op := .store 4 (.t 2) (.t 82) },
  { dst := some 3, op := .asg (.c (.nat .i64 0)) },
  { dst := some 4, op := .asg (.c (.nat .i64 2)) }]
def o_ref04_Read_19 : List AOp := [
  { dst := some 83, op := .mov (.t 5) },
  { dst := some 84, op := .bin .add (.t 83) (.c (.nat .i64 1)) },
  { dst := some 85, op := .mov (.t 13) },
  { dst := some 86, op := .bin .add (.t 84) (.t 85) },
  { dst := some 5, op := .asg (.t 86) }]
def o_ref04_Read_20 : List AOp := [
  { dst := some 87, op := .load (some 4) (.t 7), may := false },
  { dst := some 88, op := .mov (.t 9), may := false },
  { dst := some 89, op := .mov (.t 12), may := false },
  { dst := some 90, op := .callZ (.f f_ref04_Span) [.t 88, .t 89], may := false },
  { dst := some 91, op := .call (.f f_ref04_Or) [.t 87, .t 90] },
  { dst := none, op := .store 4 (.t 7) (.t 91) }]
def o_ref04_Read_21 : List AOp := [
  { dst := some 92, op := .load (some 4) (.t 7) },
  { dst := some 93, op := .mov (.t 9) },
  { dst := some 94, op := .call (.f f_ref04_with) [.t 92, .t 93] },
  { dst := none, op := .store 4 (.t 7) (.t 94) }]
def o_ref04_Read_22 : List AOp := [
  { dst := some 95, op := .mov (.t 5) },
  { dst := some 96, op := .mov (.t 0) },
  { dst := some 97, op := .lenS (.t 96) },
  { dst := some 98, op := .bin .geq (.t 95) (.t 97) }]
def o_ref04_Read_23 : List AOp := [
  { dst := some 99, op := .build [.nat .u64 0, .nat .u64 0, .nat .u64 0, .nat .u64 0] [] },
  { dst := none, op := .store 4 (.t 2) (.t 99) },
  { dst := some 3, op := .asg (.c (.nat .i64 0)) },
  { dst := some 4, op := .asg (.c (.nat .i64 2)) }]
def b_ref04_Read_0 : AC := (.seq (.seq (.ops o_ref04_Read_9)
  (.cond (.t 41) .skip (.exit 0)))
  (.trim [0, 2, 5, 6, 7, 8] (.block 1 (.seq (.ops o_ref04_Read_10)
  (.seq (.ops o_ref04_Read_11)
  (.seq (.seq (.ops o_ref04_Read_12)
  (.cond (.t 51) (.seq (.ops o_ref04_Read_13)
  .ret) .skip))
  (.seq (.ops o_ref04_Read_14)
  (.seq (.seq (.ops o_ref04_Read_15)
  (.cond (.t 65) (.seq (.ops o_ref04_Read_16)
  (.seq (.seq (.ops o_ref04_Read_17)
  (.cond (.t 81) (.seq (.ops o_ref04_Read_18)
  .ret) .skip))
  (.seq (.ops o_ref04_Read_19)
  (.ops o_ref04_Read_20)))) (.ops o_ref04_Read_21)))
  (.seq (.ops o_ref04_Read_22)
  (.cond (.t 98) (.seq (.ops o_ref04_Read_23)
  .ret) .skip))))))))))
def o_ref04_Read_24 : List AOp := [
  { dst := some 100, op := .mov (.t 6) }]
def o_ref04_Read_25 : List AOp := [
  { dst := some 101, op := .load (some 4) (.t 7) },
  { dst := some 102, op := .call (.f f_ref04_with) [.t 101, .c (.nat .u8 10)] },
  { dst := some 103, op := .call (.f f_ref04_Not) [.t 102] },
  { dst := none, op := .store 4 (.t 7) (.t 103) }]
def o_ref04_Read_26 : List AOp := [
  { dst := some 104, op := .load (some 4) (.t 7) },
  { dst := some 105, op := .mov (.t 5) },
  { dst := some 106, op := .bin .add (.t 105) (.c (.nat .i64 1)) },
  { dst := none, op := .store 4 (.t 2) (.t 104) },
  { dst := some 3, op := .asg (.t 106) },
  { dst := some 4, op := .asg (.c (.nat .i64 0)) }]
def c_ref04_Read : AC :=
  (.seq (.ops o_ref04_Read_0)
  (.seq (.seq (.ops o_ref04_Read_1)
  (.cond (.t 22) (.seq (.ops o_ref04_Read_2)
  .ret) .skip))
  (.seq (.ops o_ref04_Read_3)
  (.seq (.ops o_ref04_Read_4)
  (.seq (.seq (.ops o_ref04_Read_5)
  (.cond (.t 27) (.ops o_ref04_Read_6) .skip))
  (.seq (.ops o_ref04_Read_7)
  (.seq (.ops o_ref04_Read_8)
  (.seq (.trim [2, 5, 6, 7] (.block 0 (.loop [0, 2, 5, 6, 7, 8] b_ref04_Read_0)))
  (.seq (.seq (.ops o_ref04_Read_24)
  (.cond (.t 100) (.ops o_ref04_Read_25) .skip))
  (.seq (.ops o_ref04_Read_26)
  .ret))))))))))
def a_ref04_Read : AFn := { body := c_ref04_Read, res := [.cell 2 (some 4), .tmp 3, .tmp 4] }

-- dragoman/dragomanref04.Sign
def o_ref04_Sign_0 : List AOp := [
  { dst := some 2, op := .asg (.c (.nat .u8 0)) },
  { dst := some 3, op := .asg (.c (.nat .i64 0)) },
  { dst := some 4, op := .asg (.c (.nat .i64 0)) }]
def o_ref04_Sign_1 : List AOp := [
  { dst := some 10, op := .mov (.t 0) },
  { dst := some 11, op := .lenS (.t 10) },
  { dst := some 12, op := .bin .lss (.t 11) (.c (.nat .i64 1)) }]
def o_ref04_Sign_2 : List AOp := [
  { dst := some 2, op := .asg (.c (.nat .u8 0)) },
  { dst := some 3, op := .asg (.c (.nat .i64 0)) },
  { dst := some 4, op := .asg (.c (.nat .i64 2)) }]
def o_ref04_Sign_3 : List AOp := [
  { dst := some 13, op := .mov (.t 0) },
  { dst := some 14, op := .idxS (.t 13) (.c (.nat .i64 0)) },
  { dst := some 5, op := .asg (.t 14) }]
def o_ref04_Sign_4 : List AOp := [
  { dst := some 15, op := .mov (.t 5) },
  { dst := some 16, op := .bin .eql (.t 15) (.c (.nat .u8 10)) },
  { dst := some 17, op := .mov (.t 16) },
  { dst := some 18, op := .mov (.t 5), guard := some (17, false) },
  { dst := some 19, op := .bin .eql (.t 18) (.c (.nat .u8 93)), guard := some (17, false) },
  { dst := some 20, op := .pick (.t 17) (.c (.d (.bool true))) (.t 19) },
  { dst := some 21, op := .mov (.t 20) },
  { dst := some 22, op := .mov (.t 5), guard := some (21, false) },
  { dst := some 23, op := .bin .eql (.t 22) (.c (.nat .u8 91)), guard := some (21, false) },
  { dst := some 24, op := .pick (.t 21) (.c (.d (.bool true))) (.t 23) },
  { dst := some 25, op := .mov (.t 24) },
  { dst := some 26, op := .mov (.t 5), guard := some (25, false) },
  { dst := some 27, op := .bin .eql (.t 26) (.c (.nat .u8 94)), guard := some (25, false) },
  { dst := some 28, op := .pick (.t 25) (.c (.d (.bool true))) (.t 27) },
  { dst := some 29, op := .mov (.t 28) },
  { dst := some 30, op := .mov (.t 5), guard := some (29, false) },
  { dst := some 31, op := .bin .eql (.t 30) (.c (.nat .u8 45)), guard := some (29, false) },
  { dst := some 32, op := .pick (.t 29) (.c (.d (.bool true))) (.t 31) }]
def o_ref04_Sign_5 : List AOp := [
  { dst := some 2, op := .asg (.c (.nat .u8 0)) },
  { dst := some 3, op := .asg (.c (.nat .i64 0)) },
  { dst := some 4, op := .asg (.c (.nat .i64 2)) }]
def o_ref04_Sign_6 : List AOp := [
  { dst := some 33, op := .mov (.t 5) },
  { dst := some 34, op := .bin .neq (.t 33) (.c (.nat .u8 92)) }]
def o_ref04_Sign_7 : List AOp := [
  { dst := some 35, op := .mov (.t 5) },
  { dst := some 2, op := .asg (.t 35) },
  { dst := some 3, op := .asg (.c (.nat .i64 1)) },
  { dst := some 4, op := .asg (.c (.nat .i64 0)) }]
def o_ref04_Sign_8 : List AOp := [
  { dst := some 36, op := .mov (.t 0) },
  { dst := some 37, op := .lenS (.t 36) },
  { dst := some 38, op := .bin .lss (.t 37) (.c (.nat .i64 2)) }]
def o_ref04_Sign_9 : List AOp := [
  { dst := some 2, op := .asg (.c (.nat .u8 0)) },
  { dst := some 3, op := .asg (.c (.nat .i64 0)) },
  { dst := some 4, op := .asg (.c (.nat .i64 2)) }]
def o_ref04_Sign_10 : List AOp := [
  { dst := some 6, op := .asg (.c (.d (.str [92, 93, 91, 94, 45, 47, 46, 42, 43, 63, 40, 41, 124, 123, 125, 36]))) }]
def o_ref04_Sign_11 : List AOp := [
  { dst := some 7, op := .asg (.c (.nat .i64 0)) }]
def o_ref04_Sign_12 : List AOp := [
  { dst := some 39, op := .mov (.t 7) },
  { dst := some 40, op := .mov (.t 6) },
  { dst := some 41, op := .lenS (.t 40) },
  { dst := some 42, op := .bin .lss (.t 39) (.t 41) }]
def o_ref04_Sign_14 : List AOp := [
  { dst := some 45, op := .mov (.t 0), may := false },
  { dst := some 46, op := .idxS (.t 45) (.c (.nat .i64 1)), may := false },
  { dst := some 47, op := .mov (.t 6), may := false },
  { dst := some 48, op := .mov (.t 7), may := false },
  { dst := some 49, op := .idxS (.t 47) (.t 48), may := false },
  { dst := some 50, op := .bin .eql (.t 46) (.t 49) }]
def o_ref04_Sign_15 : List AOp := [
  { dst := some 51, op := .mov (.t 0) },
  { dst := some 52, op := .idxS (.t 51) (.c (.nat .i64 1)) },
  { dst := some 2, op := .asg (.t 52) },
  { dst := some 3, op := .asg (.c (.nat .i64 2)) },
  { dst := some 4, op := .asg (.c (.nat .i64 0)) }]
def o_ref04_Sign_13 : List AOp := [
  { dst := some 43, op := .mov (.t 7) },
  { dst := some 44, op := .bin .add (.t 43) (.c (.nat .i64 1)) },
  { dst := some 7, op := .asg (.t 44) }]
def b_ref04_Sign_0 : AC := (.seq (.seq (.ops o_ref04_Sign_12)
  (.cond (.t 42) .skip (.exit 0)))
  (.seq (.trim [0, 6, 7] (.block 1 (.seq (.ops o_ref04_Sign_14)
  (.cond (.t 50) (.seq (.ops o_ref04_Sign_15)
  .ret) .skip))))
  (.ops o_ref04_Sign_13)))
def o_ref04_Sign_16 : List AOp := [
  { dst := some 53, op := .mov (.t 0) },
  { dst := some 54, op := .lenS (.t 53) },
  { dst := some 55, op := .bin .lss (.t 54) (.c (.nat .i64 4)) },
  { dst := some 56, op := .mov (.t 55) },
  { dst := some 57, op := .mov (.t 0), guard := some (56, false) },
  { dst := some 58, op := .idxS (.t 57) (.c (.nat .i64 1)), guard := some (56, false) },
  { dst := some 59, op := .bin .neq (.t 58) (.c (.nat .u8 120)), guard := some (56, false) },
  { dst := some 60, op := .pick (.t 56) (.c (.d (.bool true))) (.t 59) }]
def o_ref04_Sign_17 : List AOp := [
  { dst := some 2, op := .asg (.c (.nat .u8 0)) },
  { dst := some 3, op := .asg (.c (.nat .i64 0)) },
  { dst := some 4, op := .asg (.c (.nat .i64 2)) }]
def o_ref04_Sign_18 : List AOp := [
  { dst := some 61, op := .mov (.t 0) },
  { dst := some 62, op := .idxS (.t 61) (.c (.nat .i64 2)) },
  { dst := some 63, op := .call (.f f_ref01_Digit) [.t 62] },
  { dst := some 8, op := .asg (.t 63) }]
def o_ref04_Sign_19 : List AOp := [
  { dst := some 64, op := .mov (.t 0) },
  { dst := some 65, op := .idxS (.t 64) (.c (.nat .i64 3)) },
  { dst := some 66, op := .call (.f f_ref01_Digit) [.t 65] },
  { dst := some 9, op := .asg (.t 66) }]
def o_ref04_Sign_20 : List AOp := [
  { dst := some 67, op := .mov (.t 8) },
  { dst := some 68, op := .bin .lss (.t 67) (.c (.nat .i64 0)) },
  { dst := some 69, op := .mov (.t 68) },
  { dst := some 70, op := .mov (.t 9), guard := some (69, false) },
  { dst := some 71, op := .bin .lss (.t 70) (.c (.nat .i64 0)), guard := some (69, false) },
  { dst := some 72, op := .pick (.t 69) (.c (.d (.bool true))) (.t 71) }]
def o_ref04_Sign_21 : List AOp := [
  { dst := some 2, op := .asg (.c (.nat .u8 0)) },
  { dst := some 3, op := .asg (.c (.nat .i64 0)) },
  { dst := some 4, op := .asg (.c (.nat .i64 2)) }]
def o_ref04_Sign_22 : List AOp := [
  { dst := some 73, op := .mov (.t 8) },
  { dst := some 74, op := .bin .mul (.c (.nat .i64 16)) (.t 73) },
  { dst := some 75, op := .mov (.t 9) },
  { dst := some 76, op := .bin .add (.t 74) (.t 75) },
  { dst := some 77, op := .toInt .u8 (.t 76) },
  { dst := some 2, op := .asg (.t 77) },
  { dst := some 3, op := .asg (.c (.nat .i64 4)) },
  { dst := some 4, op := .asg (.c (.nat .i64 0)) }]
def c_ref04_Sign : AC :=
  (.seq (.ops o_ref04_Sign_0)
  (.seq (.seq (.ops o_ref04_Sign_1)
  (.cond (.t 12) (.seq (.ops o_ref04_Sign_2)
  .ret) .skip))
  (.seq (.ops o_ref04_Sign_3)
  (.seq (.seq (.ops o_ref04_Sign_4)
  (.cond (.t 32) (.seq (.ops o_ref04_Sign_5)
  .ret) .skip))
  (.seq (.seq (.ops o_ref04_Sign_6)
  (.cond (.t 34) (.seq (.ops o_ref04_Sign_7)
  .ret) .skip))
  (.seq (.seq (.ops o_ref04_Sign_8)
  (.cond (.t 38) (.seq (.ops o_ref04_Sign_9)
  .ret) .skip))
  (.seq (.ops o_ref04_Sign_10)
  (.seq (.seq (.ops o_ref04_Sign_11)
  (.trim [0] (.block 0 (.loop [0, 6, 7] b_ref04_Sign_0))))
  (.seq (.seq (.ops o_ref04_Sign_16)
  (.cond (.t 60) (.seq (.ops o_ref04_Sign_17)
  .ret) .skip))
  (.seq (.ops o_ref04_Sign_18)
  (.seq (.ops o_ref04_Sign_19)
  (.seq (.seq (.ops o_ref04_Sign_20)
  (.cond (.t 72) (.seq (.ops o_ref04_Sign_21)
  .ret) .skip))
  (.seq (.ops o_ref04_Sign_22)
  .ret)))))))))))))
def a_ref04_Sign : AFn := { body := c_ref04_Sign, res := [.tmp 2, .tmp 3, .tmp 4] }

-- dragoman/class.Read$1
def o_class_Read_1_0 : List AOp := [
  { dst := some 4, op := .asg (.c (.d (.bool false))) }]
def o_class_Read_1_1 : List AOp := [
  { dst := some 6, op := .load none (.t 1) },
  { dst := some 7, op := .load none (.t 2) },
  { dst := some 8, op := .lenS (.t 7) },
  { dst := some 9, op := .bin .lss (.t 6) (.t 8) },
  { dst := some 10, op := .mov (.t 9) },
  { dst := some 11, op := .load none (.t 2), guard := some (10, true) },
  { dst := some 12, op := .load none (.t 1), guard := some (10, true) },
  { dst := some 13, op := .idxS (.t 11) (.t 12), guard := some (10, true) },
  { dst := some 14, op := .mov (.t 0), guard := some (10, true) },
  { dst := some 15, op := .bin .eql (.t 13) (.t 14), guard := some (10, true) },
  { dst := some 16, op := .pick (.t 10) (.t 15) (.c (.d (.bool false))) },
  { dst := some 5, op := .asg (.t 16) }]
def o_class_Read_1_2 : List AOp := [
  { dst := some 17, op := .mov (.t 5) }]
def o_class_Read_1_3 : List AOp := [
  { dst := some 18, op := .load none (.t 1) },
  { dst := some 19, op := .bin .add (.t 18) (.c (.nat .i64 1)) },
  { dst := none, op := .store 1 (.t 1) (.t 19) }]
def o_class_Read_1_4 : List AOp := [
  { dst := some 20, op := .mov (.t 5) },
  { dst := some 4, op := .asg (.t 20) }]
def c_class_Read_1 : AC :=
  (.seq (.ops o_class_Read_1_0)
  (.seq (.ops o_class_Read_1_1)
  (.seq (.seq (.ops o_class_Read_1_2)
  (.cond (.t 17) (.ops o_class_Read_1_3) .skip))
  (.seq (.ops o_class_Read_1_4)
  .ret))))
def a_class_Read_1 : AFn := { body := c_class_Read_1, res := [.tmp 4] }

-- dragoman/class.Or
def o_class_Or_0 : List AOp := [
  { dst := some 2, op := .box (.t 0) },
  { dst := some 3, op := .box (.t 1) },
  { dst := some 4, op := .alloc [.nat .u64 0, .nat .u64 0, .nat .u64 0, .nat .u64 0] }]
def o_class_Or_1 : List AOp := [
  { dst := some 6, op := .mov (.c (.nat .i64 0)) }]
def o_class_Or_2 : List AOp := [
  { dst := some 7, op := .bin .lss (.t 6) (.c (.nat .i64 4)) }]
def o_class_Or_3 : List AOp := [
  { dst := some 8, op := .mov (.t 6) },
  { dst := some 5, op := .asg (.t 8) }]
def o_class_Or_4 : List AOp := [
  { dst := some 9, op := .mov (.t 5), may := false },
  { dst := some 10, op := .idxA (some 4) 1 (.t 2) (.t 9), may := false },
  { dst := some 11, op := .load none (.t 10), may := false },
  { dst := some 12, op := .mov (.t 5), may := false },
  { dst := some 13, op := .idxA (some 4) 1 (.t 3) (.t 12), may := false },
  { dst := some 14, op := .load none (.t 13), may := false },
  { dst := some 15, op := .bin .or (.t 11) (.t 14) },
  { dst := some 16, op := .idxA (some 4) 1 (.t 2) (.t 9) },
  { dst := none, op := .store 1 (.t 16) (.t 15) }]
def o_class_Or_5 : List AOp := [
  { dst := some 17, op := .bin .add (.t 6) (.c (.nat .i64 1)) },
  { dst := some 6, op := .mov (.t 17) }]
def b_class_Or_0 : AC := (.seq (.ops o_class_Or_2)
  (.seq (.cond (.t 7) .skip (.exit 0))
  (.seq (.trim [2, 3, 4, 6] (.block 1 (.seq (.ops o_class_Or_3)
  (.ops o_class_Or_4))))
  (.ops o_class_Or_5))))
def o_class_Or_6 : List AOp := [
  { dst := some 18, op := .load (some 4) (.t 2) },
  { dst := none, op := .store 4 (.t 4) (.t 18) }]
def c_class_Or : AC :=
  (.seq (.ops o_class_Or_0)
  (.seq (.seq (.ops o_class_Or_1)
  (.trim [2, 4] (.block 0 (.loop [2, 3, 4, 6] b_class_Or_0))))
  (.seq (.ops o_class_Or_6)
  .ret)))
def a_class_Or : AFn := { body := c_class_Or, res := [.cell 4 (some 4)] }

-- dragoman/hex.Digit
def o_hex_Digit_0 : List AOp := [
  { dst := some 2, op := .asg (.c (.nat .i64 0)) }]
def o_hex_Digit_1 : List AOp := [
  { dst := some 4, op := .mov (.t 0) },
  { dst := some 5, op := .bin .geq (.t 4) (.c (.nat .u8 48)) },
  { dst := some 6, op := .mov (.t 5) },
  { dst := some 7, op := .mov (.t 0), guard := some (6, true) },
  { dst := some 8, op := .bin .leq (.t 7) (.c (.nat .u8 57)), guard := some (6, true) },
  { dst := some 9, op := .pick (.t 6) (.t 8) (.c (.d (.bool false))) },
  { dst := some 3, op := .asg (.t 9) }]
def o_hex_Digit_2 : List AOp := [
  { dst := some 10, op := .mov (.t 0) },
  { dst := some 11, op := .bin .sub (.t 10) (.c (.nat .u8 48)) },
  { dst := some 12, op := .toInt .i64 (.t 11) },
  { dst := some 2, op := .asg (.t 12) }]
def o_hex_Digit_3 : List AOp := [
  { dst := some 14, op := .mov (.t 0) },
  { dst := some 15, op := .bin .geq (.t 14) (.c (.nat .u8 97)) },
  { dst := some 16, op := .mov (.t 15) },
  { dst := some 17, op := .mov (.t 0), guard := some (16, true) },
  { dst := some 18, op := .bin .leq (.t 17) (.c (.nat .u8 102)), guard := some (16, true) },
  { dst := some 19, op := .pick (.t 16) (.t 18) (.c (.d (.bool false))) },
  { dst := some 13, op := .asg (.t 19) }]
def o_hex_Digit_4 : List AOp := [
  { dst := some 20, op := .mov (.t 0) },
  { dst := some 21, op := .bin .sub (.t 20) (.c (.nat .u8 97)) },
  { dst := some 22, op := .toInt .i64 (.t 21) },
  { dst := some 23, op := .bin .add (.t 22) (.c (.nat .i64 10)) },
  { dst := some 2, op := .asg (.t 23) }]
def o_hex_Digit_5 : List AOp := [
  { dst := some 25, op := .mov (.t 0) },
  { dst := some 26, op := .bin .geq (.t 25) (.c (.nat .u8 65)) },
  { dst := some 27, op := .mov (.t 26) },
  { dst := some 28, op := .mov (.t 0), guard := some (27, true) },
  { dst := some 29, op := .bin .leq (.t 28) (.c (.nat .u8 70)), guard := some (27, true) },
  { dst := some 30, op := .pick (.t 27) (.t 29) (.c (.d (.bool false))) },
  { dst := some 24, op := .asg (.t 30) }]
def o_hex_Digit_6 : List AOp := [
  { dst := some 31, op := .mov (.t 0) },
  { dst := some 32, op := .bin .sub (.t 31) (.c (.nat .u8 65)) },
  { dst := some 33, op := .toInt .i64 (.t 32) },
  { dst := some 34, op := .bin .add (.t 33) (.c (.nat .i64 10)) },
  { dst := some 2, op := .asg (.t 34) }]
def o_hex_Digit_7 : List AOp := [
  { dst := some 2, op := .asg (.c (.d (.int .i64 (-1)))) }]
def c_hex_Digit : AC :=
  (.seq (.ops o_hex_Digit_0)
  (.seq (.trim [] (.block 0 (.seq (.ops o_hex_Digit_1)
  (.cond (.t 3) (.seq (.ops o_hex_Digit_2)
  .ret) (.seq (.ops o_hex_Digit_3)
  (.cond (.t 13) (.seq (.ops o_hex_Digit_4)
  .ret) (.seq (.ops o_hex_Digit_5)
  (.cond (.t 24) (.seq (.ops o_hex_Digit_6)
  .ret) .skip))))))))
  (.seq (.ops o_hex_Digit_7)
  .ret)))
def a_hex_Digit : AFn := { body := c_hex_Digit, res := [.tmp 2] }

-- dragoman/dragomanref04.Or
def o_ref04_Or_0 : List AOp := [
  { dst := some 2, op := .box (.t 0) },
  { dst := some 3, op := .box (.t 1) },
  { dst := some 4, op := .alloc [.nat .u64 0, .nat .u64 0, .nat .u64 0, .nat .u64 0] }]
def o_ref04_Or_1 : List AOp := [
  { dst := some 5, op := .asg (.c (.nat .i64 0)) }]
def o_ref04_Or_2 : List AOp := [
  { dst := some 7, op := .mov (.t 5) },
  { dst := some 8, op := .bin .lss (.t 7) (.c (.nat .i64 256)) }]
def o_ref04_Or_4 : List AOp := [
  { dst := some 11, op := .load (some 4) (.t 3) },
  { dst := some 12, op := .mov (.t 5) },
  { dst := some 13, op := .toInt .u8 (.t 12) },
  { dst := some 14, op := .call (.f f_ref04_Has) [.t 11, .t 13] },
  { dst := some 6, op := .asg (.t 14) }]
def o_ref04_Or_5 : List AOp := [
  { dst := some 15, op := .mov (.t 6) }]
def o_ref04_Or_6 : List AOp := [
  { dst := some 16, op := .load (some 4) (.t 2) },
  { dst := some 17, op := .mov (.t 5) },
  { dst := some 18, op := .toInt .u8 (.t 17) },
  { dst := some 19, op := .call (.f f_ref04_with) [.t 16, .t 18] },
  { dst := none, op := .store 4 (.t 2) (.t 19) }]
def o_ref04_Or_3 : List AOp := [
  { dst := some 9, op := .mov (.t 5) },
  { dst := some 10, op := .bin .add (.t 9) (.c (.nat .i64 1)) },
  { dst := some 5, op := .asg (.t 10) }]
def b_ref04_Or_0 : AC := (.seq (.seq (.ops o_ref04_Or_2)
  (.cond (.t 8) .skip (.exit 0)))
  (.seq (.trim [2, 3, 4, 5] (.block 1 (.seq (.ops o_ref04_Or_4)
  (.seq (.ops o_ref04_Or_5)
  (.cond (.t 15) (.ops o_ref04_Or_6) .skip)))))
  (.ops o_ref04_Or_3)))
def o_ref04_Or_7 : List AOp := [
  { dst := some 20, op := .load (some 4) (.t 2) },
  { dst := none, op := .store 4 (.t 4) (.t 20) }]
def c_ref04_Or : AC :=
  (.seq (.ops o_ref04_Or_0)
  (.seq (.seq (.ops o_ref04_Or_1)
  (.trim [2, 4] (.block 0 (.loop [2, 3, 4, 5] b_ref04_Or_0))))
  (.seq (.ops o_ref04_Or_7)
  .ret)))
def a_ref04_Or : AFn := { body := c_ref04_Or, res := [.cell 4 (some 4)] }

-- dragoman/dragomanref04.Span
def o_ref04_Span_0 : List AOp := [
  { dst := some 4, op := .alloc [.nat .u64 0, .nat .u64 0, .nat .u64 0, .nat .u64 0] }]
def o_ref04_Span_1 : List AOp := [
  { dst := some 7, op := .build [.nat .u64 0, .nat .u64 0, .nat .u64 0, .nat .u64 0] [] },
  { dst := some 5, op := .alloc [.nat .u64 0, .nat .u64 0, .nat .u64 0, .nat .u64 0] },
  { dst := none, op := .store 4 (.t 5) (.t 7) }]
def o_ref04_Span_2 : List AOp := [
  { dst := some 8, op := .mov (.t 0) },
  { dst := some 9, op := .toInt .i64 (.t 8) },
  { dst := some 6, op := .asg (.t 9) }]
def o_ref04_Span_3 : List AOp := [
  { dst := some 10, op := .mov (.t 6) },
  { dst := some 11, op := .mov (.t 1) },
  { dst := some 12, op := .toInt .i64 (.t 11) },
  { dst := some 13, op := .bin .leq (.t 10) (.t 12) }]
def o_ref04_Span_5 : List AOp := [
  { dst := some 16, op := .load (some 4) (.t 5) },
  { dst := some 17, op := .mov (.t 6) },
  { dst := some 18, op := .toInt .u8 (.t 17) },
  { dst := some 19, op := .call (.f f_ref04_with) [.t 16, .t 18] },
  { dst := none, op := .store 4 (.t 5) (.t 19) }]
def o_ref04_Span_4 : List AOp := [
  { dst := some 14, op := .mov (.t 6) },
  { dst := some 15, op := .bin .add (.t 14) (.c (.nat .i64 1)) },
  { dst := some 6, op := .asg (.t 15) }]
def b_ref04_Span_0 : AC := (.seq (.seq (.ops o_ref04_Span_3)
  (.cond (.t 13) .skip (.exit 0)))
  (.seq (.trim [1, 4, 5, 6] (.block 1 (.ops o_ref04_Span_5)))
  (.ops o_ref04_Span_4)))
def o_ref04_Span_6 : List AOp := [
  { dst := some 20, op := .load (some 4) (.t 5) },
  { dst := none, op := .store 4 (.t 4) (.t 20) }]
def c_ref04_Span : AC :=
  (.seq (.ops o_ref04_Span_0)
  (.seq (.ops o_ref04_Span_1)
  (.seq (.seq (.ops o_ref04_Span_2)
  (.trim [4, 5] (.block 0 (.loop [1, 4, 5, 6] b_ref04_Span_0))))
  (.seq (.ops o_ref04_Span_6)
  .ret))))
def a_ref04_Span : AFn := { body := c_ref04_Span, res := [.cell 4 (some 4)] }

-- dragoman/dragomanref01.Digit
def o_ref01_Digit_0 : List AOp := [
  { dst := some 2, op := .asg (.c (.nat .i64 0)) }]
def o_ref01_Digit_1 : List AOp := [
  { dst := some 3, op := .mov (.t 0) },
  { dst := some 4, op := .bin .geq (.t 3) (.c (.nat .u8 48)) },
  { dst := some 5, op := .mov (.t 4) },
  { dst := some 6, op := .mov (.t 0), guard := some (5, true) },
  { dst := some 7, op := .bin .leq (.t 6) (.c (.nat .u8 57)), guard := some (5, true) },
  { dst := some 8, op := .pick (.t 5) (.t 7) (.c (.d (.bool false))) }]
def o_ref01_Digit_2 : List AOp := [
  { dst := some 9, op := .mov (.t 0) },
  { dst := some 10, op := .toInt .i64 (.t 9) },
  { dst := some 11, op := .bin .sub (.t 10) (.c (.nat .i64 48)) },
  { dst := some 2, op := .asg (.t 11) }]
def o_ref01_Digit_3 : List AOp := [
  { dst := some 12, op := .mov (.t 0) },
  { dst := some 13, op := .bin .geq (.t 12) (.c (.nat .u8 97)) },
  { dst := some 14, op := .mov (.t 13) },
  { dst := some 15, op := .mov (.t 0), guard := some (14, true) },
  { dst := some 16, op := .bin .leq (.t 15) (.c (.nat .u8 102)), guard := some (14, true) },
  { dst := some 17, op := .pick (.t 14) (.t 16) (.c (.d (.bool false))) }]
def o_ref01_Digit_4 : List AOp := [
  { dst := some 18, op := .mov (.t 0) },
  { dst := some 19, op := .toInt .i64 (.t 18) },
  { dst := some 20, op := .bin .sub (.t 19) (.c (.nat .i64 87)) },
  { dst := some 2, op := .asg (.t 20) }]
def o_ref01_Digit_5 : List AOp := [
  { dst := some 21, op := .mov (.t 0) },
  { dst := some 22, op := .bin .geq (.t 21) (.c (.nat .u8 65)) },
  { dst := some 23, op := .mov (.t 22) },
  { dst := some 24, op := .mov (.t 0), guard := some (23, true) },
  { dst := some 25, op := .bin .leq (.t 24) (.c (.nat .u8 70)), guard := some (23, true) },
  { dst := some 26, op := .pick (.t 23) (.t 25) (.c (.d (.bool false))) }]
def o_ref01_Digit_6 : List AOp := [
  { dst := some 27, op := .mov (.t 0) },
  { dst := some 28, op := .toInt .i64 (.t 27) },
  { dst := some 29, op := .bin .sub (.t 28) (.c (.nat .i64 55)) },
  { dst := some 2, op := .asg (.t 29) }]
def o_ref01_Digit_7 : List AOp := [
  { dst := some 2, op := .asg (.c (.d (.int .i64 (-1)))) }]
def c_ref01_Digit : AC :=
  (.seq (.ops o_ref01_Digit_0)
  (.seq (.seq (.ops o_ref01_Digit_1)
  (.cond (.t 8) (.seq (.ops o_ref01_Digit_2)
  .ret) .skip))
  (.seq (.seq (.ops o_ref01_Digit_3)
  (.cond (.t 17) (.seq (.ops o_ref01_Digit_4)
  .ret) .skip))
  (.seq (.seq (.ops o_ref01_Digit_5)
  (.cond (.t 26) (.seq (.ops o_ref01_Digit_6)
  .ret) .skip))
  (.seq (.ops o_ref01_Digit_7)
  .ret)))))
def a_ref01_Digit : AFn := { body := c_ref01_Digit, res := [.tmp 2] }

def tabl : List (Nat × AFn) := [(f_law05_RegexReads, a_law05_RegexReads), (f_law05_RegexBack, a_law05_RegexBack), (f_law05_RegexWraps, a_law05_RegexWraps), (f_law05_RegexSigns, a_law05_RegexSigns), (f_law05_RegexJoins, a_law05_RegexJoins), (f_law05_RegexTrees, a_law05_RegexTrees), (f_law05_shown, a_law05_shown), (f_regex_Read, a_regex_Read), (f_ref05_Read, a_ref05_Read), (f_ref05_Same, a_ref05_Same), (f_regex_Text, a_regex_Text), (f_ref05_Right, a_ref05_Right), (f_ref05_Join, a_ref05_Join), (f_ref04_Plain, a_ref04_Plain), (f_ref04_One, a_ref04_One), (f_regex_Join, a_regex_Join), (f_regex_Lit, a_regex_Lit), (f_ref05_Lit, a_ref05_Lit), (f_regex_Right, a_regex_Right), (f_ref05_Text, a_ref05_Text), (f_regex_reader_all, a_regex_reader_all), (f_ref05_parser_whole, a_ref05_parser_whole), (f_ref05_parser_fail, a_ref05_parser_fail), (f_regex_Text_1, a_regex_Text_1), (f_slices_Contains_int_int, a_slices_Contains_int_int), (f_regex_Text_2, a_regex_Text_2), (f_regex_setText, a_regex_setText), (f_ref05_begin, a_ref05_begin), (f_ref05_many, a_ref05_many), (f_ref01_Hex, a_ref01_Hex), (f_ref04_with, a_ref04_with), (f_slices_Clone_api_Re_api_Re, a_slices_Clone_api_Re_api_Re), (f_regex_kids, a_regex_kids), (f_class_One, a_class_One), (f_ref05_told, a_ref05_told), (f_regex_reader_cat, a_regex_reader_cat), (f_regex_reader_sees, a_regex_reader_sees), (f_regex_reader_put, a_regex_reader_put), (f_ref05_parser_row, a_ref05_parser_row), (f_ref05_parser_is, a_ref05_parser_is), (f_ref05_parser_lay, a_ref05_parser_lay), (f_slices_Index_int_int, a_slices_Index_int_int), (f_regex_dot, a_regex_dot), (f_class_Count, a_class_Count), (f_class_Text, a_class_Text), (f_ref01_digit, a_ref01_digit), (f_ref04_Has, a_ref04_Has), (f_class_Span, a_class_Span), (f_ref05_Dot, a_ref05_Dot), (f_ref04_Count, a_ref04_Count), (f_ref04_Text, a_ref04_Text), (f_ref05_inside, a_ref05_inside), (f_regex_reader_piece, a_regex_reader_piece), (f_ref05_parser_piece, a_ref05_parser_piece), (f_class_Not, a_class_Not), (f_bits_OnesCount64, a_bits_OnesCount64), (f_class_runs, a_class_runs), (f_class_Plain, a_class_Plain), (f_ref04_Not, a_ref04_Not), (f_regex_reader_atom, a_regex_reader_atom), (f_strings_IndexByte, a_strings_IndexByte), (f_ref05_parser_atom, a_ref05_parser_atom), (f_class_runs_1, a_class_runs_1), (f_class_Has, a_class_Has), (f_class_isWord, a_class_isWord), (f_hex_Hex, a_hex_Hex), (f_regex_reader_group, a_regex_reader_group), (f_class_Read, a_class_Read), (f_class_Sign, a_class_Sign), (f_stringslite_IndexByte, a_stringslite_IndexByte), (f_ref04_Read, a_ref04_Read), (f_ref04_Sign, a_ref04_Sign), (f_class_Read_1, a_class_Read_1), (f_class_Or, a_class_Or), (f_hex_Digit, a_hex_Digit), (f_ref04_Or, a_ref04_Or), (f_ref04_Span, a_ref04_Span), (f_ref01_Digit, a_ref01_Digit)]
def tabD : List (Nat × AFn) := [(f_regex_Read_1, a_regex_Read_1), (f_ref05_parser_fail, a_ref05_parser_fail), (f_class_runs_1, a_class_runs_1)]
end Go.Ab.R05
