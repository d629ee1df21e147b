/- A part of the proof: tools. No condition. -/
import Derived.Test.YtmpdgijnoekfmaaDoorL0
set_option linter.all false
namespace Go.Ab.R15
set_option maxRecDepth 100000
abbrev f_law15_ScanOperands : Nat := 3
abbrev f_law15_ScanPlaces : Nat := 4
abbrev f_law15_ScanJoins : Nat := 5
abbrev f_law15_ScanTexts : Nat := 6
abbrev f_law15_ScanMarks : Nat := 7
abbrev f_law15_ScanSlashes : Nat := 8
abbrev f_law15_shown : Nat := 9
abbrev f_scan_Operand : Nat := 10
abbrev f_ref15_Operand : Nat := 11
abbrev f_scan_Tokens : Nat := 12
abbrev f_scan_Marks : Nat := 13
abbrev f_scan_Keys : Nat := 14
abbrev f_scan_skip : Nat := 15
abbrev f_scan_next : Nat := 16
abbrev f_strings_Split : Nat := 17
abbrev f_scan_isFigure : Nat := 18
abbrev f_scan_number : Nat := 19
abbrev f_scan_text : Nat := 20
abbrev f_scan_expression : Nat := 21
abbrev f_hex_IsName : Nat := 22
abbrev f_scan_word : Nat := 23
abbrev f_scan_mark : Nat := 24
abbrev f_strings_genSplit : Nat := 25
abbrev f_scan_number_1 : Nat := 26
abbrev f_dec_Read : Nat := 27
abbrev f_strings_IndexByte : Nat := 28
abbrev f_hex_Digit : Nat := 29
abbrev f_regex_Read : Nat := 30
abbrev f_hex_IsName_1 : Nat := 31
abbrev f_slices_ContainsFunc_byte_byte : Nat := 32
abbrev f_slices_Contains_string_string : Nat := 33
abbrev f_strings_HasPrefix : Nat := 34
abbrev f_strings_explode : Nat := 35
abbrev f_strings_Count : Nat := 36
abbrev f_strings_Index : Nat := 37
abbrev f_dec_Read_1 : Nat := 38
abbrev f_dec_caught : Nat := 39
abbrev f_dec_span : Nat := 40
abbrev f_dec_wrong : Nat := 41
abbrev f_bits_Mul64 : Nat := 42
abbrev f_bits_Add64 : Nat := 43
abbrev f_dec_joined : Nat := 44
abbrev f_stringslite_IndexByte : Nat := 45
abbrev f_regex_Read_1 : Nat := 46
abbrev f_regex_reader_all : Nat := 47
abbrev f_slices_IndexFunc_byte_byte : Nat := 48
abbrev f_slices_Index_string_string : Nat := 49
abbrev f_stringslite_HasPrefix : Nat := 50
abbrev f_utf8_RuneCountInString : Nat := 51
abbrev f_utf8_DecodeRuneInString : Nat := 52
abbrev f_bytealg_CountString : Nat := 53
abbrev f_stringslite_Index : Nat := 54
abbrev f_bytealg_IndexByteString : Nat := 55
abbrev f_regex_reader_cat : Nat := 56
abbrev f_regex_reader_sees : Nat := 57
abbrev f_regex_reader_put : Nat := 58
abbrev f_utf8_decodeRuneInStringSlow : Nat := 59
abbrev f_bytealg_IndexString : Nat := 60
abbrev f_bytealg_Cutover : Nat := 61
abbrev f_bytealg_IndexRabinKarp_string : Nat := 62
abbrev f_regex_reader_piece : Nat := 63
abbrev f_bytealg_hashStr_string : Nat := 64
abbrev f_regex_reader_atom : Nat := 65
abbrev f_regex_reader_group : Nat := 66
abbrev f_regex_dot : Nat := 67
abbrev f_class_Read : Nat := 68
abbrev f_class_Sign : Nat := 69
abbrev f_class_One : Nat := 70
abbrev f_class_Not : Nat := 71
abbrev f_class_Read_1 : Nat := 72
abbrev f_class_Or : Nat := 73
abbrev f_class_Span : Nat := 74
-- dragoman/dragomanlaw15.ScanOperands
def o_law15_ScanOperands_0 : List AOp := [
  { dst := some 1, op := .box (.t 0) },
  { dst := some 2, op := .asg (.c (.d (.bool false))) }]
def o_law15_ScanOperands_1 : List AOp := [
  { dst := some 4, op := .callZ (.f f_law15_shown) [] },
  { dst := some 3, op := .asg (.t 4) }]
def o_law15_ScanOperands_2 : List AOp := [
  { dst := some 5, op := .mov (.t 3) },
  { dst := some 6, op := .mov (.t 5) },
  { dst := some 7, op := .load (some 4) (.t 1), guard := some (6, true), may := false },
  { dst := some 8, op := .callZ (.f f_scan_Operand) [.t 7], guard := some (6, true), may := false },
  { dst := some 9, op := .load (some 4) (.t 1), guard := some (6, true), may := false },
  { dst := some 10, op := .call (.f f_ref15_Operand) [.t 9], guard := some (6, true) },
  { dst := some 11, op := .beq false (.t 8) (.t 10), guard := some (6, true) },
  { dst := some 12, op := .pick (.t 6) (.t 11) (.c (.d (.bool false))) },
  { dst := some 2, op := .asg (.t 12) }]
def c_law15_ScanOperands : AC :=
  (.seq (.ops o_law15_ScanOperands_0)
  (.seq (.ops o_law15_ScanOperands_1)
  (.seq (.ops o_law15_ScanOperands_2)
  .ret)))
def a_law15_ScanOperands : AFn := { body := c_law15_ScanOperands, res := [.tmp 2] }

-- dragoman/dragomanlaw15.ScanPlaces
def o_law15_ScanPlaces_0 : List AOp := [
  { dst := some 2, op := .asg (.c (.d (.bool false))) }]
def o_law15_ScanPlaces_1 : List AOp := [
  { dst := some 8, op := .callZ (.f f_law15_shown) [] },
  { dst := some 3, op := .asg (.t 8) }]
def o_law15_ScanPlaces_2 : List AOp := [
  { dst := some 9, op := .mov (.t 0) },
  { dst := some 10, op := .lenS (.t 9) },
  { dst := some 11, op := .bin .gtr (.t 10) (.c (.nat .i64 3000)) }]
def o_law15_ScanPlaces_3 : List AOp := [
  { dst := some 12, op := .mov (.t 3) },
  { dst := some 2, op := .asg (.t 12) }]
def o_law15_ScanPlaces_4 : List AOp := [
  { dst := some 14, op := .mov (.t 0) },
  { dst := some 15, op := .call (.f f_scan_Tokens) [.t 14] },
  { dst := some 13, op := .mov (.t 15) },
  { dst := some 16, op := .extr (.t 13) 0 },
  { dst := some 17, op := .extr (.t 13) 1 },
  { dst := some 18, op := .extr (.t 13) 2 },
  { dst := some 4, op := .asg (.t 16) },
  { dst := some 5, op := .asg (.t 17) },
  { dst := some 6, op := .asg (.t 18) }]
def o_law15_ScanPlaces_5 : List AOp := [
  { dst := some 19, op := .mov (.t 5) },
  { dst := some 20, op := .bin .neq (.t 19) (.c (.nat .i64 0)) }]
def o_law15_ScanPlaces_6 : List AOp := [
  { dst := some 21, op := .mov (.t 3) },
  { dst := some 22, op := .mov (.t 21) },
  { dst := some 23, op := .mov (.t 4), guard := some (22, true) },
  { dst := some 24, op := .len (.t 23), guard := some (22, true) },
  { dst := some 25, op := .bin .eql (.t 24) (.c (.nat .i64 0)), guard := some (22, true) },
  { dst := some 26, op := .pick (.t 22) (.t 25) (.c (.d (.bool false))) },
  { dst := some 27, op := .mov (.t 26) },
  { dst := some 28, op := .mov (.t 6), guard := some (27, true) },
  { dst := some 29, op := .bin .geq (.t 28) (.c (.nat .i64 0)), guard := some (27, true) },
  { dst := some 30, op := .pick (.t 27) (.t 29) (.c (.d (.bool false))) },
  { dst := some 31, op := .mov (.t 30) },
  { dst := some 32, op := .mov (.t 6), guard := some (31, true) },
  { dst := some 33, op := .mov (.t 0), guard := some (31, true) },
  { dst := some 34, op := .lenS (.t 33), guard := some (31, true) },
  { dst := some 35, op := .bin .leq (.t 32) (.t 34), guard := some (31, true) },
  { dst := some 36, op := .pick (.t 31) (.t 35) (.c (.d (.bool false))) },
  { dst := some 2, op := .asg (.t 36) }]
def o_law15_ScanPlaces_7 : List AOp := [
  { dst := some 7, op := .asg (.c (.nat .i64 0)) }]
def o_law15_ScanPlaces_8 : List AOp := [
  { dst := some 37, op := .mov (.t 7) },
  { dst := some 38, op := .mov (.t 4) },
  { dst := some 39, op := .len (.t 38) },
  { dst := some 40, op := .bin .lss (.t 37) (.t 39) }]
def o_law15_ScanPlaces_10 : List AOp := [
  { dst := some 43, op := .mov (.t 7) },
  { dst := some 44, op := .bin .gtr (.t 43) (.c (.nat .i64 0)) },
  { dst := some 45, op := .mov (.t 44) },
  { dst := some 46, op := .mov (.t 4), guard := some (45, true), may := false },
  { dst := some 47, op := .mov (.t 7), guard := some (45, true), may := false },
  { dst := some 48, op := .idxA none 4 (.t 46) (.t 47), guard := some (45, true), may := false },
  { dst := some 49, op := .fldA 1 (.t 48), guard := some (45, true), may := false },
  { dst := some 50, op := .load none (.t 49), guard := some (45, true), may := false },
  { dst := some 51, op := .mov (.t 4), guard := some (45, true), may := false },
  { dst := some 52, op := .mov (.t 7), guard := some (45, true), may := false },
  { dst := some 53, op := .bin .sub (.t 52) (.c (.nat .i64 1)), guard := some (45, true), may := false },
  { dst := some 54, op := .idxA none 4 (.t 51) (.t 53), guard := some (45, true), may := false },
  { dst := some 55, op := .fldA 1 (.t 54), guard := some (45, true), may := false },
  { dst := some 56, op := .load none (.t 55), guard := some (45, true), may := false },
  { dst := some 57, op := .bin .leq (.t 50) (.t 56), guard := some (45, true) },
  { dst := some 58, op := .pick (.t 45) (.t 57) (.c (.d (.bool false))) },
  { dst := some 59, op := .mov (.t 58) },
  { dst := some 60, op := .mov (.t 4), guard := some (59, false), may := false },
  { dst := some 61, op := .mov (.t 7), guard := some (59, false), may := false },
  { dst := some 62, op := .idxA none 4 (.t 60) (.t 61), guard := some (59, false), may := false },
  { dst := some 63, op := .fldA 1 (.t 62), guard := some (59, false), may := false },
  { dst := some 64, op := .load none (.t 63), guard := some (59, false), may := false },
  { dst := some 65, op := .mov (.t 0), guard := some (59, false), may := false },
  { dst := some 66, op := .lenS (.t 65), guard := some (59, false), may := false },
  { dst := some 67, op := .bin .gtr (.t 64) (.t 66), guard := some (59, false) },
  { dst := some 68, op := .pick (.t 59) (.c (.d (.bool true))) (.t 67) },
  { dst := some 69, op := .mov (.t 68) },
  { dst := some 70, op := .mov (.t 4), guard := some (69, false), may := false },
  { dst := some 71, op := .mov (.t 7), guard := some (69, false), may := false },
  { dst := some 72, op := .idxA none 4 (.t 70) (.t 71), guard := some (69, false), may := false },
  { dst := some 73, op := .fldA 0 (.t 72), guard := some (69, false), may := false },
  { dst := some 74, op := .load none (.t 73), guard := some (69, false), may := false },
  { dst := some 75, op := .bin .eql (.t 74) (.c (.nat .i64 0)), guard := some (69, false), may := false },
  { dst := some 76, op := .mov (.t 7), guard := some (69, false), may := false },
  { dst := some 77, op := .mov (.t 4), guard := some (69, false), may := false },
  { dst := some 78, op := .len (.t 77), guard := some (69, false), may := false },
  { dst := some 79, op := .bin .sub (.t 78) (.c (.nat .i64 1)), guard := some (69, false), may := false },
  { dst := some 80, op := .bin .eql (.t 76) (.t 79), guard := some (69, false), may := false },
  { dst := some 81, op := .beq true (.t 75) (.t 80), guard := some (69, false) },
  { dst := some 82, op := .pick (.t 69) (.c (.d (.bool true))) (.t 81) }]
def o_law15_ScanPlaces_11 : List AOp := [
  { dst := some 2, op := .asg (.c (.d (.bool false))) }]
def o_law15_ScanPlaces_9 : List AOp := [
  { dst := some 41, op := .mov (.t 7) },
  { dst := some 42, op := .bin .add (.t 41) (.c (.nat .i64 1)) },
  { dst := some 7, op := .asg (.t 42) }]
def b_law15_ScanPlaces_0 : AC := (.seq (.seq (.ops o_law15_ScanPlaces_8)
  (.cond (.t 40) .skip (.exit 0)))
  (.seq (.trim [0, 3, 4, 6, 7] (.block 1 (.seq (.ops o_law15_ScanPlaces_10)
  (.cond (.t 82) (.seq (.ops o_law15_ScanPlaces_11)
  .ret) .skip))))
  (.ops o_law15_ScanPlaces_9)))
def o_law15_ScanPlaces_12 : List AOp := [
  { dst := some 83, op := .mov (.t 3) },
  { dst := some 84, op := .mov (.t 83) },
  { dst := some 85, op := .mov (.t 4), guard := some (84, true) },
  { dst := some 86, op := .len (.t 85), guard := some (84, true) },
  { dst := some 87, op := .bin .gtr (.t 86) (.c (.nat .i64 0)), guard := some (84, true) },
  { dst := some 88, op := .pick (.t 84) (.t 87) (.c (.d (.bool false))) },
  { dst := some 89, op := .mov (.t 88) },
  { dst := some 90, op := .mov (.t 6), guard := some (89, true) },
  { dst := some 91, op := .bin .eql (.t 90) (.c (.nat .i64 0)), guard := some (89, true) },
  { dst := some 92, op := .pick (.t 89) (.t 91) (.c (.d (.bool false))) },
  { dst := some 2, op := .asg (.t 92) }]
def c_law15_ScanPlaces : AC :=
  (.seq (.ops o_law15_ScanPlaces_0)
  (.seq (.ops o_law15_ScanPlaces_1)
  (.seq (.seq (.ops o_law15_ScanPlaces_2)
  (.cond (.t 11) (.seq (.ops o_law15_ScanPlaces_3)
  .ret) .skip))
  (.seq (.ops o_law15_ScanPlaces_4)
  (.seq (.seq (.ops o_law15_ScanPlaces_5)
  (.cond (.t 20) (.seq (.ops o_law15_ScanPlaces_6)
  .ret) .skip))
  (.seq (.seq (.ops o_law15_ScanPlaces_7)
  (.trim [3, 4, 6] (.block 0 (.loop [0, 3, 4, 6, 7] b_law15_ScanPlaces_0))))
  (.seq (.ops o_law15_ScanPlaces_12)
  .ret)))))))
def a_law15_ScanPlaces : AFn := { body := c_law15_ScanPlaces, res := [.tmp 2] }

-- dragoman/dragomanlaw15.ScanJoins
def o_law15_ScanJoins_0 : List AOp := [
  { dst := some 4, op := .asg (.c (.d (.bool false))) }]
def o_law15_ScanJoins_1 : List AOp := [
  { dst := some 17, op := .callZ (.f f_law15_shown) [] },
  { dst := some 5, op := .asg (.t 17) }]
def o_law15_ScanJoins_2 : List AOp := [
  { dst := some 18, op := .mov (.t 0) },
  { dst := some 19, op := .lenS (.t 18) },
  { dst := some 20, op := .mov (.t 1) },
  { dst := some 21, op := .lenS (.t 20) },
  { dst := some 22, op := .bin .add (.t 19) (.t 21) },
  { dst := some 23, op := .bin .gtr (.t 22) (.c (.nat .i64 1500)) }]
def o_law15_ScanJoins_3 : List AOp := [
  { dst := some 24, op := .mov (.t 5) },
  { dst := some 4, op := .asg (.t 24) }]
def o_law15_ScanJoins_4 : List AOp := [
  { dst := some 26, op := .mov (.t 0) },
  { dst := some 27, op := .call (.f f_scan_Tokens) [.t 26] },
  { dst := some 25, op := .mov (.t 27) },
  { dst := some 28, op := .extr (.t 25) 0 },
  { dst := some 29, op := .extr (.t 25) 1 },
  { dst := some 30, op := .extr (.t 25) 2 },
  { dst := some 6, op := .asg (.t 28) },
  { dst := some 7, op := .asg (.t 29) },
  { dst := some 8, op := .asg (.t 30) }]
def o_law15_ScanJoins_5 : List AOp := [
  { dst := some 32, op := .mov (.t 1) },
  { dst := some 33, op := .call (.f f_scan_Tokens) [.t 32] },
  { dst := some 31, op := .mov (.t 33) },
  { dst := some 34, op := .extr (.t 31) 0 },
  { dst := some 35, op := .extr (.t 31) 1 },
  { dst := some 36, op := .extr (.t 31) 2 },
  { dst := some 9, op := .asg (.t 34) },
  { dst := some 10, op := .asg (.t 35) },
  { dst := some 11, op := .asg (.t 36) }]
def o_law15_ScanJoins_6 : List AOp := [
  { dst := some 37, op := .mov (.t 7) },
  { dst := some 38, op := .bin .neq (.t 37) (.c (.nat .i64 0)) },
  { dst := some 39, op := .mov (.t 38) },
  { dst := some 40, op := .mov (.t 10), guard := some (39, false) },
  { dst := some 41, op := .bin .neq (.t 40) (.c (.nat .i64 0)), guard := some (39, false) },
  { dst := some 42, op := .pick (.t 39) (.c (.d (.bool true))) (.t 41) }]
def o_law15_ScanJoins_7 : List AOp := [
  { dst := some 43, op := .mov (.t 5) },
  { dst := some 4, op := .asg (.t 43) }]
def o_law15_ScanJoins_8 : List AOp := [
  { dst := some 45, op := .mov (.t 0) },
  { dst := some 46, op := .bin .add (.t 45) (.c (.d (.str [10]))) },
  { dst := some 47, op := .mov (.t 1) },
  { dst := some 48, op := .bin .add (.t 46) (.t 47) },
  { dst := some 49, op := .call (.f f_scan_Tokens) [.t 48] },
  { dst := some 44, op := .mov (.t 49) },
  { dst := some 50, op := .extr (.t 44) 0 },
  { dst := some 51, op := .extr (.t 44) 1 },
  { dst := some 52, op := .extr (.t 44) 2 },
  { dst := some 12, op := .asg (.t 50) },
  { dst := some 13, op := .asg (.t 51) },
  { dst := some 14, op := .asg (.t 52) }]
def o_law15_ScanJoins_9 : List AOp := [
  { dst := some 53, op := .mov (.t 13) },
  { dst := some 54, op := .bin .eql (.t 53) (.c (.nat .i64 6)) }]
def o_law15_ScanJoins_10 : List AOp := [
  { dst := some 55, op := .mov (.t 5) },
  { dst := some 4, op := .asg (.t 55) }]
def o_law15_ScanJoins_11 : List AOp := [
  { dst := some 56, op := .mov (.t 13) },
  { dst := some 57, op := .bin .neq (.t 56) (.c (.nat .i64 0)) },
  { dst := some 58, op := .mov (.t 57) },
  { dst := some 59, op := .mov (.t 12), guard := some (58, false) },
  { dst := some 60, op := .len (.t 59), guard := some (58, false) },
  { dst := some 61, op := .mov (.t 6), guard := some (58, false) },
  { dst := some 62, op := .len (.t 61), guard := some (58, false) },
  { dst := some 63, op := .mov (.t 9), guard := some (58, false) },
  { dst := some 64, op := .len (.t 63), guard := some (58, false) },
  { dst := some 65, op := .bin .add (.t 62) (.t 64), guard := some (58, false) },
  { dst := some 66, op := .bin .neq (.t 60) (.t 65), guard := some (58, false) },
  { dst := some 67, op := .pick (.t 58) (.c (.d (.bool true))) (.t 66) }]
def o_law15_ScanJoins_12 : List AOp := [
  { dst := some 4, op := .asg (.c (.d (.bool false))) }]
def o_law15_ScanJoins_13 : List AOp := [
  { dst := some 15, op := .asg (.c (.nat .i64 0)) }]
def o_law15_ScanJoins_14 : List AOp := [
  { dst := some 68, op := .mov (.t 15) },
  { dst := some 69, op := .mov (.t 12) },
  { dst := some 70, op := .len (.t 69) },
  { dst := some 71, op := .bin .lss (.t 68) (.t 70) }]
def o_law15_ScanJoins_16 : List AOp := [
  { dst := some 74, op := .mov (.t 0) },
  { dst := some 75, op := .lenS (.t 74) },
  { dst := some 76, op := .build [.nat .i64 0, .nat .i64 0, .d (.str []), .nat .i64 0] [(0, 1, (.c (.nat .i64 1))), (1, 1, (.t 75))] },
  { dst := some 16, op := .alloc [.nat .i64 0, .nat .i64 0, .d (.str []), .nat .i64 0] },
  { dst := none, op := .store 4 (.t 16) (.t 76) }]
def o_law15_ScanJoins_17 : List AOp := [
  { dst := some 77, op := .mov (.t 15) },
  { dst := some 78, op := .mov (.t 6) },
  { dst := some 79, op := .len (.t 78) },
  { dst := some 80, op := .bin .sub (.t 79) (.c (.nat .i64 1)) },
  { dst := some 81, op := .bin .lss (.t 77) (.t 80) }]
def o_law15_ScanJoins_18 : List AOp := [
  { dst := some 82, op := .mov (.t 6) },
  { dst := some 83, op := .mov (.t 15) },
  { dst := some 84, op := .idxA none 4 (.t 82) (.t 83) },
  { dst := some 85, op := .load (some 4) (.t 84) },
  { dst := none, op := .store 4 (.t 16) (.t 85) }]
def o_law15_ScanJoins_19 : List AOp := [
  { dst := some 86, op := .mov (.t 15) },
  { dst := some 87, op := .mov (.t 6) },
  { dst := some 88, op := .len (.t 87) },
  { dst := some 89, op := .bin .geq (.t 86) (.t 88) }]
def o_law15_ScanJoins_20 : List AOp := [
  { dst := some 90, op := .mov (.t 9) },
  { dst := some 91, op := .mov (.t 15) },
  { dst := some 92, op := .mov (.t 6) },
  { dst := some 93, op := .len (.t 92) },
  { dst := some 94, op := .bin .sub (.t 91) (.t 93) },
  { dst := some 95, op := .idxA none 4 (.t 90) (.t 94) },
  { dst := some 96, op := .load (some 4) (.t 95) },
  { dst := none, op := .store 4 (.t 16) (.t 96) }]
def o_law15_ScanJoins_21 : List AOp := [
  { dst := some 97, op := .fldA 1 (.t 16) },
  { dst := some 98, op := .load none (.t 97) },
  { dst := some 99, op := .mov (.t 0) },
  { dst := some 100, op := .lenS (.t 99) },
  { dst := some 101, op := .bin .add (.t 98) (.t 100) },
  { dst := some 102, op := .bin .add (.t 101) (.c (.nat .i64 1)) },
  { dst := some 103, op := .fldA 1 (.t 16) },
  { dst := none, op := .store 1 (.t 103) (.t 102) }]
def o_law15_ScanJoins_22 : List AOp := [
  { dst := some 104, op := .mov (.t 12), may := false },
  { dst := some 105, op := .mov (.t 15), may := false },
  { dst := some 106, op := .idxA none 4 (.t 104) (.t 105), may := false },
  { dst := some 107, op := .load (some 4) (.t 106), may := false },
  { dst := some 108, op := .load (some 4) (.t 16), may := false },
  { dst := some 109, op := .eqc true [.int .i64, .int .i64, .str, .int .i64] (.t 107) (.t 108) }]
def o_law15_ScanJoins_23 : List AOp := [
  { dst := some 4, op := .asg (.c (.d (.bool false))) }]
def o_law15_ScanJoins_15 : List AOp := [
  { dst := some 72, op := .mov (.t 15) },
  { dst := some 73, op := .bin .add (.t 72) (.c (.nat .i64 1)) },
  { dst := some 15, op := .asg (.t 73) }]
def b_law15_ScanJoins_0 : AC := (.seq (.seq (.ops o_law15_ScanJoins_14)
  (.cond (.t 71) .skip (.exit 0)))
  (.seq (.trim [0, 5, 6, 9, 12, 15] (.block 1 (.seq (.ops o_law15_ScanJoins_16)
  (.seq (.seq (.ops o_law15_ScanJoins_17)
  (.cond (.t 81) (.ops o_law15_ScanJoins_18) .skip))
  (.seq (.seq (.ops o_law15_ScanJoins_19)
  (.cond (.t 89) (.seq (.ops o_law15_ScanJoins_20)
  (.ops o_law15_ScanJoins_21)) .skip))
  (.seq (.ops o_law15_ScanJoins_22)
  (.cond (.t 109) (.seq (.ops o_law15_ScanJoins_23)
  .ret) .skip)))))))
  (.ops o_law15_ScanJoins_15)))
def o_law15_ScanJoins_24 : List AOp := [
  { dst := some 110, op := .mov (.t 5) },
  { dst := some 4, op := .asg (.t 110) }]
def c_law15_ScanJoins : AC :=
  (.seq (.ops o_law15_ScanJoins_0)
  (.seq (.ops o_law15_ScanJoins_1)
  (.seq (.seq (.ops o_law15_ScanJoins_2)
  (.cond (.t 23) (.seq (.ops o_law15_ScanJoins_3)
  .ret) .skip))
  (.seq (.ops o_law15_ScanJoins_4)
  (.seq (.ops o_law15_ScanJoins_5)
  (.seq (.seq (.ops o_law15_ScanJoins_6)
  (.cond (.t 42) (.seq (.ops o_law15_ScanJoins_7)
  .ret) .skip))
  (.seq (.ops o_law15_ScanJoins_8)
  (.seq (.seq (.ops o_law15_ScanJoins_9)
  (.cond (.t 54) (.seq (.ops o_law15_ScanJoins_10)
  .ret) .skip))
  (.seq (.seq (.ops o_law15_ScanJoins_11)
  (.cond (.t 67) (.seq (.ops o_law15_ScanJoins_12)
  .ret) .skip))
  (.seq (.seq (.ops o_law15_ScanJoins_13)
  (.trim [5] (.block 0 (.loop [0, 5, 6, 9, 12, 15] b_law15_ScanJoins_0))))
  (.seq (.ops o_law15_ScanJoins_24)
  .ret)))))))))))
def a_law15_ScanJoins : AFn := { body := c_law15_ScanJoins, res := [.tmp 4] }

-- dragoman/dragomanlaw15.ScanTexts
def o_law15_ScanTexts_0 : List AOp := [
  { dst := some 2, op := .asg (.c (.d (.bool false))) }]
def o_law15_ScanTexts_1 : List AOp := [
  { dst := some 9, op := .callZ (.f f_law15_shown) [] },
  { dst := some 3, op := .asg (.t 9) }]
def o_law15_ScanTexts_2 : List AOp := [
  { dst := some 10, op := .mov (.t 0) },
  { dst := some 11, op := .lenS (.t 10) },
  { dst := some 12, op := .bin .gtr (.t 11) (.c (.nat .i64 1000)) }]
def o_law15_ScanTexts_3 : List AOp := [
  { dst := some 13, op := .mov (.t 3) },
  { dst := some 2, op := .asg (.t 13) }]
def o_law15_ScanTexts_4 : List AOp := [
  { dst := some 4, op := .asg (.c (.d (.str [34]))) }]
def o_law15_ScanTexts_5 : List AOp := [
  { dst := some 5, op := .asg (.c (.nat .i64 0)) }]
def o_law15_ScanTexts_6 : List AOp := [
  { dst := some 14, op := .mov (.t 5) },
  { dst := some 15, op := .mov (.t 0) },
  { dst := some 16, op := .lenS (.t 15) },
  { dst := some 17, op := .bin .lss (.t 14) (.t 16) }]
def o_law15_ScanTexts_8 : List AOp := [
  { dst := some 20, op := .mov (.t 0) },
  { dst := some 21, op := .mov (.t 5) },
  { dst := some 22, op := .idxS (.t 20) (.t 21) },
  { dst := some 23, op := .bin .eql (.t 22) (.c (.nat .u8 10)) }]
def o_law15_ScanTexts_9 : List AOp := [
  { dst := some 24, op := .mov (.t 3) },
  { dst := some 2, op := .asg (.t 24) }]
def o_law15_ScanTexts_10 : List AOp := [
  { dst := some 25, op := .mov (.t 0) },
  { dst := some 26, op := .mov (.t 5) },
  { dst := some 27, op := .idxS (.t 25) (.t 26) },
  { dst := some 28, op := .bin .eql (.t 27) (.c (.nat .u8 34)) },
  { dst := some 29, op := .mov (.t 28) },
  { dst := some 30, op := .mov (.t 0), guard := some (29, false) },
  { dst := some 31, op := .mov (.t 5), guard := some (29, false) },
  { dst := some 32, op := .idxS (.t 30) (.t 31), guard := some (29, false) },
  { dst := some 33, op := .bin .eql (.t 32) (.c (.nat .u8 92)), guard := some (29, false) },
  { dst := some 34, op := .pick (.t 29) (.c (.d (.bool true))) (.t 33) }]
def o_law15_ScanTexts_11 : List AOp := [
  { dst := some 35, op := .mov (.t 4) },
  { dst := some 36, op := .bin .add (.t 35) (.c (.d (.str [92]))) },
  { dst := some 4, op := .asg (.t 36) }]
def o_law15_ScanTexts_12 : List AOp := [
  { dst := some 37, op := .mov (.t 4) },
  { dst := some 38, op := .mov (.t 0) },
  { dst := some 39, op := .mov (.t 5) },
  { dst := some 40, op := .mov (.t 5) },
  { dst := some 41, op := .bin .add (.t 40) (.c (.nat .i64 1)) },
  { dst := some 42, op := .sliceS (.t 38) (some (.t 39)) (some (.t 41)) },
  { dst := some 43, op := .bin .add (.t 37) (.t 42) },
  { dst := some 4, op := .asg (.t 43) }]
def o_law15_ScanTexts_7 : List AOp := [
  { dst := some 18, op := .mov (.t 5) },
  { dst := some 19, op := .bin .add (.t 18) (.c (.nat .i64 1)) },
  { dst := some 5, op := .asg (.t 19) }]
def b_law15_ScanTexts_0 : AC := (.seq (.seq (.ops o_law15_ScanTexts_6)
  (.cond (.t 17) .skip (.exit 0)))
  (.seq (.trim [0, 3, 4, 5] (.block 1 (.seq (.seq (.ops o_law15_ScanTexts_8)
  (.cond (.t 23) (.seq (.ops o_law15_ScanTexts_9)
  .ret) .skip))
  (.seq (.seq (.ops o_law15_ScanTexts_10)
  (.cond (.t 34) (.ops o_law15_ScanTexts_11) .skip))
  (.ops o_law15_ScanTexts_12)))))
  (.ops o_law15_ScanTexts_7)))
def o_law15_ScanTexts_13 : List AOp := [
  { dst := some 45, op := .mov (.t 4) },
  { dst := some 46, op := .bin .add (.t 45) (.c (.d (.str [34]))) },
  { dst := some 47, op := .call (.f f_scan_Tokens) [.t 46] },
  { dst := some 44, op := .mov (.t 47) },
  { dst := some 48, op := .extr (.t 44) 0 },
  { dst := some 49, op := .extr (.t 44) 1 },
  { dst := some 50, op := .extr (.t 44) 2 },
  { dst := some 6, op := .asg (.t 48) },
  { dst := some 7, op := .asg (.t 49) },
  { dst := some 8, op := .asg (.t 50) }]
def o_law15_ScanTexts_14 : List AOp := [
  { dst := some 51, op := .mov (.t 3) },
  { dst := some 52, op := .mov (.t 51) },
  { dst := some 53, op := .mov (.t 7), guard := some (52, true) },
  { dst := some 54, op := .bin .eql (.t 53) (.c (.nat .i64 0)), guard := some (52, true) },
  { dst := some 55, op := .pick (.t 52) (.t 54) (.c (.d (.bool false))) },
  { dst := some 56, op := .mov (.t 55) },
  { dst := some 57, op := .mov (.t 6), guard := some (56, true) },
  { dst := some 58, op := .len (.t 57), guard := some (56, true) },
  { dst := some 59, op := .bin .eql (.t 58) (.c (.nat .i64 2)), guard := some (56, true) },
  { dst := some 60, op := .pick (.t 56) (.t 59) (.c (.d (.bool false))) },
  { dst := some 61, op := .mov (.t 60) },
  { dst := some 62, op := .mov (.t 6), guard := some (61, true) },
  { dst := some 63, op := .idxA none 4 (.t 62) (.c (.nat .i64 0)), guard := some (61, true) },
  { dst := some 64, op := .fldA 0 (.t 63), guard := some (61, true) },
  { dst := some 65, op := .load none (.t 64), guard := some (61, true) },
  { dst := some 66, op := .bin .eql (.t 65) (.c (.nat .i64 3)), guard := some (61, true) },
  { dst := some 67, op := .pick (.t 61) (.t 66) (.c (.d (.bool false))) },
  { dst := some 68, op := .mov (.t 67) },
  { dst := some 69, op := .mov (.t 6), guard := some (68, true) },
  { dst := some 70, op := .idxA none 4 (.t 69) (.c (.nat .i64 0)), guard := some (68, true) },
  { dst := some 71, op := .fldA 2 (.t 70), guard := some (68, true) },
  { dst := some 72, op := .load none (.t 71), guard := some (68, true) },
  { dst := some 73, op := .mov (.t 0), guard := some (68, true) },
  { dst := some 74, op := .bin .eql (.t 72) (.t 73), guard := some (68, true) },
  { dst := some 75, op := .pick (.t 68) (.t 74) (.c (.d (.bool false))) },
  { dst := some 76, op := .mov (.t 75) },
  { dst := some 77, op := .mov (.t 6), guard := some (76, true) },
  { dst := some 78, op := .idxA none 4 (.t 77) (.c (.nat .i64 1)), guard := some (76, true) },
  { dst := some 79, op := .fldA 0 (.t 78), guard := some (76, true) },
  { dst := some 80, op := .load none (.t 79), guard := some (76, true) },
  { dst := some 81, op := .bin .eql (.t 80) (.c (.nat .i64 0)), guard := some (76, true) },
  { dst := some 82, op := .pick (.t 76) (.t 81) (.c (.d (.bool false))) },
  { dst := some 2, op := .asg (.t 82) }]
def c_law15_ScanTexts : AC :=
  (.seq (.ops o_law15_ScanTexts_0)
  (.seq (.ops o_law15_ScanTexts_1)
  (.seq (.seq (.ops o_law15_ScanTexts_2)
  (.cond (.t 12) (.seq (.ops o_law15_ScanTexts_3)
  .ret) .skip))
  (.seq (.ops o_law15_ScanTexts_4)
  (.seq (.seq (.ops o_law15_ScanTexts_5)
  (.trim [0, 3, 4] (.block 0 (.loop [0, 3, 4, 5] b_law15_ScanTexts_0))))
  (.seq (.ops o_law15_ScanTexts_13)
  (.seq (.ops o_law15_ScanTexts_14)
  .ret)))))))
def a_law15_ScanTexts : AFn := { body := c_law15_ScanTexts, res := [.tmp 2] }

-- dragoman/dragomanlaw15.ScanMarks
def o_law15_ScanMarks_0 : List AOp := [
  { dst := some 2, op := .asg (.c (.d (.bool false))) }]
def o_law15_ScanMarks_1 : List AOp := [
  { dst := some 17, op := .callZ (.f f_law15_shown) [] },
  { dst := some 3, op := .asg (.t 17) }]
def o_law15_ScanMarks_2 : List AOp := [
  { dst := some 18, op := .call (.f f_scan_Marks) [] },
  { dst := some 4, op := .asg (.t 18) }]
def o_law15_ScanMarks_3 : List AOp := [
  { dst := some 19, op := .call (.f f_scan_Keys) [] },
  { dst := some 5, op := .asg (.t 19) }]
def o_law15_ScanMarks_4 : List AOp := [
  { dst := some 20, op := .mov (.t 4) },
  { dst := some 21, op := .len (.t 20) },
  { dst := some 22, op := .bin .eql (.t 21) (.c (.nat .i64 0)) },
  { dst := some 23, op := .mov (.t 22) },
  { dst := some 24, op := .mov (.t 5), guard := some (23, false) },
  { dst := some 25, op := .len (.t 24), guard := some (23, false) },
  { dst := some 26, op := .bin .eql (.t 25) (.c (.nat .i64 0)), guard := some (23, false) },
  { dst := some 27, op := .pick (.t 23) (.c (.d (.bool true))) (.t 26) }]
def o_law15_ScanMarks_5 : List AOp := [
  { dst := some 2, op := .asg (.c (.d (.bool false))) }]
def o_law15_ScanMarks_6 : List AOp := [
  { dst := some 28, op := .mov (.t 4) },
  { dst := some 29, op := .mov (.t 0) },
  { dst := some 30, op := .toInt .i64 (.t 29) },
  { dst := some 31, op := .mov (.t 4) },
  { dst := some 32, op := .len (.t 31) },
  { dst := some 33, op := .bin .rem (.t 30) (.t 32) },
  { dst := some 34, op := .idxA none 1 (.t 28) (.t 33) },
  { dst := some 35, op := .load none (.t 34) },
  { dst := some 6, op := .asg (.t 35) }]
def o_law15_ScanMarks_7 : List AOp := [
  { dst := some 36, op := .mov (.t 5) },
  { dst := some 37, op := .mov (.t 0) },
  { dst := some 38, op := .toInt .i64 (.t 37) },
  { dst := some 39, op := .mov (.t 5) },
  { dst := some 40, op := .len (.t 39) },
  { dst := some 41, op := .bin .rem (.t 38) (.t 40) },
  { dst := some 42, op := .idxA none 1 (.t 36) (.t 41) },
  { dst := some 43, op := .load none (.t 42) },
  { dst := some 7, op := .asg (.t 43) }]
def o_law15_ScanMarks_8 : List AOp := [
  { dst := some 45, op := .mov (.t 6) },
  { dst := some 46, op := .bin .add (.c (.d (.str [49, 32]))) (.t 45) },
  { dst := some 47, op := .call (.f f_scan_Tokens) [.t 46] },
  { dst := some 44, op := .mov (.t 47) },
  { dst := some 48, op := .extr (.t 44) 0 },
  { dst := some 49, op := .extr (.t 44) 1 },
  { dst := some 50, op := .extr (.t 44) 2 },
  { dst := some 8, op := .asg (.t 48) },
  { dst := some 9, op := .asg (.t 49) },
  { dst := some 10, op := .asg (.t 50) }]
def o_law15_ScanMarks_9 : List AOp := [
  { dst := some 52, op := .mov (.t 7) },
  { dst := some 53, op := .call (.f f_scan_Tokens) [.t 52] },
  { dst := some 51, op := .mov (.t 53) },
  { dst := some 54, op := .extr (.t 51) 0 },
  { dst := some 55, op := .extr (.t 51) 1 },
  { dst := some 56, op := .extr (.t 51) 2 },
  { dst := some 11, op := .asg (.t 54) },
  { dst := some 12, op := .asg (.t 55) },
  { dst := some 13, op := .asg (.t 56) }]
def o_law15_ScanMarks_10 : List AOp := [
  { dst := some 58, op := .mov (.t 7) },
  { dst := some 59, op := .bin .add (.t 58) (.c (.d (.str [120]))) },
  { dst := some 60, op := .call (.f f_scan_Tokens) [.t 59] },
  { dst := some 57, op := .mov (.t 60) },
  { dst := some 61, op := .extr (.t 57) 0 },
  { dst := some 62, op := .extr (.t 57) 1 },
  { dst := some 63, op := .extr (.t 57) 2 },
  { dst := some 14, op := .asg (.t 61) },
  { dst := some 15, op := .asg (.t 62) },
  { dst := some 16, op := .asg (.t 63) }]
def o_law15_ScanMarks_11 : List AOp := [
  { dst := some 64, op := .mov (.t 9) },
  { dst := some 65, op := .bin .neq (.t 64) (.c (.nat .i64 0)) },
  { dst := some 66, op := .mov (.t 65) },
  { dst := some 67, op := .mov (.t 12), guard := some (66, false) },
  { dst := some 68, op := .bin .neq (.t 67) (.c (.nat .i64 0)), guard := some (66, false) },
  { dst := some 69, op := .pick (.t 66) (.c (.d (.bool true))) (.t 68) },
  { dst := some 70, op := .mov (.t 69) },
  { dst := some 71, op := .mov (.t 15), guard := some (70, false) },
  { dst := some 72, op := .bin .neq (.t 71) (.c (.nat .i64 0)), guard := some (70, false) },
  { dst := some 73, op := .pick (.t 70) (.c (.d (.bool true))) (.t 72) },
  { dst := some 74, op := .mov (.t 73) },
  { dst := some 75, op := .mov (.t 8), guard := some (74, false) },
  { dst := some 76, op := .len (.t 75), guard := some (74, false) },
  { dst := some 77, op := .bin .neq (.t 76) (.c (.nat .i64 3)), guard := some (74, false) },
  { dst := some 78, op := .pick (.t 74) (.c (.d (.bool true))) (.t 77) },
  { dst := some 79, op := .mov (.t 78) },
  { dst := some 80, op := .mov (.t 11), guard := some (79, false) },
  { dst := some 81, op := .len (.t 80), guard := some (79, false) },
  { dst := some 82, op := .bin .neq (.t 81) (.c (.nat .i64 2)), guard := some (79, false) },
  { dst := some 83, op := .pick (.t 79) (.c (.d (.bool true))) (.t 82) },
  { dst := some 84, op := .mov (.t 83) },
  { dst := some 85, op := .mov (.t 14), guard := some (84, false) },
  { dst := some 86, op := .len (.t 85), guard := some (84, false) },
  { dst := some 87, op := .bin .neq (.t 86) (.c (.nat .i64 2)), guard := some (84, false) },
  { dst := some 88, op := .pick (.t 84) (.c (.d (.bool true))) (.t 87) }]
def o_law15_ScanMarks_12 : List AOp := [
  { dst := some 2, op := .asg (.c (.d (.bool false))) }]
def o_law15_ScanMarks_13 : List AOp := [
  { dst := some 89, op := .mov (.t 3) },
  { dst := some 90, op := .mov (.t 89) },
  { dst := some 91, op := .mov (.t 8), guard := some (90, true) },
  { dst := some 92, op := .idxA none 4 (.t 91) (.c (.nat .i64 1)), guard := some (90, true) },
  { dst := some 93, op := .load (some 4) (.t 92), guard := some (90, true) },
  { dst := some 94, op := .mov (.t 6), guard := some (90, true) },
  { dst := some 95, op := .build [.nat .i64 0, .nat .i64 0, .d (.str []), .nat .i64 0] [(0, 1, (.c (.nat .i64 7))), (1, 1, (.c (.nat .i64 2))), (2, 1, (.t 94))], guard := some (90, true) },
  { dst := some 96, op := .eqc false [.int .i64, .int .i64, .str, .int .i64] (.t 93) (.t 95), guard := some (90, true) },
  { dst := some 97, op := .pick (.t 90) (.t 96) (.c (.d (.bool false))) },
  { dst := some 98, op := .mov (.t 97) },
  { dst := some 99, op := .mov (.t 11), guard := some (98, true) },
  { dst := some 100, op := .idxA none 4 (.t 99) (.c (.nat .i64 0)), guard := some (98, true) },
  { dst := some 101, op := .load (some 4) (.t 100), guard := some (98, true) },
  { dst := some 102, op := .mov (.t 7), guard := some (98, true) },
  { dst := some 103, op := .build [.nat .i64 0, .nat .i64 0, .d (.str []), .nat .i64 0] [(0, 1, (.c (.nat .i64 6))), (2, 1, (.t 102))], guard := some (98, true) },
  { dst := some 104, op := .eqc false [.int .i64, .int .i64, .str, .int .i64] (.t 101) (.t 103), guard := some (98, true) },
  { dst := some 105, op := .pick (.t 98) (.t 104) (.c (.d (.bool false))) },
  { dst := some 106, op := .mov (.t 105) },
  { dst := some 107, op := .mov (.t 14), guard := some (106, true) },
  { dst := some 108, op := .idxA none 4 (.t 107) (.c (.nat .i64 0)), guard := some (106, true) },
  { dst := some 109, op := .load (some 4) (.t 108), guard := some (106, true) },
  { dst := some 110, op := .mov (.t 7), guard := some (106, true) },
  { dst := some 111, op := .bin .add (.t 110) (.c (.d (.str [120]))), guard := some (106, true) },
  { dst := some 112, op := .build [.nat .i64 0, .nat .i64 0, .d (.str []), .nat .i64 0] [(0, 1, (.c (.nat .i64 5))), (2, 1, (.t 111))], guard := some (106, true) },
  { dst := some 113, op := .eqc false [.int .i64, .int .i64, .str, .int .i64] (.t 109) (.t 112), guard := some (106, true) },
  { dst := some 114, op := .pick (.t 106) (.t 113) (.c (.d (.bool false))) },
  { dst := some 2, op := .asg (.t 114) }]
def c_law15_ScanMarks : AC :=
  (.seq (.ops o_law15_ScanMarks_0)
  (.seq (.ops o_law15_ScanMarks_1)
  (.seq (.ops o_law15_ScanMarks_2)
  (.seq (.ops o_law15_ScanMarks_3)
  (.seq (.seq (.ops o_law15_ScanMarks_4)
  (.cond (.t 27) (.seq (.ops o_law15_ScanMarks_5)
  .ret) .skip))
  (.seq (.ops o_law15_ScanMarks_6)
  (.seq (.ops o_law15_ScanMarks_7)
  (.seq (.ops o_law15_ScanMarks_8)
  (.seq (.ops o_law15_ScanMarks_9)
  (.seq (.ops o_law15_ScanMarks_10)
  (.seq (.seq (.ops o_law15_ScanMarks_11)
  (.cond (.t 88) (.seq (.ops o_law15_ScanMarks_12)
  .ret) .skip))
  (.seq (.ops o_law15_ScanMarks_13)
  .ret))))))))))))
def a_law15_ScanMarks : AFn := { body := c_law15_ScanMarks, res := [.tmp 2] }

-- dragoman/dragomanlaw15.ScanSlashes
def o_law15_ScanSlashes_0 : List AOp := [
  { dst := some 2, op := .asg (.c (.d (.bool false))) }]
def o_law15_ScanSlashes_1 : List AOp := [
  { dst := some 12, op := .callZ (.f f_law15_shown) [] },
  { dst := some 3, op := .asg (.t 12) }]
def o_law15_ScanSlashes_2 : List AOp := [
  { dst := some 13, op := .mov (.t 0) },
  { dst := some 14, op := .lenS (.t 13) },
  { dst := some 15, op := .bin .gtr (.t 14) (.c (.nat .i64 300)) }]
def o_law15_ScanSlashes_3 : List AOp := [
  { dst := some 16, op := .mov (.t 3) },
  { dst := some 2, op := .asg (.t 16) }]
def o_law15_ScanSlashes_4 : List AOp := [
  { dst := some 18, op := .mov (.t 0) },
  { dst := some 19, op := .call (.f f_scan_Tokens) [.t 18] },
  { dst := some 17, op := .mov (.t 19) },
  { dst := some 20, op := .extr (.t 17) 0 },
  { dst := some 21, op := .extr (.t 17) 1 },
  { dst := some 22, op := .extr (.t 17) 2 },
  { dst := some 4, op := .asg (.t 20) },
  { dst := some 5, op := .asg (.t 21) },
  { dst := some 6, op := .asg (.t 22) }]
def o_law15_ScanSlashes_5 : List AOp := [
  { dst := some 23, op := .mov (.t 5) },
  { dst := some 24, op := .bin .neq (.t 23) (.c (.nat .i64 0)) },
  { dst := some 25, op := .mov (.t 24) },
  { dst := some 26, op := .mov (.t 4), guard := some (25, false) },
  { dst := some 27, op := .len (.t 26), guard := some (25, false) },
  { dst := some 28, op := .bin .lss (.t 27) (.c (.nat .i64 2)), guard := some (25, false) },
  { dst := some 29, op := .pick (.t 25) (.c (.d (.bool true))) (.t 28) }]
def o_law15_ScanSlashes_6 : List AOp := [
  { dst := some 30, op := .mov (.t 3) },
  { dst := some 2, op := .asg (.t 30) }]
def o_law15_ScanSlashes_7 : List AOp := [
  { dst := some 31, op := .mov (.t 4) },
  { dst := some 32, op := .mov (.t 4) },
  { dst := some 33, op := .len (.t 32) },
  { dst := some 34, op := .bin .sub (.t 33) (.c (.nat .i64 2)) },
  { dst := some 35, op := .idxA none 4 (.t 31) (.t 34) },
  { dst := some 36, op := .load (some 4) (.t 35) },
  { dst := some 7, op := .alloc [.nat .i64 0, .nat .i64 0, .d (.str []), .nat .i64 0] },
  { dst := none, op := .store 4 (.t 7) (.t 36) }]
def o_law15_ScanSlashes_8 : List AOp := [
  { dst := some 38, op := .mov (.t 0) },
  { dst := some 39, op := .bin .add (.t 38) (.c (.d (.str [9, 47, 97, 47]))) },
  { dst := some 40, op := .call (.f f_scan_Tokens) [.t 39] },
  { dst := some 37, op := .mov (.t 40) },
  { dst := some 41, op := .extr (.t 37) 0 },
  { dst := some 42, op := .extr (.t 37) 1 },
  { dst := some 43, op := .extr (.t 37) 2 },
  { dst := some 8, op := .asg (.t 41) },
  { dst := some 9, op := .asg (.t 42) },
  { dst := some 10, op := .asg (.t 43) }]
def o_law15_ScanSlashes_9 : List AOp := [
  { dst := some 44, op := .mov (.t 9) },
  { dst := some 45, op := .bin .eql (.t 44) (.c (.nat .i64 6)) },
  { dst := some 46, op := .mov (.t 45) },
  { dst := some 47, op := .mov (.t 0), guard := some (46, false) },
  { dst := some 48, op := .mov (.t 0), guard := some (46, false) },
  { dst := some 49, op := .lenS (.t 48), guard := some (46, false) },
  { dst := some 50, op := .bin .sub (.t 49) (.c (.nat .i64 1)), guard := some (46, false) },
  { dst := some 51, op := .idxS (.t 47) (.t 50), guard := some (46, false) },
  { dst := some 52, op := .bin .eql (.t 51) (.c (.nat .u8 35)), guard := some (46, false) },
  { dst := some 53, op := .pick (.t 46) (.c (.d (.bool true))) (.t 52) }]
def o_law15_ScanSlashes_10 : List AOp := [
  { dst := some 54, op := .mov (.t 3) },
  { dst := some 2, op := .asg (.t 54) }]
def o_law15_ScanSlashes_11 : List AOp := [
  { dst := some 55, op := .fldA 1 (.t 7) },
  { dst := some 56, op := .load none (.t 55) },
  { dst := some 11, op := .asg (.t 56) }]
def o_law15_ScanSlashes_12 : List AOp := [
  { dst := some 57, op := .mov (.t 11) },
  { dst := some 58, op := .mov (.t 0) },
  { dst := some 59, op := .lenS (.t 58) },
  { dst := some 60, op := .bin .lss (.t 57) (.t 59) }]
def o_law15_ScanSlashes_14 : List AOp := [
  { dst := some 63, op := .mov (.t 0) },
  { dst := some 64, op := .mov (.t 11) },
  { dst := some 65, op := .idxS (.t 63) (.t 64) },
  { dst := some 66, op := .bin .eql (.t 65) (.c (.nat .u8 35)) }]
def o_law15_ScanSlashes_15 : List AOp := [
  { dst := some 67, op := .mov (.t 3) },
  { dst := some 2, op := .asg (.t 67) }]
def o_law15_ScanSlashes_13 : List AOp := [
  { dst := some 61, op := .mov (.t 11) },
  { dst := some 62, op := .bin .add (.t 61) (.c (.nat .i64 1)) },
  { dst := some 11, op := .asg (.t 62) }]
def b_law15_ScanSlashes_0 : AC := (.seq (.seq (.ops o_law15_ScanSlashes_12)
  (.cond (.t 60) .skip (.exit 0)))
  (.seq (.trim [0, 3, 4, 7, 8, 9, 11] (.block 1 (.seq (.ops o_law15_ScanSlashes_14)
  (.cond (.t 66) (.seq (.ops o_law15_ScanSlashes_15)
  .ret) .skip))))
  (.ops o_law15_ScanSlashes_13)))
def o_law15_ScanSlashes_16 : List AOp := [
  { dst := some 68, op := .load (some 4) (.t 7) },
  { dst := some 69, op := .call (.f f_scan_Operand) [.t 68] }]
def o_law15_ScanSlashes_17 : List AOp := [
  { dst := some 70, op := .mov (.t 3) },
  { dst := some 71, op := .mov (.t 70) },
  { dst := some 72, op := .mov (.t 9), guard := some (71, true) },
  { dst := some 73, op := .bin .eql (.t 72) (.c (.nat .i64 0)), guard := some (71, true) },
  { dst := some 74, op := .pick (.t 71) (.t 73) (.c (.d (.bool false))) },
  { dst := some 75, op := .mov (.t 74) },
  { dst := some 76, op := .mov (.t 8), guard := some (75, true) },
  { dst := some 77, op := .len (.t 76), guard := some (75, true) },
  { dst := some 78, op := .mov (.t 4), guard := some (75, true) },
  { dst := some 79, op := .len (.t 78), guard := some (75, true) },
  { dst := some 80, op := .bin .add (.t 79) (.c (.nat .i64 3)), guard := some (75, true) },
  { dst := some 81, op := .bin .eql (.t 77) (.t 80), guard := some (75, true) },
  { dst := some 82, op := .pick (.t 75) (.t 81) (.c (.d (.bool false))) },
  { dst := some 2, op := .asg (.t 82) }]
def o_law15_ScanSlashes_18 : List AOp := [
  { dst := some 83, op := .mov (.t 3) },
  { dst := some 84, op := .mov (.t 83) },
  { dst := some 85, op := .mov (.t 9), guard := some (84, true) },
  { dst := some 86, op := .bin .eql (.t 85) (.c (.nat .i64 0)), guard := some (84, true) },
  { dst := some 87, op := .pick (.t 84) (.t 86) (.c (.d (.bool false))) },
  { dst := some 88, op := .mov (.t 87) },
  { dst := some 89, op := .mov (.t 8), guard := some (88, true) },
  { dst := some 90, op := .len (.t 89), guard := some (88, true) },
  { dst := some 91, op := .mov (.t 4), guard := some (88, true) },
  { dst := some 92, op := .len (.t 91), guard := some (88, true) },
  { dst := some 93, op := .bin .add (.t 92) (.c (.nat .i64 1)), guard := some (88, true) },
  { dst := some 94, op := .bin .eql (.t 90) (.t 93), guard := some (88, true) },
  { dst := some 95, op := .pick (.t 88) (.t 94) (.c (.d (.bool false))) },
  { dst := some 96, op := .mov (.t 95) },
  { dst := some 97, op := .mov (.t 8), guard := some (96, true) },
  { dst := some 98, op := .mov (.t 8), guard := some (96, true) },
  { dst := some 99, op := .len (.t 98), guard := some (96, true) },
  { dst := some 100, op := .bin .sub (.t 99) (.c (.nat .i64 2)), guard := some (96, true) },
  { dst := some 101, op := .idxA none 4 (.t 97) (.t 100), guard := some (96, true) },
  { dst := some 102, op := .fldA 0 (.t 101), guard := some (96, true) },
  { dst := some 103, op := .load none (.t 102), guard := some (96, true) },
  { dst := some 104, op := .bin .eql (.t 103) (.c (.nat .i64 4)), guard := some (96, true) },
  { dst := some 105, op := .pick (.t 96) (.t 104) (.c (.d (.bool false))) },
  { dst := some 2, op := .asg (.t 105) }]
def c_law15_ScanSlashes : AC :=
  (.seq (.ops o_law15_ScanSlashes_0)
  (.seq (.ops o_law15_ScanSlashes_1)
  (.seq (.seq (.ops o_law15_ScanSlashes_2)
  (.cond (.t 15) (.seq (.ops o_law15_ScanSlashes_3)
  .ret) .skip))
  (.seq (.ops o_law15_ScanSlashes_4)
  (.seq (.seq (.ops o_law15_ScanSlashes_5)
  (.cond (.t 29) (.seq (.ops o_law15_ScanSlashes_6)
  .ret) .skip))
  (.seq (.ops o_law15_ScanSlashes_7)
  (.seq (.ops o_law15_ScanSlashes_8)
  (.seq (.seq (.ops o_law15_ScanSlashes_9)
  (.cond (.t 53) (.seq (.ops o_law15_ScanSlashes_10)
  .ret) .skip))
  (.seq (.seq (.ops o_law15_ScanSlashes_11)
  (.trim [3, 4, 7, 8, 9] (.block 0 (.loop [0, 3, 4, 7, 8, 9, 11] b_law15_ScanSlashes_0))))
  (.seq (.seq (.ops o_law15_ScanSlashes_16)
  (.cond (.t 69) (.seq (.ops o_law15_ScanSlashes_17)
  .ret) .skip))
  (.seq (.ops o_law15_ScanSlashes_18)
  .ret)))))))))))
def a_law15_ScanSlashes : AFn := { body := c_law15_ScanSlashes, res := [.tmp 2] }

-- dragoman/dragomanlaw15.shown
def o_law15_shown_0 : List AOp := [
  { dst := some 0, op := .asg (.c (.d (.bool false))) }]
def o_law15_shown_1 : List AOp := [
  { dst := some 8, op := .call (.f f_scan_Tokens) [.c (.d (.str [97, 32, 47, 98, 47, 32, 50]))] },
  { dst := some 7, op := .mov (.t 8) },
  { dst := some 9, op := .extr (.t 7) 0 },
  { dst := some 10, op := .extr (.t 7) 1 },
  { dst := some 11, op := .extr (.t 7) 2 },
  { dst := some 1, op := .asg (.t 9) },
  { dst := some 2, op := .asg (.t 10) },
  { dst := some 3, op := .asg (.t 11) }]
def o_law15_shown_2 : List AOp := [
  { dst := some 13, op := .call (.f f_scan_Tokens) [.c (.d (.str [126, 32, 47, 98, 47]))] },
  { dst := some 12, op := .mov (.t 13) },
  { dst := some 14, op := .extr (.t 12) 0 },
  { dst := some 15, op := .extr (.t 12) 1 },
  { dst := some 16, op := .extr (.t 12) 2 },
  { dst := some 4, op := .asg (.t 14) },
  { dst := some 5, op := .asg (.t 15) },
  { dst := some 6, op := .asg (.t 16) }]
def o_law15_shown_3 : List AOp := [
  { dst := some 17, op := .mov (.t 2) },
  { dst := some 18, op := .bin .eql (.t 17) (.c (.nat .i64 0)) },
  { dst := some 19, op := .mov (.t 18) },
  { dst := some 20, op := .mov (.t 1), guard := some (19, true) },
  { dst := some 21, op := .len (.t 20), guard := some (19, true) },
  { dst := some 22, op := .bin .eql (.t 21) (.c (.nat .i64 6)), guard := some (19, true) },
  { dst := some 23, op := .pick (.t 19) (.t 22) (.c (.d (.bool false))) },
  { dst := some 24, op := .mov (.t 23) },
  { dst := some 25, op := .mov (.t 1), guard := some (24, true) },
  { dst := some 26, op := .idxA none 4 (.t 25) (.c (.nat .i64 1)), guard := some (24, true) },
  { dst := some 27, op := .fldA 0 (.t 26), guard := some (24, true) },
  { dst := some 28, op := .load none (.t 27), guard := some (24, true) },
  { dst := some 29, op := .bin .eql (.t 28) (.c (.nat .i64 7)), guard := some (24, true) },
  { dst := some 30, op := .pick (.t 24) (.t 29) (.c (.d (.bool false))) },
  { dst := some 31, op := .mov (.t 30) },
  { dst := some 32, op := .mov (.t 1), guard := some (31, true) },
  { dst := some 33, op := .idxA none 4 (.t 32) (.c (.nat .i64 4)), guard := some (31, true) },
  { dst := some 34, op := .fldA 3 (.t 33), guard := some (31, true) },
  { dst := some 35, op := .load none (.t 34), guard := some (31, true) },
  { dst := some 36, op := .bin .eql (.t 35) (.c (.nat .i64 2000000)), guard := some (31, true) },
  { dst := some 37, op := .pick (.t 31) (.t 36) (.c (.d (.bool false))) },
  { dst := some 38, op := .mov (.t 37) },
  { dst := some 39, op := .mov (.t 5), guard := some (38, true) },
  { dst := some 40, op := .bin .eql (.t 39) (.c (.nat .i64 0)), guard := some (38, true) },
  { dst := some 41, op := .pick (.t 38) (.t 40) (.c (.d (.bool false))) },
  { dst := some 42, op := .mov (.t 41) },
  { dst := some 43, op := .mov (.t 4), guard := some (42, true) },
  { dst := some 44, op := .len (.t 43), guard := some (42, true) },
  { dst := some 45, op := .bin .eql (.t 44) (.c (.nat .i64 3)), guard := some (42, true) },
  { dst := some 46, op := .pick (.t 42) (.t 45) (.c (.d (.bool false))) },
  { dst := some 47, op := .mov (.t 46) },
  { dst := some 48, op := .mov (.t 4), guard := some (47, true) },
  { dst := some 49, op := .idxA none 4 (.t 48) (.c (.nat .i64 1)), guard := some (47, true) },
  { dst := some 50, op := .fldA 0 (.t 49), guard := some (47, true) },
  { dst := some 51, op := .load none (.t 50), guard := some (47, true) },
  { dst := some 52, op := .bin .eql (.t 51) (.c (.nat .i64 4)), guard := some (47, true) },
  { dst := some 53, op := .pick (.t 47) (.t 52) (.c (.d (.bool false))) },
  { dst := some 54, op := .mov (.t 53) },
  { dst := some 55, op := .mov (.t 4), guard := some (54, true) },
  { dst := some 56, op := .idxA none 4 (.t 55) (.c (.nat .i64 1)), guard := some (54, true) },
  { dst := some 57, op := .fldA 2 (.t 56), guard := some (54, true) },
  { dst := some 58, op := .load none (.t 57), guard := some (54, true) },
  { dst := some 59, op := .bin .eql (.t 58) (.c (.d (.str [98]))), guard := some (54, true) },
  { dst := some 60, op := .pick (.t 54) (.t 59) (.c (.d (.bool false))) },
  { dst := some 0, op := .asg (.t 60) }]
def c_law15_shown : AC :=
  (.seq (.ops o_law15_shown_0)
  (.seq (.ops o_law15_shown_1)
  (.seq (.ops o_law15_shown_2)
  (.seq (.ops o_law15_shown_3)
  .ret))))
def a_law15_shown : AFn := { body := c_law15_shown, res := [.tmp 0] }

-- dragoman/scan.Operand
def o_scan_Operand_0 : List AOp := [
  { dst := some 1, op := .box (.t 0) },
  { dst := some 2, op := .asg (.c (.d (.bool false))) }]
def o_scan_Operand_1 : List AOp := [
  { dst := some 3, op := .fldA 0 (.t 1) },
  { dst := some 4, op := .load none (.t 3) }]
def o_scan_Operand_2 : List AOp := [
  { dst := some 6, op := .bin .eql (.t 4) (.c (.nat .i64 2)) },
  { dst := some 5, op := .asg (.t 6) }]
def o_scan_Operand_3 : List AOp := [
  { dst := some 7, op := .bin .eql (.t 4) (.c (.nat .i64 3)) },
  { dst := some 5, op := .asg (.t 7) }]
def o_scan_Operand_4 : List AOp := [
  { dst := some 8, op := .bin .eql (.t 4) (.c (.nat .i64 4)) },
  { dst := some 5, op := .asg (.t 8) }]
def o_scan_Operand_5 : List AOp := [
  { dst := some 9, op := .bin .eql (.t 4) (.c (.nat .i64 5)) },
  { dst := some 5, op := .asg (.t 9) }]
def o_scan_Operand_6 : List AOp := [
  { dst := some 2, op := .asg (.c (.d (.bool true))) }]
def o_scan_Operand_7 : List AOp := [
  { dst := some 10, op := .fldA 0 (.t 1) },
  { dst := some 11, op := .load none (.t 10) },
  { dst := some 12, op := .bin .eql (.t 11) (.c (.nat .i64 7)) },
  { dst := some 13, op := .mov (.t 12) },
  { dst := some 14, op := .fldA 2 (.t 1), guard := some (13, true) },
  { dst := some 15, op := .load none (.t 14), guard := some (13, true) },
  { dst := some 16, op := .bin .eql (.t 15) (.c (.d (.str [41]))), guard := some (13, true) },
  { dst := some 17, op := .mov (.t 16), guard := some (13, true) },
  { dst := some 18, op := .fldA 2 (.t 1), guard := some (17, false) },
  { dst := some 19, op := .load none (.t 18), guard := some (17, false) },
  { dst := some 20, op := .bin .eql (.t 19) (.c (.d (.str [93]))), guard := some (17, false) },
  { dst := some 21, op := .pick (.t 17) (.c (.d (.bool true))) (.t 20), guard := some (13, true) },
  { dst := some 22, op := .pick (.t 13) (.t 21) (.c (.d (.bool false))) },
  { dst := some 2, op := .asg (.t 22) }]
def c_scan_Operand : AC :=
  (.seq (.ops o_scan_Operand_0)
  (.seq (.seq (.ops o_scan_Operand_1)
  (.trim [1] (.block 0 (.seq (.seq (.ops o_scan_Operand_2)
  (.cond (.t 5) .skip (.seq (.ops o_scan_Operand_3)
  (.cond (.t 5) .skip (.seq (.ops o_scan_Operand_4)
  (.cond (.t 5) .skip (.ops o_scan_Operand_5)))))))
  (.cond (.t 5) (.seq (.ops o_scan_Operand_6)
  .ret) .skip)))))
  (.seq (.ops o_scan_Operand_7)
  .ret)))
def a_scan_Operand : AFn := { body := c_scan_Operand, res := [.tmp 2] }

-- dragoman/dragomanref15.Operand
def o_ref15_Operand_0 : List AOp := [
  { dst := some 1, op := .box (.t 0) },
  { dst := some 2, op := .asg (.c (.d (.bool false))) }]
def o_ref15_Operand_1 : List AOp := [
  { dst := some 3, op := .fldA 0 (.t 1) },
  { dst := some 4, op := .load none (.t 3) },
  { dst := some 5, op := .bin .eql (.t 4) (.c (.nat .i64 7)) }]
def o_ref15_Operand_2 : List AOp := [
  { dst := some 6, op := .fldA 2 (.t 1) },
  { dst := some 7, op := .load none (.t 6) },
  { dst := some 8, op := .bin .eql (.t 7) (.c (.d (.str [41]))) },
  { dst := some 9, op := .mov (.t 8) },
  { dst := some 10, op := .fldA 2 (.t 1), guard := some (9, false) },
  { dst := some 11, op := .load none (.t 10), guard := some (9, false) },
  { dst := some 12, op := .bin .eql (.t 11) (.c (.d (.str [93]))), guard := some (9, false) },
  { dst := some 13, op := .pick (.t 9) (.c (.d (.bool true))) (.t 12) },
  { dst := some 2, op := .asg (.t 13) }]
def o_ref15_Operand_3 : List AOp := [
  { dst := some 14, op := .fldA 0 (.t 1) },
  { dst := some 15, op := .load none (.t 14) },
  { dst := some 16, op := .bin .geq (.t 15) (.c (.nat .i64 2)) },
  { dst := some 17, op := .mov (.t 16) },
  { dst := some 18, op := .fldA 0 (.t 1), guard := some (17, true) },
  { dst := some 19, op := .load none (.t 18), guard := some (17, true) },
  { dst := some 20, op := .bin .leq (.t 19) (.c (.nat .i64 5)), guard := some (17, true) },
  { dst := some 21, op := .pick (.t 17) (.t 20) (.c (.d (.bool false))) },
  { dst := some 2, op := .asg (.t 21) }]
def c_ref15_Operand : AC :=
  (.seq (.ops o_ref15_Operand_0)
  (.seq (.seq (.ops o_ref15_Operand_1)
  (.cond (.t 5) (.seq (.ops o_ref15_Operand_2)
  .ret) .skip))
  (.seq (.ops o_ref15_Operand_3)
  .ret)))
def a_ref15_Operand : AFn := { body := c_ref15_Operand, res := [.tmp 2] }

-- dragoman/scan.Tokens
def o_scan_Tokens_0 : List AOp := [
  { dst := some 2, op := .asg (.c (.nil)) },
  { dst := some 3, op := .asg (.c (.nat .i64 0)) },
  { dst := some 4, op := .asg (.c (.nat .i64 0)) }]
def o_scan_Tokens_1 : List AOp := [
  { dst := some 5, op := .asg (.c (.nil)) }]
def o_scan_Tokens_2 : List AOp := [
  { dst := some 6, op := .asg (.c (.nat .i64 6)) },
  { dst := some 7, op := .asg (.c (.nat .i64 0)) },
  { dst := some 8, op := .asg (.c (.d (.bool false))) }]
def o_scan_Tokens_3 : List AOp := [
  { dst := some 11, op := .mov (.t 0) },
  { dst := some 12, op := .lenS (.t 11) },
  { dst := some 13, op := .bin .gtr (.t 12) (.c (.nat .i64 8192)) }]
def o_scan_Tokens_4 : List AOp := [
  { dst := some 14, op := .build [.nat .i64 0, .nat .i64 0, .d (.str []), .nat .i64 0] [] },
  { dst := some 9, op := .alloc [.nat .i64 0, .nat .i64 0, .d (.str []), .nat .i64 0] },
  { dst := none, op := .store 4 (.t 9) (.t 14) },
  { dst := some 10, op := .asg (.c (.nat .i64 1)) }]
def o_scan_Tokens_5 : List AOp := [
  { dst := some 15, op := .mov (.t 0) },
  { dst := some 16, op := .mov (.t 7) },
  { dst := some 17, op := .call (.f f_scan_skip) [.t 15, .t 16] },
  { dst := some 7, op := .asg (.t 17) }]
def o_scan_Tokens_6 : List AOp := [
  { dst := some 18, op := .mov (.t 7) },
  { dst := some 19, op := .mov (.t 0) },
  { dst := some 20, op := .lenS (.t 19) },
  { dst := some 21, op := .bin .lss (.t 18) (.t 20) }]
def o_scan_Tokens_7 : List AOp := [
  { dst := some 23, op := .mov (.t 0) },
  { dst := some 24, op := .mov (.t 7) },
  { dst := some 25, op := .sliceS (.t 23) (some (.t 24)) none },
  { dst := some 26, op := .mov (.t 8) },
  { dst := some 27, op := .call (.f f_scan_next) [.t 25, .t 26] },
  { dst := some 22, op := .mov (.t 27) },
  { dst := some 28, op := .extr (.t 22) 0 },
  { dst := some 29, op := .extr (.t 22) 1 },
  { dst := none, op := .store 4 (.t 9) (.t 28) },
  { dst := some 10, op := .asg (.t 29) }]
def o_scan_Tokens_8 : List AOp := [
  { dst := some 31, op := .mov (.t 10) },
  { dst := some 32, op := .bin .lss (.t 31) (.c (.nat .i64 0)) },
  { dst := some 30, op := .asg (.t 32) }]
def o_scan_Tokens_9 : List AOp := [
  { dst := some 6, op := .asg (.c (.nat .i64 3)) }]
def o_scan_Tokens_10 : List AOp := [
  { dst := some 34, op := .mov (.t 10) },
  { dst := some 35, op := .bin .eql (.t 34) (.c (.nat .i64 0)) },
  { dst := some 33, op := .asg (.t 35) }]
def o_scan_Tokens_11 : List AOp := [
  { dst := some 6, op := .asg (.c (.nat .i64 9)) }]
def o_scan_Tokens_12 : List AOp := [
  { dst := some 37, op := .mov (.t 5) },
  { dst := some 38, op := .len (.t 37) },
  { dst := some 39, op := .bin .geq (.t 38) (.c (.nat .i64 2000)) },
  { dst := some 36, op := .asg (.t 39) }]
def o_scan_Tokens_13 : List AOp := [
  { dst := some 40, op := .mov (.t 7) },
  { dst := some 41, op := .fldA 1 (.t 9) },
  { dst := none, op := .store 1 (.t 41) (.t 40) }]
def o_scan_Tokens_14 : List AOp := [
  { dst := some 42, op := .take 5 },
  { dst := some 43, op := .load (some 4) (.t 9) },
  { dst := some 44, op := .mkls 4 [.nat .i64 0, .nat .i64 0, .d (.str []), .nat .i64 0] [(0, 4, (.t 43))] },
  { dst := some 45, op := .append 4 (.t 42) (.t 44) },
  { dst := some 5, op := .asg (.t 45) }]
def o_scan_Tokens_15 : List AOp := [
  { dst := some 46, op := .fldA 0 (.t 9) },
  { dst := some 47, op := .load none (.t 46) },
  { dst := some 48, op := .bin .eql (.t 47) (.c (.nat .i64 0)) }]
def o_scan_Tokens_16 : List AOp := [
  { dst := some 49, op := .mov (.t 5) },
  { dst := some 2, op := .asg (.t 49) },
  { dst := some 3, op := .asg (.c (.nat .i64 0)) },
  { dst := some 4, op := .asg (.c (.nat .i64 0)) }]
def o_scan_Tokens_17 : List AOp := [
  { dst := some 50, op := .load (some 4) (.t 9) },
  { dst := some 51, op := .call (.f f_scan_Operand) [.t 50] },
  { dst := some 8, op := .asg (.t 51) }]
def o_scan_Tokens_18 : List AOp := [
  { dst := some 52, op := .mov (.t 7) },
  { dst := some 53, op := .mov (.t 10) },
  { dst := some 54, op := .bin .add (.t 52) (.t 53) },
  { dst := some 7, op := .asg (.t 54) }]
def b_scan_Tokens_0 : AC := (.trim [0, 5, 6, 7, 8] (.block 1 (.seq (.ops o_scan_Tokens_4)
  (.seq (.seq (.ops o_scan_Tokens_5)
  (.seq (.ops o_scan_Tokens_6)
  (.cond (.t 21) (.ops o_scan_Tokens_7) .skip)))
  (.seq (.trim [0, 5, 6, 7, 9, 10] (.block 2 (.seq (.ops o_scan_Tokens_8)
  (.cond (.t 30) (.seq (.ops o_scan_Tokens_9)
  (.goto 0)) (.seq (.ops o_scan_Tokens_10)
  (.cond (.t 33) (.seq (.ops o_scan_Tokens_11)
  (.goto 0)) (.seq (.ops o_scan_Tokens_12)
  (.cond (.t 36) (.goto 0) .skip))))))))
  (.seq (.ops o_scan_Tokens_13)
  (.seq (.ops o_scan_Tokens_14)
  (.seq (.seq (.ops o_scan_Tokens_15)
  (.cond (.t 48) (.seq (.ops o_scan_Tokens_16)
  .ret) .skip))
  (.seq (.ops o_scan_Tokens_17)
  (.ops o_scan_Tokens_18))))))))))
def o_scan_Tokens_19 : List AOp := [
  { dst := some 55, op := .mov (.t 6) },
  { dst := some 56, op := .mov (.t 7) },
  { dst := some 2, op := .asg (.c (.nil)) },
  { dst := some 3, op := .asg (.t 55) },
  { dst := some 4, op := .asg (.t 56) }]
def c_scan_Tokens : AC :=
  (.seq (.ops o_scan_Tokens_0)
  (.scope 0 (.seq (.ops o_scan_Tokens_1)
  (.seq (.ops o_scan_Tokens_2)
  (.seq (.seq (.ops o_scan_Tokens_3)
  (.cond (.t 13) (.goto 0) .skip))
  (.seq (.trim [6, 7] (.block 0 (.loop [0, 5, 6, 7, 8] b_scan_Tokens_0)))
  (.seq .label
  (.seq (.ops o_scan_Tokens_19)
  .ret)))))) (.seq .skip
  (.seq (.ops o_scan_Tokens_19)
  .ret))))
def a_scan_Tokens : AFn := { body := c_scan_Tokens, res := [.tmp 2, .tmp 3, .tmp 4] }

-- dragoman/scan.Marks
def o_scan_Marks_0 : List AOp := [
  { dst := some 0, op := .asg (.c (.nil)) }]
def o_scan_Marks_1 : List AOp := [
  { dst := some 1, op := .call (.f f_strings_Split) [.c (.d (.str [123, 32, 125, 32, 40, 32, 41, 32, 91, 32, 93, 32, 44, 32, 63, 32, 58, 32, 126, 32, 33, 126, 32, 33, 32, 61, 61, 32, 33, 61, 32, 60, 61, 32, 62, 61, 32, 60, 32, 62, 32, 38, 38, 32, 124, 124, 32, 61, 32, 43, 61, 32, 45, 61, 32, 42, 61, 32, 47, 61, 32, 37, 61, 32, 43, 32, 45, 32, 42, 32, 47, 32, 37, 32, 36])), .c (.d (.str [32]))] },
  { dst := some 0, op := .asg (.t 1) }]
def c_scan_Marks : AC :=
  (.seq (.ops o_scan_Marks_0)
  (.seq (.ops o_scan_Marks_1)
  .ret))
def a_scan_Marks : AFn := { body := c_scan_Marks, res := [.tmp 0] }

-- dragoman/scan.Keys
def o_scan_Keys_0 : List AOp := [
  { dst := some 0, op := .asg (.c (.nil)) }]
def o_scan_Keys_1 : List AOp := [
  { dst := some 1, op := .call (.f f_strings_Split) [.c (.d (.str [66, 69, 71, 73, 78, 32, 69, 78, 68, 32, 112, 114, 105, 110, 116, 32, 105, 102, 32, 101, 108, 115, 101, 32, 119, 104, 105, 108, 101, 32, 102, 111, 114, 32, 105, 110, 32, 98, 114, 101, 97, 107, 32, 99, 111, 110, 116, 105, 110, 117, 101, 32, 110, 101, 120, 116, 32, 101, 120, 105, 116, 32, 100, 101, 108, 101, 116, 101, 32, 108, 101, 110, 103, 116, 104, 32, 115, 117, 98, 115, 116, 114, 32, 105, 110, 100, 101, 120, 32, 116, 111, 117, 112, 112, 101, 114, 32, 116, 111, 108, 111, 119, 101, 114, 32, 115, 117, 98, 32, 103, 115, 117, 98])), .c (.d (.str [32]))] },
  { dst := some 0, op := .asg (.t 1) }]
def c_scan_Keys : AC :=
  (.seq (.ops o_scan_Keys_0)
  (.seq (.ops o_scan_Keys_1)
  .ret))
def a_scan_Keys : AFn := { body := c_scan_Keys, res := [.tmp 0] }

-- dragoman/scan.skip
def o_scan_skip_0 : List AOp := [
  { dst := some 4, op := .asg (.c (.nat .i64 0)) }]
def o_scan_skip_1 : List AOp := [
  { dst := some 5, op := .mov (.t 1) },
  { dst := some 6, op := .mov (.t 0) },
  { dst := some 7, op := .lenS (.t 6) },
  { dst := some 8, op := .bin .lss (.t 5) (.t 7) }]
def o_scan_skip_3 : List AOp := [
  { dst := some 11, op := .mov (.t 0) },
  { dst := some 12, op := .mov (.t 1) },
  { dst := some 13, op := .idxS (.t 11) (.t 12) },
  { dst := some 14, op := .bin .eql (.t 13) (.c (.nat .u8 32)) },
  { dst := some 15, op := .mov (.t 14) },
  { dst := some 16, op := .mov (.t 0), guard := some (15, false) },
  { dst := some 17, op := .mov (.t 1), guard := some (15, false) },
  { dst := some 18, op := .idxS (.t 16) (.t 17), guard := some (15, false) },
  { dst := some 19, op := .bin .eql (.t 18) (.c (.nat .u8 9)), guard := some (15, false) },
  { dst := some 20, op := .pick (.t 15) (.c (.d (.bool true))) (.t 19) },
  { dst := some 10, op := .asg (.t 20) }]
def o_scan_skip_4 : List AOp := [
  { dst := some 21, op := .mov (.t 1) },
  { dst := some 22, op := .bin .add (.t 21) (.c (.nat .i64 1)) },
  { dst := some 1, op := .asg (.t 22) }]
def o_scan_skip_5 : List AOp := [
  { dst := some 24, op := .mov (.t 0) },
  { dst := some 25, op := .mov (.t 1) },
  { dst := some 26, op := .idxS (.t 24) (.t 25) },
  { dst := some 27, op := .bin .eql (.t 26) (.c (.nat .u8 35)) },
  { dst := some 23, op := .asg (.t 27) }]
def o_scan_skip_6 : List AOp := [
  { dst := some 28, op := .mov (.t 1) },
  { dst := some 29, op := .mov (.t 0) },
  { dst := some 30, op := .lenS (.t 29) },
  { dst := some 31, op := .bin .lss (.t 28) (.t 30) },
  { dst := some 32, op := .mov (.t 31) },
  { dst := some 33, op := .mov (.t 0), guard := some (32, true) },
  { dst := some 34, op := .mov (.t 1), guard := some (32, true) },
  { dst := some 35, op := .idxS (.t 33) (.t 34), guard := some (32, true) },
  { dst := some 36, op := .bin .neq (.t 35) (.c (.nat .u8 10)), guard := some (32, true) },
  { dst := some 37, op := .pick (.t 32) (.t 36) (.c (.d (.bool false))) }]
def o_scan_skip_7 : List AOp := [
  { dst := some 38, op := .mov (.t 1) },
  { dst := some 39, op := .bin .add (.t 38) (.c (.nat .i64 1)) },
  { dst := some 1, op := .asg (.t 39) }]
def b_scan_skip_0 : AC := (.seq (.seq (.ops o_scan_skip_6)
  (.cond (.t 37) .skip (.exit 3)))
  (.trim [0, 1] (.block 4 (.ops o_scan_skip_7))))
def o_scan_skip_2 : List AOp := [
  { dst := some 9, op := .mov (.t 1) },
  { dst := some 4, op := .asg (.t 9) }]
def b_scan_skip_1 : AC := (.seq (.seq (.ops o_scan_skip_1)
  (.cond (.t 8) .skip (.exit 0)))
  (.trim [0, 1] (.block 1 (.trim [0, 1] (.block 2 (.seq (.ops o_scan_skip_3)
  (.cond (.t 10) (.ops o_scan_skip_4) (.seq (.ops o_scan_skip_5)
  (.cond (.t 23) (.trim [0, 1] (.block 3 (.loop [0, 1] b_scan_skip_0))) (.seq (.ops o_scan_skip_2)
  .ret))))))))))
def o_scan_skip_8 : List AOp := [
  { dst := some 40, op := .mov (.t 1) },
  { dst := some 4, op := .asg (.t 40) }]
def c_scan_skip : AC :=
  (.seq (.ops o_scan_skip_0)
  (.seq (.trim [1] (.block 0 (.loop [0, 1] b_scan_skip_1)))
  (.seq (.ops o_scan_skip_8)
  .ret)))
def a_scan_skip : AFn := { body := c_scan_skip, res := [.tmp 4] }

-- dragoman/scan.next
def o_scan_next_0 : List AOp := [
  { dst := some 4, op := .alloc [.nat .i64 0, .nat .i64 0, .d (.str []), .nat .i64 0] },
  { dst := some 5, op := .asg (.c (.nat .i64 0)) }]
def o_scan_next_1 : List AOp := [
  { dst := some 7, op := .mov (.t 0) },
  { dst := some 8, op := .idxS (.t 7) (.c (.nat .i64 0)) },
  { dst := some 6, op := .asg (.t 8) }]
def o_scan_next_2 : List AOp := [
  { dst := some 10, op := .mov (.t 6) },
  { dst := some 11, op := .bin .eql (.t 10) (.c (.nat .u8 10)) },
  { dst := some 12, op := .mov (.t 11) },
  { dst := some 13, op := .mov (.t 6), guard := some (12, false) },
  { dst := some 14, op := .bin .eql (.t 13) (.c (.nat .u8 59)), guard := some (12, false) },
  { dst := some 15, op := .pick (.t 12) (.c (.d (.bool true))) (.t 14) },
  { dst := some 9, op := .asg (.t 15) }]
def o_scan_next_3 : List AOp := [
  { dst := some 16, op := .build [.nat .i64 0, .nat .i64 0, .d (.str []), .nat .i64 0] [(0, 1, (.c (.nat .i64 1)))] },
  { dst := none, op := .store 4 (.t 4) (.t 16) },
  { dst := some 5, op := .asg (.c (.nat .i64 1)) }]
def o_scan_next_4 : List AOp := [
  { dst := some 18, op := .mov (.t 6) },
  { dst := some 19, op := .call (.f f_scan_isFigure) [.t 18] },
  { dst := some 17, op := .asg (.t 19) }]
def o_scan_next_5 : List AOp := [
  { dst := some 20, op := .mov (.t 0) },
  { dst := some 21, op := .call (.f f_scan_number) [.t 20] },
  { dst := some 22, op := .extr (.t 21) 0 },
  { dst := some 23, op := .extr (.t 21) 1 },
  { dst := none, op := .store 4 (.t 4) (.t 22) },
  { dst := some 5, op := .asg (.t 23) }]
def o_scan_next_6 : List AOp := [
  { dst := some 25, op := .mov (.t 6) },
  { dst := some 26, op := .bin .eql (.t 25) (.c (.nat .u8 34)) },
  { dst := some 24, op := .asg (.t 26) }]
def o_scan_next_7 : List AOp := [
  { dst := some 27, op := .mov (.t 0) },
  { dst := some 28, op := .call (.f f_scan_text) [.t 27] },
  { dst := some 29, op := .extr (.t 28) 0 },
  { dst := some 30, op := .extr (.t 28) 1 },
  { dst := none, op := .store 4 (.t 4) (.t 29) },
  { dst := some 5, op := .asg (.t 30) }]
def o_scan_next_8 : List AOp := [
  { dst := some 32, op := .mov (.t 6) },
  { dst := some 33, op := .bin .eql (.t 32) (.c (.nat .u8 47)) },
  { dst := some 34, op := .mov (.t 33) },
  { dst := some 35, op := .mov (.t 1), guard := some (34, true) },
  { dst := some 36, op := .un .not (.t 35), guard := some (34, true) },
  { dst := some 37, op := .pick (.t 34) (.t 36) (.c (.d (.bool false))) },
  { dst := some 31, op := .asg (.t 37) }]
def o_scan_next_9 : List AOp := [
  { dst := some 38, op := .mov (.t 0) },
  { dst := some 39, op := .call (.f f_scan_expression) [.t 38] },
  { dst := some 40, op := .extr (.t 39) 0 },
  { dst := some 41, op := .extr (.t 39) 1 },
  { dst := none, op := .store 4 (.t 4) (.t 40) },
  { dst := some 5, op := .asg (.t 41) }]
def o_scan_next_10 : List AOp := [
  { dst := some 43, op := .mov (.t 0) },
  { dst := some 44, op := .sliceS (.t 43) none (some (.c (.nat .i64 1))) },
  { dst := some 45, op := .call (.f f_hex_IsName) [.t 44] },
  { dst := some 42, op := .asg (.t 45) }]
def o_scan_next_11 : List AOp := [
  { dst := some 46, op := .mov (.t 0) },
  { dst := some 47, op := .call (.f f_scan_word) [.t 46] },
  { dst := some 48, op := .extr (.t 47) 0 },
  { dst := some 49, op := .extr (.t 47) 1 },
  { dst := none, op := .store 4 (.t 4) (.t 48) },
  { dst := some 5, op := .asg (.t 49) }]
def o_scan_next_12 : List AOp := [
  { dst := some 50, op := .mov (.t 0) },
  { dst := some 51, op := .call (.f f_scan_mark) [.t 50] },
  { dst := some 52, op := .extr (.t 51) 0 },
  { dst := some 53, op := .extr (.t 51) 1 },
  { dst := none, op := .store 4 (.t 4) (.t 52) },
  { dst := some 5, op := .asg (.t 53) }]
def c_scan_next : AC :=
  (.seq (.ops o_scan_next_0)
  (.seq (.ops o_scan_next_1)
  (.seq (.trim [0, 4] (.block 0 (.seq (.ops o_scan_next_2)
  (.cond (.t 9) (.seq (.ops o_scan_next_3)
  .ret) (.seq (.ops o_scan_next_4)
  (.cond (.t 17) (.seq (.ops o_scan_next_5)
  .ret) (.seq (.ops o_scan_next_6)
  (.cond (.t 24) (.seq (.ops o_scan_next_7)
  .ret) (.seq (.ops o_scan_next_8)
  (.cond (.t 31) (.seq (.ops o_scan_next_9)
  .ret) (.seq (.ops o_scan_next_10)
  (.cond (.t 42) (.seq (.ops o_scan_next_11)
  .ret) .skip))))))))))))
  (.seq (.ops o_scan_next_12)
  .ret))))
def a_scan_next : AFn := { body := c_scan_next, res := [.cell 4 (some 4), .tmp 5] }

-- dragoman/scan.isFigure
def o_scan_isFigure_0 : List AOp := [
  { dst := some 2, op := .asg (.c (.d (.bool false))) }]
def o_scan_isFigure_1 : List AOp := [
  { dst := some 3, op := .mov (.t 0) },
  { dst := some 4, op := .bin .geq (.t 3) (.c (.nat .u8 48)) },
  { dst := some 5, op := .mov (.t 4) },
  { dst := some 6, op := .mov (.t 0), guard := some (5, true) },
  { dst := some 7, op := .bin .leq (.t 6) (.c (.nat .u8 57)), guard := some (5, true) },
  { dst := some 8, op := .pick (.t 5) (.t 7) (.c (.d (.bool false))) },
  { dst := some 2, op := .asg (.t 8) }]
def c_scan_isFigure : AC :=
  (.seq (.ops o_scan_isFigure_0)
  (.seq (.ops o_scan_isFigure_1)
  .ret))
def a_scan_isFigure : AFn := { body := c_scan_isFigure, res := [.tmp 2] }

-- dragoman/scan.number
def o_scan_number_0 : List AOp := [
  { dst := some 1, op := .box (.t 0) },
  { dst := some 2, op := .alloc [.nat .i64 0, .nat .i64 0, .d (.str []), .nat .i64 0] },
  { dst := some 3, op := .asg (.c (.nat .i64 0)) }]
def o_scan_number_1 : List AOp := [
  { dst := some 4, op := .alloc [.nat .i64 0] },
  { dst := none, op := .store 1 (.t 4) (.c (.nat .i64 0)) }]
def o_scan_number_2 : List AOp := [
  { dst := some 9, op := .mkfn (.func f_scan_number_1) [] [.t 4, .t 1] },
  { dst := some 5, op := .asg (.t 9) }]
def o_scan_number_3 : List AOp := [
  { dst := some 10, op := .mov (.t 5) },
  { dst := some 11, op := .call (.t 10) [] }]
def o_scan_number_4 : List AOp := [
  { dst := some 12, op := .load none (.t 4) },
  { dst := some 13, op := .bin .add (.t 12) (.c (.nat .i64 1)) },
  { dst := some 14, op := .load none (.t 1) },
  { dst := some 15, op := .lenS (.t 14) },
  { dst := some 16, op := .bin .lss (.t 13) (.t 15) },
  { dst := some 17, op := .mov (.t 16) },
  { dst := some 18, op := .load none (.t 1), guard := some (17, true) },
  { dst := some 19, op := .load none (.t 4), guard := some (17, true) },
  { dst := some 20, op := .idxS (.t 18) (.t 19), guard := some (17, true) },
  { dst := some 21, op := .bin .eql (.t 20) (.c (.nat .u8 46)), guard := some (17, true) },
  { dst := some 22, op := .pick (.t 17) (.t 21) (.c (.d (.bool false))) },
  { dst := some 23, op := .mov (.t 22) },
  { dst := some 24, op := .load none (.t 1), guard := some (23, true) },
  { dst := some 25, op := .load none (.t 4), guard := some (23, true) },
  { dst := some 26, op := .bin .add (.t 25) (.c (.nat .i64 1)), guard := some (23, true) },
  { dst := some 27, op := .idxS (.t 24) (.t 26), guard := some (23, true) },
  { dst := some 28, op := .call (.f f_scan_isFigure) [.t 27], guard := some (23, true) },
  { dst := some 29, op := .pick (.t 23) (.t 28) (.c (.d (.bool false))) }]
def o_scan_number_5 : List AOp := [
  { dst := some 30, op := .load none (.t 4) },
  { dst := some 31, op := .bin .add (.t 30) (.c (.nat .i64 1)) },
  { dst := none, op := .store 1 (.t 4) (.t 31) }]
def o_scan_number_6 : List AOp := [
  { dst := some 32, op := .mov (.t 5) },
  { dst := some 33, op := .call (.t 32) [] }]
def o_scan_number_7 : List AOp := [
  { dst := some 35, op := .load none (.t 1) },
  { dst := some 36, op := .load none (.t 4) },
  { dst := some 37, op := .sliceS (.t 35) none (some (.t 36)) },
  { dst := some 38, op := .call (.f f_dec_Read) [.t 37] },
  { dst := some 34, op := .mov (.t 38) },
  { dst := some 39, op := .extr (.t 34) 0 },
  { dst := some 40, op := .extr (.t 34) 1 },
  { dst := some 41, op := .extr (.t 34) 2 },
  { dst := some 6, op := .asg (.t 39) },
  { dst := some 7, op := .asg (.t 40) },
  { dst := some 8, op := .asg (.t 41) }]
def o_scan_number_8 : List AOp := [
  { dst := some 42, op := .mov (.t 8) },
  { dst := some 43, op := .bin .neq (.t 42) (.c (.nat .i64 0)) }]
def o_scan_number_9 : List AOp := [
  { dst := some 44, op := .build [.nat .i64 0, .nat .i64 0, .d (.str []), .nat .i64 0] [] },
  { dst := none, op := .store 4 (.t 2) (.t 44) },
  { dst := some 3, op := .asg (.c (.d (.int .i64 (-1)))) }]
def o_scan_number_10 : List AOp := [
  { dst := some 45, op := .mov (.t 6), may := false },
  { dst := some 46, op := .build [.nat .i64 0, .nat .i64 0, .d (.str []), .nat .i64 0] [(0, 1, (.c (.nat .i64 2))), (3, 1, (.t 45))], may := false },
  { dst := some 47, op := .loadB none (.t 4) (.t 4), may := false },
  { dst := none, op := .storeW 4 (.t 2) (.t 46) [.t 4], may := false },
  { dst := some 3, op := .asg (.t 47) }]
def c_scan_number : AC :=
  (.seq (.ops o_scan_number_0)
  (.seq (.ops o_scan_number_1)
  (.seq (.ops o_scan_number_2)
  (.seq (.ops o_scan_number_3)
  (.seq (.seq (.ops o_scan_number_4)
  (.cond (.t 29) (.seq (.ops o_scan_number_5)
  (.ops o_scan_number_6)) .skip))
  (.seq (.ops o_scan_number_7)
  (.seq (.seq (.ops o_scan_number_8)
  (.cond (.t 43) (.seq (.ops o_scan_number_9)
  .ret) .skip))
  (.seq (.ops o_scan_number_10)
  .ret))))))))
def a_scan_number : AFn := { body := c_scan_number, res := [.cell 2 (some 4), .tmp 3] }

-- dragoman/scan.text
def o_scan_text_0 : List AOp := [
  { dst := some 2, op := .alloc [.nat .i64 0, .nat .i64 0, .d (.str []), .nat .i64 0] },
  { dst := some 3, op := .asg (.c (.nat .i64 0)) }]
def o_scan_text_1 : List AOp := [
  { dst := some 4, op := .asg (.c (.nil)) }]
def o_scan_text_2 : List AOp := [
  { dst := some 5, op := .asg (.c (.nat .i64 1)) }]
def o_scan_text_3 : List AOp := [
  { dst := some 7, op := .mov (.t 5) },
  { dst := some 8, op := .mov (.t 0) },
  { dst := some 9, op := .lenS (.t 8) },
  { dst := some 10, op := .bin .lss (.t 7) (.t 9) },
  { dst := some 11, op := .mov (.t 10) },
  { dst := some 12, op := .mov (.t 0), guard := some (11, true) },
  { dst := some 13, op := .mov (.t 5), guard := some (11, true) },
  { dst := some 14, op := .idxS (.t 12) (.t 13), guard := some (11, true) },
  { dst := some 15, op := .bin .neq (.t 14) (.c (.nat .u8 10)), guard := some (11, true) },
  { dst := some 16, op := .pick (.t 11) (.t 15) (.c (.d (.bool false))) }]
def o_scan_text_6 : List AOp := [
  { dst := some 21, op := .mov (.t 0) },
  { dst := some 22, op := .mov (.t 5) },
  { dst := some 23, op := .idxS (.t 21) (.t 22) },
  { dst := some 24, op := .bin .eql (.t 23) (.c (.nat .u8 34)) },
  { dst := some 20, op := .asg (.t 24) }]
def o_scan_text_7 : List AOp := [
  { dst := some 25, op := .mov (.t 4) },
  { dst := some 26, op := .bytesStr (.t 25) },
  { dst := some 27, op := .build [.nat .i64 0, .nat .i64 0, .d (.str []), .nat .i64 0] [(0, 1, (.c (.nat .i64 3))), (2, 1, (.t 26))] },
  { dst := some 28, op := .mov (.t 5) },
  { dst := some 29, op := .bin .add (.t 28) (.c (.nat .i64 1)) },
  { dst := none, op := .store 4 (.t 2) (.t 27) },
  { dst := some 3, op := .asg (.t 29) }]
def o_scan_text_8 : List AOp := [
  { dst := some 31, op := .mov (.t 0) },
  { dst := some 32, op := .mov (.t 5) },
  { dst := some 33, op := .idxS (.t 31) (.t 32) },
  { dst := some 34, op := .bin .neq (.t 33) (.c (.nat .u8 92)) },
  { dst := some 30, op := .asg (.t 34) }]
def o_scan_text_9 : List AOp := [
  { dst := some 35, op := .take 4 },
  { dst := some 36, op := .mov (.t 0) },
  { dst := some 37, op := .mov (.t 5) },
  { dst := some 38, op := .idxS (.t 36) (.t 37) },
  { dst := some 39, op := .mkls 1 [.nat .u8 0] [(0, 1, (.t 38))] },
  { dst := some 40, op := .append 1 (.t 35) (.t 39) },
  { dst := some 4, op := .asg (.t 40) }]
def o_scan_text_10 : List AOp := [
  { dst := some 42, op := .mov (.t 5) },
  { dst := some 43, op := .bin .add (.t 42) (.c (.nat .i64 1)) },
  { dst := some 44, op := .mov (.t 0) },
  { dst := some 45, op := .lenS (.t 44) },
  { dst := some 46, op := .bin .lss (.t 43) (.t 45) },
  { dst := some 47, op := .mov (.t 46) },
  { dst := some 48, op := .mov (.t 0), guard := some (47, true) },
  { dst := some 49, op := .mov (.t 5), guard := some (47, true) },
  { dst := some 50, op := .bin .add (.t 49) (.c (.nat .i64 1)), guard := some (47, true) },
  { dst := some 51, op := .idxS (.t 48) (.t 50), guard := some (47, true) },
  { dst := some 52, op := .call (.f f_strings_IndexByte) [.c (.d (.str [34, 92, 47])), .t 51], guard := some (47, true) },
  { dst := some 53, op := .bin .geq (.t 52) (.c (.nat .i64 0)), guard := some (47, true) },
  { dst := some 54, op := .pick (.t 47) (.t 53) (.c (.d (.bool false))) },
  { dst := some 41, op := .asg (.t 54) }]
def o_scan_text_11 : List AOp := [
  { dst := some 55, op := .mov (.t 5) },
  { dst := some 56, op := .bin .add (.t 55) (.c (.nat .i64 1)) },
  { dst := some 5, op := .asg (.t 56) }]
def o_scan_text_12 : List AOp := [
  { dst := some 57, op := .take 4 },
  { dst := some 58, op := .mov (.t 0) },
  { dst := some 59, op := .mov (.t 5) },
  { dst := some 60, op := .idxS (.t 58) (.t 59) },
  { dst := some 61, op := .mkls 1 [.nat .u8 0] [(0, 1, (.t 60))] },
  { dst := some 62, op := .append 1 (.t 57) (.t 61) },
  { dst := some 4, op := .asg (.t 62) }]
def o_scan_text_13 : List AOp := [
  { dst := some 64, op := .mov (.t 5) },
  { dst := some 65, op := .bin .add (.t 64) (.c (.nat .i64 3)) },
  { dst := some 66, op := .mov (.t 0) },
  { dst := some 67, op := .lenS (.t 66) },
  { dst := some 68, op := .bin .lss (.t 65) (.t 67) },
  { dst := some 69, op := .mov (.t 68) },
  { dst := some 70, op := .mov (.t 0), guard := some (69, true) },
  { dst := some 71, op := .mov (.t 5), guard := some (69, true) },
  { dst := some 72, op := .bin .add (.t 71) (.c (.nat .i64 1)), guard := some (69, true) },
  { dst := some 73, op := .idxS (.t 70) (.t 72), guard := some (69, true) },
  { dst := some 74, op := .bin .eql (.t 73) (.c (.nat .u8 120)), guard := some (69, true) },
  { dst := some 75, op := .pick (.t 69) (.t 74) (.c (.d (.bool false))) },
  { dst := some 76, op := .mov (.t 75) },
  { dst := some 77, op := .mov (.t 0), guard := some (76, true) },
  { dst := some 78, op := .mov (.t 5), guard := some (76, true) },
  { dst := some 79, op := .bin .add (.t 78) (.c (.nat .i64 2)), guard := some (76, true) },
  { dst := some 80, op := .idxS (.t 77) (.t 79), guard := some (76, true) },
  { dst := some 81, op := .call (.f f_hex_Digit) [.t 80], guard := some (76, true) },
  { dst := some 82, op := .bin .geq (.t 81) (.c (.nat .i64 0)), guard := some (76, true) },
  { dst := some 83, op := .pick (.t 76) (.t 82) (.c (.d (.bool false))) },
  { dst := some 84, op := .mov (.t 83) },
  { dst := some 85, op := .mov (.t 0), guard := some (84, true) },
  { dst := some 86, op := .mov (.t 5), guard := some (84, true) },
  { dst := some 87, op := .bin .add (.t 86) (.c (.nat .i64 3)), guard := some (84, true) },
  { dst := some 88, op := .idxS (.t 85) (.t 87), guard := some (84, true) },
  { dst := some 89, op := .call (.f f_hex_Digit) [.t 88], guard := some (84, true) },
  { dst := some 90, op := .bin .geq (.t 89) (.c (.nat .i64 0)), guard := some (84, true) },
  { dst := some 91, op := .pick (.t 84) (.t 90) (.c (.d (.bool false))) },
  { dst := some 63, op := .asg (.t 91) }]
def o_scan_text_14 : List AOp := [
  { dst := some 92, op := .mov (.t 0), may := false },
  { dst := some 93, op := .mov (.t 5), may := false },
  { dst := some 94, op := .bin .add (.t 93) (.c (.nat .i64 2)), may := false },
  { dst := some 95, op := .idxS (.t 92) (.t 94), may := false },
  { dst := some 96, op := .call (.f f_hex_Digit) [.t 95], may := false },
  { dst := some 97, op := .bin .shl (.t 96) (.c (.nat .u64 4)), may := false },
  { dst := some 98, op := .mov (.t 0), may := false },
  { dst := some 99, op := .mov (.t 5), may := false },
  { dst := some 100, op := .bin .add (.t 99) (.c (.nat .i64 3)), may := false },
  { dst := some 101, op := .idxS (.t 98) (.t 100), may := false },
  { dst := some 102, op := .call (.f f_hex_Digit) [.t 101], may := false },
  { dst := some 103, op := .bin .or (.t 97) (.t 102) },
  { dst := some 104, op := .toInt .u8 (.t 103) },
  { dst := some 6, op := .asg (.t 104) }]
def o_scan_text_15 : List AOp := [
  { dst := some 105, op := .mov (.t 6) },
  { dst := some 106, op := .bin .eql (.t 105) (.c (.nat .u8 10)) }]
def o_scan_text_16 : List AOp := [
  { dst := some 107, op := .build [.nat .i64 0, .nat .i64 0, .d (.str []), .nat .i64 0] [] },
  { dst := none, op := .store 4 (.t 2) (.t 107) },
  { dst := some 3, op := .asg (.c (.nat .i64 0)) }]
def o_scan_text_17 : List AOp := [
  { dst := some 108, op := .take 4 },
  { dst := some 109, op := .mov (.t 6) },
  { dst := some 110, op := .mkls 1 [.nat .u8 0] [(0, 1, (.t 109))] },
  { dst := some 111, op := .append 1 (.t 108) (.t 110) },
  { dst := some 4, op := .asg (.t 111) }]
def o_scan_text_18 : List AOp := [
  { dst := some 112, op := .mov (.t 5) },
  { dst := some 113, op := .bin .add (.t 112) (.c (.nat .i64 3)) },
  { dst := some 5, op := .asg (.t 113) }]
def o_scan_text_5 : List AOp := [
  { dst := some 19, op := .build [.nat .i64 0, .nat .i64 0, .d (.str []), .nat .i64 0] [] },
  { dst := none, op := .store 4 (.t 2) (.t 19) },
  { dst := some 3, op := .asg (.c (.nat .i64 0)) }]
def o_scan_text_4 : List AOp := [
  { dst := some 17, op := .mov (.t 5) },
  { dst := some 18, op := .bin .add (.t 17) (.c (.nat .i64 1)) },
  { dst := some 5, op := .asg (.t 18) }]
def b_scan_text_0 : AC := (.seq (.seq (.ops o_scan_text_3)
  (.cond (.t 16) .skip (.exit 0)))
  (.seq (.trim [0, 2, 4, 5] (.block 1 (.trim [0, 2, 4, 5] (.block 2 (.seq (.ops o_scan_text_6)
  (.cond (.t 20) (.seq (.ops o_scan_text_7)
  .ret) (.seq (.ops o_scan_text_8)
  (.cond (.t 30) (.ops o_scan_text_9) (.seq (.ops o_scan_text_10)
  (.cond (.t 41) (.seq (.ops o_scan_text_11)
  (.ops o_scan_text_12)) (.seq (.ops o_scan_text_13)
  (.cond (.t 63) (.seq (.ops o_scan_text_14)
  (.seq (.seq (.ops o_scan_text_15)
  (.cond (.t 106) (.seq (.ops o_scan_text_16)
  .ret) .skip))
  (.seq (.ops o_scan_text_17)
  (.ops o_scan_text_18)))) (.seq (.ops o_scan_text_5)
  .ret)))))))))))))
  (.ops o_scan_text_4)))
def o_scan_text_19 : List AOp := [
  { dst := some 114, op := .build [.nat .i64 0, .nat .i64 0, .d (.str []), .nat .i64 0] [] },
  { dst := none, op := .store 4 (.t 2) (.t 114) },
  { dst := some 3, op := .asg (.c (.nat .i64 0)) }]
def c_scan_text : AC :=
  (.seq (.ops o_scan_text_0)
  (.seq (.ops o_scan_text_1)
  (.seq (.seq (.ops o_scan_text_2)
  (.trim [2] (.block 0 (.loop [0, 2, 4, 5] b_scan_text_0))))
  (.seq (.ops o_scan_text_19)
  .ret))))
def a_scan_text : AFn := { body := c_scan_text, res := [.cell 2 (some 4), .tmp 3] }

-- dragoman/scan.expression
def o_scan_expression_0 : List AOp := [
  { dst := some 2, op := .alloc [.nat .i64 0, .nat .i64 0, .d (.str []), .nat .i64 0] },
  { dst := some 3, op := .asg (.c (.nat .i64 0)) }]
def o_scan_expression_1 : List AOp := [
  { dst := some 4, op := .asg (.c (.nat .i64 1)) }]
def o_scan_expression_2 : List AOp := [
  { dst := some 7, op := .mov (.t 4) },
  { dst := some 8, op := .mov (.t 0) },
  { dst := some 9, op := .lenS (.t 8) },
  { dst := some 10, op := .bin .lss (.t 7) (.t 9) },
  { dst := some 11, op := .mov (.t 10) },
  { dst := some 12, op := .mov (.t 0), guard := some (11, true) },
  { dst := some 13, op := .mov (.t 4), guard := some (11, true) },
  { dst := some 14, op := .idxS (.t 12) (.t 13), guard := some (11, true) },
  { dst := some 15, op := .bin .neq (.t 14) (.c (.nat .u8 10)), guard := some (11, true) },
  { dst := some 16, op := .pick (.t 11) (.t 15) (.c (.d (.bool false))) }]
def o_scan_expression_4 : List AOp := [
  { dst := some 19, op := .mov (.t 0) },
  { dst := some 20, op := .mov (.t 4) },
  { dst := some 21, op := .idxS (.t 19) (.t 20) }]
def o_scan_expression_5 : List AOp := [
  { dst := some 23, op := .bin .eql (.t 21) (.c (.nat .u8 92)) },
  { dst := some 22, op := .asg (.t 23) }]
def o_scan_expression_6 : List AOp := [
  { dst := some 24, op := .mov (.t 4) },
  { dst := some 25, op := .bin .add (.t 24) (.c (.nat .i64 1)) },
  { dst := some 4, op := .asg (.t 25) }]
def o_scan_expression_7 : List AOp := [
  { dst := some 26, op := .mov (.t 4) },
  { dst := some 27, op := .mov (.t 0) },
  { dst := some 28, op := .lenS (.t 27) },
  { dst := some 29, op := .bin .lss (.t 26) (.t 28) },
  { dst := some 30, op := .mov (.t 29) },
  { dst := some 31, op := .mov (.t 0), guard := some (30, true) },
  { dst := some 32, op := .mov (.t 4), guard := some (30, true) },
  { dst := some 33, op := .idxS (.t 31) (.t 32), guard := some (30, true) },
  { dst := some 34, op := .bin .eql (.t 33) (.c (.nat .u8 10)), guard := some (30, true) },
  { dst := some 35, op := .pick (.t 30) (.t 34) (.c (.d (.bool false))) }]
def o_scan_expression_8 : List AOp := [
  { dst := some 36, op := .build [.nat .i64 0, .nat .i64 0, .d (.str []), .nat .i64 0] [] },
  { dst := none, op := .store 4 (.t 2) (.t 36) },
  { dst := some 3, op := .asg (.c (.nat .i64 0)) }]
def o_scan_expression_9 : List AOp := [
  { dst := some 38, op := .bin .eql (.t 21) (.c (.nat .u8 47)) },
  { dst := some 37, op := .asg (.t 38) }]
def o_scan_expression_10 : List AOp := [
  { dst := some 40, op := .mov (.t 0) },
  { dst := some 41, op := .mov (.t 4) },
  { dst := some 42, op := .sliceS (.t 40) (some (.c (.nat .i64 1))) (some (.t 41)) },
  { dst := some 43, op := .call (.f f_regex_Read) [.t 42] },
  { dst := some 39, op := .mov (.t 43) },
  { dst := some 44, op := .extr (.t 39) 0 },
  { dst := some 45, op := .extr (.t 39) 1 },
  { dst := some 5, op := .asg (.t 44) },
  { dst := some 6, op := .asg (.t 45) }]
def o_scan_expression_11 : List AOp := [
  { dst := some 46, op := .mov (.t 6) },
  { dst := some 47, op := .bin .neq (.t 46) (.c (.nat .i64 0)) }]
def o_scan_expression_12 : List AOp := [
  { dst := some 48, op := .build [.nat .i64 0, .nat .i64 0, .d (.str []), .nat .i64 0] [] },
  { dst := none, op := .store 4 (.t 2) (.t 48) },
  { dst := some 3, op := .asg (.c (.nat .i64 0)) }]
def o_scan_expression_13 : List AOp := [
  { dst := some 49, op := .mov (.t 0) },
  { dst := some 50, op := .mov (.t 4) },
  { dst := some 51, op := .sliceS (.t 49) (some (.c (.nat .i64 1))) (some (.t 50)) },
  { dst := some 52, op := .build [.nat .i64 0, .nat .i64 0, .d (.str []), .nat .i64 0] [(0, 1, (.c (.nat .i64 4))), (2, 1, (.t 51))] },
  { dst := some 53, op := .mov (.t 4) },
  { dst := some 54, op := .bin .add (.t 53) (.c (.nat .i64 1)) },
  { dst := none, op := .store 4 (.t 2) (.t 52) },
  { dst := some 3, op := .asg (.t 54) }]
def o_scan_expression_3 : List AOp := [
  { dst := some 17, op := .mov (.t 4) },
  { dst := some 18, op := .bin .add (.t 17) (.c (.nat .i64 1)) },
  { dst := some 4, op := .asg (.t 18) }]
def b_scan_expression_0 : AC := (.seq (.seq (.ops o_scan_expression_2)
  (.cond (.t 16) .skip (.exit 0)))
  (.seq (.trim [0, 2, 4] (.block 1 (.seq (.ops o_scan_expression_4)
  (.trim [0, 2, 4] (.block 2 (.seq (.ops o_scan_expression_5)
  (.cond (.t 22) (.seq (.ops o_scan_expression_6)
  (.seq (.ops o_scan_expression_7)
  (.cond (.t 35) (.seq (.ops o_scan_expression_8)
  .ret) .skip))) (.seq (.ops o_scan_expression_9)
  (.cond (.t 37) (.seq (.seq (.ops o_scan_expression_10)
  (.seq (.ops o_scan_expression_11)
  (.cond (.t 47) (.seq (.ops o_scan_expression_12)
  .ret) .skip)))
  (.seq (.ops o_scan_expression_13)
  .ret)) .skip)))))))))
  (.ops o_scan_expression_3)))
def o_scan_expression_14 : List AOp := [
  { dst := some 55, op := .build [.nat .i64 0, .nat .i64 0, .d (.str []), .nat .i64 0] [] },
  { dst := none, op := .store 4 (.t 2) (.t 55) },
  { dst := some 3, op := .asg (.c (.nat .i64 0)) }]
def c_scan_expression : AC :=
  (.seq (.ops o_scan_expression_0)
  (.seq (.seq (.ops o_scan_expression_1)
  (.trim [2] (.block 0 (.loop [0, 2, 4] b_scan_expression_0))))
  (.seq (.ops o_scan_expression_14)
  .ret)))
def a_scan_expression : AFn := { body := c_scan_expression, res := [.cell 2 (some 4), .tmp 3] }

-- dragoman/hex.IsName
def o_hex_IsName_0 : List AOp := [
  { dst := some 2, op := .asg (.c (.d (.bool false))) }]
def o_hex_IsName_1 : List AOp := [
  { dst := some 3, op := .asg (.f f_hex_IsName_1) }]
def o_hex_IsName_2 : List AOp := [
  { dst := some 4, op := .mov (.t 0) },
  { dst := some 5, op := .bin .neq (.t 4) (.c (.d (.str []))) },
  { dst := some 6, op := .mov (.t 5) },
  { dst := some 7, op := .mov (.t 0), guard := some (6, true) },
  { dst := some 8, op := .idxS (.t 7) (.c (.nat .i64 0)), guard := some (6, true) },
  { dst := some 9, op := .bin .lss (.t 8) (.c (.nat .u8 48)), guard := some (6, true) },
  { dst := some 10, op := .mov (.t 9), guard := some (6, true) },
  { dst := some 11, op := .mov (.t 0), guard := some (10, false) },
  { dst := some 12, op := .idxS (.t 11) (.c (.nat .i64 0)), guard := some (10, false) },
  { dst := some 13, op := .bin .gtr (.t 12) (.c (.nat .u8 57)), guard := some (10, false) },
  { dst := some 14, op := .pick (.t 10) (.c (.d (.bool true))) (.t 13), guard := some (6, true) },
  { dst := some 15, op := .pick (.t 6) (.t 14) (.c (.d (.bool false))) },
  { dst := some 16, op := .mov (.t 15) },
  { dst := some 17, op := .mov (.t 0), guard := some (16, true) },
  { dst := some 18, op := .strBytes (.t 17), guard := some (16, true) },
  { dst := some 19, op := .mov (.t 3), guard := some (16, true) },
  { dst := some 20, op := .call (.f f_slices_ContainsFunc_byte_byte) [.t 18, .t 19], guard := some (16, true) },
  { dst := some 21, op := .un .not (.t 20), guard := some (16, true) },
  { dst := some 22, op := .pick (.t 16) (.t 21) (.c (.d (.bool false))) },
  { dst := some 2, op := .asg (.t 22) }]
def c_hex_IsName : AC :=
  (.seq (.ops o_hex_IsName_0)
  (.seq (.ops o_hex_IsName_1)
  (.seq (.ops o_hex_IsName_2)
  .ret)))
def a_hex_IsName : AFn := { body := c_hex_IsName, res := [.tmp 2] }

-- dragoman/scan.word
def o_scan_word_0 : List AOp := [
  { dst := some 2, op := .alloc [.nat .i64 0, .nat .i64 0, .d (.str []), .nat .i64 0] },
  { dst := some 3, op := .asg (.c (.nat .i64 0)) }]
def o_scan_word_1 : List AOp := [
  { dst := some 4, op := .asg (.c (.nat .i64 1)) }]
def o_scan_word_2 : List AOp := [
  { dst := some 5, op := .mov (.t 4) },
  { dst := some 6, op := .mov (.t 0) },
  { dst := some 7, op := .lenS (.t 6) },
  { dst := some 8, op := .bin .lss (.t 5) (.t 7) },
  { dst := some 9, op := .mov (.t 8) },
  { dst := some 10, op := .mov (.t 0), guard := some (9, true) },
  { dst := some 11, op := .mov (.t 4), guard := some (9, true) },
  { dst := some 12, op := .bin .add (.t 11) (.c (.nat .i64 1)), guard := some (9, true) },
  { dst := some 13, op := .sliceS (.t 10) none (some (.t 12)), guard := some (9, true) },
  { dst := some 14, op := .call (.f f_hex_IsName) [.t 13], guard := some (9, true) },
  { dst := some 15, op := .pick (.t 9) (.t 14) (.c (.d (.bool false))) }]
def o_scan_word_3 : List AOp := [
  { dst := some 16, op := .mov (.t 4) },
  { dst := some 17, op := .bin .add (.t 16) (.c (.nat .i64 1)) },
  { dst := some 4, op := .asg (.t 17) }]
def b_scan_word_0 : AC := (.seq (.seq (.ops o_scan_word_2)
  (.cond (.t 15) .skip (.exit 0)))
  (.trim [0, 2, 4] (.block 1 (.ops o_scan_word_3))))
def o_scan_word_4 : List AOp := [
  { dst := some 18, op := .call (.f f_scan_Keys) [], may := false },
  { dst := some 19, op := .mov (.t 0), may := false },
  { dst := some 20, op := .mov (.t 4), may := false },
  { dst := some 21, op := .sliceS (.t 19) none (some (.t 20)), may := false },
  { dst := some 22, op := .call (.f f_slices_Contains_string_string) [.t 18, .t 21] }]
def o_scan_word_5 : List AOp := [
  { dst := some 23, op := .mov (.t 0) },
  { dst := some 24, op := .mov (.t 4) },
  { dst := some 25, op := .sliceS (.t 23) none (some (.t 24)) },
  { dst := some 26, op := .build [.nat .i64 0, .nat .i64 0, .d (.str []), .nat .i64 0] [(0, 1, (.c (.nat .i64 6))), (2, 1, (.t 25))] },
  { dst := some 27, op := .mov (.t 4) },
  { dst := none, op := .store 4 (.t 2) (.t 26) },
  { dst := some 3, op := .asg (.t 27) }]
def o_scan_word_6 : List AOp := [
  { dst := some 28, op := .mov (.t 0) },
  { dst := some 29, op := .mov (.t 4) },
  { dst := some 30, op := .sliceS (.t 28) none (some (.t 29)) },
  { dst := some 31, op := .build [.nat .i64 0, .nat .i64 0, .d (.str []), .nat .i64 0] [(0, 1, (.c (.nat .i64 5))), (2, 1, (.t 30))] },
  { dst := some 32, op := .mov (.t 4) },
  { dst := none, op := .store 4 (.t 2) (.t 31) },
  { dst := some 3, op := .asg (.t 32) }]
def c_scan_word : AC :=
  (.seq (.ops o_scan_word_0)
  (.seq (.ops o_scan_word_1)
  (.seq (.trim [0, 2, 4] (.block 0 (.loop [0, 2, 4] b_scan_word_0)))
  (.seq (.seq (.ops o_scan_word_4)
  (.cond (.t 22) (.seq (.ops o_scan_word_5)
  .ret) .skip))
  (.seq (.ops o_scan_word_6)
  .ret)))))
def a_scan_word : AFn := { body := c_scan_word, res := [.cell 2 (some 4), .tmp 3] }

-- dragoman/scan.mark
def o_scan_mark_0 : List AOp := [
  { dst := some 2, op := .alloc [.nat .i64 0, .nat .i64 0, .d (.str []), .nat .i64 0] },
  { dst := some 3, op := .asg (.c (.nat .i64 0)) }]
def o_scan_mark_1 : List AOp := [
  { dst := some 4, op := .asg (.c (.d (.str []))) }]
def o_scan_mark_2 : List AOp := [
  { dst := some 7, op := .call (.f f_scan_Marks) [] },
  { dst := some 8, op := .len (.t 7) },
  { dst := some 9, op := .mov (.c (.nat .i64 0)) }]
def o_scan_mark_3 : List AOp := [
  { dst := some 10, op := .bin .lss (.t 9) (.t 8) }]
def o_scan_mark_4 : List AOp := [
  { dst := some 11, op := .idxA none 1 (.t 7) (.t 9) },
  { dst := some 12, op := .load none (.t 11) },
  { dst := some 6, op := .asg (.t 12) }]
def o_scan_mark_5 : List AOp := [
  { dst := some 13, op := .mov (.t 0) },
  { dst := some 14, op := .mov (.t 6) },
  { dst := some 15, op := .call (.f f_strings_HasPrefix) [.t 13, .t 14] },
  { dst := some 16, op := .un .not (.t 15) }]
def o_scan_mark_6 : List AOp := [
  { dst := some 17, op := .mov (.t 6) },
  { dst := some 18, op := .lenS (.t 17) },
  { dst := some 19, op := .mov (.t 4) },
  { dst := some 20, op := .lenS (.t 19) },
  { dst := some 21, op := .bin .gtr (.t 18) (.t 20) }]
def o_scan_mark_7 : List AOp := [
  { dst := some 22, op := .mov (.t 6) },
  { dst := some 4, op := .asg (.t 22) }]
def o_scan_mark_8 : List AOp := [
  { dst := some 23, op := .bin .add (.t 9) (.c (.nat .i64 1)) },
  { dst := some 9, op := .mov (.t 23) }]
def b_scan_mark_0 : AC := (.seq (.ops o_scan_mark_3)
  (.seq (.cond (.t 10) .skip (.exit 0))
  (.seq (.trim [0, 2, 4, 7, 8, 9] (.block 1 (.seq (.ops o_scan_mark_4)
  (.seq (.seq (.ops o_scan_mark_5)
  (.cond (.t 16) (.exit 1) .skip))
  (.seq (.ops o_scan_mark_6)
  (.cond (.t 21) (.ops o_scan_mark_7) .skip))))))
  (.ops o_scan_mark_8))))
def o_scan_mark_9 : List AOp := [
  { dst := some 24, op := .mov (.t 4) },
  { dst := some 25, op := .build [.nat .i64 0, .nat .i64 0, .d (.str []), .nat .i64 0] [(0, 1, (.c (.nat .i64 7))), (2, 1, (.t 24))] },
  { dst := some 26, op := .mov (.t 4) },
  { dst := some 27, op := .lenS (.t 26) },
  { dst := none, op := .store 4 (.t 2) (.t 25) },
  { dst := some 3, op := .asg (.t 27) }]
def c_scan_mark : AC :=
  (.seq (.ops o_scan_mark_0)
  (.scope 0 (.seq (.ops o_scan_mark_1)
  (.seq .label
  (.seq (.seq (.ops o_scan_mark_2)
  (.trim [2, 4] (.block 0 (.loop [0, 2, 4, 7, 8, 9] b_scan_mark_0))))
  (.seq (.ops o_scan_mark_9)
  .ret)))) (.seq .skip
  (.seq (.seq (.ops o_scan_mark_2)
  (.trim [2, 4] (.block 0 (.loop [0, 2, 4, 7, 8, 9] b_scan_mark_0))))
  (.seq (.ops o_scan_mark_9)
  .ret)))))
def a_scan_mark : AFn := { body := c_scan_mark, res := [.cell 2 (some 4), .tmp 3] }

-- dragoman/scan.number$1
def o_scan_number_1_0 : List AOp := [
  { dst := some 2, op := .load none (.t 0) },
  { dst := some 3, op := .load none (.t 1) },
  { dst := some 4, op := .lenS (.t 3) },
  { dst := some 5, op := .bin .lss (.t 2) (.t 4) },
  { dst := some 6, op := .mov (.t 5) },
  { dst := some 7, op := .load none (.t 1), guard := some (6, true) },
  { dst := some 8, op := .load none (.t 0), guard := some (6, true) },
  { dst := some 9, op := .idxS (.t 7) (.t 8), guard := some (6, true) },
  { dst := some 10, op := .call (.f f_scan_isFigure) [.t 9], guard := some (6, true) },
  { dst := some 11, op := .pick (.t 6) (.t 10) (.c (.d (.bool false))) }]
def o_scan_number_1_1 : List AOp := [
  { dst := some 12, op := .load none (.t 0) },
  { dst := some 13, op := .bin .add (.t 12) (.c (.nat .i64 1)) },
  { dst := none, op := .store 1 (.t 0) (.t 13) }]
def b_scan_number_1_0 : AC := (.seq (.seq (.ops o_scan_number_1_0)
  (.cond (.t 11) .skip (.exit 0)))
  (.trim [0, 1] (.block 1 (.ops o_scan_number_1_1))))
def c_scan_number_1 : AC :=
  (.trim [] (.block 0 (.loop [0, 1] b_scan_number_1_0)))
def a_scan_number_1 : AFn := { body := c_scan_number_1, res := [] }

-- dragoman/dec.Read
def o_dec_Read_0 : List AOp := [
  { dst := some 2, op := .alloc [.nat .i64 0] },
  { dst := some 3, op := .alloc [.nat .i64 0] },
  { dst := some 4, op := .alloc [.nat .i64 0] }]
def o_dec_Read_1 : List AOp := [
  { dst := some 16, op := .mkfn (.func f_dec_Read_1) [] [.t 4, .t 3] },
  { dst := none, op := .defer (.t 16) [] }]
def o_dec_Read_2 : List AOp := [
  { dst := none, op := .defer (.f f_dec_caught) [.t 2, .t 4] }]
def o_dec_Read_3 : List AOp := [
  { dst := some 18, op := .mov (.t 0) },
  { dst := some 19, op := .call (.f f_dec_span) [.t 18] },
  { dst := some 17, op := .mov (.t 19) },
  { dst := some 20, op := .extr (.t 17) 0 },
  { dst := some 21, op := .extr (.t 17) 1 },
  { dst := some 22, op := .extr (.t 17) 2 },
  { dst := some 23, op := .extr (.t 17) 3 },
  { dst := some 5, op := .asg (.t 20) },
  { dst := some 6, op := .asg (.t 21) },
  { dst := some 7, op := .asg (.t 22) },
  { dst := some 8, op := .asg (.t 23) }]
def o_dec_Read_4 : List AOp := [
  { dst := some 24, op := .mov (.t 7) },
  { dst := some 25, op := .mov (.t 6) },
  { dst := some 26, op := .bin .eql (.t 24) (.t 25) },
  { dst := some 27, op := .mov (.t 26) },
  { dst := some 28, op := .mov (.t 8), guard := some (27, true) },
  { dst := some 29, op := .mov (.t 7), guard := some (27, true) },
  { dst := some 30, op := .bin .add (.t 29) (.c (.nat .i64 1)), guard := some (27, true) },
  { dst := some 31, op := .bin .leq (.t 28) (.t 30), guard := some (27, true) },
  { dst := some 32, op := .pick (.t 27) (.t 31) (.c (.d (.bool false))) },
  { dst := some 33, op := .call (.f f_dec_wrong) [.t 32, .c (.nat .i64 2)] }]
def o_dec_Read_5 : List AOp := [
  { dst := some 9, op := .asg (.c (.d (.str []))) }]
def o_dec_Read_6 : List AOp := [
  { dst := some 34, op := .mov (.t 7) },
  { dst := some 35, op := .mov (.t 8) },
  { dst := some 36, op := .bin .lss (.t 34) (.t 35) }]
def o_dec_Read_7 : List AOp := [
  { dst := some 37, op := .mov (.t 0) },
  { dst := some 38, op := .mov (.t 7) },
  { dst := some 39, op := .bin .add (.t 38) (.c (.nat .i64 1)) },
  { dst := some 40, op := .mov (.t 8) },
  { dst := some 41, op := .sliceS (.t 37) (some (.t 39)) (some (.t 40)) },
  { dst := some 9, op := .asg (.t 41) }]
def o_dec_Read_8 : List AOp := [
  { dst := some 42, op := .mov (.t 9) },
  { dst := some 43, op := .bin .add (.t 42) (.c (.d (.str [48, 48, 48, 48, 48, 48]))) },
  { dst := some 44, op := .sliceS (.t 43) none (some (.c (.nat .i64 6))) },
  { dst := some 9, op := .asg (.t 44) }]
def o_dec_Read_9 : List AOp := [
  { dst := some 10, op := .asg (.c (.nat .u64 0)) }]
def o_dec_Read_10 : List AOp := [
  { dst := some 45, op := .mov (.t 0) },
  { dst := some 46, op := .mov (.t 6) },
  { dst := some 47, op := .mov (.t 7) },
  { dst := some 48, op := .sliceS (.t 45) (some (.t 46)) (some (.t 47)) },
  { dst := some 49, op := .mov (.t 9) },
  { dst := some 50, op := .bin .add (.t 48) (.t 49) },
  { dst := some 51, op := .strBytes (.t 50) },
  { dst := some 52, op := .len (.t 51) },
  { dst := some 53, op := .mov (.c (.nat .i64 0)) }]
def o_dec_Read_11 : List AOp := [
  { dst := some 54, op := .bin .lss (.t 53) (.t 52) }]
def o_dec_Read_12 : List AOp := [
  { dst := some 55, op := .idxA none 1 (.t 51) (.t 53) },
  { dst := some 56, op := .load none (.t 55) },
  { dst := some 12, op := .asg (.t 56) }]
def o_dec_Read_13 : List AOp := [
  { dst := some 58, op := .mov (.t 10) },
  { dst := some 59, op := .call (.f f_bits_Mul64) [.t 58, .c (.nat .u64 10)] },
  { dst := some 57, op := .mov (.t 59) },
  { dst := some 60, op := .extr (.t 57) 0 },
  { dst := some 61, op := .extr (.t 57) 1 },
  { dst := some 13, op := .asg (.t 60) },
  { dst := some 14, op := .asg (.t 61) }]
def o_dec_Read_14 : List AOp := [
  { dst := some 63, op := .mov (.t 14) },
  { dst := some 64, op := .mov (.t 12) },
  { dst := some 65, op := .bin .sub (.t 64) (.c (.nat .u8 48)) },
  { dst := some 66, op := .toInt .u64 (.t 65) },
  { dst := some 67, op := .call (.f f_bits_Add64) [.t 63, .t 66, .c (.nat .u64 0)] },
  { dst := some 62, op := .mov (.t 67) },
  { dst := some 68, op := .extr (.t 62) 0 },
  { dst := some 69, op := .extr (.t 62) 1 },
  { dst := some 14, op := .asg (.t 68) },
  { dst := some 15, op := .asg (.t 69) }]
def o_dec_Read_15 : List AOp := [
  { dst := some 70, op := .mov (.t 13) },
  { dst := some 71, op := .mov (.t 15) },
  { dst := some 72, op := .bin .add (.t 70) (.t 71) },
  { dst := some 73, op := .bin .neq (.t 72) (.c (.nat .u64 0)) },
  { dst := some 74, op := .call (.f f_dec_wrong) [.t 73, .c (.nat .i64 3)] }]
def o_dec_Read_16 : List AOp := [
  { dst := some 75, op := .mov (.t 14) },
  { dst := some 10, op := .asg (.t 75) }]
def o_dec_Read_17 : List AOp := [
  { dst := some 76, op := .bin .add (.t 53) (.c (.nat .i64 1)) },
  { dst := some 53, op := .mov (.t 76) }]
def b_dec_Read_0 : AC := (.seq (.ops o_dec_Read_11)
  (.seq (.cond (.t 54) .skip (.exit 0))
  (.seq (.trim [0, 2, 3, 4, 5, 8, 10, 51, 52, 53] (.block 1 (.seq (.ops o_dec_Read_12)
  (.seq (.ops o_dec_Read_13)
  (.seq (.ops o_dec_Read_14)
  (.seq (.ops o_dec_Read_15)
  (.ops o_dec_Read_16)))))))
  (.ops o_dec_Read_17))))
def o_dec_Read_18 : List AOp := [
  { dst := some 77, op := .mov (.t 10) },
  { dst := some 78, op := .mov (.t 0) },
  { dst := some 79, op := .mov (.t 5) },
  { dst := some 80, op := .idxS (.t 78) (.t 79) },
  { dst := some 81, op := .bin .eql (.t 80) (.c (.nat .u8 45)) },
  { dst := some 82, op := .call (.f f_dec_joined) [.c (.nat .u64 0), .t 77, .t 81] },
  { dst := some 83, op := .mov (.t 8) },
  { dst := none, op := .store 1 (.t 2) (.t 82) },
  { dst := none, op := .store 1 (.t 3) (.t 83) },
  { dst := none, op := .store 1 (.t 4) (.c (.nat .i64 0)) }]
def c_dec_Read : AC :=
  (.seq (.ops o_dec_Read_0)
  (.seq (.ops o_dec_Read_1)
  (.seq (.ops o_dec_Read_2)
  (.seq (.ops o_dec_Read_3)
  (.seq (.ops o_dec_Read_4)
  (.seq (.ops o_dec_Read_5)
  (.seq (.seq (.ops o_dec_Read_6)
  (.cond (.t 36) (.ops o_dec_Read_7) .skip))
  (.seq (.ops o_dec_Read_8)
  (.seq (.ops o_dec_Read_9)
  (.seq (.seq (.ops o_dec_Read_10)
  (.trim [0, 2, 3, 4, 5, 8, 10] (.block 0 (.loop [0, 2, 3, 4, 5, 8, 10, 51, 52, 53] b_dec_Read_0))))
  (.seq (.ops o_dec_Read_18)
  .ret)))))))))))
def a_dec_Read : AFn := { body := c_dec_Read, res := [.cell 2 none, .cell 3 none, .cell 4 none] }

-- strings.IndexByte
def o_strings_IndexByte_0 : List AOp := [
  { dst := some 4, op := .asg (.c (.nat .i64 0)) }]
def o_strings_IndexByte_1 : List AOp := [
  { dst := some 5, op := .mov (.t 0) },
  { dst := some 6, op := .mov (.t 1) },
  { dst := some 7, op := .call (.f f_stringslite_IndexByte) [.t 5, .t 6] },
  { dst := some 4, op := .asg (.t 7) }]
def c_strings_IndexByte : AC :=
  (.seq (.ops o_strings_IndexByte_0)
  (.seq (.ops o_strings_IndexByte_1)
  .ret))
def a_strings_IndexByte : AFn := { body := c_strings_IndexByte, res := [.tmp 4] }

-- dragoman/hex.Digit
def o_hex_Digit_0 : List AOp := [
  { dst := some 2, op := .asg (.c (.nat .i64 0)) }]
def o_hex_Digit_1 : List AOp := [
  { dst := some 4, op := .mov (.t 0) },
  { dst := some 5, op := .bin .geq (.t 4) (.c (.nat .u8 48)) },
  { dst := some 6, op := .mov (.t 5) },
  { dst := some 7, op := .mov (.t 0), guard := some (6, true) },
  { dst := some 8, op := .bin .leq (.t 7) (.c (.nat .u8 57)), guard := some (6, true) },
  { dst := some 9, op := .pick (.t 6) (.t 8) (.c (.d (.bool false))) },
  { dst := some 3, op := .asg (.t 9) }]
def o_hex_Digit_2 : List AOp := [
  { dst := some 10, op := .mov (.t 0) },
  { dst := some 11, op := .bin .sub (.t 10) (.c (.nat .u8 48)) },
  { dst := some 12, op := .toInt .i64 (.t 11) },
  { dst := some 2, op := .asg (.t 12) }]
def o_hex_Digit_3 : List AOp := [
  { dst := some 14, op := .mov (.t 0) },
  { dst := some 15, op := .bin .geq (.t 14) (.c (.nat .u8 97)) },
  { dst := some 16, op := .mov (.t 15) },
  { dst := some 17, op := .mov (.t 0), guard := some (16, true) },
  { dst := some 18, op := .bin .leq (.t 17) (.c (.nat .u8 102)), guard := some (16, true) },
  { dst := some 19, op := .pick (.t 16) (.t 18) (.c (.d (.bool false))) },
  { dst := some 13, op := .asg (.t 19) }]
def o_hex_Digit_4 : List AOp := [
  { dst := some 20, op := .mov (.t 0) },
  { dst := some 21, op := .bin .sub (.t 20) (.c (.nat .u8 97)) },
  { dst := some 22, op := .toInt .i64 (.t 21) },
  { dst := some 23, op := .bin .add (.t 22) (.c (.nat .i64 10)) },
  { dst := some 2, op := .asg (.t 23) }]
def o_hex_Digit_5 : List AOp := [
  { dst := some 25, op := .mov (.t 0) },
  { dst := some 26, op := .bin .geq (.t 25) (.c (.nat .u8 65)) },
  { dst := some 27, op := .mov (.t 26) },
  { dst := some 28, op := .mov (.t 0), guard := some (27, true) },
  { dst := some 29, op := .bin .leq (.t 28) (.c (.nat .u8 70)), guard := some (27, true) },
  { dst := some 30, op := .pick (.t 27) (.t 29) (.c (.d (.bool false))) },
  { dst := some 24, op := .asg (.t 30) }]
def o_hex_Digit_6 : List AOp := [
  { dst := some 31, op := .mov (.t 0) },
  { dst := some 32, op := .bin .sub (.t 31) (.c (.nat .u8 65)) },
  { dst := some 33, op := .toInt .i64 (.t 32) },
  { dst := some 34, op := .bin .add (.t 33) (.c (.nat .i64 10)) },
  { dst := some 2, op := .asg (.t 34) }]
def o_hex_Digit_7 : List AOp := [
  { dst := some 2, op := .asg (.c (.d (.int .i64 (-1)))) }]
def c_hex_Digit : AC :=
  (.seq (.ops o_hex_Digit_0)
  (.seq (.trim [] (.block 0 (.seq (.ops o_hex_Digit_1)
  (.cond (.t 3) (.seq (.ops o_hex_Digit_2)
  .ret) (.seq (.ops o_hex_Digit_3)
  (.cond (.t 13) (.seq (.ops o_hex_Digit_4)
  .ret) (.seq (.ops o_hex_Digit_5)
  (.cond (.t 24) (.seq (.ops o_hex_Digit_6)
  .ret) .skip))))))))
  (.seq (.ops o_hex_Digit_7)
  .ret)))
def a_hex_Digit : AFn := { body := c_hex_Digit, res := [.tmp 2] }

-- dragoman/regex.Read
def o_regex_Read_0 : List AOp := [
  { dst := some 2, op := .alloc [.nil] },
  { dst := some 3, op := .alloc [.nat .i64 0] }]
def o_regex_Read_1 : List AOp := [
  { dst := some 5, op := .mkfn (.func f_regex_Read_1) [] [.t 2, .t 3] },
  { dst := none, op := .defer (.t 5) [] }]
def o_regex_Read_2 : List AOp := [
  { dst := some 6, op := .mov (.t 0) },
  { dst := some 7, op := .build [.d (.str []), .nat .i64 0, .nat .i64 0, .nil] [(0, 1, (.t 6))] },
  { dst := some 8, op := .box (.t 7) },
  { dst := some 4, op := .asg (.t 8) }]
def o_regex_Read_3 : List AOp := [
  { dst := some 9, op := .mov (.t 4) },
  { dst := some 10, op := .call (.f f_regex_reader_all) [.t 9] }]
def o_regex_Read_4 : List AOp := [
  { dst := some 11, op := .mov (.t 4) },
  { dst := some 12, op := .nilchk (.t 11) },
  { dst := some 13, op := .fldA 1 (.t 12) },
  { dst := some 14, op := .load none (.t 13) },
  { dst := some 15, op := .mov (.t 0) },
  { dst := some 16, op := .lenS (.t 15) },
  { dst := some 17, op := .bin .lss (.t 14) (.t 16) }]
def o_regex_Read_5 : List AOp := [
  { dst := none, op := .store 1 (.t 2) (.c (.nil)) },
  { dst := none, op := .store 1 (.t 3) (.c (.nat .i64 9)) }]
def o_regex_Read_6 : List AOp := [
  { dst := some 18, op := .mov (.t 4) },
  { dst := some 19, op := .nilchk (.t 18) },
  { dst := some 20, op := .fldA 3 (.t 19) },
  { dst := some 21, op := .load none (.t 20) },
  { dst := none, op := .store 1 (.t 2) (.t 21) },
  { dst := none, op := .store 1 (.t 3) (.c (.nat .i64 0)) }]
def c_regex_Read : AC :=
  (.seq (.ops o_regex_Read_0)
  (.seq (.ops o_regex_Read_1)
  (.seq (.ops o_regex_Read_2)
  (.seq (.ops o_regex_Read_3)
  (.seq (.seq (.ops o_regex_Read_4)
  (.cond (.t 17) (.seq (.ops o_regex_Read_5)
  .ret) .skip))
  (.seq (.ops o_regex_Read_6)
  .ret))))))
def a_regex_Read : AFn := { body := c_regex_Read, res := [.cell 2 none, .cell 3 none] }

-- dragoman/hex.IsName$1
def o_hex_IsName_1_0 : List AOp := [
  { dst := some 2, op := .asg (.c (.d (.bool false))) }]
def o_hex_IsName_1_1 : List AOp := [
  { dst := some 3, op := .mov (.t 0) },
  { dst := some 4, op := .bin .neq (.t 3) (.c (.nat .u8 95)) },
  { dst := some 5, op := .mov (.t 4) },
  { dst := some 6, op := .mov (.t 0), guard := some (5, true) },
  { dst := some 7, op := .bin .lss (.t 6) (.c (.nat .u8 48)), guard := some (5, true) },
  { dst := some 8, op := .mov (.t 7), guard := some (5, true) },
  { dst := some 9, op := .mov (.t 0), guard := some (8, false) },
  { dst := some 10, op := .bin .gtr (.t 9) (.c (.nat .u8 57)), guard := some (8, false) },
  { dst := some 11, op := .pick (.t 8) (.c (.d (.bool true))) (.t 10), guard := some (5, true) },
  { dst := some 12, op := .pick (.t 5) (.t 11) (.c (.d (.bool false))) },
  { dst := some 13, op := .mov (.t 12) },
  { dst := some 14, op := .mov (.t 0), guard := some (13, true) },
  { dst := some 15, op := .bin .lss (.t 14) (.c (.nat .u8 65)), guard := some (13, true) },
  { dst := some 16, op := .mov (.t 15), guard := some (13, true) },
  { dst := some 17, op := .mov (.t 0), guard := some (16, false) },
  { dst := some 18, op := .bin .gtr (.t 17) (.c (.nat .u8 90)), guard := some (16, false) },
  { dst := some 19, op := .pick (.t 16) (.c (.d (.bool true))) (.t 18), guard := some (13, true) },
  { dst := some 20, op := .pick (.t 13) (.t 19) (.c (.d (.bool false))) },
  { dst := some 21, op := .mov (.t 20) },
  { dst := some 22, op := .mov (.t 0), guard := some (21, true) },
  { dst := some 23, op := .bin .lss (.t 22) (.c (.nat .u8 97)), guard := some (21, true) },
  { dst := some 24, op := .mov (.t 23), guard := some (21, true) },
  { dst := some 25, op := .mov (.t 0), guard := some (24, false) },
  { dst := some 26, op := .bin .gtr (.t 25) (.c (.nat .u8 122)), guard := some (24, false) },
  { dst := some 27, op := .pick (.t 24) (.c (.d (.bool true))) (.t 26), guard := some (21, true) },
  { dst := some 28, op := .pick (.t 21) (.t 27) (.c (.d (.bool false))) },
  { dst := some 2, op := .asg (.t 28) }]
def c_hex_IsName_1 : AC :=
  (.seq (.ops o_hex_IsName_1_0)
  (.seq (.ops o_hex_IsName_1_1)
  .ret))
def a_hex_IsName_1 : AFn := { body := c_hex_IsName_1, res := [.tmp 2] }

-- slices.ContainsFunc[[]byte,byte]
def o_slices_ContainsFunc_byte_byte_0 : List AOp := [
  { dst := some 4, op := .asg (.c (.d (.bool false))) }]
def o_slices_ContainsFunc_byte_byte_1 : List AOp := [
  { dst := some 5, op := .mov (.t 0) },
  { dst := some 6, op := .mov (.t 1) },
  { dst := some 7, op := .call (.f f_slices_IndexFunc_byte_byte) [.t 5, .t 6] },
  { dst := some 8, op := .bin .geq (.t 7) (.c (.nat .i64 0)) },
  { dst := some 4, op := .asg (.t 8) }]
def c_slices_ContainsFunc_byte_byte : AC :=
  (.seq (.ops o_slices_ContainsFunc_byte_byte_0)
  (.seq (.ops o_slices_ContainsFunc_byte_byte_1)
  .ret))
def a_slices_ContainsFunc_byte_byte : AFn := { body := c_slices_ContainsFunc_byte_byte, res := [.tmp 4] }

-- slices.Contains[[]string,string]
def o_slices_Contains_string_string_0 : List AOp := [
  { dst := some 4, op := .asg (.c (.d (.bool false))) }]
def o_slices_Contains_string_string_1 : List AOp := [
  { dst := some 5, op := .mov (.t 0) },
  { dst := some 6, op := .mov (.t 1) },
  { dst := some 7, op := .call (.f f_slices_Index_string_string) [.t 5, .t 6] },
  { dst := some 8, op := .bin .geq (.t 7) (.c (.nat .i64 0)) },
  { dst := some 4, op := .asg (.t 8) }]
def c_slices_Contains_string_string : AC :=
  (.seq (.ops o_slices_Contains_string_string_0)
  (.seq (.ops o_slices_Contains_string_string_1)
  .ret))
def a_slices_Contains_string_string : AFn := { body := c_slices_Contains_string_string, res := [.tmp 4] }

-- strings.HasPrefix
def o_strings_HasPrefix_0 : List AOp := [
  { dst := some 4, op := .asg (.c (.d (.bool false))) }]
def o_strings_HasPrefix_1 : List AOp := [
  { dst := some 5, op := .mov (.t 0) },
  { dst := some 6, op := .mov (.t 1) },
  { dst := some 7, op := .call (.f f_stringslite_HasPrefix) [.t 5, .t 6] },
  { dst := some 4, op := .asg (.t 7) }]
def c_strings_HasPrefix : AC :=
  (.seq (.ops o_strings_HasPrefix_0)
  (.seq (.ops o_strings_HasPrefix_1)
  .ret))
def a_strings_HasPrefix : AFn := { body := c_strings_HasPrefix, res := [.tmp 4] }

-- dragoman/dec.Read$1
def o_dec_Read_1_0 : List AOp := [
  { dst := some 2, op := .load none (.t 0) },
  { dst := some 3, op := .bin .neq (.t 2) (.c (.nat .i64 0)) }]
def o_dec_Read_1_1 : List AOp := [
  { dst := none, op := .store 1 (.t 1) (.c (.nat .i64 0)) }]
def c_dec_Read_1 : AC :=
  (.seq (.ops o_dec_Read_1_0)
  (.cond (.t 3) (.ops o_dec_Read_1_1) .skip))
def a_dec_Read_1 : AFn := { body := c_dec_Read_1, res := [] }

-- dragoman/dec.caught
def o_dec_caught_0 : List AOp := [
  { dst := some 7, op := .recover },
  { dst := some 4, op := .asg (.t 7) }]
def o_dec_caught_1 : List AOp := [
  { dst := some 8, op := .mov (.t 4) },
  { dst := some 9, op := .eqnil 1 true (.t 8) }]
def o_dec_caught_2 : List AOp := [
  { dst := some 11, op := .mov (.t 4) },
  { dst := some 12, op := .assertT 78 (.agg [.nat .i64 0]) (.t 11) },
  { dst := some 10, op := .mov (.t 12) },
  { dst := some 13, op := .extr (.t 10) 0 },
  { dst := some 14, op := .extr (.t 10) 1 },
  { dst := some 5, op := .alloc [.nat .i64 0] },
  { dst := none, op := .store 1 (.t 5) (.t 13) },
  { dst := some 6, op := .asg (.t 14) }]
def o_dec_caught_3 : List AOp := [
  { dst := some 15, op := .mov (.t 6) },
  { dst := some 16, op := .un .not (.t 15) }]
def o_dec_caught_4 : List AOp := [
  { dst := some 17, op := .mov (.t 4) },
  { dst := none, op := .panic (.t 17) }]
def o_dec_caught_5 : List AOp := [
  { dst := some 18, op := .mov (.t 0), may := false },
  { dst := some 19, op := .mov (.t 1), may := false },
  { dst := some 20, op := .fldA 0 (.t 5), may := false },
  { dst := some 21, op := .loadB none (.t 20) (.t 5), may := false },
  { dst := some 22, op := .nilchk (.t 18), may := false },
  { dst := none, op := .storeW 1 (.t 22) (.c (.nat .i64 0)) [.t 5], may := false },
  { dst := some 23, op := .nilchk (.t 19) },
  { dst := none, op := .store 1 (.t 23) (.t 21) }]
def c_dec_caught : AC :=
  (.seq (.ops o_dec_caught_0)
  (.seq (.ops o_dec_caught_1)
  (.cond (.t 9) (.seq (.ops o_dec_caught_2)
  (.seq (.seq (.ops o_dec_caught_3)
  (.cond (.t 16) (.ops o_dec_caught_4) .skip))
  (.ops o_dec_caught_5))) .skip)))
def a_dec_caught : AFn := { body := c_dec_caught, res := [] }

-- dragoman/dec.span
def o_dec_span_0 : List AOp := [
  { dst := some 2, op := .asg (.c (.nat .i64 0)) },
  { dst := some 3, op := .asg (.c (.nat .i64 0)) },
  { dst := some 4, op := .asg (.c (.nat .i64 0)) },
  { dst := some 5, op := .asg (.c (.nat .i64 0)) }]
def o_dec_span_1 : List AOp := [
  { dst := some 6, op := .mov (.t 2) },
  { dst := some 7, op := .mov (.t 0) },
  { dst := some 8, op := .lenS (.t 7) },
  { dst := some 9, op := .bin .lss (.t 6) (.t 8) },
  { dst := some 10, op := .mov (.t 9) },
  { dst := some 11, op := .mov (.t 0), guard := some (10, true) },
  { dst := some 12, op := .mov (.t 2), guard := some (10, true) },
  { dst := some 13, op := .idxS (.t 11) (.t 12), guard := some (10, true) },
  { dst := some 14, op := .bin .eql (.t 13) (.c (.nat .u8 32)), guard := some (10, true) },
  { dst := some 15, op := .mov (.t 14), guard := some (10, true) },
  { dst := some 16, op := .mov (.t 0), guard := some (15, false) },
  { dst := some 17, op := .mov (.t 2), guard := some (15, false) },
  { dst := some 18, op := .idxS (.t 16) (.t 17), guard := some (15, false) },
  { dst := some 19, op := .bin .eql (.t 18) (.c (.nat .u8 9)), guard := some (15, false) },
  { dst := some 20, op := .pick (.t 15) (.c (.d (.bool true))) (.t 19), guard := some (10, true) },
  { dst := some 21, op := .pick (.t 10) (.t 20) (.c (.d (.bool false))) }]
def o_dec_span_2 : List AOp := [
  { dst := some 22, op := .mov (.t 2) },
  { dst := some 23, op := .bin .add (.t 22) (.c (.nat .i64 1)) },
  { dst := some 2, op := .asg (.t 23) }]
def b_dec_span_0 : AC := (.seq (.seq (.ops o_dec_span_1)
  (.cond (.t 21) .skip (.exit 0)))
  (.trim [0, 2] (.block 1 (.ops o_dec_span_2))))
def o_dec_span_3 : List AOp := [
  { dst := some 24, op := .mov (.t 2) },
  { dst := some 3, op := .asg (.t 24) }]
def o_dec_span_4 : List AOp := [
  { dst := some 25, op := .mov (.t 3) },
  { dst := some 26, op := .mov (.t 0) },
  { dst := some 27, op := .lenS (.t 26) },
  { dst := some 28, op := .bin .lss (.t 25) (.t 27) },
  { dst := some 29, op := .mov (.t 28) },
  { dst := some 30, op := .mov (.t 0), guard := some (29, true) },
  { dst := some 31, op := .mov (.t 3), guard := some (29, true) },
  { dst := some 32, op := .idxS (.t 30) (.t 31), guard := some (29, true) },
  { dst := some 33, op := .bin .eql (.t 32) (.c (.nat .u8 45)), guard := some (29, true) },
  { dst := some 34, op := .mov (.t 33), guard := some (29, true) },
  { dst := some 35, op := .mov (.t 0), guard := some (34, false) },
  { dst := some 36, op := .mov (.t 3), guard := some (34, false) },
  { dst := some 37, op := .idxS (.t 35) (.t 36), guard := some (34, false) },
  { dst := some 38, op := .bin .eql (.t 37) (.c (.nat .u8 43)), guard := some (34, false) },
  { dst := some 39, op := .pick (.t 34) (.c (.d (.bool true))) (.t 38), guard := some (29, true) },
  { dst := some 40, op := .pick (.t 29) (.t 39) (.c (.d (.bool false))) }]
def o_dec_span_5 : List AOp := [
  { dst := some 41, op := .mov (.t 3) },
  { dst := some 42, op := .bin .add (.t 41) (.c (.nat .i64 1)) },
  { dst := some 3, op := .asg (.t 42) }]
def o_dec_span_6 : List AOp := [
  { dst := some 43, op := .mov (.t 3) },
  { dst := some 4, op := .asg (.t 43) }]
def o_dec_span_7 : List AOp := [
  { dst := some 44, op := .mov (.t 4) },
  { dst := some 45, op := .mov (.t 0) },
  { dst := some 46, op := .lenS (.t 45) },
  { dst := some 47, op := .bin .lss (.t 44) (.t 46) },
  { dst := some 48, op := .mov (.t 47) },
  { dst := some 49, op := .mov (.t 0), guard := some (48, true) },
  { dst := some 50, op := .mov (.t 4), guard := some (48, true) },
  { dst := some 51, op := .idxS (.t 49) (.t 50), guard := some (48, true) },
  { dst := some 52, op := .bin .geq (.t 51) (.c (.nat .u8 48)), guard := some (48, true) },
  { dst := some 53, op := .pick (.t 48) (.t 52) (.c (.d (.bool false))) },
  { dst := some 54, op := .mov (.t 53) },
  { dst := some 55, op := .mov (.t 0), guard := some (54, true) },
  { dst := some 56, op := .mov (.t 4), guard := some (54, true) },
  { dst := some 57, op := .idxS (.t 55) (.t 56), guard := some (54, true) },
  { dst := some 58, op := .bin .leq (.t 57) (.c (.nat .u8 57)), guard := some (54, true) },
  { dst := some 59, op := .pick (.t 54) (.t 58) (.c (.d (.bool false))) }]
def o_dec_span_8 : List AOp := [
  { dst := some 60, op := .mov (.t 4) },
  { dst := some 61, op := .bin .add (.t 60) (.c (.nat .i64 1)) },
  { dst := some 4, op := .asg (.t 61) }]
def b_dec_span_1 : AC := (.seq (.seq (.ops o_dec_span_7)
  (.cond (.t 59) .skip (.exit 2)))
  (.trim [0, 2, 3, 4] (.block 3 (.ops o_dec_span_8))))
def o_dec_span_9 : List AOp := [
  { dst := some 62, op := .mov (.t 4) },
  { dst := some 5, op := .asg (.t 62) }]
def o_dec_span_10 : List AOp := [
  { dst := some 63, op := .mov (.t 5) },
  { dst := some 64, op := .mov (.t 0) },
  { dst := some 65, op := .lenS (.t 64) },
  { dst := some 66, op := .bin .lss (.t 63) (.t 65) },
  { dst := some 67, op := .mov (.t 66) },
  { dst := some 68, op := .mov (.t 0), guard := some (67, true) },
  { dst := some 69, op := .mov (.t 5), guard := some (67, true) },
  { dst := some 70, op := .idxS (.t 68) (.t 69), guard := some (67, true) },
  { dst := some 71, op := .bin .eql (.t 70) (.c (.nat .u8 46)), guard := some (67, true) },
  { dst := some 72, op := .pick (.t 67) (.t 71) (.c (.d (.bool false))) }]
def o_dec_span_11 : List AOp := [
  { dst := some 73, op := .mov (.t 5) },
  { dst := some 74, op := .bin .add (.t 73) (.c (.nat .i64 1)) },
  { dst := some 5, op := .asg (.t 74) }]
def o_dec_span_12 : List AOp := [
  { dst := some 75, op := .mov (.t 5) },
  { dst := some 76, op := .mov (.t 0) },
  { dst := some 77, op := .lenS (.t 76) },
  { dst := some 78, op := .bin .lss (.t 75) (.t 77) },
  { dst := some 79, op := .mov (.t 78) },
  { dst := some 80, op := .mov (.t 0), guard := some (79, true) },
  { dst := some 81, op := .mov (.t 5), guard := some (79, true) },
  { dst := some 82, op := .idxS (.t 80) (.t 81), guard := some (79, true) },
  { dst := some 83, op := .bin .geq (.t 82) (.c (.nat .u8 48)), guard := some (79, true) },
  { dst := some 84, op := .pick (.t 79) (.t 83) (.c (.d (.bool false))) },
  { dst := some 85, op := .mov (.t 84) },
  { dst := some 86, op := .mov (.t 0), guard := some (85, true) },
  { dst := some 87, op := .mov (.t 5), guard := some (85, true) },
  { dst := some 88, op := .idxS (.t 86) (.t 87), guard := some (85, true) },
  { dst := some 89, op := .bin .leq (.t 88) (.c (.nat .u8 57)), guard := some (85, true) },
  { dst := some 90, op := .pick (.t 85) (.t 89) (.c (.d (.bool false))) }]
def o_dec_span_13 : List AOp := [
  { dst := some 91, op := .mov (.t 5) },
  { dst := some 92, op := .bin .add (.t 91) (.c (.nat .i64 1)) },
  { dst := some 5, op := .asg (.t 92) }]
def b_dec_span_2 : AC := (.seq (.seq (.ops o_dec_span_12)
  (.cond (.t 90) .skip (.exit 4)))
  (.trim [0, 2, 3, 4, 5] (.block 5 (.ops o_dec_span_13))))
def o_dec_span_14 : List AOp := [
  { dst := some 93, op := .mov (.t 2) },
  { dst := some 94, op := .mov (.t 3) },
  { dst := some 95, op := .mov (.t 4) },
  { dst := some 96, op := .mov (.t 5) },
  { dst := some 2, op := .asg (.t 93) },
  { dst := some 3, op := .asg (.t 94) },
  { dst := some 4, op := .asg (.t 95) },
  { dst := some 5, op := .asg (.t 96) }]
def c_dec_span : AC :=
  (.seq (.ops o_dec_span_0)
  (.seq (.trim [0, 2] (.block 0 (.loop [0, 2] b_dec_span_0)))
  (.seq (.ops o_dec_span_3)
  (.seq (.seq (.ops o_dec_span_4)
  (.cond (.t 40) (.ops o_dec_span_5) .skip))
  (.seq (.ops o_dec_span_6)
  (.seq (.trim [0, 2, 3, 4] (.block 2 (.loop [0, 2, 3, 4] b_dec_span_1)))
  (.seq (.ops o_dec_span_9)
  (.seq (.seq (.ops o_dec_span_10)
  (.cond (.t 72) (.seq (.ops o_dec_span_11)
  (.trim [2, 3, 4, 5] (.block 4 (.loop [0, 2, 3, 4, 5] b_dec_span_2)))) .skip))
  (.seq (.ops o_dec_span_14)
  .ret)))))))))
def a_dec_span : AFn := { body := c_dec_span, res := [.tmp 2, .tmp 3, .tmp 4, .tmp 5] }

-- dragoman/dec.wrong
def o_dec_wrong_0 : List AOp := [
  { dst := some 4, op := .mov (.t 0) }]
def o_dec_wrong_1 : List AOp := [
  { dst := some 5, op := .mov (.t 1) },
  { dst := some 6, op := .build [.nat .i64 0] [(0, 1, (.t 5))] },
  { dst := some 7, op := .mkifc 78 (.t 6) },
  { dst := none, op := .panic (.t 7) }]
def c_dec_wrong : AC :=
  (.seq (.ops o_dec_wrong_0)
  (.cond (.t 4) (.ops o_dec_wrong_1) .skip))
def a_dec_wrong : AFn := { body := c_dec_wrong, res := [] }

-- math/bits.Mul64
def o_bits_Mul64_0 : List AOp := [
  { dst := some 4, op := .asg (.c (.nat .u64 0)) },
  { dst := some 5, op := .asg (.c (.nat .u64 0)) }]
def o_bits_Mul64_1 : List AOp := [
  { dst := some 14, op := .mov (.t 0) },
  { dst := some 15, op := .bin .and (.t 14) (.c (.nat .u64 4294967295)) },
  { dst := some 6, op := .asg (.t 15) }]
def o_bits_Mul64_2 : List AOp := [
  { dst := some 16, op := .mov (.t 0) },
  { dst := some 17, op := .bin .shr (.t 16) (.c (.nat .u64 32)) },
  { dst := some 7, op := .asg (.t 17) }]
def o_bits_Mul64_3 : List AOp := [
  { dst := some 18, op := .mov (.t 1) },
  { dst := some 19, op := .bin .and (.t 18) (.c (.nat .u64 4294967295)) },
  { dst := some 8, op := .asg (.t 19) }]
def o_bits_Mul64_4 : List AOp := [
  { dst := some 20, op := .mov (.t 1) },
  { dst := some 21, op := .bin .shr (.t 20) (.c (.nat .u64 32)) },
  { dst := some 9, op := .asg (.t 21) }]
def o_bits_Mul64_5 : List AOp := [
  { dst := some 22, op := .mov (.t 6) },
  { dst := some 23, op := .mov (.t 8) },
  { dst := some 24, op := .bin .mul (.t 22) (.t 23) },
  { dst := some 10, op := .asg (.t 24) }]
def o_bits_Mul64_6 : List AOp := [
  { dst := some 25, op := .mov (.t 7) },
  { dst := some 26, op := .mov (.t 8) },
  { dst := some 27, op := .bin .mul (.t 25) (.t 26) },
  { dst := some 28, op := .mov (.t 10) },
  { dst := some 29, op := .bin .shr (.t 28) (.c (.nat .u64 32)) },
  { dst := some 30, op := .bin .add (.t 27) (.t 29) },
  { dst := some 11, op := .asg (.t 30) }]
def o_bits_Mul64_7 : List AOp := [
  { dst := some 31, op := .mov (.t 11) },
  { dst := some 32, op := .bin .and (.t 31) (.c (.nat .u64 4294967295)) },
  { dst := some 12, op := .asg (.t 32) }]
def o_bits_Mul64_8 : List AOp := [
  { dst := some 33, op := .mov (.t 11) },
  { dst := some 34, op := .bin .shr (.t 33) (.c (.nat .u64 32)) },
  { dst := some 13, op := .asg (.t 34) }]
def o_bits_Mul64_9 : List AOp := [
  { dst := some 35, op := .mov (.t 12) },
  { dst := some 36, op := .mov (.t 6) },
  { dst := some 37, op := .mov (.t 9) },
  { dst := some 38, op := .bin .mul (.t 36) (.t 37) },
  { dst := some 39, op := .bin .add (.t 35) (.t 38) },
  { dst := some 12, op := .asg (.t 39) }]
def o_bits_Mul64_10 : List AOp := [
  { dst := some 40, op := .mov (.t 7) },
  { dst := some 41, op := .mov (.t 9) },
  { dst := some 42, op := .bin .mul (.t 40) (.t 41) },
  { dst := some 43, op := .mov (.t 13) },
  { dst := some 44, op := .bin .add (.t 42) (.t 43) },
  { dst := some 45, op := .mov (.t 12) },
  { dst := some 46, op := .bin .shr (.t 45) (.c (.nat .u64 32)) },
  { dst := some 47, op := .bin .add (.t 44) (.t 46) },
  { dst := some 4, op := .asg (.t 47) }]
def o_bits_Mul64_11 : List AOp := [
  { dst := some 48, op := .mov (.t 0) },
  { dst := some 49, op := .mov (.t 1) },
  { dst := some 50, op := .bin .mul (.t 48) (.t 49) },
  { dst := some 5, op := .asg (.t 50) }]
def c_bits_Mul64 : AC :=
  (.seq (.ops o_bits_Mul64_0)
  (.seq (.ops o_bits_Mul64_1)
  (.seq (.ops o_bits_Mul64_2)
  (.seq (.ops o_bits_Mul64_3)
  (.seq (.ops o_bits_Mul64_4)
  (.seq (.ops o_bits_Mul64_5)
  (.seq (.ops o_bits_Mul64_6)
  (.seq (.ops o_bits_Mul64_7)
  (.seq (.ops o_bits_Mul64_8)
  (.seq (.ops o_bits_Mul64_9)
  (.seq (.ops o_bits_Mul64_10)
  (.seq (.ops o_bits_Mul64_11)
  .ret))))))))))))
def a_bits_Mul64 : AFn := { body := c_bits_Mul64, res := [.tmp 4, .tmp 5] }

-- dragoman/dec.joined
def o_dec_joined_0 : List AOp := [
  { dst := some 6, op := .asg (.c (.nat .i64 0)) }]
def o_dec_joined_1 : List AOp := [
  { dst := some 7, op := .asg (.c (.nat .u64 9223372036854775807)) }]
def o_dec_joined_2 : List AOp := [
  { dst := some 8, op := .mov (.t 2) }]
def o_dec_joined_3 : List AOp := [
  { dst := some 9, op := .mov (.t 7) },
  { dst := some 10, op := .bin .add (.t 9) (.c (.nat .u64 1)) },
  { dst := some 7, op := .asg (.t 10) }]
def o_dec_joined_4 : List AOp := [
  { dst := some 11, op := .mov (.t 0) },
  { dst := some 12, op := .bin .neq (.t 11) (.c (.nat .u64 0)) },
  { dst := some 13, op := .mov (.t 12) },
  { dst := some 14, op := .mov (.t 1), guard := some (13, false) },
  { dst := some 15, op := .mov (.t 7), guard := some (13, false) },
  { dst := some 16, op := .bin .gtr (.t 14) (.t 15), guard := some (13, false) },
  { dst := some 17, op := .pick (.t 13) (.c (.d (.bool true))) (.t 16) },
  { dst := some 18, op := .call (.f f_dec_wrong) [.t 17, .c (.nat .i64 3)] }]
def o_dec_joined_5 : List AOp := [
  { dst := some 19, op := .mov (.t 2) }]
def o_dec_joined_6 : List AOp := [
  { dst := some 20, op := .mov (.t 1) },
  { dst := some 21, op := .toInt .i64 (.t 20) },
  { dst := some 22, op := .un .neg (.t 21) },
  { dst := some 6, op := .asg (.t 22) }]
def o_dec_joined_7 : List AOp := [
  { dst := some 23, op := .mov (.t 1) },
  { dst := some 24, op := .toInt .i64 (.t 23) },
  { dst := some 6, op := .asg (.t 24) }]
def c_dec_joined : AC :=
  (.seq (.ops o_dec_joined_0)
  (.seq (.ops o_dec_joined_1)
  (.seq (.seq (.ops o_dec_joined_2)
  (.cond (.t 8) (.ops o_dec_joined_3) .skip))
  (.seq (.ops o_dec_joined_4)
  (.seq (.seq (.ops o_dec_joined_5)
  (.cond (.t 19) (.seq (.ops o_dec_joined_6)
  .ret) .skip))
  (.seq (.ops o_dec_joined_7)
  .ret))))))
def a_dec_joined : AFn := { body := c_dec_joined, res := [.tmp 6] }

-- internal/stringslite.IndexByte
def o_stringslite_IndexByte_0 : List AOp := [
  { dst := some 4, op := .asg (.c (.nat .i64 0)) }]
def o_stringslite_IndexByte_1 : List AOp := [
  { dst := some 5, op := .mov (.t 0) },
  { dst := some 6, op := .mov (.t 1) },
  { dst := some 7, op := .call (.f f_bytealg_IndexByteString) [.t 5, .t 6] },
  { dst := some 4, op := .asg (.t 7) }]
def c_stringslite_IndexByte : AC :=
  (.seq (.ops o_stringslite_IndexByte_0)
  (.seq (.ops o_stringslite_IndexByte_1)
  .ret))
def a_stringslite_IndexByte : AFn := { body := c_stringslite_IndexByte, res := [.tmp 4] }

-- dragoman/regex.Read$1
def o_regex_Read_1_0 : List AOp := [
  { dst := some 5, op := .recover },
  { dst := some 2, op := .asg (.t 5) }]
def o_regex_Read_1_1 : List AOp := [
  { dst := some 6, op := .mov (.t 2) },
  { dst := some 7, op := .eqnil 1 true (.t 6) }]
def o_regex_Read_1_2 : List AOp := [
  { dst := some 9, op := .mov (.t 2) },
  { dst := some 10, op := .assertT 66 (.agg [.nat .i64 0]) (.t 9) },
  { dst := some 8, op := .mov (.t 10) },
  { dst := some 11, op := .extr (.t 8) 0 },
  { dst := some 12, op := .extr (.t 8) 1 },
  { dst := some 3, op := .alloc [.nat .i64 0] },
  { dst := none, op := .store 1 (.t 3) (.t 11) },
  { dst := some 4, op := .asg (.t 12) }]
def o_regex_Read_1_3 : List AOp := [
  { dst := some 13, op := .mov (.t 4) },
  { dst := some 14, op := .un .not (.t 13) }]
def o_regex_Read_1_4 : List AOp := [
  { dst := some 15, op := .mov (.t 2) },
  { dst := none, op := .panic (.t 15) }]
def o_regex_Read_1_5 : List AOp := [
  { dst := some 16, op := .fldA 0 (.t 3), may := false },
  { dst := some 17, op := .loadB none (.t 16) (.t 3), may := false },
  { dst := none, op := .storeW 1 (.t 0) (.c (.nil)) [.t 3], may := false },
  { dst := none, op := .store 1 (.t 1) (.t 17) }]
def c_regex_Read_1 : AC :=
  (.seq (.ops o_regex_Read_1_0)
  (.seq (.ops o_regex_Read_1_1)
  (.cond (.t 7) (.seq (.ops o_regex_Read_1_2)
  (.seq (.seq (.ops o_regex_Read_1_3)
  (.cond (.t 14) (.ops o_regex_Read_1_4) .skip))
  (.ops o_regex_Read_1_5))) .skip)))
def a_regex_Read_1 : AFn := { body := c_regex_Read_1, res := [] }

-- (*dragoman/regex.reader).all
def o_regex_reader_all_0 : List AOp := [
  { dst := some 2, op := .asg (.c (.nat .i64 0)) }]
def o_regex_reader_all_1 : List AOp := [
  { dst := some 5, op := .mov (.t 0) },
  { dst := some 6, op := .call (.f f_regex_reader_cat) [.t 5] },
  { dst := some 3, op := .asg (.t 6) }]
def o_regex_reader_all_2 : List AOp := [
  { dst := some 7, op := .mov (.t 0) },
  { dst := some 8, op := .call (.f f_regex_reader_sees) [.t 7, .c (.nat .u8 124)] }]
def o_regex_reader_all_3 : List AOp := [
  { dst := some 9, op := .mov (.t 0) },
  { dst := some 10, op := .nilchk (.t 9) },
  { dst := some 11, op := .fldA 1 (.t 10) },
  { dst := some 12, op := .load none (.t 11) },
  { dst := some 13, op := .bin .add (.t 12) (.c (.nat .i64 1)) },
  { dst := some 14, op := .nilchk (.t 9) },
  { dst := some 15, op := .fldA 1 (.t 14) },
  { dst := none, op := .store 1 (.t 15) (.t 13) }]
def o_regex_reader_all_4 : List AOp := [
  { dst := some 16, op := .mov (.t 0) },
  { dst := some 17, op := .call (.f f_regex_reader_cat) [.t 16] },
  { dst := some 4, op := .asg (.t 17) }]
def o_regex_reader_all_5 : List AOp := [
  { dst := some 18, op := .mov (.t 0) },
  { dst := some 19, op := .mov (.t 3) },
  { dst := some 20, op := .mov (.t 4) },
  { dst := some 21, op := .build [.nat .i64 0, .nat .i64 0] [(0, 1, (.t 19)), (1, 1, (.t 20))] },
  { dst := some 22, op := .build [.nat .i64 0, .nat .u64 0, .nat .u64 0, .nat .u64 0, .nat .u64 0, .nat .i64 0, .nat .i64 0] [(0, 1, (.c (.nat .i64 3))), (5, 2, (.t 21))] },
  { dst := some 23, op := .call (.f f_regex_reader_put) [.t 18, .t 22] },
  { dst := some 3, op := .asg (.t 23) }]
def b_regex_reader_all_0 : AC := (.seq (.seq (.ops o_regex_reader_all_2)
  (.cond (.t 8) .skip (.exit 0)))
  (.trim [0, 3] (.block 1 (.seq (.ops o_regex_reader_all_3)
  (.seq (.ops o_regex_reader_all_4)
  (.ops o_regex_reader_all_5))))))
def o_regex_reader_all_6 : List AOp := [
  { dst := some 24, op := .mov (.t 3) },
  { dst := some 2, op := .asg (.t 24) }]
def c_regex_reader_all : AC :=
  (.seq (.ops o_regex_reader_all_0)
  (.seq (.ops o_regex_reader_all_1)
  (.seq (.trim [3] (.block 0 (.loop [0, 3] b_regex_reader_all_0)))
  (.seq (.ops o_regex_reader_all_6)
  .ret))))
def a_regex_reader_all : AFn := { body := c_regex_reader_all, res := [.tmp 2] }

-- slices.IndexFunc[[]byte,byte]
def o_slices_IndexFunc_byte_byte_0 : List AOp := [
  { dst := some 4, op := .asg (.c (.nat .i64 0)) }]
def o_slices_IndexFunc_byte_byte_1 : List AOp := [
  { dst := some 6, op := .mov (.t 0) },
  { dst := some 7, op := .len (.t 6) },
  { dst := some 8, op := .mov (.c (.nat .i64 0)) }]
def o_slices_IndexFunc_byte_byte_2 : List AOp := [
  { dst := some 9, op := .bin .lss (.t 8) (.t 7) }]
def o_slices_IndexFunc_byte_byte_3 : List AOp := [
  { dst := some 10, op := .mov (.t 8) },
  { dst := some 5, op := .asg (.t 10) }]
def o_slices_IndexFunc_byte_byte_4 : List AOp := [
  { dst := some 11, op := .mov (.t 1) },
  { dst := some 12, op := .mov (.t 0) },
  { dst := some 13, op := .mov (.t 5) },
  { dst := some 14, op := .idxA none 1 (.t 12) (.t 13) },
  { dst := some 15, op := .load none (.t 14) },
  { dst := some 16, op := .call (.t 11) [.t 15] }]
def o_slices_IndexFunc_byte_byte_5 : List AOp := [
  { dst := some 17, op := .mov (.t 5) },
  { dst := some 4, op := .asg (.t 17) }]
def o_slices_IndexFunc_byte_byte_6 : List AOp := [
  { dst := some 18, op := .bin .add (.t 8) (.c (.nat .i64 1)) },
  { dst := some 8, op := .mov (.t 18) }]
def b_slices_IndexFunc_byte_byte_0 : AC := (.seq (.ops o_slices_IndexFunc_byte_byte_2)
  (.seq (.cond (.t 9) .skip (.exit 0))
  (.seq (.trim [0, 1, 7, 8] (.block 1 (.seq (.ops o_slices_IndexFunc_byte_byte_3)
  (.seq (.ops o_slices_IndexFunc_byte_byte_4)
  (.cond (.t 16) (.seq (.ops o_slices_IndexFunc_byte_byte_5)
  .ret) .skip)))))
  (.ops o_slices_IndexFunc_byte_byte_6))))
def o_slices_IndexFunc_byte_byte_7 : List AOp := [
  { dst := some 4, op := .asg (.c (.d (.int .i64 (-1)))) }]
def c_slices_IndexFunc_byte_byte : AC :=
  (.seq (.ops o_slices_IndexFunc_byte_byte_0)
  (.seq (.seq (.ops o_slices_IndexFunc_byte_byte_1)
  (.trim [] (.block 0 (.loop [0, 1, 7, 8] b_slices_IndexFunc_byte_byte_0))))
  (.seq (.ops o_slices_IndexFunc_byte_byte_7)
  .ret)))
def a_slices_IndexFunc_byte_byte : AFn := { body := c_slices_IndexFunc_byte_byte, res := [.tmp 4] }

-- slices.Index[[]string,string]
def o_slices_Index_string_string_0 : List AOp := [
  { dst := some 4, op := .asg (.c (.nat .i64 0)) }]
def o_slices_Index_string_string_1 : List AOp := [
  { dst := some 6, op := .mov (.t 0) },
  { dst := some 7, op := .len (.t 6) },
  { dst := some 8, op := .mov (.c (.nat .i64 0)) }]
def o_slices_Index_string_string_2 : List AOp := [
  { dst := some 9, op := .bin .lss (.t 8) (.t 7) }]
def o_slices_Index_string_string_3 : List AOp := [
  { dst := some 10, op := .mov (.t 8) },
  { dst := some 5, op := .asg (.t 10) }]
def o_slices_Index_string_string_4 : List AOp := [
  { dst := some 11, op := .mov (.t 1) },
  { dst := some 12, op := .mov (.t 0) },
  { dst := some 13, op := .mov (.t 5) },
  { dst := some 14, op := .idxA none 1 (.t 12) (.t 13) },
  { dst := some 15, op := .load none (.t 14) },
  { dst := some 16, op := .bin .eql (.t 11) (.t 15) }]
def o_slices_Index_string_string_5 : List AOp := [
  { dst := some 17, op := .mov (.t 5) },
  { dst := some 4, op := .asg (.t 17) }]
def o_slices_Index_string_string_6 : List AOp := [
  { dst := some 18, op := .bin .add (.t 8) (.c (.nat .i64 1)) },
  { dst := some 8, op := .mov (.t 18) }]
def b_slices_Index_string_string_0 : AC := (.seq (.ops o_slices_Index_string_string_2)
  (.seq (.cond (.t 9) .skip (.exit 0))
  (.seq (.trim [0, 1, 7, 8] (.block 1 (.seq (.ops o_slices_Index_string_string_3)
  (.seq (.ops o_slices_Index_string_string_4)
  (.cond (.t 16) (.seq (.ops o_slices_Index_string_string_5)
  .ret) .skip)))))
  (.ops o_slices_Index_string_string_6))))
def o_slices_Index_string_string_7 : List AOp := [
  { dst := some 4, op := .asg (.c (.d (.int .i64 (-1)))) }]
def c_slices_Index_string_string : AC :=
  (.seq (.ops o_slices_Index_string_string_0)
  (.seq (.seq (.ops o_slices_Index_string_string_1)
  (.trim [] (.block 0 (.loop [0, 1, 7, 8] b_slices_Index_string_string_0))))
  (.seq (.ops o_slices_Index_string_string_7)
  .ret)))
def a_slices_Index_string_string : AFn := { body := c_slices_Index_string_string, res := [.tmp 4] }

-- internal/stringslite.HasPrefix
def o_stringslite_HasPrefix_0 : List AOp := [
  { dst := some 4, op := .asg (.c (.d (.bool false))) }]
def o_stringslite_HasPrefix_1 : List AOp := [
  { dst := some 5, op := .mov (.t 0) },
  { dst := some 6, op := .lenS (.t 5) },
  { dst := some 7, op := .mov (.t 1) },
  { dst := some 8, op := .lenS (.t 7) },
  { dst := some 9, op := .bin .geq (.t 6) (.t 8) },
  { dst := some 10, op := .mov (.t 9) },
  { dst := some 11, op := .mov (.t 0), guard := some (10, true) },
  { dst := some 12, op := .mov (.t 1), guard := some (10, true) },
  { dst := some 13, op := .lenS (.t 12), guard := some (10, true) },
  { dst := some 14, op := .sliceS (.t 11) none (some (.t 13)), guard := some (10, true) },
  { dst := some 15, op := .mov (.t 1), guard := some (10, true) },
  { dst := some 16, op := .bin .eql (.t 14) (.t 15), guard := some (10, true) },
  { dst := some 17, op := .pick (.t 10) (.t 16) (.c (.d (.bool false))) },
  { dst := some 4, op := .asg (.t 17) }]
def c_stringslite_HasPrefix : AC :=
  (.seq (.ops o_stringslite_HasPrefix_0)
  (.seq (.ops o_stringslite_HasPrefix_1)
  .ret))
def a_stringslite_HasPrefix : AFn := { body := c_stringslite_HasPrefix, res := [.tmp 4] }

-- (*dragoman/regex.reader).cat
def o_regex_reader_cat_0 : List AOp := [
  { dst := some 2, op := .asg (.c (.nat .i64 0)) }]
def o_regex_reader_cat_1 : List AOp := [
  { dst := some 3, op := .asg (.c (.d (.int .i64 (-1)))) }]
def o_regex_reader_cat_2 : List AOp := [
  { dst := some 5, op := .mov (.t 0), may := false },
  { dst := some 6, op := .nilchk (.t 5), may := false },
  { dst := some 7, op := .fldA 1 (.t 6), may := false },
  { dst := some 8, op := .load none (.t 7), may := false },
  { dst := some 9, op := .mov (.t 0), may := false },
  { dst := some 10, op := .nilchk (.t 9), may := false },
  { dst := some 11, op := .fldA 0 (.t 10), may := false },
  { dst := some 12, op := .load none (.t 11), may := false },
  { dst := some 13, op := .lenS (.t 12), may := false },
  { dst := some 14, op := .bin .lss (.t 8) (.t 13) },
  { dst := some 15, op := .mov (.t 14) },
  { dst := some 16, op := .mov (.t 0), guard := some (15, true) },
  { dst := some 17, op := .call (.f f_regex_reader_sees) [.t 16, .c (.nat .u8 124)], guard := some (15, true) },
  { dst := some 18, op := .un .not (.t 17), guard := some (15, true) },
  { dst := some 19, op := .pick (.t 15) (.t 18) (.c (.d (.bool false))) },
  { dst := some 20, op := .mov (.t 19) },
  { dst := some 21, op := .mov (.t 0), guard := some (20, true) },
  { dst := some 22, op := .call (.f f_regex_reader_sees) [.t 21, .c (.nat .u8 41)], guard := some (20, true) },
  { dst := some 23, op := .un .not (.t 22), guard := some (20, true) },
  { dst := some 24, op := .pick (.t 20) (.t 23) (.c (.d (.bool false))) }]
def o_regex_reader_cat_3 : List AOp := [
  { dst := some 25, op := .mov (.t 0) },
  { dst := some 26, op := .call (.f f_regex_reader_piece) [.t 25] },
  { dst := some 4, op := .asg (.t 26) }]
def o_regex_reader_cat_4 : List AOp := [
  { dst := some 27, op := .mov (.t 3) },
  { dst := some 28, op := .bin .geq (.t 27) (.c (.nat .i64 0)) }]
def o_regex_reader_cat_5 : List AOp := [
  { dst := some 29, op := .mov (.t 0) },
  { dst := some 30, op := .mov (.t 3) },
  { dst := some 31, op := .mov (.t 4) },
  { dst := some 32, op := .build [.nat .i64 0, .nat .i64 0] [(0, 1, (.t 30)), (1, 1, (.t 31))] },
  { dst := some 33, op := .build [.nat .i64 0, .nat .u64 0, .nat .u64 0, .nat .u64 0, .nat .u64 0, .nat .i64 0, .nat .i64 0] [(0, 1, (.c (.nat .i64 2))), (5, 2, (.t 32))] },
  { dst := some 34, op := .call (.f f_regex_reader_put) [.t 29, .t 33] },
  { dst := some 4, op := .asg (.t 34) }]
def o_regex_reader_cat_6 : List AOp := [
  { dst := some 35, op := .mov (.t 4) },
  { dst := some 3, op := .asg (.t 35) }]
def b_regex_reader_cat_0 : AC := (.seq (.seq (.ops o_regex_reader_cat_2)
  (.cond (.t 24) .skip (.exit 0)))
  (.trim [0, 3] (.block 1 (.seq (.ops o_regex_reader_cat_3)
  (.seq (.seq (.ops o_regex_reader_cat_4)
  (.cond (.t 28) (.ops o_regex_reader_cat_5) .skip))
  (.ops o_regex_reader_cat_6))))))
def o_regex_reader_cat_7 : List AOp := [
  { dst := some 36, op := .mov (.t 3) },
  { dst := some 37, op := .bin .lss (.t 36) (.c (.nat .i64 0)) }]
def o_regex_reader_cat_8 : List AOp := [
  { dst := some 38, op := .mov (.t 0) },
  { dst := some 39, op := .build [.nat .i64 0, .nat .u64 0, .nat .u64 0, .nat .u64 0, .nat .u64 0, .nat .i64 0, .nat .i64 0] [] },
  { dst := some 40, op := .call (.f f_regex_reader_put) [.t 38, .t 39] },
  { dst := some 2, op := .asg (.t 40) }]
def o_regex_reader_cat_9 : List AOp := [
  { dst := some 41, op := .mov (.t 3) },
  { dst := some 2, op := .asg (.t 41) }]
def c_regex_reader_cat : AC :=
  (.seq (.ops o_regex_reader_cat_0)
  (.seq (.ops o_regex_reader_cat_1)
  (.seq (.trim [0, 3] (.block 0 (.loop [0, 3] b_regex_reader_cat_0)))
  (.seq (.seq (.ops o_regex_reader_cat_7)
  (.cond (.t 37) (.seq (.ops o_regex_reader_cat_8)
  .ret) .skip))
  (.seq (.ops o_regex_reader_cat_9)
  .ret)))))
def a_regex_reader_cat : AFn := { body := c_regex_reader_cat, res := [.tmp 2] }

-- (*dragoman/regex.reader).sees
def o_regex_reader_sees_0 : List AOp := [
  { dst := some 4, op := .asg (.c (.d (.bool false))) }]
def o_regex_reader_sees_1 : List AOp := [
  { dst := some 5, op := .mov (.t 0), may := false },
  { dst := some 6, op := .nilchk (.t 5), may := false },
  { dst := some 7, op := .fldA 1 (.t 6), may := false },
  { dst := some 8, op := .load none (.t 7), may := false },
  { dst := some 9, op := .mov (.t 0), may := false },
  { dst := some 10, op := .nilchk (.t 9), may := false },
  { dst := some 11, op := .fldA 0 (.t 10), may := false },
  { dst := some 12, op := .load none (.t 11), may := false },
  { dst := some 13, op := .lenS (.t 12), may := false },
  { dst := some 14, op := .bin .lss (.t 8) (.t 13) },
  { dst := some 15, op := .mov (.t 14) },
  { dst := some 16, op := .mov (.t 0), guard := some (15, true), may := false },
  { dst := some 17, op := .nilchk (.t 16), guard := some (15, true), may := false },
  { dst := some 18, op := .fldA 0 (.t 17), guard := some (15, true), may := false },
  { dst := some 19, op := .load none (.t 18), guard := some (15, true), may := false },
  { dst := some 20, op := .mov (.t 0), guard := some (15, true), may := false },
  { dst := some 21, op := .nilchk (.t 20), guard := some (15, true), may := false },
  { dst := some 22, op := .fldA 1 (.t 21), guard := some (15, true), may := false },
  { dst := some 23, op := .load none (.t 22), guard := some (15, true), may := false },
  { dst := some 24, op := .idxS (.t 19) (.t 23), guard := some (15, true), may := false },
  { dst := some 25, op := .mov (.t 1), guard := some (15, true), may := false },
  { dst := some 26, op := .bin .eql (.t 24) (.t 25), guard := some (15, true) },
  { dst := some 27, op := .pick (.t 15) (.t 26) (.c (.d (.bool false))) },
  { dst := some 4, op := .asg (.t 27) }]
def c_regex_reader_sees : AC :=
  (.seq (.ops o_regex_reader_sees_0)
  (.seq (.ops o_regex_reader_sees_1)
  .ret))
def a_regex_reader_sees : AFn := { body := c_regex_reader_sees, res := [.tmp 4] }

-- (*dragoman/regex.reader).put
def o_regex_reader_put_0 : List AOp := [
  { dst := some 3, op := .box (.t 1) },
  { dst := some 4, op := .asg (.c (.nat .i64 0)) }]
def o_regex_reader_put_1 : List AOp := [
  { dst := some 5, op := .mov (.t 0) },
  { dst := some 6, op := .nilchk (.t 5) },
  { dst := some 7, op := .fldA 3 (.t 6) },
  { dst := some 8, op := .load none (.t 7) },
  { dst := some 9, op := .len (.t 8) },
  { dst := some 10, op := .bin .geq (.t 9) (.c (.nat .i64 2000)) }]
def o_regex_reader_put_2 : List AOp := [
  { dst := some 11, op := .build [.nat .i64 0] [(0, 1, (.c (.nat .i64 6)))] },
  { dst := some 12, op := .mkifc 66 (.t 11) },
  { dst := none, op := .panic (.t 12) }]
def o_regex_reader_put_3 : List AOp := [
  { dst := some 13, op := .mov (.t 0), may := false },
  { dst := some 14, op := .mov (.t 0), may := false },
  { dst := some 15, op := .nilchk (.t 14), may := false },
  { dst := some 16, op := .fldA 3 (.t 15), may := false },
  { dst := some 17, op := .takeload (.t 16), may := false },
  { dst := some 18, op := .load (some 7) (.t 3), may := false },
  { dst := some 19, op := .mkls 7 [.nat .i64 0, .nat .u64 0, .nat .u64 0, .nat .u64 0, .nat .u64 0, .nat .i64 0, .nat .i64 0] [(0, 7, (.t 18))], may := false },
  { dst := some 20, op := .append 7 (.t 17) (.t 19), may := false },
  { dst := some 21, op := .nilchk (.t 13) },
  { dst := some 22, op := .fldA 3 (.t 21) },
  { dst := none, op := .store 1 (.t 22) (.t 20) }]
def o_regex_reader_put_4 : List AOp := [
  { dst := some 23, op := .mov (.t 0) },
  { dst := some 24, op := .nilchk (.t 23) },
  { dst := some 25, op := .fldA 3 (.t 24) },
  { dst := some 26, op := .load none (.t 25) },
  { dst := some 27, op := .len (.t 26) },
  { dst := some 28, op := .bin .sub (.t 27) (.c (.nat .i64 1)) },
  { dst := some 4, op := .asg (.t 28) }]
def c_regex_reader_put : AC :=
  (.seq (.ops o_regex_reader_put_0)
  (.seq (.seq (.ops o_regex_reader_put_1)
  (.cond (.t 10) (.ops o_regex_reader_put_2) .skip))
  (.seq (.ops o_regex_reader_put_3)
  (.seq (.ops o_regex_reader_put_4)
  .ret))))
def a_regex_reader_put : AFn := { body := c_regex_reader_put, res := [.tmp 4] }

-- (*dragoman/regex.reader).piece
def o_regex_reader_piece_0 : List AOp := [
  { dst := some 2, op := .asg (.c (.nat .i64 0)) }]
def o_regex_reader_piece_1 : List AOp := [
  { dst := some 5, op := .mov (.t 0) },
  { dst := some 6, op := .call (.f f_regex_reader_atom) [.t 5] },
  { dst := some 3, op := .asg (.t 6) }]
def o_regex_reader_piece_2 : List AOp := [
  { dst := some 7, op := .mov (.t 0), may := false },
  { dst := some 8, op := .nilchk (.t 7), may := false },
  { dst := some 9, op := .fldA 1 (.t 8), may := false },
  { dst := some 10, op := .load none (.t 9), may := false },
  { dst := some 11, op := .mov (.t 0), may := false },
  { dst := some 12, op := .nilchk (.t 11), may := false },
  { dst := some 13, op := .fldA 0 (.t 12), may := false },
  { dst := some 14, op := .load none (.t 13), may := false },
  { dst := some 15, op := .lenS (.t 14), may := false },
  { dst := some 16, op := .bin .lss (.t 10) (.t 15) }]
def o_regex_reader_piece_3 : List AOp := [
  { dst := some 17, op := .mov (.t 0), may := false },
  { dst := some 18, op := .nilchk (.t 17), may := false },
  { dst := some 19, op := .fldA 0 (.t 18), may := false },
  { dst := some 20, op := .load none (.t 19), may := false },
  { dst := some 21, op := .mov (.t 0), may := false },
  { dst := some 22, op := .nilchk (.t 21), may := false },
  { dst := some 23, op := .fldA 1 (.t 22), may := false },
  { dst := some 24, op := .load none (.t 23), may := false },
  { dst := some 25, op := .idxS (.t 20) (.t 24) },
  { dst := some 26, op := .call (.f f_strings_IndexByte) [.c (.d (.str [42, 43, 63])), .t 25] },
  { dst := some 4, op := .asg (.t 26) }]
def o_regex_reader_piece_4 : List AOp := [
  { dst := some 27, op := .mov (.t 4) },
  { dst := some 28, op := .bin .lss (.t 27) (.c (.nat .i64 0)) }]
def o_regex_reader_piece_5 : List AOp := [
  { dst := some 29, op := .mov (.t 0) },
  { dst := some 30, op := .nilchk (.t 29) },
  { dst := some 31, op := .fldA 1 (.t 30) },
  { dst := some 32, op := .load none (.t 31) },
  { dst := some 33, op := .bin .add (.t 32) (.c (.nat .i64 1)) },
  { dst := some 34, op := .nilchk (.t 29) },
  { dst := some 35, op := .fldA 1 (.t 34) },
  { dst := none, op := .store 1 (.t 35) (.t 33) }]
def o_regex_reader_piece_6 : List AOp := [
  { dst := some 36, op := .mov (.t 0) },
  { dst := some 37, op := .mov (.t 4) },
  { dst := some 38, op := .bin .add (.c (.nat .i64 4)) (.t 37) },
  { dst := some 39, op := .mov (.t 3) },
  { dst := some 40, op := .build [.nat .i64 0, .nat .i64 0] [(0, 1, (.t 39))] },
  { dst := some 41, op := .build [.nat .i64 0, .nat .u64 0, .nat .u64 0, .nat .u64 0, .nat .u64 0, .nat .i64 0, .nat .i64 0] [(0, 1, (.t 38)), (5, 2, (.t 40))] },
  { dst := some 42, op := .call (.f f_regex_reader_put) [.t 36, .t 41] },
  { dst := some 3, op := .asg (.t 42) }]
def b_regex_reader_piece_0 : AC := (.seq (.seq (.ops o_regex_reader_piece_2)
  (.cond (.t 16) .skip (.exit 0)))
  (.trim [0, 3] (.block 1 (.seq (.ops o_regex_reader_piece_3)
  (.seq (.seq (.ops o_regex_reader_piece_4)
  (.cond (.t 28) (.exit 0) .skip))
  (.seq (.ops o_regex_reader_piece_5)
  (.ops o_regex_reader_piece_6)))))))
def o_regex_reader_piece_7 : List AOp := [
  { dst := some 43, op := .mov (.t 3) },
  { dst := some 2, op := .asg (.t 43) }]
def c_regex_reader_piece : AC :=
  (.seq (.ops o_regex_reader_piece_0)
  (.seq (.ops o_regex_reader_piece_1)
  (.seq (.trim [3] (.block 0 (.loop [0, 3] b_regex_reader_piece_0)))
  (.seq (.ops o_regex_reader_piece_7)
  .ret))))
def a_regex_reader_piece : AFn := { body := c_regex_reader_piece, res := [.tmp 2] }

-- (*dragoman/regex.reader).atom
def o_regex_reader_atom_0 : List AOp := [
  { dst := some 2, op := .asg (.c (.nat .i64 0)) }]
def o_regex_reader_atom_1 : List AOp := [
  { dst := some 12, op := .mov (.t 0), may := false },
  { dst := some 13, op := .nilchk (.t 12), may := false },
  { dst := some 14, op := .fldA 0 (.t 13), may := false },
  { dst := some 15, op := .load none (.t 14), may := false },
  { dst := some 16, op := .mov (.t 0), may := false },
  { dst := some 17, op := .nilchk (.t 16), may := false },
  { dst := some 18, op := .fldA 1 (.t 17), may := false },
  { dst := some 19, op := .load none (.t 18), may := false },
  { dst := some 20, op := .idxS (.t 15) (.t 19) },
  { dst := some 3, op := .asg (.t 20) }]
def o_regex_reader_atom_2 : List AOp := [
  { dst := some 21, op := .build [.nat .i64 0, .nat .u64 0, .nat .u64 0, .nat .u64 0, .nat .u64 0, .nat .i64 0, .nat .i64 0] [(0, 1, (.c (.nat .i64 1)))] },
  { dst := some 4, op := .alloc [.nat .i64 0, .nat .u64 0, .nat .u64 0, .nat .u64 0, .nat .u64 0, .nat .i64 0, .nat .i64 0] },
  { dst := none, op := .store 7 (.t 4) (.t 21) }]
def o_regex_reader_atom_3 : List AOp := [
  { dst := some 5, op := .asg (.c (.nat .i64 1)) }]
def o_regex_reader_atom_8 : List AOp := [
  { dst := some 45, op := .mov (.t 3) },
  { dst := some 46, op := .bin .eql (.t 45) (.c (.nat .u8 40)) },
  { dst := some 44, op := .asg (.t 46) }]
def o_regex_reader_atom_9 : List AOp := [
  { dst := some 47, op := .mov (.t 0) },
  { dst := some 48, op := .call (.f f_regex_reader_group) [.t 47] },
  { dst := some 2, op := .asg (.t 48) }]
def o_regex_reader_atom_10 : List AOp := [
  { dst := some 50, op := .mov (.t 3) },
  { dst := some 51, op := .bin .eql (.t 50) (.c (.nat .u8 46)) },
  { dst := some 49, op := .asg (.t 51) }]
def o_regex_reader_atom_11 : List AOp := [
  { dst := some 52, op := .call (.f f_regex_dot) [] },
  { dst := some 53, op := .fldA 1 (.t 4) },
  { dst := none, op := .store 4 (.t 53) (.t 52) }]
def o_regex_reader_atom_12 : List AOp := [
  { dst := some 55, op := .mov (.t 3) },
  { dst := some 56, op := .bin .eql (.t 55) (.c (.nat .u8 94)) },
  { dst := some 54, op := .asg (.t 56) }]
def o_regex_reader_atom_13 : List AOp := [
  { dst := some 57, op := .build [.nat .i64 0, .nat .u64 0, .nat .u64 0, .nat .u64 0, .nat .u64 0, .nat .i64 0, .nat .i64 0] [(0, 1, (.c (.nat .i64 7)))] },
  { dst := none, op := .store 7 (.t 4) (.t 57) }]
def o_regex_reader_atom_14 : List AOp := [
  { dst := some 59, op := .mov (.t 3) },
  { dst := some 60, op := .bin .eql (.t 59) (.c (.nat .u8 36)) },
  { dst := some 58, op := .asg (.t 60) }]
def o_regex_reader_atom_15 : List AOp := [
  { dst := some 61, op := .build [.nat .i64 0, .nat .u64 0, .nat .u64 0, .nat .u64 0, .nat .u64 0, .nat .i64 0, .nat .i64 0] [(0, 1, (.c (.nat .i64 8)))] },
  { dst := none, op := .store 7 (.t 4) (.t 61) }]
def o_regex_reader_atom_16 : List AOp := [
  { dst := some 63, op := .mov (.t 3) },
  { dst := some 64, op := .bin .eql (.t 63) (.c (.nat .u8 91)) },
  { dst := some 62, op := .asg (.t 64) }]
def o_regex_reader_atom_17 : List AOp := [
  { dst := some 66, op := .mov (.t 0), may := false },
  { dst := some 67, op := .nilchk (.t 66), may := false },
  { dst := some 68, op := .fldA 0 (.t 67), may := false },
  { dst := some 69, op := .load none (.t 68), may := false },
  { dst := some 70, op := .mov (.t 0), may := false },
  { dst := some 71, op := .nilchk (.t 70), may := false },
  { dst := some 72, op := .fldA 1 (.t 71), may := false },
  { dst := some 73, op := .load none (.t 72), may := false },
  { dst := some 74, op := .sliceS (.t 69) (some (.t 73)) none, may := false },
  { dst := some 75, op := .callZ (.f f_class_Read) [.t 74], may := false },
  { dst := some 65, op := .mov (.t 75), may := false },
  { dst := some 76, op := .extr (.t 65) 0, may := false },
  { dst := some 77, op := .extr (.t 65) 1, may := false },
  { dst := some 78, op := .extr (.t 65) 2, may := false },
  { dst := some 6, op := .alloc [.nat .u64 0, .nat .u64 0, .nat .u64 0, .nat .u64 0], may := false },
  { dst := none, op := .store 4 (.t 6) (.t 76), may := false },
  { dst := some 7, op := .asg (.t 77), may := false },
  { dst := some 8, op := .asg (.t 78) }]
def o_regex_reader_atom_18 : List AOp := [
  { dst := some 79, op := .mov (.t 8) },
  { dst := some 80, op := .bin .neq (.t 79) (.c (.nat .i64 0)) }]
def o_regex_reader_atom_19 : List AOp := [
  { dst := some 81, op := .build [.nat .i64 0] [(0, 1, (.c (.nat .i64 9)))] },
  { dst := some 82, op := .mkifc 66 (.t 81) },
  { dst := none, op := .panic (.t 82) }]
def o_regex_reader_atom_20 : List AOp := [
  { dst := some 83, op := .load (some 4) (.t 6) },
  { dst := some 84, op := .mov (.t 7) },
  { dst := some 85, op := .fldA 1 (.t 4) },
  { dst := none, op := .store 4 (.t 85) (.t 83) },
  { dst := some 5, op := .asg (.t 84) }]
def o_regex_reader_atom_21 : List AOp := [
  { dst := some 87, op := .mov (.t 3) },
  { dst := some 88, op := .call (.f f_strings_IndexByte) [.c (.d (.str [42, 43, 63, 41, 124, 123, 125, 47])), .t 87] },
  { dst := some 89, op := .bin .geq (.t 88) (.c (.nat .i64 0)) },
  { dst := some 86, op := .asg (.t 89) }]
def o_regex_reader_atom_22 : List AOp := [
  { dst := some 90, op := .build [.nat .i64 0] [(0, 1, (.c (.nat .i64 9)))] },
  { dst := some 91, op := .mkifc 66 (.t 90) },
  { dst := none, op := .panic (.t 91) }]
def o_regex_reader_atom_4 : List AOp := [
  { dst := some 23, op := .mov (.t 0), may := false },
  { dst := some 24, op := .nilchk (.t 23), may := false },
  { dst := some 25, op := .fldA 0 (.t 24), may := false },
  { dst := some 26, op := .load none (.t 25), may := false },
  { dst := some 27, op := .mov (.t 0), may := false },
  { dst := some 28, op := .nilchk (.t 27), may := false },
  { dst := some 29, op := .fldA 1 (.t 28), may := false },
  { dst := some 30, op := .load none (.t 29), may := false },
  { dst := some 31, op := .sliceS (.t 26) (some (.t 30)) none },
  { dst := some 32, op := .call (.f f_class_Sign) [.t 31] },
  { dst := some 22, op := .mov (.t 32) },
  { dst := some 33, op := .extr (.t 22) 0, may := false },
  { dst := some 34, op := .extr (.t 22) 1, may := false },
  { dst := some 35, op := .extr (.t 22) 2, may := false },
  { dst := some 9, op := .asg (.t 33), may := false },
  { dst := some 10, op := .asg (.t 34), may := false },
  { dst := some 11, op := .asg (.t 35) }]
def o_regex_reader_atom_5 : List AOp := [
  { dst := some 36, op := .mov (.t 11) },
  { dst := some 37, op := .bin .neq (.t 36) (.c (.nat .i64 0)) }]
def o_regex_reader_atom_6 : List AOp := [
  { dst := some 38, op := .build [.nat .i64 0] [(0, 1, (.c (.nat .i64 9)))] },
  { dst := some 39, op := .mkifc 66 (.t 38) },
  { dst := none, op := .panic (.t 39) }]
def o_regex_reader_atom_7 : List AOp := [
  { dst := some 40, op := .mov (.t 9) },
  { dst := some 41, op := .call (.f f_class_One) [.t 40] },
  { dst := some 42, op := .mov (.t 10) },
  { dst := some 43, op := .fldA 1 (.t 4) },
  { dst := none, op := .store 4 (.t 43) (.t 41) },
  { dst := some 5, op := .asg (.t 42) }]
def o_regex_reader_atom_23 : List AOp := [
  { dst := some 92, op := .mov (.t 0) },
  { dst := some 93, op := .nilchk (.t 92) },
  { dst := some 94, op := .fldA 1 (.t 93) },
  { dst := some 95, op := .load none (.t 94) },
  { dst := some 96, op := .mov (.t 5) },
  { dst := some 97, op := .bin .add (.t 95) (.t 96) },
  { dst := some 98, op := .nilchk (.t 92) },
  { dst := some 99, op := .fldA 1 (.t 98) },
  { dst := none, op := .store 1 (.t 99) (.t 97) }]
def o_regex_reader_atom_24 : List AOp := [
  { dst := some 100, op := .mov (.t 0) },
  { dst := some 101, op := .load (some 7) (.t 4) },
  { dst := some 102, op := .call (.f f_regex_reader_put) [.t 100, .t 101] },
  { dst := some 2, op := .asg (.t 102) }]
def c_regex_reader_atom : AC :=
  (.seq (.ops o_regex_reader_atom_0)
  (.seq (.ops o_regex_reader_atom_1)
  (.seq (.ops o_regex_reader_atom_2)
  (.seq (.ops o_regex_reader_atom_3)
  (.seq (.trim [0, 4, 5] (.block 0 (.seq (.ops o_regex_reader_atom_8)
  (.cond (.t 44) (.seq (.ops o_regex_reader_atom_9)
  .ret) (.seq (.ops o_regex_reader_atom_10)
  (.cond (.t 49) (.ops o_regex_reader_atom_11) (.seq (.ops o_regex_reader_atom_12)
  (.cond (.t 54) (.ops o_regex_reader_atom_13) (.seq (.ops o_regex_reader_atom_14)
  (.cond (.t 58) (.ops o_regex_reader_atom_15) (.seq (.ops o_regex_reader_atom_16)
  (.cond (.t 62) (.seq (.ops o_regex_reader_atom_17)
  (.seq (.seq (.ops o_regex_reader_atom_18)
  (.cond (.t 80) (.ops o_regex_reader_atom_19) .skip))
  (.ops o_regex_reader_atom_20))) (.seq (.ops o_regex_reader_atom_21)
  (.cond (.t 86) (.ops o_regex_reader_atom_22) (.seq (.ops o_regex_reader_atom_4)
  (.seq (.seq (.ops o_regex_reader_atom_5)
  (.cond (.t 37) (.ops o_regex_reader_atom_6) .skip))
  (.ops o_regex_reader_atom_7)))))))))))))))))
  (.seq (.ops o_regex_reader_atom_23)
  (.seq (.ops o_regex_reader_atom_24)
  .ret)))))))
def a_regex_reader_atom : AFn := { body := c_regex_reader_atom, res := [.tmp 2] }

-- (*dragoman/regex.reader).group
def o_regex_reader_group_0 : List AOp := [
  { dst := some 2, op := .asg (.c (.nat .i64 0)) }]
def o_regex_reader_group_1 : List AOp := [
  { dst := some 4, op := .mov (.t 0) },
  { dst := some 5, op := .nilchk (.t 4) },
  { dst := some 6, op := .fldA 2 (.t 5) },
  { dst := some 7, op := .load none (.t 6) },
  { dst := some 8, op := .bin .geq (.t 7) (.c (.nat .i64 30)) }]
def o_regex_reader_group_2 : List AOp := [
  { dst := some 9, op := .build [.nat .i64 0] [(0, 1, (.c (.nat .i64 7)))] },
  { dst := some 10, op := .mkifc 66 (.t 9) },
  { dst := none, op := .panic (.t 10) }]
def o_regex_reader_group_3 : List AOp := [
  { dst := some 11, op := .mov (.t 0) },
  { dst := some 12, op := .nilchk (.t 11) },
  { dst := some 13, op := .fldA 2 (.t 12) },
  { dst := some 14, op := .load none (.t 13) },
  { dst := some 15, op := .bin .add (.t 14) (.c (.nat .i64 1)) },
  { dst := some 16, op := .nilchk (.t 11) },
  { dst := some 17, op := .fldA 2 (.t 16) },
  { dst := none, op := .store 1 (.t 17) (.t 15) }]
def o_regex_reader_group_4 : List AOp := [
  { dst := some 18, op := .mov (.t 0) },
  { dst := some 19, op := .nilchk (.t 18) },
  { dst := some 20, op := .fldA 1 (.t 19) },
  { dst := some 21, op := .load none (.t 20) },
  { dst := some 22, op := .bin .add (.t 21) (.c (.nat .i64 1)) },
  { dst := some 23, op := .nilchk (.t 18) },
  { dst := some 24, op := .fldA 1 (.t 23) },
  { dst := none, op := .store 1 (.t 24) (.t 22) }]
def o_regex_reader_group_5 : List AOp := [
  { dst := some 25, op := .mov (.t 0) },
  { dst := some 26, op := .call (.f f_regex_reader_all) [.t 25] },
  { dst := some 3, op := .asg (.t 26) }]
def o_regex_reader_group_6 : List AOp := [
  { dst := some 27, op := .mov (.t 0) },
  { dst := some 28, op := .call (.f f_regex_reader_sees) [.t 27, .c (.nat .u8 41)] },
  { dst := some 29, op := .un .not (.t 28) }]
def o_regex_reader_group_7 : List AOp := [
  { dst := some 30, op := .build [.nat .i64 0] [(0, 1, (.c (.nat .i64 9)))] },
  { dst := some 31, op := .mkifc 66 (.t 30) },
  { dst := none, op := .panic (.t 31) }]
def o_regex_reader_group_8 : List AOp := [
  { dst := some 32, op := .mov (.t 0) },
  { dst := some 33, op := .nilchk (.t 32) },
  { dst := some 34, op := .fldA 1 (.t 33) },
  { dst := some 35, op := .load none (.t 34) },
  { dst := some 36, op := .bin .add (.t 35) (.c (.nat .i64 1)) },
  { dst := some 37, op := .nilchk (.t 32) },
  { dst := some 38, op := .fldA 1 (.t 37) },
  { dst := none, op := .store 1 (.t 38) (.t 36) }]
def o_regex_reader_group_9 : List AOp := [
  { dst := some 39, op := .mov (.t 0) },
  { dst := some 40, op := .nilchk (.t 39) },
  { dst := some 41, op := .fldA 2 (.t 40) },
  { dst := some 42, op := .load none (.t 41) },
  { dst := some 43, op := .bin .sub (.t 42) (.c (.nat .i64 1)) },
  { dst := some 44, op := .nilchk (.t 39) },
  { dst := some 45, op := .fldA 2 (.t 44) },
  { dst := none, op := .store 1 (.t 45) (.t 43) }]
def o_regex_reader_group_10 : List AOp := [
  { dst := some 46, op := .mov (.t 3) },
  { dst := some 2, op := .asg (.t 46) }]
def c_regex_reader_group : AC :=
  (.seq (.ops o_regex_reader_group_0)
  (.seq (.seq (.ops o_regex_reader_group_1)
  (.cond (.t 8) (.ops o_regex_reader_group_2) .skip))
  (.seq (.ops o_regex_reader_group_3)
  (.seq (.ops o_regex_reader_group_4)
  (.seq (.ops o_regex_reader_group_5)
  (.seq (.seq (.ops o_regex_reader_group_6)
  (.cond (.t 29) (.ops o_regex_reader_group_7) .skip))
  (.seq (.ops o_regex_reader_group_8)
  (.seq (.ops o_regex_reader_group_9)
  (.seq (.ops o_regex_reader_group_10)
  .ret)))))))))
def a_regex_reader_group : AFn := { body := c_regex_reader_group, res := [.tmp 2] }

-- dragoman/regex.dot
def o_regex_dot_0 : List AOp := [
  { dst := some 0, op := .alloc [.nat .u64 0, .nat .u64 0, .nat .u64 0, .nat .u64 0] }]
def o_regex_dot_1 : List AOp := [
  { dst := some 1, op := .call (.f f_class_One) [.c (.nat .u8 10)] },
  { dst := some 2, op := .call (.f f_class_Not) [.t 1] },
  { dst := none, op := .store 4 (.t 0) (.t 2) }]
def c_regex_dot : AC :=
  (.seq (.ops o_regex_dot_0)
  (.seq (.ops o_regex_dot_1)
  .ret))
def a_regex_dot : AFn := { body := c_regex_dot, res := [.cell 0 (some 4)] }

-- dragoman/class.Read
def o_class_Read_0 : List AOp := [
  { dst := some 1, op := .box (.t 0) },
  { dst := some 2, op := .alloc [.nat .u64 0, .nat .u64 0, .nat .u64 0, .nat .u64 0] },
  { dst := some 3, op := .asg (.c (.nat .i64 0)) },
  { dst := some 4, op := .asg (.c (.nat .i64 0)) }]
def o_class_Read_1 : List AOp := [
  { dst := some 5, op := .alloc [.nat .u64 0, .nat .u64 0, .nat .u64 0, .nat .u64 0] }]
def o_class_Read_2 : List AOp := [
  { dst := some 6, op := .alloc [.nat .i64 0] },
  { dst := none, op := .store 1 (.t 6) (.c (.nat .i64 0)) }]
def o_class_Read_3 : List AOp := [
  { dst := some 14, op := .mkfn (.func f_class_Read_1) [] [.t 6, .t 1] },
  { dst := some 7, op := .asg (.t 14) }]
def o_class_Read_4 : List AOp := [
  { dst := some 15, op := .mov (.t 7) },
  { dst := some 16, op := .call (.t 15) [.c (.nat .u8 91)] },
  { dst := some 17, op := .un .not (.t 16) }]
def o_class_Read_5 : List AOp := [
  { dst := some 18, op := .load (some 4) (.t 5) },
  { dst := none, op := .store 4 (.t 2) (.t 18) },
  { dst := some 3, op := .asg (.c (.nat .i64 0)) },
  { dst := some 4, op := .asg (.c (.nat .i64 2)) }]
def o_class_Read_6 : List AOp := [
  { dst := some 19, op := .mov (.t 7) },
  { dst := some 20, op := .call (.t 19) [.c (.nat .u8 94)] },
  { dst := some 8, op := .asg (.t 20) }]
def o_class_Read_7 : List AOp := [
  { dst := some 9, op := .asg (.c (.nat .i64 0)) }]
def o_class_Read_9 : List AOp := [
  { dst := some 23, op := .mov (.t 9) },
  { dst := some 24, op := .bin .gtr (.t 23) (.c (.nat .i64 0)) },
  { dst := some 25, op := .mov (.t 24) },
  { dst := some 26, op := .mov (.t 7), guard := some (25, true) },
  { dst := some 27, op := .call (.t 26) [.c (.nat .u8 93)], guard := some (25, true) },
  { dst := some 28, op := .pick (.t 25) (.t 27) (.c (.d (.bool false))) }]
def o_class_Read_10 : List AOp := [
  { dst := some 30, op := .load none (.t 1) },
  { dst := some 31, op := .load none (.t 6) },
  { dst := some 32, op := .sliceS (.t 30) (some (.t 31)) none },
  { dst := some 33, op := .call (.f f_class_Sign) [.t 32] },
  { dst := some 29, op := .mov (.t 33) },
  { dst := some 34, op := .extr (.t 29) 0 },
  { dst := some 35, op := .extr (.t 29) 1 },
  { dst := some 36, op := .extr (.t 29) 2 },
  { dst := some 10, op := .asg (.t 34) },
  { dst := some 11, op := .asg (.t 35) },
  { dst := some 12, op := .asg (.t 36) }]
def o_class_Read_11 : List AOp := [
  { dst := some 37, op := .mov (.t 12) },
  { dst := some 38, op := .bin .neq (.t 37) (.c (.nat .i64 0)) }]
def o_class_Read_12 : List AOp := [
  { dst := some 39, op := .build [.nat .u64 0, .nat .u64 0, .nat .u64 0, .nat .u64 0] [] },
  { dst := some 40, op := .mov (.t 12) },
  { dst := none, op := .store 4 (.t 2) (.t 39) },
  { dst := some 3, op := .asg (.c (.nat .i64 0)) },
  { dst := some 4, op := .asg (.t 40) }]
def o_class_Read_13 : List AOp := [
  { dst := some 41, op := .load none (.t 6) },
  { dst := some 42, op := .mov (.t 11) },
  { dst := some 43, op := .bin .add (.t 41) (.t 42) },
  { dst := none, op := .store 1 (.t 6) (.t 43) }]
def o_class_Read_14 : List AOp := [
  { dst := some 44, op := .mov (.t 10) },
  { dst := some 13, op := .asg (.t 44) }]
def o_class_Read_15 : List AOp := [
  { dst := some 45, op := .mov (.t 7) },
  { dst := some 46, op := .call (.t 45) [.c (.nat .u8 45)] }]
def o_class_Read_16 : List AOp := [
  { dst := some 48, op := .load none (.t 1) },
  { dst := some 49, op := .load none (.t 6) },
  { dst := some 50, op := .sliceS (.t 48) (some (.t 49)) none },
  { dst := some 51, op := .call (.f f_class_Sign) [.t 50] },
  { dst := some 47, op := .mov (.t 51) },
  { dst := some 52, op := .extr (.t 47) 0 },
  { dst := some 53, op := .extr (.t 47) 1 },
  { dst := some 54, op := .extr (.t 47) 2 },
  { dst := some 13, op := .asg (.t 52) },
  { dst := some 11, op := .asg (.t 53) },
  { dst := some 12, op := .asg (.t 54) }]
def o_class_Read_17 : List AOp := [
  { dst := some 55, op := .mov (.t 12) },
  { dst := some 56, op := .bin .neq (.t 55) (.c (.nat .i64 0)) },
  { dst := some 57, op := .mov (.t 56) },
  { dst := some 58, op := .mov (.t 10), guard := some (57, false) },
  { dst := some 59, op := .mov (.t 13), guard := some (57, false) },
  { dst := some 60, op := .bin .gtr (.t 58) (.t 59), guard := some (57, false) },
  { dst := some 61, op := .pick (.t 57) (.c (.d (.bool true))) (.t 60) }]
def o_class_Read_18 : List AOp := [
  { dst := some 62, op := .build [.nat .u64 0, .nat .u64 0, .nat .u64 0, .nat .u64 0] [] },
  { dst := none, op := .store 4 (.t 2) (.t 62) },
  { dst := some 3, op := .asg (.c (.nat .i64 0)) },
  { dst := some 4, op := .asg (.c (.nat .i64 2)) }]
def o_class_Read_19 : List AOp := [
  { dst := some 63, op := .load none (.t 6) },
  { dst := some 64, op := .mov (.t 11) },
  { dst := some 65, op := .bin .add (.t 63) (.t 64) },
  { dst := none, op := .store 1 (.t 6) (.t 65) }]
def o_class_Read_20 : List AOp := [
  { dst := some 66, op := .load (some 4) (.t 5), may := false },
  { dst := some 67, op := .mov (.t 10), may := false },
  { dst := some 68, op := .mov (.t 13), may := false },
  { dst := some 69, op := .callZ (.f f_class_Span) [.t 67, .t 68], may := false },
  { dst := some 70, op := .call (.f f_class_Or) [.t 66, .t 69] },
  { dst := none, op := .store 4 (.t 5) (.t 70) }]
def o_class_Read_8 : List AOp := [
  { dst := some 21, op := .mov (.t 9) },
  { dst := some 22, op := .bin .add (.t 21) (.c (.nat .i64 1)) },
  { dst := some 9, op := .asg (.t 22) }]
def b_class_Read_0 : AC := (.seq (.trim [1, 2, 5, 6, 7, 8, 9] (.block 1 (.seq (.seq (.ops o_class_Read_9)
  (.cond (.t 28) (.exit 0) .skip))
  (.seq (.ops o_class_Read_10)
  (.seq (.seq (.ops o_class_Read_11)
  (.cond (.t 38) (.seq (.ops o_class_Read_12)
  .ret) .skip))
  (.seq (.ops o_class_Read_13)
  (.seq (.ops o_class_Read_14)
  (.seq (.seq (.ops o_class_Read_15)
  (.cond (.t 46) (.seq (.seq (.ops o_class_Read_16)
  (.seq (.ops o_class_Read_17)
  (.cond (.t 61) (.seq (.ops o_class_Read_18)
  .ret) .skip)))
  (.ops o_class_Read_19)) .skip))
  (.ops o_class_Read_20)))))))))
  (.ops o_class_Read_8))
def o_class_Read_21 : List AOp := [
  { dst := some 71, op := .mov (.t 8) }]
def o_class_Read_22 : List AOp := [
  { dst := some 72, op := .load (some 4) (.t 5), may := false },
  { dst := some 73, op := .callZ (.f f_class_One) [.c (.nat .u8 10)], may := false },
  { dst := some 74, op := .call (.f f_class_Or) [.t 72, .t 73] },
  { dst := some 75, op := .call (.f f_class_Not) [.t 74] },
  { dst := none, op := .store 4 (.t 5) (.t 75) }]
def o_class_Read_23 : List AOp := [
  { dst := some 76, op := .load (some 4) (.t 5), may := false },
  { dst := some 77, op := .loadB none (.t 6) (.t 6), may := false },
  { dst := none, op := .storeW 4 (.t 2) (.t 76) [.t 6], may := false },
  { dst := some 3, op := .asg (.t 77) },
  { dst := some 4, op := .asg (.c (.nat .i64 0)) }]
def c_class_Read : AC :=
  (.seq (.ops o_class_Read_0)
  (.seq (.ops o_class_Read_1)
  (.seq (.ops o_class_Read_2)
  (.seq (.ops o_class_Read_3)
  (.seq (.seq (.ops o_class_Read_4)
  (.cond (.t 17) (.seq (.ops o_class_Read_5)
  .ret) .skip))
  (.seq (.ops o_class_Read_6)
  (.seq (.seq (.ops o_class_Read_7)
  (.trim [2, 5, 6, 8] (.block 0 (.loop [1, 2, 5, 6, 7, 8, 9] b_class_Read_0))))
  (.seq (.seq (.ops o_class_Read_21)
  (.cond (.t 71) (.ops o_class_Read_22) .skip))
  (.seq (.ops o_class_Read_23)
  .ret)))))))))
def a_class_Read : AFn := { body := c_class_Read, res := [.cell 2 (some 4), .tmp 3, .tmp 4] }

-- dragoman/class.Sign
def o_class_Sign_0 : List AOp := [
  { dst := some 2, op := .asg (.c (.nat .u8 0)) },
  { dst := some 3, op := .asg (.c (.nat .i64 0)) },
  { dst := some 4, op := .asg (.c (.nat .i64 0)) }]
def o_class_Sign_1 : List AOp := [
  { dst := some 6, op := .mov (.t 0) },
  { dst := some 7, op := .bin .eql (.t 6) (.c (.d (.str []))) },
  { dst := some 8, op := .mov (.t 7) },
  { dst := some 9, op := .mov (.t 0), guard := some (8, false) },
  { dst := some 10, op := .idxS (.t 9) (.c (.nat .i64 0)), guard := some (8, false) },
  { dst := some 11, op := .bin .neq (.t 10) (.c (.nat .u8 92)), guard := some (8, false) },
  { dst := some 12, op := .mov (.t 11), guard := some (8, false) },
  { dst := some 13, op := .mov (.t 0), guard := some (12, true) },
  { dst := some 14, op := .idxS (.t 13) (.c (.nat .i64 0)), guard := some (12, true) },
  { dst := some 15, op := .call (.f f_strings_IndexByte) [.c (.d (.str [10, 93, 91, 94, 45])), .t 14], guard := some (12, true) },
  { dst := some 16, op := .bin .geq (.t 15) (.c (.nat .i64 0)), guard := some (12, true) },
  { dst := some 17, op := .pick (.t 12) (.t 16) (.c (.d (.bool false))), guard := some (8, false) },
  { dst := some 18, op := .pick (.t 8) (.c (.d (.bool true))) (.t 17) },
  { dst := some 5, op := .asg (.t 18) }]
def o_class_Sign_2 : List AOp := [
  { dst := some 2, op := .asg (.c (.nat .u8 0)) },
  { dst := some 3, op := .asg (.c (.nat .i64 0)) },
  { dst := some 4, op := .asg (.c (.nat .i64 2)) }]
def o_class_Sign_3 : List AOp := [
  { dst := some 20, op := .mov (.t 0) },
  { dst := some 21, op := .idxS (.t 20) (.c (.nat .i64 0)) },
  { dst := some 22, op := .bin .neq (.t 21) (.c (.nat .u8 92)) },
  { dst := some 19, op := .asg (.t 22) }]
def o_class_Sign_4 : List AOp := [
  { dst := some 23, op := .mov (.t 0) },
  { dst := some 24, op := .idxS (.t 23) (.c (.nat .i64 0)) },
  { dst := some 2, op := .asg (.t 24) },
  { dst := some 3, op := .asg (.c (.nat .i64 1)) },
  { dst := some 4, op := .asg (.c (.nat .i64 0)) }]
def o_class_Sign_5 : List AOp := [
  { dst := some 26, op := .mov (.t 0) },
  { dst := some 27, op := .lenS (.t 26) },
  { dst := some 28, op := .bin .lss (.t 27) (.c (.nat .i64 2)) },
  { dst := some 25, op := .asg (.t 28) }]
def o_class_Sign_6 : List AOp := [
  { dst := some 2, op := .asg (.c (.nat .u8 0)) },
  { dst := some 3, op := .asg (.c (.nat .i64 0)) },
  { dst := some 4, op := .asg (.c (.nat .i64 2)) }]
def o_class_Sign_7 : List AOp := [
  { dst := some 30, op := .mov (.t 0) },
  { dst := some 31, op := .idxS (.t 30) (.c (.nat .i64 1)) },
  { dst := some 32, op := .call (.f f_strings_IndexByte) [.c (.d (.str [92, 93, 91, 94, 45, 47, 46, 42, 43, 63, 40, 41, 124, 123, 125, 36])), .t 31] },
  { dst := some 33, op := .bin .geq (.t 32) (.c (.nat .i64 0)) },
  { dst := some 29, op := .asg (.t 33) }]
def o_class_Sign_8 : List AOp := [
  { dst := some 34, op := .mov (.t 0) },
  { dst := some 35, op := .idxS (.t 34) (.c (.nat .i64 1)) },
  { dst := some 2, op := .asg (.t 35) },
  { dst := some 3, op := .asg (.c (.nat .i64 2)) },
  { dst := some 4, op := .asg (.c (.nat .i64 0)) }]
def o_class_Sign_9 : List AOp := [
  { dst := some 37, op := .mov (.t 0) },
  { dst := some 38, op := .lenS (.t 37) },
  { dst := some 39, op := .bin .lss (.t 38) (.c (.nat .i64 4)) },
  { dst := some 40, op := .mov (.t 39) },
  { dst := some 41, op := .mov (.t 0), guard := some (40, false) },
  { dst := some 42, op := .idxS (.t 41) (.c (.nat .i64 1)), guard := some (40, false) },
  { dst := some 43, op := .bin .neq (.t 42) (.c (.nat .u8 120)), guard := some (40, false) },
  { dst := some 44, op := .pick (.t 40) (.c (.d (.bool true))) (.t 43) },
  { dst := some 45, op := .mov (.t 44) },
  { dst := some 46, op := .mov (.t 0), guard := some (45, false) },
  { dst := some 47, op := .idxS (.t 46) (.c (.nat .i64 2)), guard := some (45, false) },
  { dst := some 48, op := .call (.f f_hex_Digit) [.t 47], guard := some (45, false) },
  { dst := some 49, op := .bin .lss (.t 48) (.c (.nat .i64 0)), guard := some (45, false) },
  { dst := some 50, op := .pick (.t 45) (.c (.d (.bool true))) (.t 49) },
  { dst := some 51, op := .mov (.t 50) },
  { dst := some 52, op := .mov (.t 0), guard := some (51, false) },
  { dst := some 53, op := .idxS (.t 52) (.c (.nat .i64 3)), guard := some (51, false) },
  { dst := some 54, op := .call (.f f_hex_Digit) [.t 53], guard := some (51, false) },
  { dst := some 55, op := .bin .lss (.t 54) (.c (.nat .i64 0)), guard := some (51, false) },
  { dst := some 56, op := .pick (.t 51) (.c (.d (.bool true))) (.t 55) },
  { dst := some 36, op := .asg (.t 56) }]
def o_class_Sign_10 : List AOp := [
  { dst := some 2, op := .asg (.c (.nat .u8 0)) },
  { dst := some 3, op := .asg (.c (.nat .i64 0)) },
  { dst := some 4, op := .asg (.c (.nat .i64 2)) }]
def o_class_Sign_11 : List AOp := [
  { dst := some 57, op := .mov (.t 0), may := false },
  { dst := some 58, op := .idxS (.t 57) (.c (.nat .i64 2)), may := false },
  { dst := some 59, op := .call (.f f_hex_Digit) [.t 58], may := false },
  { dst := some 60, op := .bin .shl (.t 59) (.c (.nat .u64 4)), may := false },
  { dst := some 61, op := .mov (.t 0), may := false },
  { dst := some 62, op := .idxS (.t 61) (.c (.nat .i64 3)), may := false },
  { dst := some 63, op := .call (.f f_hex_Digit) [.t 62], may := false },
  { dst := some 64, op := .bin .or (.t 60) (.t 63) },
  { dst := some 65, op := .toInt .u8 (.t 64) },
  { dst := some 2, op := .asg (.t 65) },
  { dst := some 3, op := .asg (.c (.nat .i64 4)) },
  { dst := some 4, op := .asg (.c (.nat .i64 0)) }]
def c_class_Sign : AC :=
  (.seq (.ops o_class_Sign_0)
  (.seq (.trim [0] (.block 0 (.seq (.ops o_class_Sign_1)
  (.cond (.t 5) (.seq (.ops o_class_Sign_2)
  .ret) (.seq (.ops o_class_Sign_3)
  (.cond (.t 19) (.seq (.ops o_class_Sign_4)
  .ret) (.seq (.ops o_class_Sign_5)
  (.cond (.t 25) (.seq (.ops o_class_Sign_6)
  .ret) (.seq (.ops o_class_Sign_7)
  (.cond (.t 29) (.seq (.ops o_class_Sign_8)
  .ret) (.seq (.ops o_class_Sign_9)
  (.cond (.t 36) (.seq (.ops o_class_Sign_10)
  .ret) .skip))))))))))))
  (.seq (.ops o_class_Sign_11)
  .ret)))
def a_class_Sign : AFn := { body := c_class_Sign, res := [.tmp 2, .tmp 3, .tmp 4] }

-- dragoman/class.One
def o_class_One_0 : List AOp := [
  { dst := some 2, op := .alloc [.nat .u64 0, .nat .u64 0, .nat .u64 0, .nat .u64 0] }]
def o_class_One_1 : List AOp := [
  { dst := some 3, op := .mov (.t 0) },
  { dst := some 4, op := .mov (.t 0) },
  { dst := some 5, op := .call (.f f_class_Span) [.t 3, .t 4] },
  { dst := none, op := .store 4 (.t 2) (.t 5) }]
def c_class_One : AC :=
  (.seq (.ops o_class_One_0)
  (.seq (.ops o_class_One_1)
  .ret))
def a_class_One : AFn := { body := c_class_One, res := [.cell 2 (some 4)] }

-- dragoman/class.Not
def o_class_Not_0 : List AOp := [
  { dst := some 1, op := .box (.t 0) },
  { dst := some 2, op := .alloc [.nat .u64 0, .nat .u64 0, .nat .u64 0, .nat .u64 0] }]
def o_class_Not_1 : List AOp := [
  { dst := some 4, op := .mov (.c (.nat .i64 0)) }]
def o_class_Not_2 : List AOp := [
  { dst := some 5, op := .bin .lss (.t 4) (.c (.nat .i64 4)) }]
def o_class_Not_3 : List AOp := [
  { dst := some 6, op := .mov (.t 4) },
  { dst := some 3, op := .asg (.t 6) }]
def o_class_Not_4 : List AOp := [
  { dst := some 7, op := .mov (.t 3) },
  { dst := some 8, op := .mov (.t 3) },
  { dst := some 9, op := .idxA (some 4) 1 (.t 1) (.t 8) },
  { dst := some 10, op := .load none (.t 9) },
  { dst := some 11, op := .un .xor (.t 10) },
  { dst := some 12, op := .idxA (some 4) 1 (.t 1) (.t 7) },
  { dst := none, op := .store 1 (.t 12) (.t 11) }]
def o_class_Not_5 : List AOp := [
  { dst := some 13, op := .bin .add (.t 4) (.c (.nat .i64 1)) },
  { dst := some 4, op := .mov (.t 13) }]
def b_class_Not_0 : AC := (.seq (.ops o_class_Not_2)
  (.seq (.cond (.t 5) .skip (.exit 0))
  (.seq (.trim [1, 2, 4] (.block 1 (.seq (.ops o_class_Not_3)
  (.ops o_class_Not_4))))
  (.ops o_class_Not_5))))
def o_class_Not_6 : List AOp := [
  { dst := some 14, op := .load (some 4) (.t 1) },
  { dst := none, op := .store 4 (.t 2) (.t 14) }]
def c_class_Not : AC :=
  (.seq (.ops o_class_Not_0)
  (.seq (.seq (.ops o_class_Not_1)
  (.trim [1, 2] (.block 0 (.loop [1, 2, 4] b_class_Not_0))))
  (.seq (.ops o_class_Not_6)
  .ret)))
def a_class_Not : AFn := { body := c_class_Not, res := [.cell 2 (some 4)] }

-- dragoman/class.Read$1
def o_class_Read_1_0 : List AOp := [
  { dst := some 4, op := .asg (.c (.d (.bool false))) }]
def o_class_Read_1_1 : List AOp := [
  { dst := some 6, op := .load none (.t 1) },
  { dst := some 7, op := .load none (.t 2) },
  { dst := some 8, op := .lenS (.t 7) },
  { dst := some 9, op := .bin .lss (.t 6) (.t 8) },
  { dst := some 10, op := .mov (.t 9) },
  { dst := some 11, op := .load none (.t 2), guard := some (10, true) },
  { dst := some 12, op := .load none (.t 1), guard := some (10, true) },
  { dst := some 13, op := .idxS (.t 11) (.t 12), guard := some (10, true) },
  { dst := some 14, op := .mov (.t 0), guard := some (10, true) },
  { dst := some 15, op := .bin .eql (.t 13) (.t 14), guard := some (10, true) },
  { dst := some 16, op := .pick (.t 10) (.t 15) (.c (.d (.bool false))) },
  { dst := some 5, op := .asg (.t 16) }]
def o_class_Read_1_2 : List AOp := [
  { dst := some 17, op := .mov (.t 5) }]
def o_class_Read_1_3 : List AOp := [
  { dst := some 18, op := .load none (.t 1) },
  { dst := some 19, op := .bin .add (.t 18) (.c (.nat .i64 1)) },
  { dst := none, op := .store 1 (.t 1) (.t 19) }]
def o_class_Read_1_4 : List AOp := [
  { dst := some 20, op := .mov (.t 5) },
  { dst := some 4, op := .asg (.t 20) }]
def c_class_Read_1 : AC :=
  (.seq (.ops o_class_Read_1_0)
  (.seq (.ops o_class_Read_1_1)
  (.seq (.seq (.ops o_class_Read_1_2)
  (.cond (.t 17) (.ops o_class_Read_1_3) .skip))
  (.seq (.ops o_class_Read_1_4)
  .ret))))
def a_class_Read_1 : AFn := { body := c_class_Read_1, res := [.tmp 4] }

-- dragoman/class.Or
def o_class_Or_0 : List AOp := [
  { dst := some 2, op := .box (.t 0) },
  { dst := some 3, op := .box (.t 1) },
  { dst := some 4, op := .alloc [.nat .u64 0, .nat .u64 0, .nat .u64 0, .nat .u64 0] }]
def o_class_Or_1 : List AOp := [
  { dst := some 6, op := .mov (.c (.nat .i64 0)) }]
def o_class_Or_2 : List AOp := [
  { dst := some 7, op := .bin .lss (.t 6) (.c (.nat .i64 4)) }]
def o_class_Or_3 : List AOp := [
  { dst := some 8, op := .mov (.t 6) },
  { dst := some 5, op := .asg (.t 8) }]
def o_class_Or_4 : List AOp := [
  { dst := some 9, op := .mov (.t 5), may := false },
  { dst := some 10, op := .idxA (some 4) 1 (.t 2) (.t 9), may := false },
  { dst := some 11, op := .load none (.t 10), may := false },
  { dst := some 12, op := .mov (.t 5), may := false },
  { dst := some 13, op := .idxA (some 4) 1 (.t 3) (.t 12), may := false },
  { dst := some 14, op := .load none (.t 13), may := false },
  { dst := some 15, op := .bin .or (.t 11) (.t 14) },
  { dst := some 16, op := .idxA (some 4) 1 (.t 2) (.t 9) },
  { dst := none, op := .store 1 (.t 16) (.t 15) }]
def o_class_Or_5 : List AOp := [
  { dst := some 17, op := .bin .add (.t 6) (.c (.nat .i64 1)) },
  { dst := some 6, op := .mov (.t 17) }]
def b_class_Or_0 : AC := (.seq (.ops o_class_Or_2)
  (.seq (.cond (.t 7) .skip (.exit 0))
  (.seq (.trim [2, 3, 4, 6] (.block 1 (.seq (.ops o_class_Or_3)
  (.ops o_class_Or_4))))
  (.ops o_class_Or_5))))
def o_class_Or_6 : List AOp := [
  { dst := some 18, op := .load (some 4) (.t 2) },
  { dst := none, op := .store 4 (.t 4) (.t 18) }]
def c_class_Or : AC :=
  (.seq (.ops o_class_Or_0)
  (.seq (.seq (.ops o_class_Or_1)
  (.trim [2, 4] (.block 0 (.loop [2, 3, 4, 6] b_class_Or_0))))
  (.seq (.ops o_class_Or_6)
  .ret)))
def a_class_Or : AFn := { body := c_class_Or, res := [.cell 4 (some 4)] }

-- dragoman/class.Span
def o_class_Span_0 : List AOp := [
  { dst := some 4, op := .alloc [.nat .u64 0, .nat .u64 0, .nat .u64 0, .nat .u64 0] }]
def o_class_Span_1 : List AOp := [
  { dst := some 5, op := .alloc [.nat .u64 0, .nat .u64 0, .nat .u64 0, .nat .u64 0] }]
def o_class_Span_2 : List AOp := [
  { dst := some 7, op := .mov (.t 0) },
  { dst := some 8, op := .toInt .i64 (.t 7) },
  { dst := some 6, op := .asg (.t 8) }]
def o_class_Span_3 : List AOp := [
  { dst := some 9, op := .mov (.t 6) },
  { dst := some 10, op := .mov (.t 1) },
  { dst := some 11, op := .toInt .i64 (.t 10) },
  { dst := some 12, op := .bin .leq (.t 9) (.t 11) }]
def o_class_Span_5 : List AOp := [
  { dst := some 15, op := .mov (.t 6), may := false },
  { dst := some 16, op := .bin .quo (.t 15) (.c (.nat .i64 64)), may := false },
  { dst := some 17, op := .idxA (some 4) 1 (.t 5) (.t 16), may := false },
  { dst := some 18, op := .load none (.t 17), may := false },
  { dst := some 19, op := .mov (.t 6), may := false },
  { dst := some 20, op := .bin .rem (.t 19) (.c (.nat .i64 64)), may := false },
  { dst := some 21, op := .bin .shl (.c (.nat .u64 1)) (.t 20), may := false },
  { dst := some 22, op := .bin .or (.t 18) (.t 21) },
  { dst := some 23, op := .idxA (some 4) 1 (.t 5) (.t 16) },
  { dst := none, op := .store 1 (.t 23) (.t 22) }]
def o_class_Span_4 : List AOp := [
  { dst := some 13, op := .mov (.t 6) },
  { dst := some 14, op := .bin .add (.t 13) (.c (.nat .i64 1)) },
  { dst := some 6, op := .asg (.t 14) }]
def b_class_Span_0 : AC := (.seq (.seq (.ops o_class_Span_3)
  (.cond (.t 12) .skip (.exit 0)))
  (.seq (.trim [1, 4, 5, 6] (.block 1 (.ops o_class_Span_5)))
  (.ops o_class_Span_4)))
def o_class_Span_6 : List AOp := [
  { dst := some 24, op := .load (some 4) (.t 5) },
  { dst := none, op := .store 4 (.t 4) (.t 24) }]
def c_class_Span : AC :=
  (.seq (.ops o_class_Span_0)
  (.seq (.ops o_class_Span_1)
  (.seq (.seq (.ops o_class_Span_2)
  (.trim [4, 5] (.block 0 (.loop [1, 4, 5, 6] b_class_Span_0))))
  (.seq (.ops o_class_Span_6)
  .ret))))
def a_class_Span : AFn := { body := c_class_Span, res := [.cell 4 (some 4)] }

def tabl : List (Nat × AFn) := [(f_law15_ScanOperands, a_law15_ScanOperands), (f_law15_ScanPlaces, a_law15_ScanPlaces), (f_law15_ScanJoins, a_law15_ScanJoins), (f_law15_ScanTexts, a_law15_ScanTexts), (f_law15_ScanMarks, a_law15_ScanMarks), (f_law15_ScanSlashes, a_law15_ScanSlashes), (f_law15_shown, a_law15_shown), (f_scan_Operand, a_scan_Operand), (f_ref15_Operand, a_ref15_Operand), (f_scan_Tokens, a_scan_Tokens), (f_scan_Marks, a_scan_Marks), (f_scan_Keys, a_scan_Keys), (f_scan_skip, a_scan_skip), (f_scan_next, a_scan_next), (f_scan_isFigure, a_scan_isFigure), (f_scan_number, a_scan_number), (f_scan_text, a_scan_text), (f_scan_expression, a_scan_expression), (f_hex_IsName, a_hex_IsName), (f_scan_word, a_scan_word), (f_scan_mark, a_scan_mark), (f_scan_number_1, a_scan_number_1), (f_dec_Read, a_dec_Read), (f_strings_IndexByte, a_strings_IndexByte), (f_hex_Digit, a_hex_Digit), (f_regex_Read, a_regex_Read), (f_hex_IsName_1, a_hex_IsName_1), (f_slices_ContainsFunc_byte_byte, a_slices_ContainsFunc_byte_byte), (f_slices_Contains_string_string, a_slices_Contains_string_string), (f_strings_HasPrefix, a_strings_HasPrefix), (f_dec_Read_1, a_dec_Read_1), (f_dec_span, a_dec_span), (f_dec_wrong, a_dec_wrong), (f_bits_Mul64, a_bits_Mul64), (f_dec_joined, a_dec_joined), (f_stringslite_IndexByte, a_stringslite_IndexByte), (f_regex_reader_all, a_regex_reader_all), (f_slices_IndexFunc_byte_byte, a_slices_IndexFunc_byte_byte), (f_slices_Index_string_string, a_slices_Index_string_string), (f_stringslite_HasPrefix, a_stringslite_HasPrefix), (f_regex_reader_cat, a_regex_reader_cat), (f_regex_reader_sees, a_regex_reader_sees), (f_regex_reader_put, a_regex_reader_put), (f_regex_reader_piece, a_regex_reader_piece), (f_regex_reader_atom, a_regex_reader_atom), (f_regex_reader_group, a_regex_reader_group), (f_regex_dot, a_regex_dot), (f_class_Read, a_class_Read), (f_class_Sign, a_class_Sign), (f_class_One, a_class_One), (f_class_Not, a_class_Not), (f_class_Read_1, a_class_Read_1), (f_class_Or, a_class_Or), (f_class_Span, a_class_Span)]
def tabD : List (Nat × AFn) := [(f_scan_number_1, a_scan_number_1), (f_dec_Read_1, a_dec_Read_1), (f_dec_caught, a_dec_caught), (f_dec_wrong, a_dec_wrong), (f_regex_Read_1, a_regex_Read_1)]
end Go.Ab.R15
