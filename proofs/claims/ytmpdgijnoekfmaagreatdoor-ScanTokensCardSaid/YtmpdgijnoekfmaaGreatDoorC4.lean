/- A part of the proof: tools. No condition. -/
import Derived.Test.YtmpdgijnoekfmaaGreatDoorL0
set_option linter.all false
namespace Go.Ab.R15z
abbrev aQ (d : Nat) (o : AOpk) : AOp := { dst := some d, op := o }
abbrev mQ (d : Nat) (o : AOpk) : AOp := { dst := some d, op := o, may := false }
abbrev gQ (d : Nat) (o : AOpk) (n : Nat) (b : Bool) : AOp := { dst := some d, op := o, guard := some (n, b) }
abbrev hQ (d : Nat) (o : AOpk) (n : Nat) (b : Bool) : AOp := { dst := some d, op := o, guard := some (n, b), may := false }
set_option maxRecDepth 100000
abbrev f_law15_ScanTokens : Nat := 3
abbrev f_law15_shown : Nat := 4
abbrev f_scan_Tokens : Nat := 5
abbrev f_ref15_Tokens : Nat := 6
abbrev f_ref15_Same : Nat := 7
abbrev f_ref15_Texts : Nat := 8
abbrev f_scan_Keys : Nat := 9
abbrev f_ref15_Keys : Nat := 10
abbrev f_scan_Marks : Nat := 11
abbrev f_ref15_Marks : Nat := 12
abbrev f_scan_skip : Nat := 13
abbrev f_scan_next : Nat := 14
abbrev f_scan_Operand : Nat := 15
abbrev f_ref15_one : Nat := 16
abbrev f_ref15_Operand : Nat := 17
abbrev f_ref07_Same : Nat := 18
abbrev f_strings_Split : Nat := 19
abbrev f_scan_isFigure : Nat := 20
abbrev f_scan_number : Nat := 21
abbrev f_scan_text : Nat := 22
abbrev f_scan_expression : Nat := 23
abbrev f_hex_IsName : Nat := 24
abbrev f_scan_word : Nat := 25
abbrev f_scan_mark : Nat := 26
abbrev f_ref15_number : Nat := 27
abbrev f_ref15_text : Nat := 28
abbrev f_ref15_expression : Nat := 29
abbrev f_ref01_IsName : Nat := 30
abbrev f_ref15_among : Nat := 31
abbrev f_strings_genSplit : Nat := 32
abbrev f_scan_number_1 : Nat := 33
abbrev f_dec_Read : Nat := 34
abbrev f_strings_IndexByte : Nat := 35
abbrev f_hex_Digit : Nat := 36
abbrev f_regex_Read : Nat := 37
abbrev f_hex_IsName_1 : Nat := 38
abbrev f_slices_ContainsFunc_byte_byte : Nat := 39
abbrev f_slices_Contains_string_string : Nat := 40
abbrev f_strings_HasPrefix : Nat := 41
abbrev f_ref15_figures : Nat := 42
abbrev f_ref02_Read : Nat := 43
abbrev f_ref01_Digit : Nat := 44
abbrev f_ref05_Read : Nat := 45
abbrev f_strings_explode : Nat := 46
abbrev f_strings_Count : Nat := 47
abbrev f_strings_Index : Nat := 48
abbrev f_dec_Read_1 : Nat := 49
abbrev f_dec_caught : Nat := 50
abbrev f_dec_span : Nat := 51
abbrev f_dec_wrong : Nat := 52
abbrev f_bits_Mul64 : Nat := 53
abbrev f_bits_Add64 : Nat := 54
abbrev f_dec_joined : Nat := 55
abbrev f_stringslite_IndexByte : Nat := 56
abbrev f_regex_Read_1 : Nat := 57
abbrev f_regex_reader_all : Nat := 58
abbrev f_slices_IndexFunc_byte_byte : Nat := 59
abbrev f_slices_Index_string_string : Nat := 60
abbrev f_stringslite_HasPrefix : Nat := 61
abbrev f_ref02_figure : Nat := 62
abbrev f_ref02_times : Nat := 63
abbrev f_ref02_back : Nat := 64
abbrev f_ref05_parser_whole : Nat := 65
abbrev f_ref05_parser_fail : Nat := 66
abbrev f_utf8_RuneCountInString : Nat := 67
abbrev f_utf8_DecodeRuneInString : Nat := 68
abbrev f_bytealg_CountString : Nat := 69
abbrev f_stringslite_Index : Nat := 70
abbrev f_bytealg_IndexByteString : Nat := 71
abbrev f_regex_reader_cat : Nat := 72
abbrev f_regex_reader_sees : Nat := 73
abbrev f_regex_reader_put : Nat := 74
abbrev f_ref05_parser_row : Nat := 75
abbrev f_ref05_parser_is : Nat := 76
abbrev f_ref05_parser_lay : Nat := 77
abbrev f_utf8_decodeRuneInStringSlow : Nat := 78
abbrev f_bytealg_IndexString : Nat := 79
abbrev f_bytealg_Cutover : Nat := 80
abbrev f_bytealg_IndexRabinKarp_string : Nat := 81
abbrev f_regex_reader_piece : Nat := 82
abbrev f_ref05_parser_piece : Nat := 83
abbrev f_bytealg_hashStr_string : Nat := 84
abbrev f_regex_reader_atom : Nat := 85
abbrev f_ref05_parser_atom : Nat := 86
abbrev f_regex_reader_group : Nat := 87
abbrev f_regex_dot : Nat := 88
abbrev f_class_Read : Nat := 89
abbrev f_class_Sign : Nat := 90
abbrev f_class_One : Nat := 91
abbrev f_ref05_Dot : Nat := 92
abbrev f_ref04_Read : Nat := 93
abbrev f_ref04_Sign : Nat := 94
abbrev f_ref04_One : Nat := 95
abbrev f_class_Not : Nat := 96
abbrev f_class_Read_1 : Nat := 97
abbrev f_class_Or : Nat := 98
abbrev f_class_Span : Nat := 99
abbrev f_ref04_Not : Nat := 100
abbrev f_ref04_Or : Nat := 101
abbrev f_ref04_Span : Nat := 102
abbrev f_ref04_with : Nat := 103
abbrev f_ref04_Has : Nat := 104
def o_law15_ScanTokens_0 : List AOp := [
 aQ 2 (.asg (.c (.d (.bool false))))]
def o_law15_ScanTokens_1 : List AOp := [
 aQ 10 (.callZ (.f f_law15_shown) []),
 aQ 3 (.asg (.t 10))]
def o_law15_ScanTokens_2 : List AOp := [
 aQ 11 (.mov (.t 0)),
 aQ 12 (.lenS (.t 11)),
 aQ 13 (.bin .gtr (.t 12) (.c (.nat .i64 3000)))]
def o_law15_ScanTokens_3 : List AOp := [
 aQ 14 (.mov (.t 3)),
 aQ 2 (.asg (.t 14))]
def o_law15_ScanTokens_4 : List AOp := [
 aQ 16 (.mov (.t 0)),
 aQ 17 (.call (.f f_scan_Tokens) [.t 16]),
 aQ 15 (.mov (.t 17)),
 aQ 18 (.extr (.t 15) 0),
 aQ 19 (.extr (.t 15) 1),
 aQ 20 (.extr (.t 15) 2),
 aQ 4 (.asg (.t 18)),
 aQ 5 (.asg (.t 19)),
 aQ 6 (.asg (.t 20))]
def o_law15_ScanTokens_5 : List AOp := [
 aQ 22 (.mov (.t 0)),
 aQ 23 (.call (.f f_ref15_Tokens) [.t 22]),
 aQ 21 (.mov (.t 23)),
 aQ 24 (.extr (.t 21) 0),
 aQ 25 (.extr (.t 21) 1),
 aQ 26 (.extr (.t 21) 2),
 aQ 7 (.asg (.t 24)),
 aQ 8 (.asg (.t 25)),
 aQ 9 (.asg (.t 26))]
def o_law15_ScanTokens_6 : List AOp := [
 aQ 27 (.mov (.t 3)),
 aQ 28 (.mov (.t 27)),
 gQ 29 (.mov (.t 4)) 28 true,
 gQ 30 (.mov (.t 7)) 28 true,
 gQ 31 (.call (.f f_ref15_Same) [.t 29, .t 30]) 28 true,
 aQ 32 (.pick (.t 28) (.t 31) (.c (.d (.bool false)))),
 aQ 33 (.mov (.t 32)),
 gQ 34 (.mov (.t 5)) 33 true,
 gQ 35 (.mov (.t 8)) 33 true,
 gQ 36 (.bin .eql (.t 34) (.t 35)) 33 true,
 aQ 37 (.pick (.t 33) (.t 36) (.c (.d (.bool false)))),
 aQ 38 (.mov (.t 37)),
 gQ 39 (.mov (.t 6)) 38 true,
 gQ 40 (.mov (.t 9)) 38 true,
 gQ 41 (.bin .eql (.t 39) (.t 40)) 38 true,
 aQ 42 (.pick (.t 38) (.t 41) (.c (.d (.bool false)))),
 aQ 43 (.mov (.t 42)),
 gQ 44 (.call (.f f_scan_Keys) []) 43 true,
 gQ 45 (.call (.f f_ref15_Keys) []) 43 true,
 gQ 46 (.call (.f f_ref15_Texts) [.t 44, .t 45]) 43 true,
 aQ 47 (.pick (.t 43) (.t 46) (.c (.d (.bool false)))),
 aQ 48 (.mov (.t 47)),
 gQ 49 (.call (.f f_scan_Marks) []) 48 true,
 gQ 50 (.call (.f f_ref15_Marks) []) 48 true,
 gQ 51 (.call (.f f_ref15_Texts) [.t 49, .t 50]) 48 true,
 aQ 52 (.pick (.t 48) (.t 51) (.c (.d (.bool false)))),
 aQ 2 (.asg (.t 52))]
def c_law15_ScanTokens : AC :=
 (.seq (.ops o_law15_ScanTokens_0)
 (.seq (.ops o_law15_ScanTokens_1)
 (.seq (.seq (.ops o_law15_ScanTokens_2)
 (.cond (.t 13) (.seq (.ops o_law15_ScanTokens_3)
 .ret) .skip))
 (.seq (.ops o_law15_ScanTokens_4)
 (.seq (.ops o_law15_ScanTokens_5)
 (.seq (.ops o_law15_ScanTokens_6)
 .ret))))))
def a_law15_ScanTokens : AFn := { body := c_law15_ScanTokens, res := [.tmp 2] }
def o_law15_shown_0 : List AOp := [
 aQ 0 (.asg (.c (.d (.bool false))))]
def o_law15_shown_1 : List AOp := [
 aQ 8 (.call (.f f_scan_Tokens) [.c (.d (.str [97, 32, 47, 98, 47, 32, 50]))]),
 aQ 7 (.mov (.t 8)),
 aQ 9 (.extr (.t 7) 0),
 aQ 10 (.extr (.t 7) 1),
 aQ 11 (.extr (.t 7) 2),
 aQ 1 (.asg (.t 9)),
 aQ 2 (.asg (.t 10)),
 aQ 3 (.asg (.t 11))]
def o_law15_shown_2 : List AOp := [
 aQ 13 (.call (.f f_scan_Tokens) [.c (.d (.str [126, 32, 47, 98, 47]))]),
 aQ 12 (.mov (.t 13)),
 aQ 14 (.extr (.t 12) 0),
 aQ 15 (.extr (.t 12) 1),
 aQ 16 (.extr (.t 12) 2),
 aQ 4 (.asg (.t 14)),
 aQ 5 (.asg (.t 15)),
 aQ 6 (.asg (.t 16))]
def o_law15_shown_3 : List AOp := [
 aQ 17 (.mov (.t 2)),
 aQ 18 (.bin .eql (.t 17) (.c (.nat .i64 0))),
 aQ 19 (.mov (.t 18)),
 gQ 20 (.mov (.t 1)) 19 true,
 gQ 21 (.len (.t 20)) 19 true,
 gQ 22 (.bin .eql (.t 21) (.c (.nat .i64 6))) 19 true,
 aQ 23 (.pick (.t 19) (.t 22) (.c (.d (.bool false)))),
 aQ 24 (.mov (.t 23)),
 gQ 25 (.mov (.t 1)) 24 true,
 gQ 26 (.idxA none 4 (.t 25) (.c (.nat .i64 1))) 24 true,
 gQ 27 (.fldA 0 (.t 26)) 24 true,
 gQ 28 (.load none (.t 27)) 24 true,
 gQ 29 (.bin .eql (.t 28) (.c (.nat .i64 7))) 24 true,
 aQ 30 (.pick (.t 24) (.t 29) (.c (.d (.bool false)))),
 aQ 31 (.mov (.t 30)),
 gQ 32 (.mov (.t 1)) 31 true,
 gQ 33 (.idxA none 4 (.t 32) (.c (.nat .i64 4))) 31 true,
 gQ 34 (.fldA 3 (.t 33)) 31 true,
 gQ 35 (.load none (.t 34)) 31 true,
 gQ 36 (.bin .eql (.t 35) (.c (.nat .i64 2000000))) 31 true,
 aQ 37 (.pick (.t 31) (.t 36) (.c (.d (.bool false)))),
 aQ 38 (.mov (.t 37)),
 gQ 39 (.mov (.t 5)) 38 true,
 gQ 40 (.bin .eql (.t 39) (.c (.nat .i64 0))) 38 true,
 aQ 41 (.pick (.t 38) (.t 40) (.c (.d (.bool false)))),
 aQ 42 (.mov (.t 41)),
 gQ 43 (.mov (.t 4)) 42 true,
 gQ 44 (.len (.t 43)) 42 true,
 gQ 45 (.bin .eql (.t 44) (.c (.nat .i64 3))) 42 true,
 aQ 46 (.pick (.t 42) (.t 45) (.c (.d (.bool false)))),
 aQ 47 (.mov (.t 46)),
 gQ 48 (.mov (.t 4)) 47 true,
 gQ 49 (.idxA none 4 (.t 48) (.c (.nat .i64 1))) 47 true,
 gQ 50 (.fldA 0 (.t 49)) 47 true,
 gQ 51 (.load none (.t 50)) 47 true,
 gQ 52 (.bin .eql (.t 51) (.c (.nat .i64 4))) 47 true,
 aQ 53 (.pick (.t 47) (.t 52) (.c (.d (.bool false)))),
 aQ 54 (.mov (.t 53)),
 gQ 55 (.mov (.t 4)) 54 true,
 gQ 56 (.idxA none 4 (.t 55) (.c (.nat .i64 1))) 54 true,
 gQ 57 (.fldA 2 (.t 56)) 54 true,
 gQ 58 (.load none (.t 57)) 54 true,
 gQ 59 (.bin .eql (.t 58) (.c (.d (.str [98])))) 54 true,
 aQ 60 (.pick (.t 54) (.t 59) (.c (.d (.bool false)))),
 aQ 0 (.asg (.t 60))]
def c_law15_shown : AC :=
 (.seq (.ops o_law15_shown_0)
 (.seq (.ops o_law15_shown_1)
 (.seq (.ops o_law15_shown_2)
 (.seq (.ops o_law15_shown_3)
 .ret))))
def a_law15_shown : AFn := { body := c_law15_shown, res := [.tmp 0] }
def o_scan_Tokens_0 : List AOp := [
 aQ 2 (.asg (.c (.nil))),
 aQ 3 (.asg (.c (.nat .i64 0))),
 aQ 4 (.asg (.c (.nat .i64 0)))]
def o_scan_Tokens_1 : List AOp := [
 aQ 5 (.asg (.c (.nil)))]
def o_scan_Tokens_2 : List AOp := [
 aQ 6 (.asg (.c (.nat .i64 6))),
 aQ 7 (.asg (.c (.nat .i64 0))),
 aQ 8 (.asg (.c (.d (.bool false))))]
def o_scan_Tokens_3 : List AOp := [
 aQ 11 (.mov (.t 0)),
 aQ 12 (.lenS (.t 11)),
 aQ 13 (.bin .gtr (.t 12) (.c (.nat .i64 8192)))]
def o_scan_Tokens_4 : List AOp := [
 aQ 14 (.build [.nat .i64 0, .nat .i64 0, .d (.str []), .nat .i64 0] []),
 aQ 9 (.alloc [.nat .i64 0, .nat .i64 0, .d (.str []), .nat .i64 0]),
 { dst := none, op := .store 4 (.t 9) (.t 14) },
 aQ 10 (.asg (.c (.nat .i64 1)))]
def o_scan_Tokens_5 : List AOp := [
 aQ 15 (.mov (.t 0)),
 aQ 16 (.mov (.t 7)),
 aQ 17 (.call (.f f_scan_skip) [.t 15, .t 16]),
 aQ 7 (.asg (.t 17))]
def o_scan_Tokens_6 : List AOp := [
 aQ 18 (.mov (.t 7)),
 aQ 19 (.mov (.t 0)),
 aQ 20 (.lenS (.t 19)),
 aQ 21 (.bin .lss (.t 18) (.t 20))]
def o_scan_Tokens_7 : List AOp := [
 aQ 23 (.mov (.t 0)),
 aQ 24 (.mov (.t 7)),
 aQ 25 (.sliceS (.t 23) (some (.t 24)) none),
 aQ 26 (.mov (.t 8)),
 aQ 27 (.call (.f f_scan_next) [.t 25, .t 26]),
 aQ 22 (.mov (.t 27)),
 aQ 28 (.extr (.t 22) 0),
 aQ 29 (.extr (.t 22) 1),
 { dst := none, op := .store 4 (.t 9) (.t 28) },
 aQ 10 (.asg (.t 29))]
def o_scan_Tokens_8 : List AOp := [
 aQ 31 (.mov (.t 10)),
 aQ 32 (.bin .lss (.t 31) (.c (.nat .i64 0))),
 aQ 30 (.asg (.t 32))]
def o_scan_Tokens_9 : List AOp := [
 aQ 6 (.asg (.c (.nat .i64 3)))]
def o_scan_Tokens_10 : List AOp := [
 aQ 34 (.mov (.t 10)),
 aQ 35 (.bin .eql (.t 34) (.c (.nat .i64 0))),
 aQ 33 (.asg (.t 35))]
def o_scan_Tokens_11 : List AOp := [
 aQ 6 (.asg (.c (.nat .i64 9)))]
def o_scan_Tokens_12 : List AOp := [
 aQ 37 (.mov (.t 5)),
 aQ 38 (.len (.t 37)),
 aQ 39 (.bin .geq (.t 38) (.c (.nat .i64 2000))),
 aQ 36 (.asg (.t 39))]
def o_scan_Tokens_13 : List AOp := [
 aQ 40 (.mov (.t 7)),
 aQ 41 (.fldA 1 (.t 9)),
 { dst := none, op := .store 1 (.t 41) (.t 40) }]
def o_scan_Tokens_14 : List AOp := [
 aQ 42 (.take 5),
 aQ 43 (.load (some 4) (.t 9)),
 aQ 44 (.mkls 4 [.nat .i64 0, .nat .i64 0, .d (.str []), .nat .i64 0] [(0, 4, (.t 43))]),
 aQ 45 (.append 4 (.t 42) (.t 44)),
 aQ 5 (.asg (.t 45))]
def o_scan_Tokens_15 : List AOp := [
 aQ 46 (.fldA 0 (.t 9)),
 aQ 47 (.load none (.t 46)),
 aQ 48 (.bin .eql (.t 47) (.c (.nat .i64 0)))]
def o_scan_Tokens_16 : List AOp := [
 aQ 49 (.mov (.t 5)),
 aQ 2 (.asg (.t 49)),
 aQ 3 (.asg (.c (.nat .i64 0))),
 aQ 4 (.asg (.c (.nat .i64 0)))]
def o_scan_Tokens_17 : List AOp := [
 aQ 50 (.load (some 4) (.t 9)),
 aQ 51 (.call (.f f_scan_Operand) [.t 50]),
 aQ 8 (.asg (.t 51))]
def o_scan_Tokens_18 : List AOp := [
 aQ 52 (.mov (.t 7)),
 aQ 53 (.mov (.t 10)),
 aQ 54 (.bin .add (.t 52) (.t 53)),
 aQ 7 (.asg (.t 54))]
def b_scan_Tokens_0 : AC := (.trim [0, 5, 6, 7, 8] (.block 1 (.seq (.ops o_scan_Tokens_4)
 (.seq (.seq (.ops o_scan_Tokens_5)
 (.seq (.ops o_scan_Tokens_6)
 (.cond (.t 21) (.ops o_scan_Tokens_7) .skip)))
 (.seq (.trim [0, 5, 6, 7, 9, 10] (.block 2 (.seq (.ops o_scan_Tokens_8)
 (.cond (.t 30) (.seq (.ops o_scan_Tokens_9)
 (.goto 0)) (.seq (.ops o_scan_Tokens_10)
 (.cond (.t 33) (.seq (.ops o_scan_Tokens_11)
 (.goto 0)) (.seq (.ops o_scan_Tokens_12)
 (.cond (.t 36) (.goto 0) .skip))))))))
 (.seq (.ops o_scan_Tokens_13)
 (.seq (.ops o_scan_Tokens_14)
 (.seq (.seq (.ops o_scan_Tokens_15)
 (.cond (.t 48) (.seq (.ops o_scan_Tokens_16)
 .ret) .skip))
 (.seq (.ops o_scan_Tokens_17)
 (.ops o_scan_Tokens_18))))))))))
def o_scan_Tokens_19 : List AOp := [
 aQ 55 (.mov (.t 6)),
 aQ 56 (.mov (.t 7)),
 aQ 2 (.asg (.c (.nil))),
 aQ 3 (.asg (.t 55)),
 aQ 4 (.asg (.t 56))]
def c_scan_Tokens : AC :=
 (.seq (.ops o_scan_Tokens_0)
 (.scope 0 (.seq (.ops o_scan_Tokens_1)
 (.seq (.ops o_scan_Tokens_2)
 (.seq (.seq (.ops o_scan_Tokens_3)
 (.cond (.t 13) (.goto 0) .skip))
 (.seq (.trim [6, 7] (.block 0 (.loop [0, 5, 6, 7, 8] b_scan_Tokens_0)))
 (.seq .label
 (.seq (.ops o_scan_Tokens_19)
 .ret)))))) (.seq .skip
 (.seq (.ops o_scan_Tokens_19)
 .ret))))
def a_scan_Tokens : AFn := { body := c_scan_Tokens, res := [.tmp 2, .tmp 3, .tmp 4] }
def o_ref15_Tokens_0 : List AOp := [
 aQ 2 (.asg (.c (.nil))),
 aQ 3 (.asg (.c (.nat .i64 0))),
 aQ 4 (.asg (.c (.nat .i64 0)))]
def o_ref15_Tokens_1 : List AOp := [
 aQ 10 (.mov (.t 0)),
 aQ 11 (.lenS (.t 10)),
 aQ 12 (.bin .gtr (.t 11) (.c (.nat .i64 8192)))]
def o_ref15_Tokens_2 : List AOp := [
 aQ 2 (.asg (.c (.nil))),
 aQ 3 (.asg (.c (.nat .i64 6))),
 aQ 4 (.asg (.c (.nat .i64 0)))]
def o_ref15_Tokens_3 : List AOp := [
 aQ 5 (.asg (.c (.nil)))]
def o_ref15_Tokens_4 : List AOp := [
 aQ 6 (.asg (.c (.nat .i64 0)))]
def o_ref15_Tokens_5 : List AOp := [
 aQ 13 (.mov (.t 6)),
 aQ 14 (.mov (.t 0)),
 aQ 15 (.lenS (.t 14)),
 aQ 16 (.bin .lss (.t 13) (.t 15)),
 aQ 17 (.mov (.t 16)),
 gQ 18 (.mov (.t 0)) 17 true,
 gQ 19 (.mov (.t 6)) 17 true,
 gQ 20 (.idxS (.t 18) (.t 19)) 17 true,
 gQ 21 (.bin .eql (.t 20) (.c (.nat .u8 32))) 17 true,
 gQ 22 (.mov (.t 21)) 17 true,
 gQ 23 (.mov (.t 0)) 22 false,
 gQ 24 (.mov (.t 6)) 22 false,
 gQ 25 (.idxS (.t 23) (.t 24)) 22 false,
 gQ 26 (.bin .eql (.t 25) (.c (.nat .u8 9))) 22 false,
 gQ 27 (.pick (.t 22) (.c (.d (.bool true))) (.t 26)) 17 true,
 gQ 28 (.mov (.t 27)) 17 true,
 gQ 29 (.mov (.t 0)) 28 false,
 gQ 30 (.mov (.t 6)) 28 false,
 gQ 31 (.idxS (.t 29) (.t 30)) 28 false,
 gQ 32 (.bin .eql (.t 31) (.c (.nat .u8 35))) 28 false,
 gQ 33 (.pick (.t 28) (.c (.d (.bool true))) (.t 32)) 17 true,
 aQ 34 (.pick (.t 17) (.t 33) (.c (.d (.bool false))))]
def o_ref15_Tokens_6 : List AOp := [
 aQ 35 (.mov (.t 0)),
 aQ 36 (.mov (.t 6)),
 aQ 37 (.idxS (.t 35) (.t 36)),
 aQ 38 (.bin .eql (.t 37) (.c (.nat .u8 35)))]
def o_ref15_Tokens_7 : List AOp := [
 aQ 39 (.mov (.t 6)),
 aQ 40 (.mov (.t 0)),
 aQ 41 (.lenS (.t 40)),
 aQ 42 (.bin .lss (.t 39) (.t 41)),
 aQ 43 (.mov (.t 42)),
 gQ 44 (.mov (.t 0)) 43 true,
 gQ 45 (.mov (.t 6)) 43 true,
 gQ 46 (.idxS (.t 44) (.t 45)) 43 true,
 gQ 47 (.bin .neq (.t 46) (.c (.nat .u8 10))) 43 true,
 aQ 48 (.pick (.t 43) (.t 47) (.c (.d (.bool false))))]
def o_ref15_Tokens_8 : List AOp := [
 aQ 49 (.mov (.t 6)),
 aQ 50 (.bin .add (.t 49) (.c (.nat .i64 1))),
 aQ 6 (.asg (.t 50))]
def b_ref15_Tokens_0 : AC := (.seq (.seq (.ops o_ref15_Tokens_7)
 (.cond (.t 48) .skip (.exit 4)))
 (.trim [0, 5, 6] (.block 5 (.ops o_ref15_Tokens_8))))
def o_ref15_Tokens_9 : List AOp := [
 aQ 51 (.mov (.t 6)),
 aQ 52 (.bin .add (.t 51) (.c (.nat .i64 1))),
 aQ 6 (.asg (.t 52))]
def b_ref15_Tokens_1 : AC := (.seq (.seq (.ops o_ref15_Tokens_5)
 (.cond (.t 34) .skip (.exit 2)))
 (.trim [0, 5, 6] (.block 3 (.seq (.ops o_ref15_Tokens_6)
 (.cond (.t 38) (.trim [0, 5, 6] (.block 4 (.loop [0, 5, 6] b_ref15_Tokens_0))) (.ops o_ref15_Tokens_9))))))
def o_ref15_Tokens_10 : List AOp := [
 aQ 53 (.build [.nat .i64 0, .nat .i64 0, .d (.str []), .nat .i64 0] []),
 aQ 7 (.alloc [.nat .i64 0, .nat .i64 0, .d (.str []), .nat .i64 0]),
 { dst := none, op := .store 4 (.t 7) (.t 53) }]
def o_ref15_Tokens_11 : List AOp := [
 aQ 54 (.mov (.t 6)),
 aQ 8 (.asg (.t 54))]
def o_ref15_Tokens_12 : List AOp := [
 aQ 9 (.asg (.c (.nat .i64 0)))]
def o_ref15_Tokens_13 : List AOp := [
 aQ 55 (.mov (.t 6)),
 aQ 56 (.mov (.t 0)),
 aQ 57 (.lenS (.t 56)),
 aQ 58 (.bin .lss (.t 55) (.t 57))]
def o_ref15_Tokens_14 : List AOp := [
 aQ 60 (.mov (.t 0)),
 aQ 61 (.mov (.t 6)),
 aQ 62 (.mov (.t 5)),
 aQ 63 (.len (.t 62)),
 aQ 64 (.bin .gtr (.t 63) (.c (.nat .i64 0))),
 aQ 65 (.mov (.t 64)),
 gQ 66 (.mov (.t 5)) 65 true,
 gQ 67 (.mov (.t 5)) 65 true,
 gQ 68 (.len (.t 67)) 65 true,
 gQ 69 (.bin .sub (.t 68) (.c (.nat .i64 1))) 65 true,
 gQ 70 (.idxA none 4 (.t 66) (.t 69)) 65 true,
 gQ 71 (.load (some 4) (.t 70)) 65 true,
 gQ 72 (.call (.f f_ref15_Operand) [.t 71]) 65 true,
 aQ 73 (.pick (.t 65) (.t 72) (.c (.d (.bool false)))),
 aQ 74 (.call (.f f_ref15_one) [.t 60, .t 61, .t 73]),
 aQ 59 (.mov (.t 74)),
 aQ 75 (.extr (.t 59) 0),
 aQ 76 (.extr (.t 59) 1),
 aQ 77 (.extr (.t 59) 2),
 { dst := none, op := .store 4 (.t 7) (.t 75) },
 aQ 8 (.asg (.t 76)),
 aQ 9 (.asg (.t 77))]
def o_ref15_Tokens_15 : List AOp := [
 aQ 78 (.mov (.t 9)),
 aQ 79 (.bin .neq (.t 78) (.c (.nat .i64 0)))]
def o_ref15_Tokens_16 : List AOp := [
 aQ 80 (.mov (.t 9)),
 aQ 81 (.mov (.t 6)),
 aQ 2 (.asg (.c (.nil))),
 aQ 3 (.asg (.t 80)),
 aQ 4 (.asg (.t 81))]
def o_ref15_Tokens_17 : List AOp := [
 aQ 82 (.mov (.t 5)),
 aQ 83 (.len (.t 82)),
 aQ 84 (.bin .eql (.t 83) (.c (.nat .i64 2000)))]
def o_ref15_Tokens_18 : List AOp := [
 aQ 85 (.mov (.t 6)),
 aQ 2 (.asg (.c (.nil))),
 aQ 3 (.asg (.c (.nat .i64 6))),
 aQ 4 (.asg (.t 85))]
def o_ref15_Tokens_19 : List AOp := [
 aQ 86 (.mov (.t 6)),
 aQ 87 (.fldA 1 (.t 7)),
 { dst := none, op := .store 1 (.t 87) (.t 86) }]
def o_ref15_Tokens_20 : List AOp := [
 aQ 88 (.take 5),
 aQ 89 (.load (some 4) (.t 7)),
 aQ 90 (.mkls 4 [.nat .i64 0, .nat .i64 0, .d (.str []), .nat .i64 0] [(0, 4, (.t 89))]),
 aQ 91 (.append 4 (.t 88) (.t 90)),
 aQ 5 (.asg (.t 91))]
def o_ref15_Tokens_21 : List AOp := [
 aQ 92 (.fldA 0 (.t 7)),
 aQ 93 (.load none (.t 92)),
 aQ 94 (.bin .eql (.t 93) (.c (.nat .i64 0)))]
def o_ref15_Tokens_22 : List AOp := [
 aQ 95 (.mov (.t 5)),
 aQ 2 (.asg (.t 95)),
 aQ 3 (.asg (.c (.nat .i64 0))),
 aQ 4 (.asg (.c (.nat .i64 0)))]
def o_ref15_Tokens_23 : List AOp := [
 aQ 96 (.mov (.t 8)),
 aQ 6 (.asg (.t 96))]
def b_ref15_Tokens_2 : AC := (.trim [0, 5, 6] (.block 1 (.seq (.trim [0, 5, 6] (.block 2 (.loop [0, 5, 6] b_ref15_Tokens_1)))
 (.seq (.ops o_ref15_Tokens_10)
 (.seq (.ops o_ref15_Tokens_11)
 (.seq (.ops o_ref15_Tokens_12)
 (.seq (.seq (.ops o_ref15_Tokens_13)
 (.cond (.t 58) (.ops o_ref15_Tokens_14) .skip))
 (.seq (.seq (.ops o_ref15_Tokens_15)
 (.cond (.t 79) (.seq (.ops o_ref15_Tokens_16)
 .ret) .skip))
 (.seq (.seq (.ops o_ref15_Tokens_17)
 (.cond (.t 84) (.seq (.ops o_ref15_Tokens_18)
 .ret) .skip))
 (.seq (.ops o_ref15_Tokens_19)
 (.seq (.ops o_ref15_Tokens_20)
 (.seq (.seq (.ops o_ref15_Tokens_21)
 (.cond (.t 94) (.seq (.ops o_ref15_Tokens_22)
 .ret) .skip))
 (.ops o_ref15_Tokens_23)))))))))))))
def c_ref15_Tokens : AC :=
 (.seq (.ops o_ref15_Tokens_0)
 (.seq (.seq (.ops o_ref15_Tokens_1)
 (.cond (.t 12) (.seq (.ops o_ref15_Tokens_2)
 .ret) .skip))
 (.seq (.ops o_ref15_Tokens_3)
 (.seq (.ops o_ref15_Tokens_4)
 (.trim [2, 3, 4] (.block 0 (.loop [0, 5, 6] b_ref15_Tokens_2)))))))
def a_ref15_Tokens : AFn := { body := c_ref15_Tokens, res := [.tmp 2, .tmp 3, .tmp 4] }
def o_ref15_Same_0 : List AOp := [
 aQ 4 (.asg (.c (.d (.bool false))))]
def o_ref15_Same_1 : List AOp := [
 aQ 6 (.mov (.t 0)),
 aQ 7 (.len (.t 6)),
 aQ 8 (.mov (.t 1)),
 aQ 9 (.len (.t 8)),
 aQ 10 (.bin .neq (.t 7) (.t 9))]
def o_ref15_Same_2 : List AOp := [
 aQ 4 (.asg (.c (.d (.bool false))))]
def o_ref15_Same_3 : List AOp := [
 aQ 5 (.asg (.c (.nat .i64 0)))]
def o_ref15_Same_4 : List AOp := [
 aQ 11 (.mov (.t 5)),
 aQ 12 (.mov (.t 0)),
 aQ 13 (.len (.t 12)),
 aQ 14 (.bin .lss (.t 11) (.t 13))]
def o_ref15_Same_6 : List AOp := [
 mQ 17 (.mov (.t 0)),
 mQ 18 (.mov (.t 5)),
 mQ 19 (.idxA none 4 (.t 17) (.t 18)),
 mQ 20 (.load (some 4) (.t 19)),
 mQ 21 (.mov (.t 1)),
 mQ 22 (.mov (.t 5)),
 mQ 23 (.idxA none 4 (.t 21) (.t 22)),
 mQ 24 (.load (some 4) (.t 23)),
 aQ 25 (.eqc true [.int .i64, .int .i64, .str, .int .i64] (.t 20) (.t 24))]
def o_ref15_Same_7 : List AOp := [
 aQ 4 (.asg (.c (.d (.bool false))))]
def o_ref15_Same_5 : List AOp := [
 aQ 15 (.mov (.t 5)),
 aQ 16 (.bin .add (.t 15) (.c (.nat .i64 1))),
 aQ 5 (.asg (.t 16))]
def b_ref15_Same_0 : AC := (.seq (.seq (.ops o_ref15_Same_4)
 (.cond (.t 14) .skip (.exit 0)))
 (.seq (.trim [0, 1, 5] (.block 1 (.seq (.ops o_ref15_Same_6)
 (.cond (.t 25) (.seq (.ops o_ref15_Same_7)
 .ret) .skip))))
 (.ops o_ref15_Same_5)))
def o_ref15_Same_8 : List AOp := [
 aQ 4 (.asg (.c (.d (.bool true))))]
def c_ref15_Same : AC :=
 (.seq (.ops o_ref15_Same_0)
 (.seq (.seq (.ops o_ref15_Same_1)
 (.cond (.t 10) (.seq (.ops o_ref15_Same_2)
 .ret) .skip))
 (.seq (.seq (.ops o_ref15_Same_3)
 (.trim [] (.block 0 (.loop [0, 1, 5] b_ref15_Same_0))))
 (.seq (.ops o_ref15_Same_8)
 .ret))))
def a_ref15_Same : AFn := { body := c_ref15_Same, res := [.tmp 4] }
def o_ref15_Texts_0 : List AOp := [
 aQ 4 (.asg (.c (.d (.bool false))))]
def o_ref15_Texts_1 : List AOp := [
 aQ 5 (.mov (.t 0)),
 aQ 6 (.mov (.t 1)),
 aQ 7 (.call (.f f_ref07_Same) [.t 5, .t 6]),
 aQ 4 (.asg (.t 7))]
def c_ref15_Texts : AC :=
 (.seq (.ops o_ref15_Texts_0)
 (.seq (.ops o_ref15_Texts_1)
 .ret))
def a_ref15_Texts : AFn := { body := c_ref15_Texts, res := [.tmp 4] }
def o_scan_Keys_0 : List AOp := [
 aQ 0 (.asg (.c (.nil)))]
def o_scan_Keys_1 : List AOp := [
 aQ 1 (.call (.f f_strings_Split) [.c (.d (.str [66, 69, 71, 73, 78, 32, 69, 78, 68, 32, 112, 114, 105, 110, 116, 32, 105, 102, 32, 101, 108, 115, 101, 32, 119, 104, 105, 108, 101, 32, 102, 111, 114, 32, 105, 110, 32, 98, 114, 101, 97, 107, 32, 99, 111, 110, 116, 105, 110, 117, 101, 32, 110, 101, 120, 116, 32, 101, 120, 105, 116, 32, 100, 101, 108, 101, 116, 101, 32, 108, 101, 110, 103, 116, 104, 32, 115, 117, 98, 115, 116, 114, 32, 105, 110, 100, 101, 120, 32, 116, 111, 117, 112, 112, 101, 114, 32, 116, 111, 108, 111, 119, 101, 114, 32, 115, 117, 98, 32, 103, 115, 117, 98])), .c (.d (.str [32]))]),
 aQ 0 (.asg (.t 1))]
def c_scan_Keys : AC :=
 (.seq (.ops o_scan_Keys_0)
 (.seq (.ops o_scan_Keys_1)
 .ret))
def a_scan_Keys : AFn := { body := c_scan_Keys, res := [.tmp 0] }
def o_ref15_Keys_0 : List AOp := [
 aQ 0 (.asg (.c (.nil)))]
def o_ref15_Keys_1 : List AOp := [
 aQ 1 (.mkls 1 [.d (.str []), .d (.str []), .d (.str []), .d (.str []), .d (.str []), .d (.str []), .d (.str []), .d (.str []), .d (.str []), .d (.str []), .d (.str []), .d (.str []), .d (.str []), .d (.str []), .d (.str []), .d (.str []), .d (.str []), .d (.str []), .d (.str []), .d (.str [])] [(0, 1, (.c (.d (.str [66, 69, 71, 73, 78])))), (1, 1, (.c (.d (.str [69, 78, 68])))), (2, 1, (.c (.d (.str [112, 114, 105, 110, 116])))), (3, 1, (.c (.d (.str [105, 102])))), (4, 1, (.c (.d (.str [101, 108, 115, 101])))), (5, 1, (.c (.d (.str [119, 104, 105, 108, 101])))), (6, 1, (.c (.d (.str [102, 111, 114])))), (7, 1, (.c (.d (.str [105, 110])))), (8, 1, (.c (.d (.str [98, 114, 101, 97, 107])))), (9, 1, (.c (.d (.str [99, 111, 110, 116, 105, 110, 117, 101])))), (10, 1, (.c (.d (.str [110, 101, 120, 116])))), (11, 1, (.c (.d (.str [101, 120, 105, 116])))), (12, 1, (.c (.d (.str [100, 101, 108, 101, 116, 101])))), (13, 1, (.c (.d (.str [108, 101, 110, 103, 116, 104])))), (14, 1, (.c (.d (.str [115, 117, 98, 115, 116, 114])))), (15, 1, (.c (.d (.str [105, 110, 100, 101, 120])))), (16, 1, (.c (.d (.str [116, 111, 117, 112, 112, 101, 114])))), (17, 1, (.c (.d (.str [116, 111, 108, 111, 119, 101, 114])))), (18, 1, (.c (.d (.str [115, 117, 98])))), (19, 1, (.c (.d (.str [103, 115, 117, 98]))))]),
 aQ 0 (.asg (.t 1))]
def c_ref15_Keys : AC :=
 (.seq (.ops o_ref15_Keys_0)
 (.seq (.ops o_ref15_Keys_1)
 .ret))
def a_ref15_Keys : AFn := { body := c_ref15_Keys, res := [.tmp 0] }
def o_scan_Marks_0 : List AOp := [
 aQ 0 (.asg (.c (.nil)))]
def o_scan_Marks_1 : List AOp := [
 aQ 1 (.call (.f f_strings_Split) [.c (.d (.str [123, 32, 125, 32, 40, 32, 41, 32, 91, 32, 93, 32, 44, 32, 63, 32, 58, 32, 126, 32, 33, 126, 32, 33, 32, 61, 61, 32, 33, 61, 32, 60, 61, 32, 62, 61, 32, 60, 32, 62, 32, 38, 38, 32, 124, 124, 32, 61, 32, 43, 61, 32, 45, 61, 32, 42, 61, 32, 47, 61, 32, 37, 61, 32, 43, 32, 45, 32, 42, 32, 47, 32, 37, 32, 36])), .c (.d (.str [32]))]),
 aQ 0 (.asg (.t 1))]
def c_scan_Marks : AC :=
 (.seq (.ops o_scan_Marks_0)
 (.seq (.ops o_scan_Marks_1)
 .ret))
def a_scan_Marks : AFn := { body := c_scan_Marks, res := [.tmp 0] }
def o_ref15_Marks_0 : List AOp := [
 aQ 0 (.asg (.c (.nil)))]
def o_ref15_Marks_1 : List AOp := [
 aQ 1 (.mkls 1 [.d (.str []), .d (.str []), .d (.str []), .d (.str []), .d (.str []), .d (.str []), .d (.str []), .d (.str []), .d (.str []), .d (.str []), .d (.str []), .d (.str []), .d (.str []), .d (.str []), .d (.str []), .d (.str []), .d (.str []), .d (.str []), .d (.str []), .d (.str []), .d (.str []), .d (.str []), .d (.str []), .d (.str []), .d (.str []), .d (.str []), .d (.str []), .d (.str []), .d (.str []), .d (.str []), .d (.str []), .d (.str [])] [(0, 1, (.c (.d (.str [123])))), (1, 1, (.c (.d (.str [125])))), (2, 1, (.c (.d (.str [40])))), (3, 1, (.c (.d (.str [41])))), (4, 1, (.c (.d (.str [91])))), (5, 1, (.c (.d (.str [93])))), (6, 1, (.c (.d (.str [44])))), (7, 1, (.c (.d (.str [63])))), (8, 1, (.c (.d (.str [58])))), (9, 1, (.c (.d (.str [126])))), (10, 1, (.c (.d (.str [33, 126])))), (11, 1, (.c (.d (.str [33])))), (12, 1, (.c (.d (.str [61, 61])))), (13, 1, (.c (.d (.str [33, 61])))), (14, 1, (.c (.d (.str [60, 61])))), (15, 1, (.c (.d (.str [62, 61])))), (16, 1, (.c (.d (.str [60])))), (17, 1, (.c (.d (.str [62])))), (18, 1, (.c (.d (.str [38, 38])))), (19, 1, (.c (.d (.str [124, 124])))), (20, 1, (.c (.d (.str [61])))), (21, 1, (.c (.d (.str [43, 61])))), (22, 1, (.c (.d (.str [45, 61])))), (23, 1, (.c (.d (.str [42, 61])))), (24, 1, (.c (.d (.str [47, 61])))), (25, 1, (.c (.d (.str [37, 61])))), (26, 1, (.c (.d (.str [43])))), (27, 1, (.c (.d (.str [45])))), (28, 1, (.c (.d (.str [42])))), (29, 1, (.c (.d (.str [47])))), (30, 1, (.c (.d (.str [37])))), (31, 1, (.c (.d (.str [36]))))]),
 aQ 0 (.asg (.t 1))]
def c_ref15_Marks : AC :=
 (.seq (.ops o_ref15_Marks_0)
 (.seq (.ops o_ref15_Marks_1)
 .ret))
def a_ref15_Marks : AFn := { body := c_ref15_Marks, res := [.tmp 0] }
def o_scan_skip_0 : List AOp := [
 aQ 4 (.asg (.c (.nat .i64 0)))]
def o_scan_skip_1 : List AOp := [
 aQ 5 (.mov (.t 1)),
 aQ 6 (.mov (.t 0)),
 aQ 7 (.lenS (.t 6)),
 aQ 8 (.bin .lss (.t 5) (.t 7))]
def o_scan_skip_3 : List AOp := [
 aQ 11 (.mov (.t 0)),
 aQ 12 (.mov (.t 1)),
 aQ 13 (.idxS (.t 11) (.t 12)),
 aQ 14 (.bin .eql (.t 13) (.c (.nat .u8 32))),
 aQ 15 (.mov (.t 14)),
 gQ 16 (.mov (.t 0)) 15 false,
 gQ 17 (.mov (.t 1)) 15 false,
 gQ 18 (.idxS (.t 16) (.t 17)) 15 false,
 gQ 19 (.bin .eql (.t 18) (.c (.nat .u8 9))) 15 false,
 aQ 20 (.pick (.t 15) (.c (.d (.bool true))) (.t 19)),
 aQ 10 (.asg (.t 20))]
def o_scan_skip_4 : List AOp := [
 aQ 21 (.mov (.t 1)),
 aQ 22 (.bin .add (.t 21) (.c (.nat .i64 1))),
 aQ 1 (.asg (.t 22))]
def o_scan_skip_5 : List AOp := [
 aQ 24 (.mov (.t 0)),
 aQ 25 (.mov (.t 1)),
 aQ 26 (.idxS (.t 24) (.t 25)),
 aQ 27 (.bin .eql (.t 26) (.c (.nat .u8 35))),
 aQ 23 (.asg (.t 27))]
def o_scan_skip_6 : List AOp := [
 aQ 28 (.mov (.t 1)),
 aQ 29 (.mov (.t 0)),
 aQ 30 (.lenS (.t 29)),
 aQ 31 (.bin .lss (.t 28) (.t 30)),
 aQ 32 (.mov (.t 31)),
 gQ 33 (.mov (.t 0)) 32 true,
 gQ 34 (.mov (.t 1)) 32 true,
 gQ 35 (.idxS (.t 33) (.t 34)) 32 true,
 gQ 36 (.bin .neq (.t 35) (.c (.nat .u8 10))) 32 true,
 aQ 37 (.pick (.t 32) (.t 36) (.c (.d (.bool false))))]
def o_scan_skip_7 : List AOp := [
 aQ 38 (.mov (.t 1)),
 aQ 39 (.bin .add (.t 38) (.c (.nat .i64 1))),
 aQ 1 (.asg (.t 39))]
def b_scan_skip_0 : AC := (.seq (.seq (.ops o_scan_skip_6)
 (.cond (.t 37) .skip (.exit 3)))
 (.trim [0, 1] (.block 4 (.ops o_scan_skip_7))))
def o_scan_skip_2 : List AOp := [
 aQ 9 (.mov (.t 1)),
 aQ 4 (.asg (.t 9))]
def b_scan_skip_1 : AC := (.seq (.seq (.ops o_scan_skip_1)
 (.cond (.t 8) .skip (.exit 0)))
 (.trim [0, 1] (.block 1 (.trim [0, 1] (.block 2 (.seq (.ops o_scan_skip_3)
 (.cond (.t 10) (.ops o_scan_skip_4) (.seq (.ops o_scan_skip_5)
 (.cond (.t 23) (.trim [0, 1] (.block 3 (.loop [0, 1] b_scan_skip_0))) (.seq (.ops o_scan_skip_2)
 .ret))))))))))
def o_scan_skip_8 : List AOp := [
 aQ 40 (.mov (.t 1)),
 aQ 4 (.asg (.t 40))]
def c_scan_skip : AC :=
 (.seq (.ops o_scan_skip_0)
 (.seq (.trim [1] (.block 0 (.loop [0, 1] b_scan_skip_1)))
 (.seq (.ops o_scan_skip_8)
 .ret)))
def a_scan_skip : AFn := { body := c_scan_skip, res := [.tmp 4] }
def o_scan_next_0 : List AOp := [
 aQ 4 (.alloc [.nat .i64 0, .nat .i64 0, .d (.str []), .nat .i64 0]),
 aQ 5 (.asg (.c (.nat .i64 0)))]
def o_scan_next_1 : List AOp := [
 aQ 7 (.mov (.t 0)),
 aQ 8 (.idxS (.t 7) (.c (.nat .i64 0))),
 aQ 6 (.asg (.t 8))]
def o_scan_next_2 : List AOp := [
 aQ 10 (.mov (.t 6)),
 aQ 11 (.bin .eql (.t 10) (.c (.nat .u8 10))),
 aQ 12 (.mov (.t 11)),
 gQ 13 (.mov (.t 6)) 12 false,
 gQ 14 (.bin .eql (.t 13) (.c (.nat .u8 59))) 12 false,
 aQ 15 (.pick (.t 12) (.c (.d (.bool true))) (.t 14)),
 aQ 9 (.asg (.t 15))]
def o_scan_next_3 : List AOp := [
 aQ 16 (.build [.nat .i64 0, .nat .i64 0, .d (.str []), .nat .i64 0] [(0, 1, (.c (.nat .i64 1)))]),
 { dst := none, op := .store 4 (.t 4) (.t 16) },
 aQ 5 (.asg (.c (.nat .i64 1)))]
def o_scan_next_4 : List AOp := [
 aQ 18 (.mov (.t 6)),
 aQ 19 (.call (.f f_scan_isFigure) [.t 18]),
 aQ 17 (.asg (.t 19))]
def o_scan_next_5 : List AOp := [
 aQ 20 (.mov (.t 0)),
 aQ 21 (.call (.f f_scan_number) [.t 20]),
 aQ 22 (.extr (.t 21) 0),
 aQ 23 (.extr (.t 21) 1),
 { dst := none, op := .store 4 (.t 4) (.t 22) },
 aQ 5 (.asg (.t 23))]
def o_scan_next_6 : List AOp := [
 aQ 25 (.mov (.t 6)),
 aQ 26 (.bin .eql (.t 25) (.c (.nat .u8 34))),
 aQ 24 (.asg (.t 26))]
def o_scan_next_7 : List AOp := [
 aQ 27 (.mov (.t 0)),
 aQ 28 (.call (.f f_scan_text) [.t 27]),
 aQ 29 (.extr (.t 28) 0),
 aQ 30 (.extr (.t 28) 1),
 { dst := none, op := .store 4 (.t 4) (.t 29) },
 aQ 5 (.asg (.t 30))]
def o_scan_next_8 : List AOp := [
 aQ 32 (.mov (.t 6)),
 aQ 33 (.bin .eql (.t 32) (.c (.nat .u8 47))),
 aQ 34 (.mov (.t 33)),
 gQ 35 (.mov (.t 1)) 34 true,
 gQ 36 (.un .not (.t 35)) 34 true,
 aQ 37 (.pick (.t 34) (.t 36) (.c (.d (.bool false)))),
 aQ 31 (.asg (.t 37))]
def o_scan_next_9 : List AOp := [
 aQ 38 (.mov (.t 0)),
 aQ 39 (.call (.f f_scan_expression) [.t 38]),
 aQ 40 (.extr (.t 39) 0),
 aQ 41 (.extr (.t 39) 1),
 { dst := none, op := .store 4 (.t 4) (.t 40) },
 aQ 5 (.asg (.t 41))]
def o_scan_next_10 : List AOp := [
 aQ 43 (.mov (.t 0)),
 aQ 44 (.sliceS (.t 43) none (some (.c (.nat .i64 1)))),
 aQ 45 (.call (.f f_hex_IsName) [.t 44]),
 aQ 42 (.asg (.t 45))]
def o_scan_next_11 : List AOp := [
 aQ 46 (.mov (.t 0)),
 aQ 47 (.call (.f f_scan_word) [.t 46]),
 aQ 48 (.extr (.t 47) 0),
 aQ 49 (.extr (.t 47) 1),
 { dst := none, op := .store 4 (.t 4) (.t 48) },
 aQ 5 (.asg (.t 49))]
def o_scan_next_12 : List AOp := [
 aQ 50 (.mov (.t 0)),
 aQ 51 (.call (.f f_scan_mark) [.t 50]),
 aQ 52 (.extr (.t 51) 0),
 aQ 53 (.extr (.t 51) 1),
 { dst := none, op := .store 4 (.t 4) (.t 52) },
 aQ 5 (.asg (.t 53))]
def c_scan_next : AC :=
 (.seq (.ops o_scan_next_0)
 (.seq (.ops o_scan_next_1)
 (.seq (.trim [0, 4] (.block 0 (.seq (.ops o_scan_next_2)
 (.cond (.t 9) (.seq (.ops o_scan_next_3)
 .ret) (.seq (.ops o_scan_next_4)
 (.cond (.t 17) (.seq (.ops o_scan_next_5)
 .ret) (.seq (.ops o_scan_next_6)
 (.cond (.t 24) (.seq (.ops o_scan_next_7)
 .ret) (.seq (.ops o_scan_next_8)
 (.cond (.t 31) (.seq (.ops o_scan_next_9)
 .ret) (.seq (.ops o_scan_next_10)
 (.cond (.t 42) (.seq (.ops o_scan_next_11)
 .ret) .skip))))))))))))
 (.seq (.ops o_scan_next_12)
 .ret))))
def a_scan_next : AFn := { body := c_scan_next, res := [.cell 4 (some 4), .tmp 5] }
def o_scan_Operand_0 : List AOp := [
 aQ 1 (.box (.t 0)),
 aQ 2 (.asg (.c (.d (.bool false))))]
def o_scan_Operand_1 : List AOp := [
 aQ 3 (.fldA 0 (.t 1)),
 aQ 4 (.load none (.t 3))]
def o_scan_Operand_2 : List AOp := [
 aQ 6 (.bin .eql (.t 4) (.c (.nat .i64 2))),
 aQ 5 (.asg (.t 6))]
def o_scan_Operand_3 : List AOp := [
 aQ 7 (.bin .eql (.t 4) (.c (.nat .i64 3))),
 aQ 5 (.asg (.t 7))]
def o_scan_Operand_4 : List AOp := [
 aQ 8 (.bin .eql (.t 4) (.c (.nat .i64 4))),
 aQ 5 (.asg (.t 8))]
def o_scan_Operand_5 : List AOp := [
 aQ 9 (.bin .eql (.t 4) (.c (.nat .i64 5))),
 aQ 5 (.asg (.t 9))]
def o_scan_Operand_6 : List AOp := [
 aQ 2 (.asg (.c (.d (.bool true))))]
def o_scan_Operand_7 : List AOp := [
 aQ 10 (.fldA 0 (.t 1)),
 aQ 11 (.load none (.t 10)),
 aQ 12 (.bin .eql (.t 11) (.c (.nat .i64 7))),
 aQ 13 (.mov (.t 12)),
 gQ 14 (.fldA 2 (.t 1)) 13 true,
 gQ 15 (.load none (.t 14)) 13 true,
 gQ 16 (.bin .eql (.t 15) (.c (.d (.str [41])))) 13 true,
 gQ 17 (.mov (.t 16)) 13 true,
 gQ 18 (.fldA 2 (.t 1)) 17 false,
 gQ 19 (.load none (.t 18)) 17 false,
 gQ 20 (.bin .eql (.t 19) (.c (.d (.str [93])))) 17 false,
 gQ 21 (.pick (.t 17) (.c (.d (.bool true))) (.t 20)) 13 true,
 aQ 22 (.pick (.t 13) (.t 21) (.c (.d (.bool false)))),
 aQ 2 (.asg (.t 22))]
def c_scan_Operand : AC :=
 (.seq (.ops o_scan_Operand_0)
 (.seq (.seq (.ops o_scan_Operand_1)
 (.trim [1] (.block 0 (.seq (.seq (.ops o_scan_Operand_2)
 (.cond (.t 5) .skip (.seq (.ops o_scan_Operand_3)
 (.cond (.t 5) .skip (.seq (.ops o_scan_Operand_4)
 (.cond (.t 5) .skip (.ops o_scan_Operand_5)))))))
 (.cond (.t 5) (.seq (.ops o_scan_Operand_6)
 .ret) .skip)))))
 (.seq (.ops o_scan_Operand_7)
 .ret)))
def a_scan_Operand : AFn := { body := c_scan_Operand, res := [.tmp 2] }
def o_ref15_one_0 : List AOp := [
 aQ 6 (.alloc [.nat .i64 0, .nat .i64 0, .d (.str []), .nat .i64 0]),
 aQ 7 (.asg (.c (.nat .i64 0))),
 aQ 8 (.asg (.c (.nat .i64 0)))]
def o_ref15_one_1 : List AOp := [
 aQ 12 (.mov (.t 0)),
 aQ 13 (.mov (.t 1)),
 aQ 14 (.idxS (.t 12) (.t 13)),
 aQ 9 (.asg (.t 14))]
def o_ref15_one_2 : List AOp := [
 aQ 15 (.mov (.t 9)),
 aQ 16 (.bin .eql (.t 15) (.c (.nat .u8 10))),
 aQ 17 (.mov (.t 16)),
 gQ 18 (.mov (.t 9)) 17 false,
 gQ 19 (.bin .eql (.t 18) (.c (.nat .u8 59))) 17 false,
 aQ 20 (.pick (.t 17) (.c (.d (.bool true))) (.t 19))]
def o_ref15_one_3 : List AOp := [
 aQ 21 (.build [.nat .i64 0, .nat .i64 0, .d (.str []), .nat .i64 0] [(0, 1, (.c (.nat .i64 1)))]),
 aQ 22 (.mov (.t 1)),
 aQ 23 (.bin .add (.t 22) (.c (.nat .i64 1))),
 { dst := none, op := .store 4 (.t 6) (.t 21) },
 aQ 7 (.asg (.t 23)),
 aQ 8 (.asg (.c (.nat .i64 0)))]
def o_ref15_one_4 : List AOp := [
 aQ 24 (.mov (.t 9)),
 aQ 25 (.bin .geq (.t 24) (.c (.nat .u8 48))),
 aQ 26 (.mov (.t 25)),
 gQ 27 (.mov (.t 9)) 26 true,
 gQ 28 (.bin .leq (.t 27) (.c (.nat .u8 57))) 26 true,
 aQ 29 (.pick (.t 26) (.t 28) (.c (.d (.bool false))))]
def o_ref15_one_5 : List AOp := [
 aQ 30 (.mov (.t 0)),
 aQ 31 (.mov (.t 1)),
 aQ 32 (.call (.f f_ref15_number) [.t 30, .t 31]),
 aQ 33 (.extr (.t 32) 0),
 aQ 34 (.extr (.t 32) 1),
 aQ 35 (.extr (.t 32) 2),
 { dst := none, op := .store 4 (.t 6) (.t 33) },
 aQ 7 (.asg (.t 34)),
 aQ 8 (.asg (.t 35))]
def o_ref15_one_6 : List AOp := [
 aQ 36 (.mov (.t 9)),
 aQ 37 (.bin .eql (.t 36) (.c (.nat .u8 34)))]
def o_ref15_one_7 : List AOp := [
 aQ 38 (.mov (.t 0)),
 aQ 39 (.mov (.t 1)),
 aQ 40 (.call (.f f_ref15_text) [.t 38, .t 39]),
 aQ 41 (.extr (.t 40) 0),
 aQ 42 (.extr (.t 40) 1),
 aQ 43 (.extr (.t 40) 2),
 { dst := none, op := .store 4 (.t 6) (.t 41) },
 aQ 7 (.asg (.t 42)),
 aQ 8 (.asg (.t 43))]
def o_ref15_one_8 : List AOp := [
 aQ 44 (.mov (.t 9)),
 aQ 45 (.bin .eql (.t 44) (.c (.nat .u8 47))),
 aQ 46 (.mov (.t 45)),
 gQ 47 (.mov (.t 2)) 46 true,
 gQ 48 (.un .not (.t 47)) 46 true,
 aQ 49 (.pick (.t 46) (.t 48) (.c (.d (.bool false))))]
def o_ref15_one_9 : List AOp := [
 aQ 50 (.mov (.t 0)),
 aQ 51 (.mov (.t 1)),
 aQ 52 (.call (.f f_ref15_expression) [.t 50, .t 51]),
 aQ 53 (.extr (.t 52) 0),
 aQ 54 (.extr (.t 52) 1),
 aQ 55 (.extr (.t 52) 2),
 { dst := none, op := .store 4 (.t 6) (.t 53) },
 aQ 7 (.asg (.t 54)),
 aQ 8 (.asg (.t 55))]
def o_ref15_one_10 : List AOp := [
 aQ 56 (.mov (.t 1)),
 aQ 10 (.asg (.t 56))]
def o_ref15_one_11 : List AOp := [
 aQ 57 (.mov (.t 10)),
 aQ 58 (.mov (.t 0)),
 aQ 59 (.lenS (.t 58)),
 aQ 60 (.bin .lss (.t 57) (.t 59)),
 aQ 61 (.mov (.t 60)),
 gQ 62 (.mov (.t 0)) 61 true,
 gQ 63 (.mov (.t 1)) 61 true,
 gQ 64 (.mov (.t 10)) 61 true,
 gQ 65 (.bin .add (.t 64) (.c (.nat .i64 1))) 61 true,
 gQ 66 (.sliceS (.t 62) (some (.t 63)) (some (.t 65))) 61 true,
 gQ 67 (.call (.f f_ref01_IsName) [.t 66]) 61 true,
 aQ 68 (.pick (.t 61) (.t 67) (.c (.d (.bool false))))]
def o_ref15_one_12 : List AOp := [
 aQ 69 (.mov (.t 10)),
 aQ 70 (.bin .add (.t 69) (.c (.nat .i64 1))),
 aQ 10 (.asg (.t 70))]
def b_ref15_one_0 : AC := (.seq (.seq (.ops o_ref15_one_11)
 (.cond (.t 68) .skip (.exit 0)))
 (.trim [0, 1, 6, 10] (.block 1 (.ops o_ref15_one_12))))
def o_ref15_one_13 : List AOp := [
 aQ 71 (.mov (.t 10)),
 aQ 72 (.mov (.t 1)),
 aQ 73 (.bin .gtr (.t 71) (.t 72))]
def o_ref15_one_14 : List AOp := [
 mQ 74 (.call (.f f_ref15_Keys) []),
 mQ 75 (.mov (.t 0)),
 mQ 76 (.mov (.t 1)),
 mQ 77 (.mov (.t 10)),
 mQ 78 (.sliceS (.t 75) (some (.t 76)) (some (.t 77))),
 aQ 79 (.call (.f f_ref15_among) [.t 74, .t 78]),
 aQ 11 (.asg (.t 79))]
def o_ref15_one_15 : List AOp := [
 aQ 80 (.mov (.t 11))]
def o_ref15_one_16 : List AOp := [
 aQ 81 (.mov (.t 0)),
 aQ 82 (.mov (.t 1)),
 aQ 83 (.mov (.t 10)),
 aQ 84 (.sliceS (.t 81) (some (.t 82)) (some (.t 83))),
 aQ 85 (.build [.nat .i64 0, .nat .i64 0, .d (.str []), .nat .i64 0] [(0, 1, (.c (.nat .i64 6))), (2, 1, (.t 84))]),
 aQ 86 (.mov (.t 10)),
 { dst := none, op := .store 4 (.t 6) (.t 85) },
 aQ 7 (.asg (.t 86)),
 aQ 8 (.asg (.c (.nat .i64 0)))]
def o_ref15_one_17 : List AOp := [
 aQ 87 (.mov (.t 0)),
 aQ 88 (.mov (.t 1)),
 aQ 89 (.mov (.t 10)),
 aQ 90 (.sliceS (.t 87) (some (.t 88)) (some (.t 89))),
 aQ 91 (.build [.nat .i64 0, .nat .i64 0, .d (.str []), .nat .i64 0] [(0, 1, (.c (.nat .i64 5))), (2, 1, (.t 90))]),
 aQ 92 (.mov (.t 10)),
 { dst := none, op := .store 4 (.t 6) (.t 91) },
 aQ 7 (.asg (.t 92)),
 aQ 8 (.asg (.c (.nat .i64 0)))]
def o_ref15_one_18 : List AOp := [
 mQ 93 (.mov (.t 1)),
 mQ 94 (.bin .add (.t 93) (.c (.nat .i64 2))),
 mQ 95 (.mov (.t 0)),
 mQ 96 (.lenS (.t 95)),
 aQ 97 (.bin .leq (.t 94) (.t 96)),
 aQ 98 (.mov (.t 97)),
 hQ 99 (.call (.f f_ref15_Marks) []) 98 true,
 hQ 100 (.mov (.t 0)) 98 true,
 hQ 101 (.mov (.t 1)) 98 true,
 hQ 102 (.mov (.t 1)) 98 true,
 hQ 103 (.bin .add (.t 102) (.c (.nat .i64 2))) 98 true,
 hQ 104 (.sliceS (.t 100) (some (.t 101)) (some (.t 103))) 98 true,
 gQ 105 (.call (.f f_ref15_among) [.t 99, .t 104]) 98 true,
 aQ 106 (.pick (.t 98) (.t 105) (.c (.d (.bool false))))]
def o_ref15_one_19 : List AOp := [
 aQ 107 (.mov (.t 0)),
 aQ 108 (.mov (.t 1)),
 aQ 109 (.mov (.t 1)),
 aQ 110 (.bin .add (.t 109) (.c (.nat .i64 2))),
 aQ 111 (.sliceS (.t 107) (some (.t 108)) (some (.t 110))),
 aQ 112 (.build [.nat .i64 0, .nat .i64 0, .d (.str []), .nat .i64 0] [(0, 1, (.c (.nat .i64 7))), (2, 1, (.t 111))]),
 aQ 113 (.mov (.t 1)),
 aQ 114 (.bin .add (.t 113) (.c (.nat .i64 2))),
 { dst := none, op := .store 4 (.t 6) (.t 112) },
 aQ 7 (.asg (.t 114)),
 aQ 8 (.asg (.c (.nat .i64 0)))]
def o_ref15_one_20 : List AOp := [
 mQ 115 (.call (.f f_ref15_Marks) []),
 mQ 116 (.mov (.t 0)),
 mQ 117 (.mov (.t 1)),
 mQ 118 (.mov (.t 1)),
 mQ 119 (.bin .add (.t 118) (.c (.nat .i64 1))),
 mQ 120 (.sliceS (.t 116) (some (.t 117)) (some (.t 119))),
 aQ 121 (.call (.f f_ref15_among) [.t 115, .t 120])]
def o_ref15_one_21 : List AOp := [
 aQ 122 (.mov (.t 0)),
 aQ 123 (.mov (.t 1)),
 aQ 124 (.mov (.t 1)),
 aQ 125 (.bin .add (.t 124) (.c (.nat .i64 1))),
 aQ 126 (.sliceS (.t 122) (some (.t 123)) (some (.t 125))),
 aQ 127 (.build [.nat .i64 0, .nat .i64 0, .d (.str []), .nat .i64 0] [(0, 1, (.c (.nat .i64 7))), (2, 1, (.t 126))]),
 aQ 128 (.mov (.t 1)),
 aQ 129 (.bin .add (.t 128) (.c (.nat .i64 1))),
 { dst := none, op := .store 4 (.t 6) (.t 127) },
 aQ 7 (.asg (.t 129)),
 aQ 8 (.asg (.c (.nat .i64 0)))]
def o_ref15_one_22 : List AOp := [
 aQ 130 (.build [.nat .i64 0, .nat .i64 0, .d (.str []), .nat .i64 0] []),
 { dst := none, op := .store 4 (.t 6) (.t 130) },
 aQ 7 (.asg (.c (.nat .i64 0))),
 aQ 8 (.asg (.c (.nat .i64 9)))]
def c_ref15_one : AC :=
 (.seq (.ops o_ref15_one_0)
 (.seq (.ops o_ref15_one_1)
 (.seq (.seq (.ops o_ref15_one_2)
 (.cond (.t 20) (.seq (.ops o_ref15_one_3)
 .ret) .skip))
 (.seq (.seq (.ops o_ref15_one_4)
 (.cond (.t 29) (.seq (.ops o_ref15_one_5)
 .ret) .skip))
 (.seq (.seq (.ops o_ref15_one_6)
 (.cond (.t 37) (.seq (.ops o_ref15_one_7)
 .ret) .skip))
 (.seq (.seq (.ops o_ref15_one_8)
 (.cond (.t 49) (.seq (.ops o_ref15_one_9)
 .ret) .skip))
 (.seq (.ops o_ref15_one_10)
 (.seq (.trim [0, 1, 6, 10] (.block 0 (.loop [0, 1, 6, 10] b_ref15_one_0)))
 (.seq (.seq (.ops o_ref15_one_13)
 (.cond (.t 73) (.seq (.ops o_ref15_one_14)
 (.seq (.seq (.ops o_ref15_one_15)
 (.cond (.t 80) (.seq (.ops o_ref15_one_16)
 .ret) .skip))
 (.seq (.ops o_ref15_one_17)
 .ret))) .skip))
 (.seq (.seq (.ops o_ref15_one_18)
 (.cond (.t 106) (.seq (.ops o_ref15_one_19)
 .ret) .skip))
 (.seq (.seq (.ops o_ref15_one_20)
 (.cond (.t 121) (.seq (.ops o_ref15_one_21)
 .ret) .skip))
 (.seq (.ops o_ref15_one_22)
 .ret))))))))))))
def a_ref15_one : AFn := { body := c_ref15_one, res := [.cell 6 (some 4), .tmp 7, .tmp 8] }
def o_ref15_Operand_0 : List AOp := [
 aQ 1 (.box (.t 0)),
 aQ 2 (.asg (.c (.d (.bool false))))]
def o_ref15_Operand_1 : List AOp := [
 aQ 3 (.fldA 0 (.t 1)),
 aQ 4 (.load none (.t 3)),
 aQ 5 (.bin .eql (.t 4) (.c (.nat .i64 7)))]
def o_ref15_Operand_2 : List AOp := [
 aQ 6 (.fldA 2 (.t 1)),
 aQ 7 (.load none (.t 6)),
 aQ 8 (.bin .eql (.t 7) (.c (.d (.str [41])))),
 aQ 9 (.mov (.t 8)),
 gQ 10 (.fldA 2 (.t 1)) 9 false,
 gQ 11 (.load none (.t 10)) 9 false,
 gQ 12 (.bin .eql (.t 11) (.c (.d (.str [93])))) 9 false,
 aQ 13 (.pick (.t 9) (.c (.d (.bool true))) (.t 12)),
 aQ 2 (.asg (.t 13))]
def o_ref15_Operand_3 : List AOp := [
 aQ 14 (.fldA 0 (.t 1)),
 aQ 15 (.load none (.t 14)),
 aQ 16 (.bin .geq (.t 15) (.c (.nat .i64 2))),
 aQ 17 (.mov (.t 16)),
 gQ 18 (.fldA 0 (.t 1)) 17 true,
 gQ 19 (.load none (.t 18)) 17 true,
 gQ 20 (.bin .leq (.t 19) (.c (.nat .i64 5))) 17 true,
 aQ 21 (.pick (.t 17) (.t 20) (.c (.d (.bool false)))),
 aQ 2 (.asg (.t 21))]
def c_ref15_Operand : AC :=
 (.seq (.ops o_ref15_Operand_0)
 (.seq (.seq (.ops o_ref15_Operand_1)
 (.cond (.t 5) (.seq (.ops o_ref15_Operand_2)
 .ret) .skip))
 (.seq (.ops o_ref15_Operand_3)
 .ret)))
def a_ref15_Operand : AFn := { body := c_ref15_Operand, res := [.tmp 2] }
def o_ref07_Same_0 : List AOp := [
 aQ 4 (.asg (.c (.d (.bool false))))]
def o_ref07_Same_1 : List AOp := [
 aQ 6 (.mov (.t 0)),
 aQ 7 (.len (.t 6)),
 aQ 8 (.mov (.t 1)),
 aQ 9 (.len (.t 8)),
 aQ 10 (.bin .neq (.t 7) (.t 9))]
def o_ref07_Same_2 : List AOp := [
 aQ 4 (.asg (.c (.d (.bool false))))]
def o_ref07_Same_3 : List AOp := [
 aQ 5 (.asg (.c (.nat .i64 0)))]
def o_ref07_Same_4 : List AOp := [
 aQ 11 (.mov (.t 5)),
 aQ 12 (.mov (.t 0)),
 aQ 13 (.len (.t 12)),
 aQ 14 (.bin .lss (.t 11) (.t 13))]
def o_ref07_Same_6 : List AOp := [
 mQ 17 (.mov (.t 0)),
 mQ 18 (.mov (.t 5)),
 mQ 19 (.idxA none 1 (.t 17) (.t 18)),
 mQ 20 (.load none (.t 19)),
 mQ 21 (.mov (.t 1)),
 mQ 22 (.mov (.t 5)),
 mQ 23 (.idxA none 1 (.t 21) (.t 22)),
 mQ 24 (.load none (.t 23)),
 aQ 25 (.bin .neq (.t 20) (.t 24))]
def o_ref07_Same_7 : List AOp := [
 aQ 4 (.asg (.c (.d (.bool false))))]
def o_ref07_Same_5 : List AOp := [
 aQ 15 (.mov (.t 5)),
 aQ 16 (.bin .add (.t 15) (.c (.nat .i64 1))),
 aQ 5 (.asg (.t 16))]
def b_ref07_Same_0 : AC := (.seq (.seq (.ops o_ref07_Same_4)
 (.cond (.t 14) .skip (.exit 0)))
 (.seq (.trim [0, 1, 5] (.block 1 (.seq (.ops o_ref07_Same_6)
 (.cond (.t 25) (.seq (.ops o_ref07_Same_7)
 .ret) .skip))))
 (.ops o_ref07_Same_5)))
def o_ref07_Same_8 : List AOp := [
 aQ 4 (.asg (.c (.d (.bool true))))]
def c_ref07_Same : AC :=
 (.seq (.ops o_ref07_Same_0)
 (.seq (.seq (.ops o_ref07_Same_1)
 (.cond (.t 10) (.seq (.ops o_ref07_Same_2)
 .ret) .skip))
 (.seq (.seq (.ops o_ref07_Same_3)
 (.trim [] (.block 0 (.loop [0, 1, 5] b_ref07_Same_0))))
 (.seq (.ops o_ref07_Same_8)
 .ret))))
def a_ref07_Same : AFn := { body := c_ref07_Same, res := [.tmp 4] }
def o_scan_isFigure_0 : List AOp := [
 aQ 2 (.asg (.c (.d (.bool false))))]
def o_scan_isFigure_1 : List AOp := [
 aQ 3 (.mov (.t 0)),
 aQ 4 (.bin .geq (.t 3) (.c (.nat .u8 48))),
 aQ 5 (.mov (.t 4)),
 gQ 6 (.mov (.t 0)) 5 true,
 gQ 7 (.bin .leq (.t 6) (.c (.nat .u8 57))) 5 true,
 aQ 8 (.pick (.t 5) (.t 7) (.c (.d (.bool false)))),
 aQ 2 (.asg (.t 8))]
def c_scan_isFigure : AC :=
 (.seq (.ops o_scan_isFigure_0)
 (.seq (.ops o_scan_isFigure_1)
 .ret))
def a_scan_isFigure : AFn := { body := c_scan_isFigure, res := [.tmp 2] }
def o_scan_number_0 : List AOp := [
 aQ 1 (.box (.t 0)),
 aQ 2 (.alloc [.nat .i64 0, .nat .i64 0, .d (.str []), .nat .i64 0]),
 aQ 3 (.asg (.c (.nat .i64 0)))]
def o_scan_number_1 : List AOp := [
 aQ 4 (.alloc [.nat .i64 0]),
 { dst := none, op := .store 1 (.t 4) (.c (.nat .i64 0)) }]
def o_scan_number_2 : List AOp := [
 aQ 9 (.mkfn (.func f_scan_number_1) [] [.t 4, .t 1]),
 aQ 5 (.asg (.t 9))]
def o_scan_number_3 : List AOp := [
 aQ 10 (.mov (.t 5)),
 aQ 11 (.call (.t 10) [])]
def o_scan_number_4 : List AOp := [
 aQ 12 (.load none (.t 4)),
 aQ 13 (.bin .add (.t 12) (.c (.nat .i64 1))),
 aQ 14 (.load none (.t 1)),
 aQ 15 (.lenS (.t 14)),
 aQ 16 (.bin .lss (.t 13) (.t 15)),
 aQ 17 (.mov (.t 16)),
 gQ 18 (.load none (.t 1)) 17 true,
 gQ 19 (.load none (.t 4)) 17 true,
 gQ 20 (.idxS (.t 18) (.t 19)) 17 true,
 gQ 21 (.bin .eql (.t 20) (.c (.nat .u8 46))) 17 true,
 aQ 22 (.pick (.t 17) (.t 21) (.c (.d (.bool false)))),
 aQ 23 (.mov (.t 22)),
 gQ 24 (.load none (.t 1)) 23 true,
 gQ 25 (.load none (.t 4)) 23 true,
 gQ 26 (.bin .add (.t 25) (.c (.nat .i64 1))) 23 true,
 gQ 27 (.idxS (.t 24) (.t 26)) 23 true,
 gQ 28 (.call (.f f_scan_isFigure) [.t 27]) 23 true,
 aQ 29 (.pick (.t 23) (.t 28) (.c (.d (.bool false))))]
def o_scan_number_5 : List AOp := [
 aQ 30 (.load none (.t 4)),
 aQ 31 (.bin .add (.t 30) (.c (.nat .i64 1))),
 { dst := none, op := .store 1 (.t 4) (.t 31) }]
def o_scan_number_6 : List AOp := [
 aQ 32 (.mov (.t 5)),
 aQ 33 (.call (.t 32) [])]
def o_scan_number_7 : List AOp := [
 aQ 35 (.load none (.t 1)),
 aQ 36 (.load none (.t 4)),
 aQ 37 (.sliceS (.t 35) none (some (.t 36))),
 aQ 38 (.call (.f f_dec_Read) [.t 37]),
 aQ 34 (.mov (.t 38)),
 aQ 39 (.extr (.t 34) 0),
 aQ 40 (.extr (.t 34) 1),
 aQ 41 (.extr (.t 34) 2),
 aQ 6 (.asg (.t 39)),
 aQ 7 (.asg (.t 40)),
 aQ 8 (.asg (.t 41))]
def o_scan_number_8 : List AOp := [
 aQ 42 (.mov (.t 8)),
 aQ 43 (.bin .neq (.t 42) (.c (.nat .i64 0)))]
def o_scan_number_9 : List AOp := [
 aQ 44 (.build [.nat .i64 0, .nat .i64 0, .d (.str []), .nat .i64 0] []),
 { dst := none, op := .store 4 (.t 2) (.t 44) },
 aQ 3 (.asg (.c (.d (.int .i64 (-1)))))]
def o_scan_number_10 : List AOp := [
 mQ 45 (.mov (.t 6)),
 mQ 46 (.build [.nat .i64 0, .nat .i64 0, .d (.str []), .nat .i64 0] [(0, 1, (.c (.nat .i64 2))), (3, 1, (.t 45))]),
 mQ 47 (.loadB none (.t 4) (.t 4)),
 { dst := none, op := .storeW 4 (.t 2) (.t 46) [.t 4], may := false },
 aQ 3 (.asg (.t 47))]
def c_scan_number : AC :=
 (.seq (.ops o_scan_number_0)
 (.seq (.ops o_scan_number_1)
 (.seq (.ops o_scan_number_2)
 (.seq (.ops o_scan_number_3)
 (.seq (.seq (.ops o_scan_number_4)
 (.cond (.t 29) (.seq (.ops o_scan_number_5)
 (.ops o_scan_number_6)) .skip))
 (.seq (.ops o_scan_number_7)
 (.seq (.seq (.ops o_scan_number_8)
 (.cond (.t 43) (.seq (.ops o_scan_number_9)
 .ret) .skip))
 (.seq (.ops o_scan_number_10)
 .ret))))))))
def a_scan_number : AFn := { body := c_scan_number, res := [.cell 2 (some 4), .tmp 3] }
def o_scan_text_0 : List AOp := [
 aQ 2 (.alloc [.nat .i64 0, .nat .i64 0, .d (.str []), .nat .i64 0]),
 aQ 3 (.asg (.c (.nat .i64 0)))]
def o_scan_text_1 : List AOp := [
 aQ 4 (.asg (.c (.nil)))]
def o_scan_text_2 : List AOp := [
 aQ 5 (.asg (.c (.nat .i64 1)))]
def o_scan_text_3 : List AOp := [
 aQ 7 (.mov (.t 5)),
 aQ 8 (.mov (.t 0)),
 aQ 9 (.lenS (.t 8)),
 aQ 10 (.bin .lss (.t 7) (.t 9)),
 aQ 11 (.mov (.t 10)),
 gQ 12 (.mov (.t 0)) 11 true,
 gQ 13 (.mov (.t 5)) 11 true,
 gQ 14 (.idxS (.t 12) (.t 13)) 11 true,
 gQ 15 (.bin .neq (.t 14) (.c (.nat .u8 10))) 11 true,
 aQ 16 (.pick (.t 11) (.t 15) (.c (.d (.bool false))))]
def o_scan_text_6 : List AOp := [
 aQ 21 (.mov (.t 0)),
 aQ 22 (.mov (.t 5)),
 aQ 23 (.idxS (.t 21) (.t 22)),
 aQ 24 (.bin .eql (.t 23) (.c (.nat .u8 34))),
 aQ 20 (.asg (.t 24))]
def o_scan_text_7 : List AOp := [
 aQ 25 (.mov (.t 4)),
 aQ 26 (.bytesStr (.t 25)),
 aQ 27 (.build [.nat .i64 0, .nat .i64 0, .d (.str []), .nat .i64 0] [(0, 1, (.c (.nat .i64 3))), (2, 1, (.t 26))]),
 aQ 28 (.mov (.t 5)),
 aQ 29 (.bin .add (.t 28) (.c (.nat .i64 1))),
 { dst := none, op := .store 4 (.t 2) (.t 27) },
 aQ 3 (.asg (.t 29))]
def o_scan_text_8 : List AOp := [
 aQ 31 (.mov (.t 0)),
 aQ 32 (.mov (.t 5)),
 aQ 33 (.idxS (.t 31) (.t 32)),
 aQ 34 (.bin .neq (.t 33) (.c (.nat .u8 92))),
 aQ 30 (.asg (.t 34))]
def o_scan_text_9 : List AOp := [
 aQ 35 (.take 4),
 aQ 36 (.mov (.t 0)),
 aQ 37 (.mov (.t 5)),
 aQ 38 (.idxS (.t 36) (.t 37)),
 aQ 39 (.mkls 1 [.nat .u8 0] [(0, 1, (.t 38))]),
 aQ 40 (.append 1 (.t 35) (.t 39)),
 aQ 4 (.asg (.t 40))]
def o_scan_text_10 : List AOp := [
 aQ 42 (.mov (.t 5)),
 aQ 43 (.bin .add (.t 42) (.c (.nat .i64 1))),
 aQ 44 (.mov (.t 0)),
 aQ 45 (.lenS (.t 44)),
 aQ 46 (.bin .lss (.t 43) (.t 45)),
 aQ 47 (.mov (.t 46)),
 gQ 48 (.mov (.t 0)) 47 true,
 gQ 49 (.mov (.t 5)) 47 true,
 gQ 50 (.bin .add (.t 49) (.c (.nat .i64 1))) 47 true,
 gQ 51 (.idxS (.t 48) (.t 50)) 47 true,
 gQ 52 (.call (.f f_strings_IndexByte) [.c (.d (.str [34, 92, 47])), .t 51]) 47 true,
 gQ 53 (.bin .geq (.t 52) (.c (.nat .i64 0))) 47 true,
 aQ 54 (.pick (.t 47) (.t 53) (.c (.d (.bool false)))),
 aQ 41 (.asg (.t 54))]
def o_scan_text_11 : List AOp := [
 aQ 55 (.mov (.t 5)),
 aQ 56 (.bin .add (.t 55) (.c (.nat .i64 1))),
 aQ 5 (.asg (.t 56))]
def o_scan_text_12 : List AOp := [
 aQ 57 (.take 4),
 aQ 58 (.mov (.t 0)),
 aQ 59 (.mov (.t 5)),
 aQ 60 (.idxS (.t 58) (.t 59)),
 aQ 61 (.mkls 1 [.nat .u8 0] [(0, 1, (.t 60))]),
 aQ 62 (.append 1 (.t 57) (.t 61)),
 aQ 4 (.asg (.t 62))]
def o_scan_text_13 : List AOp := [
 aQ 64 (.mov (.t 5)),
 aQ 65 (.bin .add (.t 64) (.c (.nat .i64 3))),
 aQ 66 (.mov (.t 0)),
 aQ 67 (.lenS (.t 66)),
 aQ 68 (.bin .lss (.t 65) (.t 67)),
 aQ 69 (.mov (.t 68)),
 gQ 70 (.mov (.t 0)) 69 true,
 gQ 71 (.mov (.t 5)) 69 true,
 gQ 72 (.bin .add (.t 71) (.c (.nat .i64 1))) 69 true,
 gQ 73 (.idxS (.t 70) (.t 72)) 69 true,
 gQ 74 (.bin .eql (.t 73) (.c (.nat .u8 120))) 69 true,
 aQ 75 (.pick (.t 69) (.t 74) (.c (.d (.bool false)))),
 aQ 76 (.mov (.t 75)),
 gQ 77 (.mov (.t 0)) 76 true,
 gQ 78 (.mov (.t 5)) 76 true,
 gQ 79 (.bin .add (.t 78) (.c (.nat .i64 2))) 76 true,
 gQ 80 (.idxS (.t 77) (.t 79)) 76 true,
 gQ 81 (.call (.f f_hex_Digit) [.t 80]) 76 true,
 gQ 82 (.bin .geq (.t 81) (.c (.nat .i64 0))) 76 true,
 aQ 83 (.pick (.t 76) (.t 82) (.c (.d (.bool false)))),
 aQ 84 (.mov (.t 83)),
 gQ 85 (.mov (.t 0)) 84 true,
 gQ 86 (.mov (.t 5)) 84 true,
 gQ 87 (.bin .add (.t 86) (.c (.nat .i64 3))) 84 true,
 gQ 88 (.idxS (.t 85) (.t 87)) 84 true,
 gQ 89 (.call (.f f_hex_Digit) [.t 88]) 84 true,
 gQ 90 (.bin .geq (.t 89) (.c (.nat .i64 0))) 84 true,
 aQ 91 (.pick (.t 84) (.t 90) (.c (.d (.bool false)))),
 aQ 63 (.asg (.t 91))]
def o_scan_text_14 : List AOp := [
 mQ 92 (.mov (.t 0)),
 mQ 93 (.mov (.t 5)),
 mQ 94 (.bin .add (.t 93) (.c (.nat .i64 2))),
 mQ 95 (.idxS (.t 92) (.t 94)),
 mQ 96 (.call (.f f_hex_Digit) [.t 95]),
 mQ 97 (.bin .shl (.t 96) (.c (.nat .u64 4))),
 mQ 98 (.mov (.t 0)),
 mQ 99 (.mov (.t 5)),
 mQ 100 (.bin .add (.t 99) (.c (.nat .i64 3))),
 mQ 101 (.idxS (.t 98) (.t 100)),
 mQ 102 (.call (.f f_hex_Digit) [.t 101]),
 aQ 103 (.bin .or (.t 97) (.t 102)),
 aQ 104 (.toInt .u8 (.t 103)),
 aQ 6 (.asg (.t 104))]
def o_scan_text_15 : List AOp := [
 aQ 105 (.mov (.t 6)),
 aQ 106 (.bin .eql (.t 105) (.c (.nat .u8 10)))]
def o_scan_text_16 : List AOp := [
 aQ 107 (.build [.nat .i64 0, .nat .i64 0, .d (.str []), .nat .i64 0] []),
 { dst := none, op := .store 4 (.t 2) (.t 107) },
 aQ 3 (.asg (.c (.nat .i64 0)))]
def o_scan_text_17 : List AOp := [
 aQ 108 (.take 4),
 aQ 109 (.mov (.t 6)),
 aQ 110 (.mkls 1 [.nat .u8 0] [(0, 1, (.t 109))]),
 aQ 111 (.append 1 (.t 108) (.t 110)),
 aQ 4 (.asg (.t 111))]
def o_scan_text_18 : List AOp := [
 aQ 112 (.mov (.t 5)),
 aQ 113 (.bin .add (.t 112) (.c (.nat .i64 3))),
 aQ 5 (.asg (.t 113))]
def o_scan_text_5 : List AOp := [
 aQ 19 (.build [.nat .i64 0, .nat .i64 0, .d (.str []), .nat .i64 0] []),
 { dst := none, op := .store 4 (.t 2) (.t 19) },
 aQ 3 (.asg (.c (.nat .i64 0)))]
def o_scan_text_4 : List AOp := [
 aQ 17 (.mov (.t 5)),
 aQ 18 (.bin .add (.t 17) (.c (.nat .i64 1))),
 aQ 5 (.asg (.t 18))]
def b_scan_text_0 : AC := (.seq (.seq (.ops o_scan_text_3)
 (.cond (.t 16) .skip (.exit 0)))
 (.seq (.trim [0, 2, 4, 5] (.block 1 (.trim [0, 2, 4, 5] (.block 2 (.seq (.ops o_scan_text_6)
 (.cond (.t 20) (.seq (.ops o_scan_text_7)
 .ret) (.seq (.ops o_scan_text_8)
 (.cond (.t 30) (.ops o_scan_text_9) (.seq (.ops o_scan_text_10)
 (.cond (.t 41) (.seq (.ops o_scan_text_11)
 (.ops o_scan_text_12)) (.seq (.ops o_scan_text_13)
 (.cond (.t 63) (.seq (.ops o_scan_text_14)
 (.seq (.seq (.ops o_scan_text_15)
 (.cond (.t 106) (.seq (.ops o_scan_text_16)
 .ret) .skip))
 (.seq (.ops o_scan_text_17)
 (.ops o_scan_text_18)))) (.seq (.ops o_scan_text_5)
 .ret)))))))))))))
 (.ops o_scan_text_4)))
def o_scan_text_19 : List AOp := [
 aQ 114 (.build [.nat .i64 0, .nat .i64 0, .d (.str []), .nat .i64 0] []),
 { dst := none, op := .store 4 (.t 2) (.t 114) },
 aQ 3 (.asg (.c (.nat .i64 0)))]
def c_scan_text : AC :=
 (.seq (.ops o_scan_text_0)
 (.seq (.ops o_scan_text_1)
 (.seq (.seq (.ops o_scan_text_2)
 (.trim [2] (.block 0 (.loop [0, 2, 4, 5] b_scan_text_0))))
 (.seq (.ops o_scan_text_19)
 .ret))))
def a_scan_text : AFn := { body := c_scan_text, res := [.cell 2 (some 4), .tmp 3] }
def o_scan_expression_0 : List AOp := [
 aQ 2 (.alloc [.nat .i64 0, .nat .i64 0, .d (.str []), .nat .i64 0]),
 aQ 3 (.asg (.c (.nat .i64 0)))]
def o_scan_expression_1 : List AOp := [
 aQ 4 (.asg (.c (.nat .i64 1)))]
def o_scan_expression_2 : List AOp := [
 aQ 7 (.mov (.t 4)),
 aQ 8 (.mov (.t 0)),
 aQ 9 (.lenS (.t 8)),
 aQ 10 (.bin .lss (.t 7) (.t 9)),
 aQ 11 (.mov (.t 10)),
 gQ 12 (.mov (.t 0)) 11 true,
 gQ 13 (.mov (.t 4)) 11 true,
 gQ 14 (.idxS (.t 12) (.t 13)) 11 true,
 gQ 15 (.bin .neq (.t 14) (.c (.nat .u8 10))) 11 true,
 aQ 16 (.pick (.t 11) (.t 15) (.c (.d (.bool false))))]
def o_scan_expression_4 : List AOp := [
 aQ 19 (.mov (.t 0)),
 aQ 20 (.mov (.t 4)),
 aQ 21 (.idxS (.t 19) (.t 20))]
def o_scan_expression_5 : List AOp := [
 aQ 23 (.bin .eql (.t 21) (.c (.nat .u8 92))),
 aQ 22 (.asg (.t 23))]
def o_scan_expression_6 : List AOp := [
 aQ 24 (.mov (.t 4)),
 aQ 25 (.bin .add (.t 24) (.c (.nat .i64 1))),
 aQ 4 (.asg (.t 25))]
def o_scan_expression_7 : List AOp := [
 aQ 26 (.mov (.t 4)),
 aQ 27 (.mov (.t 0)),
 aQ 28 (.lenS (.t 27)),
 aQ 29 (.bin .lss (.t 26) (.t 28)),
 aQ 30 (.mov (.t 29)),
 gQ 31 (.mov (.t 0)) 30 true,
 gQ 32 (.mov (.t 4)) 30 true,
 gQ 33 (.idxS (.t 31) (.t 32)) 30 true,
 gQ 34 (.bin .eql (.t 33) (.c (.nat .u8 10))) 30 true,
 aQ 35 (.pick (.t 30) (.t 34) (.c (.d (.bool false))))]
def o_scan_expression_8 : List AOp := [
 aQ 36 (.build [.nat .i64 0, .nat .i64 0, .d (.str []), .nat .i64 0] []),
 { dst := none, op := .store 4 (.t 2) (.t 36) },
 aQ 3 (.asg (.c (.nat .i64 0)))]
def o_scan_expression_9 : List AOp := [
 aQ 38 (.bin .eql (.t 21) (.c (.nat .u8 47))),
 aQ 37 (.asg (.t 38))]
def o_scan_expression_10 : List AOp := [
 aQ 40 (.mov (.t 0)),
 aQ 41 (.mov (.t 4)),
 aQ 42 (.sliceS (.t 40) (some (.c (.nat .i64 1))) (some (.t 41))),
 aQ 43 (.call (.f f_regex_Read) [.t 42]),
 aQ 39 (.mov (.t 43)),
 aQ 44 (.extr (.t 39) 0),
 aQ 45 (.extr (.t 39) 1),
 aQ 5 (.asg (.t 44)),
 aQ 6 (.asg (.t 45))]
def o_scan_expression_11 : List AOp := [
 aQ 46 (.mov (.t 6)),
 aQ 47 (.bin .neq (.t 46) (.c (.nat .i64 0)))]
def o_scan_expression_12 : List AOp := [
 aQ 48 (.build [.nat .i64 0, .nat .i64 0, .d (.str []), .nat .i64 0] []),
 { dst := none, op := .store 4 (.t 2) (.t 48) },
 aQ 3 (.asg (.c (.nat .i64 0)))]
def o_scan_expression_13 : List AOp := [
 aQ 49 (.mov (.t 0)),
 aQ 50 (.mov (.t 4)),
 aQ 51 (.sliceS (.t 49) (some (.c (.nat .i64 1))) (some (.t 50))),
 aQ 52 (.build [.nat .i64 0, .nat .i64 0, .d (.str []), .nat .i64 0] [(0, 1, (.c (.nat .i64 4))), (2, 1, (.t 51))]),
 aQ 53 (.mov (.t 4)),
 aQ 54 (.bin .add (.t 53) (.c (.nat .i64 1))),
 { dst := none, op := .store 4 (.t 2) (.t 52) },
 aQ 3 (.asg (.t 54))]
def o_scan_expression_3 : List AOp := [
 aQ 17 (.mov (.t 4)),
 aQ 18 (.bin .add (.t 17) (.c (.nat .i64 1))),
 aQ 4 (.asg (.t 18))]
def b_scan_expression_0 : AC := (.seq (.seq (.ops o_scan_expression_2)
 (.cond (.t 16) .skip (.exit 0)))
 (.seq (.trim [0, 2, 4] (.block 1 (.seq (.ops o_scan_expression_4)
 (.trim [0, 2, 4] (.block 2 (.seq (.ops o_scan_expression_5)
 (.cond (.t 22) (.seq (.ops o_scan_expression_6)
 (.seq (.ops o_scan_expression_7)
 (.cond (.t 35) (.seq (.ops o_scan_expression_8)
 .ret) .skip))) (.seq (.ops o_scan_expression_9)
 (.cond (.t 37) (.seq (.seq (.ops o_scan_expression_10)
 (.seq (.ops o_scan_expression_11)
 (.cond (.t 47) (.seq (.ops o_scan_expression_12)
 .ret) .skip)))
 (.seq (.ops o_scan_expression_13)
 .ret)) .skip)))))))))
 (.ops o_scan_expression_3)))
def o_scan_expression_14 : List AOp := [
 aQ 55 (.build [.nat .i64 0, .nat .i64 0, .d (.str []), .nat .i64 0] []),
 { dst := none, op := .store 4 (.t 2) (.t 55) },
 aQ 3 (.asg (.c (.nat .i64 0)))]
def c_scan_expression : AC :=
 (.seq (.ops o_scan_expression_0)
 (.seq (.seq (.ops o_scan_expression_1)
 (.trim [2] (.block 0 (.loop [0, 2, 4] b_scan_expression_0))))
 (.seq (.ops o_scan_expression_14)
 .ret)))
def a_scan_expression : AFn := { body := c_scan_expression, res := [.cell 2 (some 4), .tmp 3] }
def o_hex_IsName_0 : List AOp := [
 aQ 2 (.asg (.c (.d (.bool false))))]
def o_hex_IsName_1 : List AOp := [
 aQ 3 (.asg (.f f_hex_IsName_1))]
def o_hex_IsName_2 : List AOp := [
 aQ 4 (.mov (.t 0)),
 aQ 5 (.bin .neq (.t 4) (.c (.d (.str [])))),
 aQ 6 (.mov (.t 5)),
 gQ 7 (.mov (.t 0)) 6 true,
 gQ 8 (.idxS (.t 7) (.c (.nat .i64 0))) 6 true,
 gQ 9 (.bin .lss (.t 8) (.c (.nat .u8 48))) 6 true,
 gQ 10 (.mov (.t 9)) 6 true,
 gQ 11 (.mov (.t 0)) 10 false,
 gQ 12 (.idxS (.t 11) (.c (.nat .i64 0))) 10 false,
 gQ 13 (.bin .gtr (.t 12) (.c (.nat .u8 57))) 10 false,
 gQ 14 (.pick (.t 10) (.c (.d (.bool true))) (.t 13)) 6 true,
 aQ 15 (.pick (.t 6) (.t 14) (.c (.d (.bool false)))),
 aQ 16 (.mov (.t 15)),
 gQ 17 (.mov (.t 0)) 16 true,
 gQ 18 (.strBytes (.t 17)) 16 true,
 gQ 19 (.mov (.t 3)) 16 true,
 gQ 20 (.call (.f f_slices_ContainsFunc_byte_byte) [.t 18, .t 19]) 16 true,
 gQ 21 (.un .not (.t 20)) 16 true,
 aQ 22 (.pick (.t 16) (.t 21) (.c (.d (.bool false)))),
 aQ 2 (.asg (.t 22))]
def c_hex_IsName : AC :=
 (.seq (.ops o_hex_IsName_0)
 (.seq (.ops o_hex_IsName_1)
 (.seq (.ops o_hex_IsName_2)
 .ret)))
def a_hex_IsName : AFn := { body := c_hex_IsName, res := [.tmp 2] }
def o_scan_word_0 : List AOp := [
 aQ 2 (.alloc [.nat .i64 0, .nat .i64 0, .d (.str []), .nat .i64 0]),
 aQ 3 (.asg (.c (.nat .i64 0)))]
def o_scan_word_1 : List AOp := [
 aQ 4 (.asg (.c (.nat .i64 1)))]
def o_scan_word_2 : List AOp := [
 aQ 5 (.mov (.t 4)),
 aQ 6 (.mov (.t 0)),
 aQ 7 (.lenS (.t 6)),
 aQ 8 (.bin .lss (.t 5) (.t 7)),
 aQ 9 (.mov (.t 8)),
 gQ 10 (.mov (.t 0)) 9 true,
 gQ 11 (.mov (.t 4)) 9 true,
 gQ 12 (.bin .add (.t 11) (.c (.nat .i64 1))) 9 true,
 gQ 13 (.sliceS (.t 10) none (some (.t 12))) 9 true,
 gQ 14 (.call (.f f_hex_IsName) [.t 13]) 9 true,
 aQ 15 (.pick (.t 9) (.t 14) (.c (.d (.bool false))))]
def o_scan_word_3 : List AOp := [
 aQ 16 (.mov (.t 4)),
 aQ 17 (.bin .add (.t 16) (.c (.nat .i64 1))),
 aQ 4 (.asg (.t 17))]
def b_scan_word_0 : AC := (.seq (.seq (.ops o_scan_word_2)
 (.cond (.t 15) .skip (.exit 0)))
 (.trim [0, 2, 4] (.block 1 (.ops o_scan_word_3))))
def o_scan_word_4 : List AOp := [
 mQ 18 (.call (.f f_scan_Keys) []),
 mQ 19 (.mov (.t 0)),
 mQ 20 (.mov (.t 4)),
 mQ 21 (.sliceS (.t 19) none (some (.t 20))),
 aQ 22 (.call (.f f_slices_Contains_string_string) [.t 18, .t 21])]
def o_scan_word_5 : List AOp := [
 aQ 23 (.mov (.t 0)),
 aQ 24 (.mov (.t 4)),
 aQ 25 (.sliceS (.t 23) none (some (.t 24))),
 aQ 26 (.build [.nat .i64 0, .nat .i64 0, .d (.str []), .nat .i64 0] [(0, 1, (.c (.nat .i64 6))), (2, 1, (.t 25))]),
 aQ 27 (.mov (.t 4)),
 { dst := none, op := .store 4 (.t 2) (.t 26) },
 aQ 3 (.asg (.t 27))]
def o_scan_word_6 : List AOp := [
 aQ 28 (.mov (.t 0)),
 aQ 29 (.mov (.t 4)),
 aQ 30 (.sliceS (.t 28) none (some (.t 29))),
 aQ 31 (.build [.nat .i64 0, .nat .i64 0, .d (.str []), .nat .i64 0] [(0, 1, (.c (.nat .i64 5))), (2, 1, (.t 30))]),
 aQ 32 (.mov (.t 4)),
 { dst := none, op := .store 4 (.t 2) (.t 31) },
 aQ 3 (.asg (.t 32))]
def c_scan_word : AC :=
 (.seq (.ops o_scan_word_0)
 (.seq (.ops o_scan_word_1)
 (.seq (.trim [0, 2, 4] (.block 0 (.loop [0, 2, 4] b_scan_word_0)))
 (.seq (.seq (.ops o_scan_word_4)
 (.cond (.t 22) (.seq (.ops o_scan_word_5)
 .ret) .skip))
 (.seq (.ops o_scan_word_6)
 .ret)))))
def a_scan_word : AFn := { body := c_scan_word, res := [.cell 2 (some 4), .tmp 3] }
def o_scan_mark_0 : List AOp := [
 aQ 2 (.alloc [.nat .i64 0, .nat .i64 0, .d (.str []), .nat .i64 0]),
 aQ 3 (.asg (.c (.nat .i64 0)))]
def o_scan_mark_1 : List AOp := [
 aQ 4 (.asg (.c (.d (.str []))))]
def o_scan_mark_2 : List AOp := [
 aQ 7 (.call (.f f_scan_Marks) []),
 aQ 8 (.len (.t 7)),
 aQ 9 (.mov (.c (.nat .i64 0)))]
def o_scan_mark_3 : List AOp := [
 aQ 10 (.bin .lss (.t 9) (.t 8))]
def o_scan_mark_4 : List AOp := [
 aQ 11 (.idxA none 1 (.t 7) (.t 9)),
 aQ 12 (.load none (.t 11)),
 aQ 6 (.asg (.t 12))]
def o_scan_mark_5 : List AOp := [
 aQ 13 (.mov (.t 0)),
 aQ 14 (.mov (.t 6)),
 aQ 15 (.call (.f f_strings_HasPrefix) [.t 13, .t 14]),
 aQ 16 (.un .not (.t 15))]
def o_scan_mark_6 : List AOp := [
 aQ 17 (.mov (.t 6)),
 aQ 18 (.lenS (.t 17)),
 aQ 19 (.mov (.t 4)),
 aQ 20 (.lenS (.t 19)),
 aQ 21 (.bin .gtr (.t 18) (.t 20))]
def o_scan_mark_7 : List AOp := [
 aQ 22 (.mov (.t 6)),
 aQ 4 (.asg (.t 22))]
def o_scan_mark_8 : List AOp := [
 aQ 23 (.bin .add (.t 9) (.c (.nat .i64 1))),
 aQ 9 (.mov (.t 23))]
def b_scan_mark_0 : AC := (.seq (.ops o_scan_mark_3)
 (.seq (.cond (.t 10) .skip (.exit 0))
 (.seq (.trim [0, 2, 4, 7, 8, 9] (.block 1 (.seq (.ops o_scan_mark_4)
 (.seq (.seq (.ops o_scan_mark_5)
 (.cond (.t 16) (.exit 1) .skip))
 (.seq (.ops o_scan_mark_6)
 (.cond (.t 21) (.ops o_scan_mark_7) .skip))))))
 (.ops o_scan_mark_8))))
def o_scan_mark_9 : List AOp := [
 aQ 24 (.mov (.t 4)),
 aQ 25 (.build [.nat .i64 0, .nat .i64 0, .d (.str []), .nat .i64 0] [(0, 1, (.c (.nat .i64 7))), (2, 1, (.t 24))]),
 aQ 26 (.mov (.t 4)),
 aQ 27 (.lenS (.t 26)),
 { dst := none, op := .store 4 (.t 2) (.t 25) },
 aQ 3 (.asg (.t 27))]
def c_scan_mark : AC :=
 (.seq (.ops o_scan_mark_0)
 (.scope 0 (.seq (.ops o_scan_mark_1)
 (.seq .label
 (.seq (.seq (.ops o_scan_mark_2)
 (.trim [2, 4] (.block 0 (.loop [0, 2, 4, 7, 8, 9] b_scan_mark_0))))
 (.seq (.ops o_scan_mark_9)
 .ret)))) (.seq .skip
 (.seq (.seq (.ops o_scan_mark_2)
 (.trim [2, 4] (.block 0 (.loop [0, 2, 4, 7, 8, 9] b_scan_mark_0))))
 (.seq (.ops o_scan_mark_9)
 .ret)))))
def a_scan_mark : AFn := { body := c_scan_mark, res := [.cell 2 (some 4), .tmp 3] }
def o_ref15_number_0 : List AOp := [
 aQ 4 (.alloc [.nat .i64 0, .nat .i64 0, .d (.str []), .nat .i64 0]),
 aQ 5 (.asg (.c (.nat .i64 0))),
 aQ 6 (.asg (.c (.nat .i64 0)))]
def o_ref15_number_1 : List AOp := [
 aQ 11 (.mov (.t 1)),
 aQ 12 (.mov (.t 0)),
 aQ 13 (.mov (.t 1)),
 aQ 14 (.call (.f f_ref15_figures) [.t 12, .t 13]),
 aQ 15 (.bin .add (.t 11) (.t 14)),
 aQ 7 (.asg (.t 15))]
def o_ref15_number_2 : List AOp := [
 aQ 16 (.mov (.t 7)),
 aQ 17 (.mov (.t 0)),
 aQ 18 (.lenS (.t 17)),
 aQ 19 (.bin .lss (.t 16) (.t 18)),
 aQ 20 (.mov (.t 19)),
 gQ 21 (.mov (.t 0)) 20 true,
 gQ 22 (.mov (.t 7)) 20 true,
 gQ 23 (.idxS (.t 21) (.t 22)) 20 true,
 gQ 24 (.bin .eql (.t 23) (.c (.nat .u8 46))) 20 true,
 aQ 25 (.pick (.t 20) (.t 24) (.c (.d (.bool false)))),
 aQ 26 (.mov (.t 25)),
 gQ 27 (.mov (.t 0)) 26 true,
 gQ 28 (.mov (.t 7)) 26 true,
 gQ 29 (.bin .add (.t 28) (.c (.nat .i64 1))) 26 true,
 gQ 30 (.call (.f f_ref15_figures) [.t 27, .t 29]) 26 true,
 gQ 31 (.bin .gtr (.t 30) (.c (.nat .i64 0))) 26 true,
 aQ 32 (.pick (.t 26) (.t 31) (.c (.d (.bool false))))]
def o_ref15_number_3 : List AOp := [
 aQ 33 (.mov (.t 7)),
 aQ 34 (.bin .add (.t 33) (.c (.nat .i64 1))),
 aQ 35 (.mov (.t 0)),
 aQ 36 (.mov (.t 7)),
 aQ 37 (.bin .add (.t 36) (.c (.nat .i64 1))),
 aQ 38 (.call (.f f_ref15_figures) [.t 35, .t 37]),
 aQ 39 (.bin .add (.t 34) (.t 38)),
 aQ 7 (.asg (.t 39))]
def o_ref15_number_4 : List AOp := [
 aQ 41 (.mov (.t 0)),
 aQ 42 (.mov (.t 1)),
 aQ 43 (.mov (.t 7)),
 aQ 44 (.sliceS (.t 41) (some (.t 42)) (some (.t 43))),
 aQ 45 (.call (.f f_ref02_Read) [.t 44]),
 aQ 40 (.mov (.t 45)),
 aQ 46 (.extr (.t 40) 0),
 aQ 47 (.extr (.t 40) 1),
 aQ 48 (.extr (.t 40) 2),
 aQ 8 (.asg (.t 46)),
 aQ 9 (.asg (.t 47)),
 aQ 10 (.asg (.t 48))]
def o_ref15_number_5 : List AOp := [
 aQ 49 (.mov (.t 10)),
 aQ 50 (.bin .neq (.t 49) (.c (.nat .i64 0)))]
def o_ref15_number_6 : List AOp := [
 aQ 51 (.build [.nat .i64 0, .nat .i64 0, .d (.str []), .nat .i64 0] []),
 { dst := none, op := .store 4 (.t 4) (.t 51) },
 aQ 5 (.asg (.c (.nat .i64 0))),
 aQ 6 (.asg (.c (.nat .i64 3)))]
def o_ref15_number_7 : List AOp := [
 aQ 52 (.mov (.t 8)),
 aQ 53 (.build [.nat .i64 0, .nat .i64 0, .d (.str []), .nat .i64 0] [(0, 1, (.c (.nat .i64 2))), (3, 1, (.t 52))]),
 aQ 54 (.mov (.t 7)),
 { dst := none, op := .store 4 (.t 4) (.t 53) },
 aQ 5 (.asg (.t 54)),
 aQ 6 (.asg (.c (.nat .i64 0)))]
def c_ref15_number : AC :=
 (.seq (.ops o_ref15_number_0)
 (.seq (.ops o_ref15_number_1)
 (.seq (.seq (.ops o_ref15_number_2)
 (.cond (.t 32) (.ops o_ref15_number_3) .skip))
 (.seq (.ops o_ref15_number_4)
 (.seq (.seq (.ops o_ref15_number_5)
 (.cond (.t 50) (.seq (.ops o_ref15_number_6)
 .ret) .skip))
 (.seq (.ops o_ref15_number_7)
 .ret))))))
def a_ref15_number : AFn := { body := c_ref15_number, res := [.cell 4 (some 4), .tmp 5, .tmp 6] }
def o_ref15_text_0 : List AOp := [
 aQ 4 (.alloc [.nat .i64 0, .nat .i64 0, .d (.str []), .nat .i64 0]),
 aQ 5 (.asg (.c (.nat .i64 0))),
 aQ 6 (.asg (.c (.nat .i64 0)))]
def o_ref15_text_1 : List AOp := [
 aQ 11 (.mov (.t 1)),
 aQ 12 (.bin .add (.t 11) (.c (.nat .i64 1))),
 aQ 7 (.asg (.t 12))]
def o_ref15_text_2 : List AOp := [
 aQ 8 (.asg (.c (.nil)))]
def o_ref15_text_3 : List AOp := [
 aQ 13 (.mov (.t 7)),
 aQ 14 (.mov (.t 0)),
 aQ 15 (.lenS (.t 14)),
 aQ 16 (.bin .lss (.t 13) (.t 15)),
 aQ 17 (.mov (.t 16)),
 gQ 18 (.mov (.t 0)) 17 true,
 gQ 19 (.mov (.t 7)) 17 true,
 gQ 20 (.idxS (.t 18) (.t 19)) 17 true,
 gQ 21 (.bin .neq (.t 20) (.c (.nat .u8 10))) 17 true,
 aQ 22 (.pick (.t 17) (.t 21) (.c (.d (.bool false))))]
def o_ref15_text_4 : List AOp := [
 aQ 23 (.mov (.t 0)),
 aQ 24 (.mov (.t 7)),
 aQ 25 (.idxS (.t 23) (.t 24)),
 aQ 26 (.bin .eql (.t 25) (.c (.nat .u8 34)))]
def o_ref15_text_5 : List AOp := [
 aQ 27 (.mov (.t 8)),
 aQ 28 (.bytesStr (.t 27)),
 aQ 29 (.build [.nat .i64 0, .nat .i64 0, .d (.str []), .nat .i64 0] [(0, 1, (.c (.nat .i64 3))), (2, 1, (.t 28))]),
 aQ 30 (.mov (.t 7)),
 aQ 31 (.bin .add (.t 30) (.c (.nat .i64 1))),
 { dst := none, op := .store 4 (.t 4) (.t 29) },
 aQ 5 (.asg (.t 31)),
 aQ 6 (.asg (.c (.nat .i64 0)))]
def o_ref15_text_6 : List AOp := [
 aQ 32 (.mov (.t 0)),
 aQ 33 (.mov (.t 7)),
 aQ 34 (.idxS (.t 32) (.t 33)),
 aQ 35 (.bin .neq (.t 34) (.c (.nat .u8 92)))]
def o_ref15_text_7 : List AOp := [
 aQ 36 (.take 8),
 aQ 37 (.mov (.t 0)),
 aQ 38 (.mov (.t 7)),
 aQ 39 (.idxS (.t 37) (.t 38)),
 aQ 40 (.mkls 1 [.nat .u8 0] [(0, 1, (.t 39))]),
 aQ 41 (.append 1 (.t 36) (.t 40)),
 aQ 8 (.asg (.t 41))]
def o_ref15_text_8 : List AOp := [
 aQ 42 (.mov (.t 7)),
 aQ 43 (.bin .add (.t 42) (.c (.nat .i64 1))),
 aQ 7 (.asg (.t 43))]
def o_ref15_text_9 : List AOp := [
 aQ 44 (.mov (.t 7)),
 aQ 45 (.bin .add (.t 44) (.c (.nat .i64 1))),
 aQ 46 (.mov (.t 0)),
 aQ 47 (.lenS (.t 46)),
 aQ 48 (.bin .lss (.t 45) (.t 47)),
 aQ 49 (.mov (.t 48)),
 gQ 50 (.mov (.t 0)) 49 true,
 gQ 51 (.mov (.t 7)) 49 true,
 gQ 52 (.bin .add (.t 51) (.c (.nat .i64 1))) 49 true,
 gQ 53 (.idxS (.t 50) (.t 52)) 49 true,
 gQ 54 (.bin .eql (.t 53) (.c (.nat .u8 34))) 49 true,
 gQ 55 (.mov (.t 54)) 49 true,
 gQ 56 (.mov (.t 0)) 55 false,
 gQ 57 (.mov (.t 7)) 55 false,
 gQ 58 (.bin .add (.t 57) (.c (.nat .i64 1))) 55 false,
 gQ 59 (.idxS (.t 56) (.t 58)) 55 false,
 gQ 60 (.bin .eql (.t 59) (.c (.nat .u8 92))) 55 false,
 gQ 61 (.pick (.t 55) (.c (.d (.bool true))) (.t 60)) 49 true,
 gQ 62 (.mov (.t 61)) 49 true,
 gQ 63 (.mov (.t 0)) 62 false,
 gQ 64 (.mov (.t 7)) 62 false,
 gQ 65 (.bin .add (.t 64) (.c (.nat .i64 1))) 62 false,
 gQ 66 (.idxS (.t 63) (.t 65)) 62 false,
 gQ 67 (.bin .eql (.t 66) (.c (.nat .u8 47))) 62 false,
 gQ 68 (.pick (.t 62) (.c (.d (.bool true))) (.t 67)) 49 true,
 aQ 69 (.pick (.t 49) (.t 68) (.c (.d (.bool false))))]
def o_ref15_text_10 : List AOp := [
 aQ 70 (.take 8),
 aQ 71 (.mov (.t 0)),
 aQ 72 (.mov (.t 7)),
 aQ 73 (.bin .add (.t 72) (.c (.nat .i64 1))),
 aQ 74 (.idxS (.t 71) (.t 73)),
 aQ 75 (.mkls 1 [.nat .u8 0] [(0, 1, (.t 74))]),
 aQ 76 (.append 1 (.t 70) (.t 75)),
 aQ 8 (.asg (.t 76))]
def o_ref15_text_11 : List AOp := [
 aQ 77 (.mov (.t 7)),
 aQ 78 (.bin .add (.t 77) (.c (.nat .i64 2))),
 aQ 7 (.asg (.t 78))]
def o_ref15_text_12 : List AOp := [
 aQ 79 (.mov (.t 7)),
 aQ 80 (.bin .add (.t 79) (.c (.nat .i64 3))),
 aQ 81 (.mov (.t 0)),
 aQ 82 (.lenS (.t 81)),
 aQ 83 (.bin .geq (.t 80) (.t 82)),
 aQ 84 (.mov (.t 83)),
 gQ 85 (.mov (.t 0)) 84 false,
 gQ 86 (.mov (.t 7)) 84 false,
 gQ 87 (.bin .add (.t 86) (.c (.nat .i64 1))) 84 false,
 gQ 88 (.idxS (.t 85) (.t 87)) 84 false,
 gQ 89 (.bin .neq (.t 88) (.c (.nat .u8 120))) 84 false,
 aQ 90 (.pick (.t 84) (.c (.d (.bool true))) (.t 89))]
def o_ref15_text_13 : List AOp := [
 aQ 91 (.mov (.t 0)),
 aQ 92 (.mov (.t 7)),
 aQ 93 (.bin .add (.t 92) (.c (.nat .i64 2))),
 aQ 94 (.idxS (.t 91) (.t 93)),
 aQ 95 (.call (.f f_ref01_Digit) [.t 94]),
 aQ 9 (.asg (.t 95))]
def o_ref15_text_14 : List AOp := [
 aQ 96 (.mov (.t 0)),
 aQ 97 (.mov (.t 7)),
 aQ 98 (.bin .add (.t 97) (.c (.nat .i64 3))),
 aQ 99 (.idxS (.t 96) (.t 98)),
 aQ 100 (.call (.f f_ref01_Digit) [.t 99]),
 aQ 10 (.asg (.t 100))]
def o_ref15_text_15 : List AOp := [
 aQ 101 (.mov (.t 9)),
 aQ 102 (.bin .lss (.t 101) (.c (.nat .i64 0))),
 aQ 103 (.mov (.t 102)),
 gQ 104 (.mov (.t 10)) 103 false,
 gQ 105 (.bin .lss (.t 104) (.c (.nat .i64 0))) 103 false,
 aQ 106 (.pick (.t 103) (.c (.d (.bool true))) (.t 105)),
 aQ 107 (.mov (.t 106)),
 gQ 108 (.mov (.t 9)) 107 false,
 gQ 109 (.bin .eql (.t 108) (.c (.nat .i64 0))) 107 false,
 gQ 110 (.mov (.t 109)) 107 false,
 gQ 111 (.mov (.t 10)) 110 true,
 gQ 112 (.bin .eql (.t 111) (.c (.nat .i64 10))) 110 true,
 gQ 113 (.pick (.t 110) (.t 112) (.c (.d (.bool false)))) 107 false,
 aQ 114 (.pick (.t 107) (.c (.d (.bool true))) (.t 113))]
def o_ref15_text_16 : List AOp := [
 aQ 115 (.take 8),
 aQ 116 (.mov (.t 9)),
 aQ 117 (.bin .mul (.c (.nat .i64 16)) (.t 116)),
 aQ 118 (.mov (.t 10)),
 aQ 119 (.bin .add (.t 117) (.t 118)),
 aQ 120 (.toInt .u8 (.t 119)),
 aQ 121 (.mkls 1 [.nat .u8 0] [(0, 1, (.t 120))]),
 aQ 122 (.append 1 (.t 115) (.t 121)),
 aQ 8 (.asg (.t 122))]
def o_ref15_text_17 : List AOp := [
 aQ 123 (.mov (.t 7)),
 aQ 124 (.bin .add (.t 123) (.c (.nat .i64 4))),
 aQ 7 (.asg (.t 124))]
def b_ref15_text_0 : AC := (.seq (.seq (.ops o_ref15_text_3)
 (.cond (.t 22) .skip (.exit 0)))
 (.trim [0, 4, 7, 8] (.block 1 (.seq (.seq (.ops o_ref15_text_4)
 (.cond (.t 26) (.seq (.ops o_ref15_text_5)
 .ret) .skip))
 (.seq (.seq (.ops o_ref15_text_6)
 (.cond (.t 35) (.seq (.ops o_ref15_text_7)
 (.seq (.ops o_ref15_text_8)
 (.exit 1))) .skip))
 (.seq (.seq (.ops o_ref15_text_9)
 (.cond (.t 69) (.seq (.ops o_ref15_text_10)
 (.seq (.ops o_ref15_text_11)
 (.exit 1))) .skip))
 (.seq (.seq (.ops o_ref15_text_12)
 (.cond (.t 90) (.exit 0) .skip))
 (.seq (.ops o_ref15_text_13)
 (.seq (.ops o_ref15_text_14)
 (.seq (.seq (.ops o_ref15_text_15)
 (.cond (.t 114) (.exit 0) .skip))
 (.seq (.ops o_ref15_text_16)
 (.ops o_ref15_text_17))))))))))))
def o_ref15_text_18 : List AOp := [
 aQ 125 (.build [.nat .i64 0, .nat .i64 0, .d (.str []), .nat .i64 0] []),
 { dst := none, op := .store 4 (.t 4) (.t 125) },
 aQ 5 (.asg (.c (.nat .i64 0))),
 aQ 6 (.asg (.c (.nat .i64 9)))]
def c_ref15_text : AC :=
 (.seq (.ops o_ref15_text_0)
 (.seq (.ops o_ref15_text_1)
 (.seq (.ops o_ref15_text_2)
 (.seq (.trim [4] (.block 0 (.loop [0, 4, 7, 8] b_ref15_text_0)))
 (.seq (.ops o_ref15_text_18)
 .ret)))))
def a_ref15_text : AFn := { body := c_ref15_text, res := [.cell 4 (some 4), .tmp 5, .tmp 6] }
def o_ref15_expression_0 : List AOp := [
 aQ 4 (.alloc [.nat .i64 0, .nat .i64 0, .d (.str []), .nat .i64 0]),
 aQ 5 (.asg (.c (.nat .i64 0))),
 aQ 6 (.asg (.c (.nat .i64 0)))]
def o_ref15_expression_1 : List AOp := [
 aQ 10 (.mov (.t 1)),
 aQ 11 (.bin .add (.t 10) (.c (.nat .i64 1))),
 aQ 7 (.asg (.t 11))]
def o_ref15_expression_2 : List AOp := [
 aQ 12 (.mov (.t 7)),
 aQ 13 (.mov (.t 0)),
 aQ 14 (.lenS (.t 13)),
 aQ 15 (.bin .lss (.t 12) (.t 14)),
 aQ 16 (.mov (.t 15)),
 gQ 17 (.mov (.t 0)) 16 true,
 gQ 18 (.mov (.t 7)) 16 true,
 gQ 19 (.idxS (.t 17) (.t 18)) 16 true,
 gQ 20 (.bin .neq (.t 19) (.c (.nat .u8 10))) 16 true,
 aQ 21 (.pick (.t 16) (.t 20) (.c (.d (.bool false)))),
 aQ 22 (.mov (.t 21)),
 gQ 23 (.mov (.t 0)) 22 true,
 gQ 24 (.mov (.t 7)) 22 true,
 gQ 25 (.idxS (.t 23) (.t 24)) 22 true,
 gQ 26 (.bin .neq (.t 25) (.c (.nat .u8 47))) 22 true,
 aQ 27 (.pick (.t 22) (.t 26) (.c (.d (.bool false))))]
def o_ref15_expression_3 : List AOp := [
 aQ 28 (.mov (.t 0)),
 aQ 29 (.mov (.t 7)),
 aQ 30 (.idxS (.t 28) (.t 29)),
 aQ 31 (.bin .eql (.t 30) (.c (.nat .u8 92)))]
def o_ref15_expression_4 : List AOp := [
 aQ 32 (.mov (.t 7)),
 aQ 33 (.bin .add (.t 32) (.c (.nat .i64 1))),
 aQ 7 (.asg (.t 33))]
def o_ref15_expression_5 : List AOp := [
 aQ 34 (.mov (.t 7)),
 aQ 35 (.mov (.t 0)),
 aQ 36 (.lenS (.t 35)),
 aQ 37 (.bin .lss (.t 34) (.t 36)),
 aQ 38 (.mov (.t 37)),
 gQ 39 (.mov (.t 0)) 38 true,
 gQ 40 (.mov (.t 7)) 38 true,
 gQ 41 (.idxS (.t 39) (.t 40)) 38 true,
 gQ 42 (.bin .eql (.t 41) (.c (.nat .u8 10))) 38 true,
 aQ 43 (.pick (.t 38) (.t 42) (.c (.d (.bool false))))]
def o_ref15_expression_6 : List AOp := [
 aQ 44 (.build [.nat .i64 0, .nat .i64 0, .d (.str []), .nat .i64 0] []),
 { dst := none, op := .store 4 (.t 4) (.t 44) },
 aQ 5 (.asg (.c (.nat .i64 0))),
 aQ 6 (.asg (.c (.nat .i64 9)))]
def o_ref15_expression_7 : List AOp := [
 aQ 45 (.mov (.t 7)),
 aQ 46 (.bin .add (.t 45) (.c (.nat .i64 1))),
 aQ 7 (.asg (.t 46))]
def b_ref15_expression_0 : AC := (.seq (.seq (.ops o_ref15_expression_2)
 (.cond (.t 27) .skip (.exit 0)))
 (.trim [0, 1, 4, 7] (.block 1 (.seq (.seq (.ops o_ref15_expression_3)
 (.cond (.t 31) (.seq (.ops o_ref15_expression_4)
 (.seq (.ops o_ref15_expression_5)
 (.cond (.t 43) (.seq (.ops o_ref15_expression_6)
 .ret) .skip))) .skip))
 (.ops o_ref15_expression_7)))))
def o_ref15_expression_8 : List AOp := [
 aQ 47 (.mov (.t 7)),
 aQ 48 (.mov (.t 0)),
 aQ 49 (.lenS (.t 48)),
 aQ 50 (.bin .geq (.t 47) (.t 49)),
 aQ 51 (.mov (.t 50)),
 gQ 52 (.mov (.t 0)) 51 false,
 gQ 53 (.mov (.t 7)) 51 false,
 gQ 54 (.idxS (.t 52) (.t 53)) 51 false,
 gQ 55 (.bin .neq (.t 54) (.c (.nat .u8 47))) 51 false,
 aQ 56 (.pick (.t 51) (.c (.d (.bool true))) (.t 55))]
def o_ref15_expression_9 : List AOp := [
 aQ 57 (.build [.nat .i64 0, .nat .i64 0, .d (.str []), .nat .i64 0] []),
 { dst := none, op := .store 4 (.t 4) (.t 57) },
 aQ 5 (.asg (.c (.nat .i64 0))),
 aQ 6 (.asg (.c (.nat .i64 9)))]
def o_ref15_expression_10 : List AOp := [
 aQ 59 (.mov (.t 0)),
 aQ 60 (.mov (.t 1)),
 aQ 61 (.bin .add (.t 60) (.c (.nat .i64 1))),
 aQ 62 (.mov (.t 7)),
 aQ 63 (.sliceS (.t 59) (some (.t 61)) (some (.t 62))),
 aQ 64 (.call (.f f_ref05_Read) [.t 63]),
 aQ 58 (.mov (.t 64)),
 aQ 65 (.extr (.t 58) 0),
 aQ 66 (.extr (.t 58) 1),
 aQ 8 (.asg (.t 65)),
 aQ 9 (.asg (.t 66))]
def o_ref15_expression_11 : List AOp := [
 aQ 67 (.mov (.t 9)),
 aQ 68 (.bin .neq (.t 67) (.c (.nat .i64 0)))]
def o_ref15_expression_12 : List AOp := [
 aQ 69 (.build [.nat .i64 0, .nat .i64 0, .d (.str []), .nat .i64 0] []),
 { dst := none, op := .store 4 (.t 4) (.t 69) },
 aQ 5 (.asg (.c (.nat .i64 0))),
 aQ 6 (.asg (.c (.nat .i64 9)))]
def o_ref15_expression_13 : List AOp := [
 aQ 70 (.mov (.t 0)),
 aQ 71 (.mov (.t 1)),
 aQ 72 (.bin .add (.t 71) (.c (.nat .i64 1))),
 aQ 73 (.mov (.t 7)),
 aQ 74 (.sliceS (.t 70) (some (.t 72)) (some (.t 73))),
 aQ 75 (.build [.nat .i64 0, .nat .i64 0, .d (.str []), .nat .i64 0] [(0, 1, (.c (.nat .i64 4))), (2, 1, (.t 74))]),
 aQ 76 (.mov (.t 7)),
 aQ 77 (.bin .add (.t 76) (.c (.nat .i64 1))),
 { dst := none, op := .store 4 (.t 4) (.t 75) },
 aQ 5 (.asg (.t 77)),
 aQ 6 (.asg (.c (.nat .i64 0)))]
def c_ref15_expression : AC :=
 (.seq (.ops o_ref15_expression_0)
 (.seq (.ops o_ref15_expression_1)
 (.seq (.trim [0, 1, 4, 7] (.block 0 (.loop [0, 1, 4, 7] b_ref15_expression_0)))
 (.seq (.seq (.ops o_ref15_expression_8)
 (.cond (.t 56) (.seq (.ops o_ref15_expression_9)
 .ret) .skip))
 (.seq (.ops o_ref15_expression_10)
 (.seq (.seq (.ops o_ref15_expression_11)
 (.cond (.t 68) (.seq (.ops o_ref15_expression_12)
 .ret) .skip))
 (.seq (.ops o_ref15_expression_13)
 .ret)))))))
def a_ref15_expression : AFn := { body := c_ref15_expression, res := [.cell 4 (some 4), .tmp 5, .tmp 6] }
def o_ref01_IsName_0 : List AOp := [
 aQ 2 (.asg (.c (.d (.bool false))))]
def o_ref01_IsName_1 : List AOp := [
 aQ 3 (.asg (.c (.nat .i64 0)))]
def o_ref01_IsName_2 : List AOp := [
 aQ 6 (.mov (.t 3)),
 aQ 7 (.mov (.t 0)),
 aQ 8 (.lenS (.t 7)),
 aQ 9 (.bin .lss (.t 6) (.t 8))]
def o_ref01_IsName_4 : List AOp := [
 aQ 12 (.mov (.t 0)),
 aQ 13 (.mov (.t 3)),
 aQ 14 (.idxS (.t 12) (.t 13)),
 aQ 4 (.asg (.t 14))]
def o_ref01_IsName_5 : List AOp := [
 aQ 15 (.mov (.t 4)),
 aQ 16 (.bin .geq (.t 15) (.c (.nat .u8 65))),
 aQ 17 (.mov (.t 16)),
 gQ 18 (.mov (.t 4)) 17 true,
 gQ 19 (.bin .leq (.t 18) (.c (.nat .u8 90))) 17 true,
 aQ 20 (.pick (.t 17) (.t 19) (.c (.d (.bool false)))),
 aQ 21 (.mov (.t 20)),
 gQ 22 (.mov (.t 4)) 21 false,
 gQ 23 (.bin .geq (.t 22) (.c (.nat .u8 97))) 21 false,
 gQ 24 (.mov (.t 23)) 21 false,
 gQ 25 (.mov (.t 4)) 24 true,
 gQ 26 (.bin .leq (.t 25) (.c (.nat .u8 122))) 24 true,
 gQ 27 (.pick (.t 24) (.t 26) (.c (.d (.bool false)))) 21 false,
 aQ 28 (.pick (.t 21) (.c (.d (.bool true))) (.t 27)),
 aQ 29 (.mov (.t 28)),
 gQ 30 (.mov (.t 4)) 29 false,
 gQ 31 (.bin .eql (.t 30) (.c (.nat .u8 95))) 29 false,
 aQ 32 (.pick (.t 29) (.c (.d (.bool true))) (.t 31)),
 aQ 5 (.asg (.t 32))]
def o_ref01_IsName_6 : List AOp := [
 aQ 33 (.mov (.t 5)),
 aQ 34 (.un .not (.t 33)),
 aQ 35 (.mov (.t 34)),
 gQ 36 (.mov (.t 3)) 35 true,
 gQ 37 (.bin .eql (.t 36) (.c (.nat .i64 0))) 35 true,
 gQ 38 (.mov (.t 37)) 35 true,
 gQ 39 (.mov (.t 4)) 38 false,
 gQ 40 (.bin .lss (.t 39) (.c (.nat .u8 48))) 38 false,
 gQ 41 (.pick (.t 38) (.c (.d (.bool true))) (.t 40)) 35 true,
 gQ 42 (.mov (.t 41)) 35 true,
 gQ 43 (.mov (.t 4)) 42 false,
 gQ 44 (.bin .gtr (.t 43) (.c (.nat .u8 57))) 42 false,
 gQ 45 (.pick (.t 42) (.c (.d (.bool true))) (.t 44)) 35 true,
 aQ 46 (.pick (.t 35) (.t 45) (.c (.d (.bool false))))]
def o_ref01_IsName_7 : List AOp := [
 aQ 2 (.asg (.c (.d (.bool false))))]
def o_ref01_IsName_3 : List AOp := [
 aQ 10 (.mov (.t 3)),
 aQ 11 (.bin .add (.t 10) (.c (.nat .i64 1))),
 aQ 3 (.asg (.t 11))]
def b_ref01_IsName_0 : AC := (.seq (.seq (.ops o_ref01_IsName_2)
 (.cond (.t 9) .skip (.exit 0)))
 (.seq (.trim [0, 3] (.block 1 (.seq (.ops o_ref01_IsName_4)
 (.seq (.ops o_ref01_IsName_5)
 (.seq (.ops o_ref01_IsName_6)
 (.cond (.t 46) (.seq (.ops o_ref01_IsName_7)
 .ret) .skip))))))
 (.ops o_ref01_IsName_3)))
def o_ref01_IsName_8 : List AOp := [
 aQ 47 (.mov (.t 0)),
 aQ 48 (.lenS (.t 47)),
 aQ 49 (.bin .gtr (.t 48) (.c (.nat .i64 0))),
 aQ 2 (.asg (.t 49))]
def c_ref01_IsName : AC :=
 (.seq (.ops o_ref01_IsName_0)
 (.seq (.seq (.ops o_ref01_IsName_1)
 (.trim [0] (.block 0 (.loop [0, 3] b_ref01_IsName_0))))
 (.seq (.ops o_ref01_IsName_8)
 .ret)))
def a_ref01_IsName : AFn := { body := c_ref01_IsName, res := [.tmp 2] }
def o_ref15_among_0 : List AOp := [
 aQ 4 (.asg (.c (.d (.bool false))))]
def o_ref15_among_1 : List AOp := [
 aQ 5 (.asg (.c (.nat .i64 0)))]
def o_ref15_among_2 : List AOp := [
 aQ 6 (.mov (.t 5)),
 aQ 7 (.mov (.t 0)),
 aQ 8 (.len (.t 7)),
 aQ 9 (.bin .lss (.t 6) (.t 8))]
def o_ref15_among_4 : List AOp := [
 aQ 12 (.mov (.t 0)),
 aQ 13 (.mov (.t 5)),
 aQ 14 (.idxA none 1 (.t 12) (.t 13)),
 aQ 15 (.load none (.t 14)),
 aQ 16 (.mov (.t 1)),
 aQ 17 (.bin .eql (.t 15) (.t 16))]
def o_ref15_among_5 : List AOp := [
 aQ 4 (.asg (.c (.d (.bool true))))]
def o_ref15_among_3 : List AOp := [
 aQ 10 (.mov (.t 5)),
 aQ 11 (.bin .add (.t 10) (.c (.nat .i64 1))),
 aQ 5 (.asg (.t 11))]
def b_ref15_among_0 : AC := (.seq (.seq (.ops o_ref15_among_2)
 (.cond (.t 9) .skip (.exit 0)))
 (.seq (.trim [0, 1, 5] (.block 1 (.seq (.ops o_ref15_among_4)
 (.cond (.t 17) (.seq (.ops o_ref15_among_5)
 .ret) .skip))))
 (.ops o_ref15_among_3)))
def o_ref15_among_6 : List AOp := [
 aQ 4 (.asg (.c (.d (.bool false))))]
def c_ref15_among : AC :=
 (.seq (.ops o_ref15_among_0)
 (.seq (.seq (.ops o_ref15_among_1)
 (.trim [] (.block 0 (.loop [0, 1, 5] b_ref15_among_0))))
 (.seq (.ops o_ref15_among_6)
 .ret)))
def a_ref15_among : AFn := { body := c_ref15_among, res := [.tmp 4] }
def o_scan_number_1_0 : List AOp := [
 aQ 2 (.load none (.t 0)),
 aQ 3 (.load none (.t 1)),
 aQ 4 (.lenS (.t 3)),
 aQ 5 (.bin .lss (.t 2) (.t 4)),
 aQ 6 (.mov (.t 5)),
 gQ 7 (.load none (.t 1)) 6 true,
 gQ 8 (.load none (.t 0)) 6 true,
 gQ 9 (.idxS (.t 7) (.t 8)) 6 true,
 gQ 10 (.call (.f f_scan_isFigure) [.t 9]) 6 true,
 aQ 11 (.pick (.t 6) (.t 10) (.c (.d (.bool false))))]
def o_scan_number_1_1 : List AOp := [
 aQ 12 (.load none (.t 0)),
 aQ 13 (.bin .add (.t 12) (.c (.nat .i64 1))),
 { dst := none, op := .store 1 (.t 0) (.t 13) }]
def b_scan_number_1_0 : AC := (.seq (.seq (.ops o_scan_number_1_0)
 (.cond (.t 11) .skip (.exit 0)))
 (.trim [0, 1] (.block 1 (.ops o_scan_number_1_1))))
def c_scan_number_1 : AC :=
 (.trim [] (.block 0 (.loop [0, 1] b_scan_number_1_0)))
def a_scan_number_1 : AFn := { body := c_scan_number_1, res := [] }
def o_dec_Read_0 : List AOp := [
 aQ 2 (.alloc [.nat .i64 0]),
 aQ 3 (.alloc [.nat .i64 0]),
 aQ 4 (.alloc [.nat .i64 0])]
def o_dec_Read_1 : List AOp := [
 aQ 16 (.mkfn (.func f_dec_Read_1) [] [.t 4, .t 3]),
 { dst := none, op := .defer (.t 16) [] }]
def o_dec_Read_2 : List AOp := [
 { dst := none, op := .defer (.f f_dec_caught) [.t 2, .t 4] }]
def o_dec_Read_3 : List AOp := [
 aQ 18 (.mov (.t 0)),
 aQ 19 (.call (.f f_dec_span) [.t 18]),
 aQ 17 (.mov (.t 19)),
 aQ 20 (.extr (.t 17) 0),
 aQ 21 (.extr (.t 17) 1),
 aQ 22 (.extr (.t 17) 2),
 aQ 23 (.extr (.t 17) 3),
 aQ 5 (.asg (.t 20)),
 aQ 6 (.asg (.t 21)),
 aQ 7 (.asg (.t 22)),
 aQ 8 (.asg (.t 23))]
def o_dec_Read_4 : List AOp := [
 aQ 24 (.mov (.t 7)),
 aQ 25 (.mov (.t 6)),
 aQ 26 (.bin .eql (.t 24) (.t 25)),
 aQ 27 (.mov (.t 26)),
 gQ 28 (.mov (.t 8)) 27 true,
 gQ 29 (.mov (.t 7)) 27 true,
 gQ 30 (.bin .add (.t 29) (.c (.nat .i64 1))) 27 true,
 gQ 31 (.bin .leq (.t 28) (.t 30)) 27 true,
 aQ 32 (.pick (.t 27) (.t 31) (.c (.d (.bool false)))),
 aQ 33 (.call (.f f_dec_wrong) [.t 32, .c (.nat .i64 2)])]
def o_dec_Read_5 : List AOp := [
 aQ 9 (.asg (.c (.d (.str []))))]
def o_dec_Read_6 : List AOp := [
 aQ 34 (.mov (.t 7)),
 aQ 35 (.mov (.t 8)),
 aQ 36 (.bin .lss (.t 34) (.t 35))]
def o_dec_Read_7 : List AOp := [
 aQ 37 (.mov (.t 0)),
 aQ 38 (.mov (.t 7)),
 aQ 39 (.bin .add (.t 38) (.c (.nat .i64 1))),
 aQ 40 (.mov (.t 8)),
 aQ 41 (.sliceS (.t 37) (some (.t 39)) (some (.t 40))),
 aQ 9 (.asg (.t 41))]
def o_dec_Read_8 : List AOp := [
 aQ 42 (.mov (.t 9)),
 aQ 43 (.bin .add (.t 42) (.c (.d (.str [48, 48, 48, 48, 48, 48])))),
 aQ 44 (.sliceS (.t 43) none (some (.c (.nat .i64 6)))),
 aQ 9 (.asg (.t 44))]
def o_dec_Read_9 : List AOp := [
 aQ 10 (.asg (.c (.nat .u64 0)))]
def o_dec_Read_10 : List AOp := [
 aQ 45 (.mov (.t 0)),
 aQ 46 (.mov (.t 6)),
 aQ 47 (.mov (.t 7)),
 aQ 48 (.sliceS (.t 45) (some (.t 46)) (some (.t 47))),
 aQ 49 (.mov (.t 9)),
 aQ 50 (.bin .add (.t 48) (.t 49)),
 aQ 51 (.strBytes (.t 50)),
 aQ 52 (.len (.t 51)),
 aQ 53 (.mov (.c (.nat .i64 0)))]
def o_dec_Read_11 : List AOp := [
 aQ 54 (.bin .lss (.t 53) (.t 52))]
def o_dec_Read_12 : List AOp := [
 aQ 55 (.idxA none 1 (.t 51) (.t 53)),
 aQ 56 (.load none (.t 55)),
 aQ 12 (.asg (.t 56))]
def o_dec_Read_13 : List AOp := [
 aQ 58 (.mov (.t 10)),
 aQ 59 (.call (.f f_bits_Mul64) [.t 58, .c (.nat .u64 10)]),
 aQ 57 (.mov (.t 59)),
 aQ 60 (.extr (.t 57) 0),
 aQ 61 (.extr (.t 57) 1),
 aQ 13 (.asg (.t 60)),
 aQ 14 (.asg (.t 61))]
def o_dec_Read_14 : List AOp := [
 aQ 63 (.mov (.t 14)),
 aQ 64 (.mov (.t 12)),
 aQ 65 (.bin .sub (.t 64) (.c (.nat .u8 48))),
 aQ 66 (.toInt .u64 (.t 65)),
 aQ 67 (.call (.f f_bits_Add64) [.t 63, .t 66, .c (.nat .u64 0)]),
 aQ 62 (.mov (.t 67)),
 aQ 68 (.extr (.t 62) 0),
 aQ 69 (.extr (.t 62) 1),
 aQ 14 (.asg (.t 68)),
 aQ 15 (.asg (.t 69))]
def o_dec_Read_15 : List AOp := [
 aQ 70 (.mov (.t 13)),
 aQ 71 (.mov (.t 15)),
 aQ 72 (.bin .add (.t 70) (.t 71)),
 aQ 73 (.bin .neq (.t 72) (.c (.nat .u64 0))),
 aQ 74 (.call (.f f_dec_wrong) [.t 73, .c (.nat .i64 3)])]
def o_dec_Read_16 : List AOp := [
 aQ 75 (.mov (.t 14)),
 aQ 10 (.asg (.t 75))]
def o_dec_Read_17 : List AOp := [
 aQ 76 (.bin .add (.t 53) (.c (.nat .i64 1))),
 aQ 53 (.mov (.t 76))]
def b_dec_Read_0 : AC := (.seq (.ops o_dec_Read_11)
 (.seq (.cond (.t 54) .skip (.exit 0))
 (.seq (.trim [0, 2, 3, 4, 5, 8, 10, 51, 52, 53] (.block 1 (.seq (.ops o_dec_Read_12)
 (.seq (.ops o_dec_Read_13)
 (.seq (.ops o_dec_Read_14)
 (.seq (.ops o_dec_Read_15)
 (.ops o_dec_Read_16)))))))
 (.ops o_dec_Read_17))))
def o_dec_Read_18 : List AOp := [
 aQ 77 (.mov (.t 10)),
 aQ 78 (.mov (.t 0)),
 aQ 79 (.mov (.t 5)),
 aQ 80 (.idxS (.t 78) (.t 79)),
 aQ 81 (.bin .eql (.t 80) (.c (.nat .u8 45))),
 aQ 82 (.call (.f f_dec_joined) [.c (.nat .u64 0), .t 77, .t 81]),
 aQ 83 (.mov (.t 8)),
 { dst := none, op := .store 1 (.t 2) (.t 82) },
 { dst := none, op := .store 1 (.t 3) (.t 83) },
 { dst := none, op := .store 1 (.t 4) (.c (.nat .i64 0)) }]
def c_dec_Read : AC :=
 (.seq (.ops o_dec_Read_0)
 (.seq (.ops o_dec_Read_1)
 (.seq (.ops o_dec_Read_2)
 (.seq (.ops o_dec_Read_3)
 (.seq (.ops o_dec_Read_4)
 (.seq (.ops o_dec_Read_5)
 (.seq (.seq (.ops o_dec_Read_6)
 (.cond (.t 36) (.ops o_dec_Read_7) .skip))
 (.seq (.ops o_dec_Read_8)
 (.seq (.ops o_dec_Read_9)
 (.seq (.seq (.ops o_dec_Read_10)
 (.trim [0, 2, 3, 4, 5, 8, 10] (.block 0 (.loop [0, 2, 3, 4, 5, 8, 10, 51, 52, 53] b_dec_Read_0))))
 (.seq (.ops o_dec_Read_18)
 .ret)))))))))))
def a_dec_Read : AFn := { body := c_dec_Read, res := [.cell 2 none, .cell 3 none, .cell 4 none] }
def o_strings_IndexByte_0 : List AOp := [
 aQ 4 (.asg (.c (.nat .i64 0)))]
def o_strings_IndexByte_1 : List AOp := [
 aQ 5 (.mov (.t 0)),
 aQ 6 (.mov (.t 1)),
 aQ 7 (.call (.f f_stringslite_IndexByte) [.t 5, .t 6]),
 aQ 4 (.asg (.t 7))]
def c_strings_IndexByte : AC :=
 (.seq (.ops o_strings_IndexByte_0)
 (.seq (.ops o_strings_IndexByte_1)
 .ret))
def a_strings_IndexByte : AFn := { body := c_strings_IndexByte, res := [.tmp 4] }
def o_hex_Digit_0 : List AOp := [
 aQ 2 (.asg (.c (.nat .i64 0)))]
def o_hex_Digit_1 : List AOp := [
 aQ 4 (.mov (.t 0)),
 aQ 5 (.bin .geq (.t 4) (.c (.nat .u8 48))),
 aQ 6 (.mov (.t 5)),
 gQ 7 (.mov (.t 0)) 6 true,
 gQ 8 (.bin .leq (.t 7) (.c (.nat .u8 57))) 6 true,
 aQ 9 (.pick (.t 6) (.t 8) (.c (.d (.bool false)))),
 aQ 3 (.asg (.t 9))]
def o_hex_Digit_2 : List AOp := [
 aQ 10 (.mov (.t 0)),
 aQ 11 (.bin .sub (.t 10) (.c (.nat .u8 48))),
 aQ 12 (.toInt .i64 (.t 11)),
 aQ 2 (.asg (.t 12))]
def o_hex_Digit_3 : List AOp := [
 aQ 14 (.mov (.t 0)),
 aQ 15 (.bin .geq (.t 14) (.c (.nat .u8 97))),
 aQ 16 (.mov (.t 15)),
 gQ 17 (.mov (.t 0)) 16 true,
 gQ 18 (.bin .leq (.t 17) (.c (.nat .u8 102))) 16 true,
 aQ 19 (.pick (.t 16) (.t 18) (.c (.d (.bool false)))),
 aQ 13 (.asg (.t 19))]
def o_hex_Digit_4 : List AOp := [
 aQ 20 (.mov (.t 0)),
 aQ 21 (.bin .sub (.t 20) (.c (.nat .u8 97))),
 aQ 22 (.toInt .i64 (.t 21)),
 aQ 23 (.bin .add (.t 22) (.c (.nat .i64 10))),
 aQ 2 (.asg (.t 23))]
def o_hex_Digit_5 : List AOp := [
 aQ 25 (.mov (.t 0)),
 aQ 26 (.bin .geq (.t 25) (.c (.nat .u8 65))),
 aQ 27 (.mov (.t 26)),
 gQ 28 (.mov (.t 0)) 27 true,
 gQ 29 (.bin .leq (.t 28) (.c (.nat .u8 70))) 27 true,
 aQ 30 (.pick (.t 27) (.t 29) (.c (.d (.bool false)))),
 aQ 24 (.asg (.t 30))]
def o_hex_Digit_6 : List AOp := [
 aQ 31 (.mov (.t 0)),
 aQ 32 (.bin .sub (.t 31) (.c (.nat .u8 65))),
 aQ 33 (.toInt .i64 (.t 32)),
 aQ 34 (.bin .add (.t 33) (.c (.nat .i64 10))),
 aQ 2 (.asg (.t 34))]
def o_hex_Digit_7 : List AOp := [
 aQ 2 (.asg (.c (.d (.int .i64 (-1)))))]
def c_hex_Digit : AC :=
 (.seq (.ops o_hex_Digit_0)
 (.seq (.trim [] (.block 0 (.seq (.ops o_hex_Digit_1)
 (.cond (.t 3) (.seq (.ops o_hex_Digit_2)
 .ret) (.seq (.ops o_hex_Digit_3)
 (.cond (.t 13) (.seq (.ops o_hex_Digit_4)
 .ret) (.seq (.ops o_hex_Digit_5)
 (.cond (.t 24) (.seq (.ops o_hex_Digit_6)
 .ret) .skip))))))))
 (.seq (.ops o_hex_Digit_7)
 .ret)))
def a_hex_Digit : AFn := { body := c_hex_Digit, res := [.tmp 2] }
def o_regex_Read_0 : List AOp := [
 aQ 2 (.alloc [.nil]),
 aQ 3 (.alloc [.nat .i64 0])]
def o_regex_Read_1 : List AOp := [
 aQ 5 (.mkfn (.func f_regex_Read_1) [] [.t 2, .t 3]),
 { dst := none, op := .defer (.t 5) [] }]
def o_regex_Read_2 : List AOp := [
 aQ 6 (.mov (.t 0)),
 aQ 7 (.build [.d (.str []), .nat .i64 0, .nat .i64 0, .nil] [(0, 1, (.t 6))]),
 aQ 8 (.box (.t 7)),
 aQ 4 (.asg (.t 8))]
def o_regex_Read_3 : List AOp := [
 aQ 9 (.mov (.t 4)),
 aQ 10 (.call (.f f_regex_reader_all) [.t 9])]
def o_regex_Read_4 : List AOp := [
 aQ 11 (.mov (.t 4)),
 aQ 12 (.nilchk (.t 11)),
 aQ 13 (.fldA 1 (.t 12)),
 aQ 14 (.load none (.t 13)),
 aQ 15 (.mov (.t 0)),
 aQ 16 (.lenS (.t 15)),
 aQ 17 (.bin .lss (.t 14) (.t 16))]
def o_regex_Read_5 : List AOp := [
 { dst := none, op := .store 1 (.t 2) (.c (.nil)) },
 { dst := none, op := .store 1 (.t 3) (.c (.nat .i64 9)) }]
def o_regex_Read_6 : List AOp := [
 aQ 18 (.mov (.t 4)),
 aQ 19 (.nilchk (.t 18)),
 aQ 20 (.fldA 3 (.t 19)),
 aQ 21 (.load none (.t 20)),
 { dst := none, op := .store 1 (.t 2) (.t 21) },
 { dst := none, op := .store 1 (.t 3) (.c (.nat .i64 0)) }]
def c_regex_Read : AC :=
 (.seq (.ops o_regex_Read_0)
 (.seq (.ops o_regex_Read_1)
 (.seq (.ops o_regex_Read_2)
 (.seq (.ops o_regex_Read_3)
 (.seq (.seq (.ops o_regex_Read_4)
 (.cond (.t 17) (.seq (.ops o_regex_Read_5)
 .ret) .skip))
 (.seq (.ops o_regex_Read_6)
 .ret))))))
def a_regex_Read : AFn := { body := c_regex_Read, res := [.cell 2 none, .cell 3 none] }
def o_hex_IsName_1_0 : List AOp := [
 aQ 2 (.asg (.c (.d (.bool false))))]
def o_hex_IsName_1_1 : List AOp := [
 aQ 3 (.mov (.t 0)),
 aQ 4 (.bin .neq (.t 3) (.c (.nat .u8 95))),
 aQ 5 (.mov (.t 4)),
 gQ 6 (.mov (.t 0)) 5 true,
 gQ 7 (.bin .lss (.t 6) (.c (.nat .u8 48))) 5 true,
 gQ 8 (.mov (.t 7)) 5 true,
 gQ 9 (.mov (.t 0)) 8 false,
 gQ 10 (.bin .gtr (.t 9) (.c (.nat .u8 57))) 8 false,
 gQ 11 (.pick (.t 8) (.c (.d (.bool true))) (.t 10)) 5 true,
 aQ 12 (.pick (.t 5) (.t 11) (.c (.d (.bool false)))),
 aQ 13 (.mov (.t 12)),
 gQ 14 (.mov (.t 0)) 13 true,
 gQ 15 (.bin .lss (.t 14) (.c (.nat .u8 65))) 13 true,
 gQ 16 (.mov (.t 15)) 13 true,
 gQ 17 (.mov (.t 0)) 16 false,
 gQ 18 (.bin .gtr (.t 17) (.c (.nat .u8 90))) 16 false,
 gQ 19 (.pick (.t 16) (.c (.d (.bool true))) (.t 18)) 13 true,
 aQ 20 (.pick (.t 13) (.t 19) (.c (.d (.bool false)))),
 aQ 21 (.mov (.t 20)),
 gQ 22 (.mov (.t 0)) 21 true,
 gQ 23 (.bin .lss (.t 22) (.c (.nat .u8 97))) 21 true,
 gQ 24 (.mov (.t 23)) 21 true,
 gQ 25 (.mov (.t 0)) 24 false,
 gQ 26 (.bin .gtr (.t 25) (.c (.nat .u8 122))) 24 false,
 gQ 27 (.pick (.t 24) (.c (.d (.bool true))) (.t 26)) 21 true,
 aQ 28 (.pick (.t 21) (.t 27) (.c (.d (.bool false)))),
 aQ 2 (.asg (.t 28))]
def c_hex_IsName_1 : AC :=
 (.seq (.ops o_hex_IsName_1_0)
 (.seq (.ops o_hex_IsName_1_1)
 .ret))
def a_hex_IsName_1 : AFn := { body := c_hex_IsName_1, res := [.tmp 2] }
def o_slices_ContainsFunc_byte_byte_0 : List AOp := [
 aQ 4 (.asg (.c (.d (.bool false))))]
def o_slices_ContainsFunc_byte_byte_1 : List AOp := [
 aQ 5 (.mov (.t 0)),
 aQ 6 (.mov (.t 1)),
 aQ 7 (.call (.f f_slices_IndexFunc_byte_byte) [.t 5, .t 6]),
 aQ 8 (.bin .geq (.t 7) (.c (.nat .i64 0))),
 aQ 4 (.asg (.t 8))]
def c_slices_ContainsFunc_byte_byte : AC :=
 (.seq (.ops o_slices_ContainsFunc_byte_byte_0)
 (.seq (.ops o_slices_ContainsFunc_byte_byte_1)
 .ret))
def a_slices_ContainsFunc_byte_byte : AFn := { body := c_slices_ContainsFunc_byte_byte, res := [.tmp 4] }
def o_slices_Contains_string_string_0 : List AOp := [
 aQ 4 (.asg (.c (.d (.bool false))))]
def o_slices_Contains_string_string_1 : List AOp := [
 aQ 5 (.mov (.t 0)),
 aQ 6 (.mov (.t 1)),
 aQ 7 (.call (.f f_slices_Index_string_string) [.t 5, .t 6]),
 aQ 8 (.bin .geq (.t 7) (.c (.nat .i64 0))),
 aQ 4 (.asg (.t 8))]
def c_slices_Contains_string_string : AC :=
 (.seq (.ops o_slices_Contains_string_string_0)
 (.seq (.ops o_slices_Contains_string_string_1)
 .ret))
def a_slices_Contains_string_string : AFn := { body := c_slices_Contains_string_string, res := [.tmp 4] }
def o_strings_HasPrefix_0 : List AOp := [
 aQ 4 (.asg (.c (.d (.bool false))))]
def o_strings_HasPrefix_1 : List AOp := [
 aQ 5 (.mov (.t 0)),
 aQ 6 (.mov (.t 1)),
 aQ 7 (.call (.f f_stringslite_HasPrefix) [.t 5, .t 6]),
 aQ 4 (.asg (.t 7))]
def c_strings_HasPrefix : AC :=
 (.seq (.ops o_strings_HasPrefix_0)
 (.seq (.ops o_strings_HasPrefix_1)
 .ret))
def a_strings_HasPrefix : AFn := { body := c_strings_HasPrefix, res := [.tmp 4] }
def o_ref15_figures_0 : List AOp := [
 aQ 4 (.asg (.c (.nat .i64 0)))]
def o_ref15_figures_1 : List AOp := [
 aQ 5 (.asg (.c (.nat .i64 0)))]
def o_ref15_figures_2 : List AOp := [
 aQ 6 (.mov (.t 1)),
 aQ 7 (.mov (.t 5)),
 aQ 8 (.bin .add (.t 6) (.t 7)),
 aQ 9 (.mov (.t 0)),
 aQ 10 (.lenS (.t 9)),
 aQ 11 (.bin .lss (.t 8) (.t 10)),
 aQ 12 (.mov (.t 11)),
 gQ 13 (.mov (.t 0)) 12 true,
 gQ 14 (.mov (.t 1)) 12 true,
 gQ 15 (.mov (.t 5)) 12 true,
 gQ 16 (.bin .add (.t 14) (.t 15)) 12 true,
 gQ 17 (.idxS (.t 13) (.t 16)) 12 true,
 gQ 18 (.bin .geq (.t 17) (.c (.nat .u8 48))) 12 true,
 aQ 19 (.pick (.t 12) (.t 18) (.c (.d (.bool false)))),
 aQ 20 (.mov (.t 19)),
 gQ 21 (.mov (.t 0)) 20 true,
 gQ 22 (.mov (.t 1)) 20 true,
 gQ 23 (.mov (.t 5)) 20 true,
 gQ 24 (.bin .add (.t 22) (.t 23)) 20 true,
 gQ 25 (.idxS (.t 21) (.t 24)) 20 true,
 gQ 26 (.bin .leq (.t 25) (.c (.nat .u8 57))) 20 true,
 aQ 27 (.pick (.t 20) (.t 26) (.c (.d (.bool false))))]
def o_ref15_figures_3 : List AOp := [
 aQ 28 (.mov (.t 5)),
 aQ 29 (.bin .add (.t 28) (.c (.nat .i64 1))),
 aQ 5 (.asg (.t 29))]
def b_ref15_figures_0 : AC := (.seq (.seq (.ops o_ref15_figures_2)
 (.cond (.t 27) .skip (.exit 0)))
 (.trim [0, 1, 5] (.block 1 (.ops o_ref15_figures_3))))
def o_ref15_figures_4 : List AOp := [
 aQ 30 (.mov (.t 5)),
 aQ 4 (.asg (.t 30))]
def c_ref15_figures : AC :=
 (.seq (.ops o_ref15_figures_0)
 (.seq (.ops o_ref15_figures_1)
 (.seq (.trim [5] (.block 0 (.loop [0, 1, 5] b_ref15_figures_0)))
 (.seq (.ops o_ref15_figures_4)
 .ret))))
def a_ref15_figures : AFn := { body := c_ref15_figures, res := [.tmp 4] }
def o_ref02_Read_0 : List AOp := [
 aQ 2 (.asg (.c (.nat .i64 0))),
 aQ 3 (.asg (.c (.nat .i64 0))),
 aQ 4 (.asg (.c (.nat .i64 0)))]
def o_ref02_Read_1 : List AOp := [
 aQ 5 (.asg (.c (.nat .i64 0)))]
def o_ref02_Read_2 : List AOp := [
 aQ 12 (.mov (.t 5)),
 aQ 13 (.mov (.t 0)),
 aQ 14 (.lenS (.t 13)),
 aQ 15 (.bin .lss (.t 12) (.t 14)),
 aQ 16 (.mov (.t 15)),
 gQ 17 (.mov (.t 0)) 16 true,
 gQ 18 (.mov (.t 5)) 16 true,
 gQ 19 (.idxS (.t 17) (.t 18)) 16 true,
 gQ 20 (.bin .eql (.t 19) (.c (.nat .u8 32))) 16 true,
 gQ 21 (.mov (.t 20)) 16 true,
 gQ 22 (.mov (.t 0)) 21 false,
 gQ 23 (.mov (.t 5)) 21 false,
 gQ 24 (.idxS (.t 22) (.t 23)) 21 false,
 gQ 25 (.bin .eql (.t 24) (.c (.nat .u8 9))) 21 false,
 gQ 26 (.pick (.t 21) (.c (.d (.bool true))) (.t 25)) 16 true,
 aQ 27 (.pick (.t 16) (.t 26) (.c (.d (.bool false))))]
def o_ref02_Read_3 : List AOp := [
 aQ 28 (.mov (.t 5)),
 aQ 29 (.bin .add (.t 28) (.c (.nat .i64 1))),
 aQ 5 (.asg (.t 29))]
def b_ref02_Read_0 : AC := (.seq (.seq (.ops o_ref02_Read_2)
 (.cond (.t 27) .skip (.exit 0)))
 (.trim [0, 5] (.block 1 (.ops o_ref02_Read_3))))
def o_ref02_Read_4 : List AOp := [
 aQ 30 (.build [.d (.bool false), .nat .u64 0, .nat .u64 0, .nat .u64 0, .nat .u64 0, .nat .u64 0, .nat .u64 0, .nat .u64 0, .nat .u64 0, .nat .u64 0, .nat .u64 0, .nat .u64 0, .nat .u64 0] []),
 aQ 6 (.alloc [.d (.bool false), .nat .u64 0, .nat .u64 0, .nat .u64 0, .nat .u64 0, .nat .u64 0, .nat .u64 0, .nat .u64 0, .nat .u64 0, .nat .u64 0, .nat .u64 0, .nat .u64 0, .nat .u64 0]),
 { dst := none, op := .store 13 (.t 6) (.t 30) }]
def o_ref02_Read_5 : List AOp := [
 aQ 31 (.mov (.t 5)),
 aQ 32 (.mov (.t 0)),
 aQ 33 (.lenS (.t 32)),
 aQ 34 (.bin .lss (.t 31) (.t 33)),
 aQ 35 (.mov (.t 34)),
 gQ 36 (.mov (.t 0)) 35 true,
 gQ 37 (.mov (.t 5)) 35 true,
 gQ 38 (.idxS (.t 36) (.t 37)) 35 true,
 gQ 39 (.bin .eql (.t 38) (.c (.nat .u8 45))) 35 true,
 gQ 40 (.mov (.t 39)) 35 true,
 gQ 41 (.mov (.t 0)) 40 false,
 gQ 42 (.mov (.t 5)) 40 false,
 gQ 43 (.idxS (.t 41) (.t 42)) 40 false,
 gQ 44 (.bin .eql (.t 43) (.c (.nat .u8 43))) 40 false,
 gQ 45 (.pick (.t 40) (.c (.d (.bool true))) (.t 44)) 35 true,
 aQ 46 (.pick (.t 35) (.t 45) (.c (.d (.bool false))))]
def o_ref02_Read_6 : List AOp := [
 aQ 47 (.mov (.t 0)),
 aQ 48 (.mov (.t 5)),
 aQ 49 (.idxS (.t 47) (.t 48)),
 aQ 50 (.bin .eql (.t 49) (.c (.nat .u8 45))),
 aQ 51 (.fldA 0 (.t 6)),
 { dst := none, op := .store 1 (.t 51) (.t 50) }]
def o_ref02_Read_7 : List AOp := [
 aQ 52 (.mov (.t 5)),
 aQ 53 (.bin .add (.t 52) (.c (.nat .i64 1))),
 aQ 5 (.asg (.t 53))]
def o_ref02_Read_8 : List AOp := [
 aQ 7 (.asg (.c (.nat .i64 0)))]
def o_ref02_Read_9 : List AOp := [
 aQ 8 (.asg (.c (.d (.bool false))))]
def o_ref02_Read_10 : List AOp := [
 aQ 54 (.mov (.t 0)),
 aQ 55 (.mov (.t 5)),
 aQ 56 (.call (.f f_ref02_figure) [.t 54, .t 55])]
def o_ref02_Read_11 : List AOp := [
 mQ 57 (.load (some 13) (.t 6)),
 mQ 58 (.mov (.t 0)),
 mQ 59 (.mov (.t 5)),
 mQ 60 (.idxS (.t 58) (.t 59)),
 mQ 61 (.toInt .u64 (.t 60)),
 mQ 62 (.bin .sub (.t 61) (.c (.nat .u64 48))),
 aQ 63 (.call (.f f_ref02_times) [.t 57, .c (.nat .u64 10), .t 62]),
 { dst := none, op := .store 13 (.t 6) (.t 63) }]
def o_ref02_Read_12 : List AOp := [
 aQ 64 (.mov (.t 8)),
 aQ 65 (.mov (.t 64)),
 gQ 66 (.fldA 1 (.t 6)) 65 false,
 gQ 67 (.idxA (some 12) 1 (.t 66) (.c (.nat .i64 8))) 65 false,
 gQ 68 (.load none (.t 67)) 65 false,
 gQ 69 (.bin .neq (.t 68) (.c (.nat .u64 0))) 65 false,
 aQ 70 (.pick (.t 65) (.c (.d (.bool true))) (.t 69)),
 aQ 8 (.asg (.t 70))]
def o_ref02_Read_13 : List AOp := [
 aQ 71 (.mov (.t 8))]
def o_ref02_Read_14 : List AOp := [
 aQ 72 (.build [.nat .u64 0, .nat .u64 0, .nat .u64 0, .nat .u64 0, .nat .u64 0, .nat .u64 0, .nat .u64 0, .nat .u64 0, .nat .u64 0, .nat .u64 0, .nat .u64 0, .nat .u64 0] []),
 aQ 73 (.fldA 1 (.t 6)),
 { dst := none, op := .store 12 (.t 73) (.t 72) }]
def o_ref02_Read_15 : List AOp := [
 aQ 74 (.mov (.t 7)),
 aQ 75 (.bin .add (.t 74) (.c (.nat .i64 1))),
 aQ 7 (.asg (.t 75))]
def o_ref02_Read_16 : List AOp := [
 aQ 76 (.mov (.t 5)),
 aQ 77 (.bin .add (.t 76) (.c (.nat .i64 1))),
 aQ 5 (.asg (.t 77))]
def b_ref02_Read_1 : AC := (.seq (.seq (.ops o_ref02_Read_10)
 (.cond (.t 56) .skip (.exit 2)))
 (.trim [0, 5, 6, 7, 8] (.block 3 (.seq (.ops o_ref02_Read_11)
 (.seq (.ops o_ref02_Read_12)
 (.seq (.seq (.ops o_ref02_Read_13)
 (.cond (.t 71) (.ops o_ref02_Read_14) .skip))
 (.seq (.ops o_ref02_Read_15)
 (.ops o_ref02_Read_16))))))))
def o_ref02_Read_17 : List AOp := [
 aQ 9 (.asg (.c (.nat .i64 0)))]
def o_ref02_Read_18 : List AOp := [
 aQ 78 (.mov (.t 5)),
 aQ 79 (.mov (.t 0)),
 aQ 80 (.lenS (.t 79)),
 aQ 81 (.bin .lss (.t 78) (.t 80)),
 aQ 82 (.mov (.t 81)),
 gQ 83 (.mov (.t 0)) 82 true,
 gQ 84 (.mov (.t 5)) 82 true,
 gQ 85 (.idxS (.t 83) (.t 84)) 82 true,
 gQ 86 (.bin .eql (.t 85) (.c (.nat .u8 46))) 82 true,
 aQ 87 (.pick (.t 82) (.t 86) (.c (.d (.bool false)))),
 aQ 88 (.mov (.t 87)),
 gQ 89 (.mov (.t 7)) 88 true,
 gQ 90 (.bin .gtr (.t 89) (.c (.nat .i64 0))) 88 true,
 gQ 91 (.mov (.t 90)) 88 true,
 gQ 92 (.mov (.t 0)) 91 false,
 gQ 93 (.mov (.t 5)) 91 false,
 gQ 94 (.bin .add (.t 93) (.c (.nat .i64 1))) 91 false,
 gQ 95 (.call (.f f_ref02_figure) [.t 92, .t 94]) 91 false,
 gQ 96 (.pick (.t 91) (.c (.d (.bool true))) (.t 95)) 88 true,
 aQ 97 (.pick (.t 88) (.t 96) (.c (.d (.bool false))))]
def o_ref02_Read_19 : List AOp := [
 aQ 98 (.mov (.t 5)),
 aQ 99 (.bin .add (.t 98) (.c (.nat .i64 1))),
 aQ 5 (.asg (.t 99))]
def o_ref02_Read_20 : List AOp := [
 aQ 100 (.mov (.t 0)),
 aQ 101 (.mov (.t 5)),
 aQ 102 (.call (.f f_ref02_figure) [.t 100, .t 101])]
def o_ref02_Read_21 : List AOp := [
 aQ 103 (.mov (.t 9)),
 aQ 104 (.bin .lss (.t 103) (.c (.nat .i64 6)))]
def o_ref02_Read_22 : List AOp := [
 mQ 105 (.load (some 13) (.t 6)),
 mQ 106 (.mov (.t 0)),
 mQ 107 (.mov (.t 5)),
 mQ 108 (.idxS (.t 106) (.t 107)),
 mQ 109 (.toInt .u64 (.t 108)),
 mQ 110 (.bin .sub (.t 109) (.c (.nat .u64 48))),
 aQ 111 (.call (.f f_ref02_times) [.t 105, .c (.nat .u64 10), .t 110]),
 { dst := none, op := .store 13 (.t 6) (.t 111) }]
def o_ref02_Read_23 : List AOp := [
 aQ 112 (.mov (.t 9)),
 aQ 113 (.bin .add (.t 112) (.c (.nat .i64 1))),
 aQ 9 (.asg (.t 113))]
def o_ref02_Read_24 : List AOp := [
 aQ 114 (.mov (.t 7)),
 aQ 115 (.bin .add (.t 114) (.c (.nat .i64 1))),
 aQ 7 (.asg (.t 115))]
def o_ref02_Read_25 : List AOp := [
 aQ 116 (.mov (.t 5)),
 aQ 117 (.bin .add (.t 116) (.c (.nat .i64 1))),
 aQ 5 (.asg (.t 117))]
def b_ref02_Read_2 : AC := (.seq (.seq (.ops o_ref02_Read_20)
 (.cond (.t 102) .skip (.exit 4)))
 (.trim [0, 5, 6, 7, 8, 9] (.block 5 (.seq (.seq (.ops o_ref02_Read_21)
 (.cond (.t 104) (.seq (.ops o_ref02_Read_22)
 (.ops o_ref02_Read_23)) .skip))
 (.seq (.ops o_ref02_Read_24)
 (.ops o_ref02_Read_25))))))
def o_ref02_Read_26 : List AOp := [
 aQ 118 (.mov (.t 7)),
 aQ 119 (.bin .eql (.t 118) (.c (.nat .i64 0)))]
def o_ref02_Read_27 : List AOp := [
 aQ 2 (.asg (.c (.nat .i64 0))),
 aQ 3 (.asg (.c (.nat .i64 0))),
 aQ 4 (.asg (.c (.nat .i64 2)))]
def o_ref02_Read_28 : List AOp := [
 aQ 120 (.mov (.t 9)),
 aQ 121 (.bin .lss (.t 120) (.c (.nat .i64 6)))]
def o_ref02_Read_29 : List AOp := [
 aQ 122 (.load (some 13) (.t 6)),
 aQ 123 (.call (.f f_ref02_times) [.t 122, .c (.nat .u64 10), .c (.nat .u64 0)]),
 { dst := none, op := .store 13 (.t 6) (.t 123) }]
def o_ref02_Read_30 : List AOp := [
 aQ 124 (.mov (.t 9)),
 aQ 125 (.bin .add (.t 124) (.c (.nat .i64 1))),
 aQ 9 (.asg (.t 125))]
def b_ref02_Read_3 : AC := (.seq (.seq (.ops o_ref02_Read_28)
 (.cond (.t 121) .skip (.exit 6)))
 (.trim [5, 6, 8, 9] (.block 7 (.seq (.ops o_ref02_Read_29)
 (.ops o_ref02_Read_30)))))
def o_ref02_Read_31 : List AOp := [
 aQ 127 (.load (some 13) (.t 6)),
 aQ 128 (.call (.f f_ref02_back) [.t 127]),
 aQ 126 (.mov (.t 128)),
 aQ 129 (.extr (.t 126) 0),
 aQ 130 (.extr (.t 126) 1),
 aQ 10 (.asg (.t 129)),
 aQ 11 (.asg (.t 130))]
def o_ref02_Read_32 : List AOp := [
 aQ 131 (.mov (.t 8)),
 aQ 132 (.mov (.t 131)),
 gQ 133 (.mov (.t 11)) 132 false,
 gQ 134 (.bin .neq (.t 133) (.c (.nat .i64 0))) 132 false,
 aQ 135 (.pick (.t 132) (.c (.d (.bool true))) (.t 134))]
def o_ref02_Read_33 : List AOp := [
 aQ 2 (.asg (.c (.nat .i64 0))),
 aQ 3 (.asg (.c (.nat .i64 0))),
 aQ 4 (.asg (.c (.nat .i64 3)))]
def o_ref02_Read_34 : List AOp := [
 aQ 136 (.mov (.t 10)),
 aQ 137 (.mov (.t 5)),
 aQ 2 (.asg (.t 136)),
 aQ 3 (.asg (.t 137)),
 aQ 4 (.asg (.c (.nat .i64 0)))]
def c_ref02_Read : AC :=
 (.seq (.ops o_ref02_Read_0)
 (.seq (.ops o_ref02_Read_1)
 (.seq (.trim [0, 5] (.block 0 (.loop [0, 5] b_ref02_Read_0)))
 (.seq (.ops o_ref02_Read_4)
 (.seq (.seq (.ops o_ref02_Read_5)
 (.cond (.t 46) (.seq (.ops o_ref02_Read_6)
 (.ops o_ref02_Read_7)) .skip))
 (.seq (.ops o_ref02_Read_8)
 (.seq (.ops o_ref02_Read_9)
 (.seq (.trim [0, 5, 6, 7, 8] (.block 2 (.loop [0, 5, 6, 7, 8] b_ref02_Read_1)))
 (.seq (.ops o_ref02_Read_17)
 (.seq (.seq (.ops o_ref02_Read_18)
 (.cond (.t 97) (.seq (.ops o_ref02_Read_19)
 (.trim [5, 6, 7, 8, 9] (.block 4 (.loop [0, 5, 6, 7, 8, 9] b_ref02_Read_2)))) .skip))
 (.seq (.seq (.ops o_ref02_Read_26)
 (.cond (.t 119) (.seq (.ops o_ref02_Read_27)
 .ret) .skip))
 (.seq (.trim [5, 6, 8] (.block 6 (.loop [5, 6, 8, 9] b_ref02_Read_3)))
 (.seq (.ops o_ref02_Read_31)
 (.seq (.seq (.ops o_ref02_Read_32)
 (.cond (.t 135) (.seq (.ops o_ref02_Read_33)
 .ret) .skip))
 (.seq (.ops o_ref02_Read_34)
 .ret)))))))))))))))
def a_ref02_Read : AFn := { body := c_ref02_Read, res := [.tmp 2, .tmp 3, .tmp 4] }
def o_ref01_Digit_0 : List AOp := [
 aQ 2 (.asg (.c (.nat .i64 0)))]
def o_ref01_Digit_1 : List AOp := [
 aQ 3 (.mov (.t 0)),
 aQ 4 (.bin .geq (.t 3) (.c (.nat .u8 48))),
 aQ 5 (.mov (.t 4)),
 gQ 6 (.mov (.t 0)) 5 true,
 gQ 7 (.bin .leq (.t 6) (.c (.nat .u8 57))) 5 true,
 aQ 8 (.pick (.t 5) (.t 7) (.c (.d (.bool false))))]
def o_ref01_Digit_2 : List AOp := [
 aQ 9 (.mov (.t 0)),
 aQ 10 (.toInt .i64 (.t 9)),
 aQ 11 (.bin .sub (.t 10) (.c (.nat .i64 48))),
 aQ 2 (.asg (.t 11))]
def o_ref01_Digit_3 : List AOp := [
 aQ 12 (.mov (.t 0)),
 aQ 13 (.bin .geq (.t 12) (.c (.nat .u8 97))),
 aQ 14 (.mov (.t 13)),
 gQ 15 (.mov (.t 0)) 14 true,
 gQ 16 (.bin .leq (.t 15) (.c (.nat .u8 102))) 14 true,
 aQ 17 (.pick (.t 14) (.t 16) (.c (.d (.bool false))))]
def o_ref01_Digit_4 : List AOp := [
 aQ 18 (.mov (.t 0)),
 aQ 19 (.toInt .i64 (.t 18)),
 aQ 20 (.bin .sub (.t 19) (.c (.nat .i64 87))),
 aQ 2 (.asg (.t 20))]
def o_ref01_Digit_5 : List AOp := [
 aQ 21 (.mov (.t 0)),
 aQ 22 (.bin .geq (.t 21) (.c (.nat .u8 65))),
 aQ 23 (.mov (.t 22)),
 gQ 24 (.mov (.t 0)) 23 true,
 gQ 25 (.bin .leq (.t 24) (.c (.nat .u8 70))) 23 true,
 aQ 26 (.pick (.t 23) (.t 25) (.c (.d (.bool false))))]
def o_ref01_Digit_6 : List AOp := [
 aQ 27 (.mov (.t 0)),
 aQ 28 (.toInt .i64 (.t 27)),
 aQ 29 (.bin .sub (.t 28) (.c (.nat .i64 55))),
 aQ 2 (.asg (.t 29))]
def o_ref01_Digit_7 : List AOp := [
 aQ 2 (.asg (.c (.d (.int .i64 (-1)))))]
def c_ref01_Digit : AC :=
 (.seq (.ops o_ref01_Digit_0)
 (.seq (.seq (.ops o_ref01_Digit_1)
 (.cond (.t 8) (.seq (.ops o_ref01_Digit_2)
 .ret) .skip))
 (.seq (.seq (.ops o_ref01_Digit_3)
 (.cond (.t 17) (.seq (.ops o_ref01_Digit_4)
 .ret) .skip))
 (.seq (.seq (.ops o_ref01_Digit_5)
 (.cond (.t 26) (.seq (.ops o_ref01_Digit_6)
 .ret) .skip))
 (.seq (.ops o_ref01_Digit_7)
 .ret)))))
def a_ref01_Digit : AFn := { body := c_ref01_Digit, res := [.tmp 2] }
def o_ref05_Read_0 : List AOp := [
 aQ 2 (.asg (.c (.nil))),
 aQ 3 (.asg (.c (.nat .i64 0)))]
def o_ref05_Read_1 : List AOp := [
 aQ 5 (.mov (.t 0)),
 aQ 6 (.build [.d (.str []), .nat .i64 0, .nat .i64 0, .nil, .nat .i64 0] [(0, 1, (.t 5))]),
 aQ 7 (.box (.t 6)),
 aQ 4 (.asg (.t 7))]
def o_ref05_Read_2 : List AOp := [
 aQ 8 (.mov (.t 4)),
 aQ 9 (.call (.f f_ref05_parser_whole) [.t 8])]
def o_ref05_Read_3 : List AOp := [
 aQ 10 (.mov (.t 4)),
 aQ 11 (.nilchk (.t 10)),
 aQ 12 (.fldA 4 (.t 11)),
 aQ 13 (.load none (.t 12)),
 aQ 14 (.bin .eql (.t 13) (.c (.nat .i64 0))),
 aQ 15 (.mov (.t 14)),
 gQ 16 (.mov (.t 4)) 15 true,
 gQ 17 (.nilchk (.t 16)) 15 true,
 gQ 18 (.fldA 1 (.t 17)) 15 true,
 gQ 19 (.load none (.t 18)) 15 true,
 gQ 20 (.mov (.t 0)) 15 true,
 gQ 21 (.lenS (.t 20)) 15 true,
 gQ 22 (.bin .lss (.t 19) (.t 21)) 15 true,
 aQ 23 (.pick (.t 15) (.t 22) (.c (.d (.bool false))))]
def o_ref05_Read_4 : List AOp := [
 aQ 24 (.mov (.t 4)),
 aQ 25 (.call (.f f_ref05_parser_fail) [.t 24, .c (.nat .i64 9)])]
def o_ref05_Read_5 : List AOp := [
 aQ 26 (.mov (.t 4)),
 aQ 27 (.nilchk (.t 26)),
 aQ 28 (.fldA 4 (.t 27)),
 aQ 29 (.load none (.t 28)),
 aQ 30 (.bin .neq (.t 29) (.c (.nat .i64 0)))]
def o_ref05_Read_6 : List AOp := [
 mQ 31 (.mov (.t 4)),
 mQ 32 (.nilchk (.t 31)),
 mQ 33 (.fldA 4 (.t 32)),
 mQ 34 (.load none (.t 33)),
 mQ 2 (.asg (.c (.nil))),
 aQ 3 (.asg (.t 34))]
def o_ref05_Read_7 : List AOp := [
 aQ 35 (.mov (.t 4)),
 aQ 36 (.nilchk (.t 35)),
 aQ 37 (.fldA 3 (.t 36)),
 aQ 38 (.load none (.t 37)),
 aQ 2 (.asg (.t 38)),
 aQ 3 (.asg (.c (.nat .i64 0)))]
def c_ref05_Read : AC :=
 (.seq (.ops o_ref05_Read_0)
 (.seq (.ops o_ref05_Read_1)
 (.seq (.ops o_ref05_Read_2)
 (.seq (.seq (.ops o_ref05_Read_3)
 (.cond (.t 23) (.ops o_ref05_Read_4) .skip))
 (.seq (.seq (.ops o_ref05_Read_5)
 (.cond (.t 30) (.seq (.ops o_ref05_Read_6)
 .ret) .skip))
 (.seq (.ops o_ref05_Read_7)
 .ret))))))
def a_ref05_Read : AFn := { body := c_ref05_Read, res := [.tmp 2, .tmp 3] }
def o_dec_Read_1_0 : List AOp := [
 aQ 2 (.load none (.t 0)),
 aQ 3 (.bin .neq (.t 2) (.c (.nat .i64 0)))]
def o_dec_Read_1_1 : List AOp := [
 { dst := none, op := .store 1 (.t 1) (.c (.nat .i64 0)) }]
def c_dec_Read_1 : AC :=
 (.seq (.ops o_dec_Read_1_0)
 (.cond (.t 3) (.ops o_dec_Read_1_1) .skip))
def a_dec_Read_1 : AFn := { body := c_dec_Read_1, res := [] }
def o_dec_caught_0 : List AOp := [
 aQ 7 (.recover),
 aQ 4 (.asg (.t 7))]
def o_dec_caught_1 : List AOp := [
 aQ 8 (.mov (.t 4)),
 aQ 9 (.eqnil 1 true (.t 8))]
def o_dec_caught_2 : List AOp := [
 aQ 11 (.mov (.t 4)),
 aQ 12 (.assertT 100 (.agg [.nat .i64 0]) (.t 11)),
 aQ 10 (.mov (.t 12)),
 aQ 13 (.extr (.t 10) 0),
 aQ 14 (.extr (.t 10) 1),
 aQ 5 (.alloc [.nat .i64 0]),
 { dst := none, op := .store 1 (.t 5) (.t 13) },
 aQ 6 (.asg (.t 14))]
def o_dec_caught_3 : List AOp := [
 aQ 15 (.mov (.t 6)),
 aQ 16 (.un .not (.t 15))]
def o_dec_caught_4 : List AOp := [
 aQ 17 (.mov (.t 4)),
 { dst := none, op := .panic (.t 17) }]
def o_dec_caught_5 : List AOp := [
 mQ 18 (.mov (.t 0)),
 mQ 19 (.mov (.t 1)),
 mQ 20 (.fldA 0 (.t 5)),
 mQ 21 (.loadB none (.t 20) (.t 5)),
 mQ 22 (.nilchk (.t 18)),
 { dst := none, op := .storeW 1 (.t 22) (.c (.nat .i64 0)) [.t 5], may := false },
 aQ 23 (.nilchk (.t 19)),
 { dst := none, op := .store 1 (.t 23) (.t 21) }]
def c_dec_caught : AC :=
 (.seq (.ops o_dec_caught_0)
 (.seq (.ops o_dec_caught_1)
 (.cond (.t 9) (.seq (.ops o_dec_caught_2)
 (.seq (.seq (.ops o_dec_caught_3)
 (.cond (.t 16) (.ops o_dec_caught_4) .skip))
 (.ops o_dec_caught_5))) .skip)))
def a_dec_caught : AFn := { body := c_dec_caught, res := [] }
def o_dec_span_0 : List AOp := [
 aQ 2 (.asg (.c (.nat .i64 0))),
 aQ 3 (.asg (.c (.nat .i64 0))),
 aQ 4 (.asg (.c (.nat .i64 0))),
 aQ 5 (.asg (.c (.nat .i64 0)))]
def o_dec_span_1 : List AOp := [
 aQ 6 (.mov (.t 2)),
 aQ 7 (.mov (.t 0)),
 aQ 8 (.lenS (.t 7)),
 aQ 9 (.bin .lss (.t 6) (.t 8)),
 aQ 10 (.mov (.t 9)),
 gQ 11 (.mov (.t 0)) 10 true,
 gQ 12 (.mov (.t 2)) 10 true,
 gQ 13 (.idxS (.t 11) (.t 12)) 10 true,
 gQ 14 (.bin .eql (.t 13) (.c (.nat .u8 32))) 10 true,
 gQ 15 (.mov (.t 14)) 10 true,
 gQ 16 (.mov (.t 0)) 15 false,
 gQ 17 (.mov (.t 2)) 15 false,
 gQ 18 (.idxS (.t 16) (.t 17)) 15 false,
 gQ 19 (.bin .eql (.t 18) (.c (.nat .u8 9))) 15 false,
 gQ 20 (.pick (.t 15) (.c (.d (.bool true))) (.t 19)) 10 true,
 aQ 21 (.pick (.t 10) (.t 20) (.c (.d (.bool false))))]
def o_dec_span_2 : List AOp := [
 aQ 22 (.mov (.t 2)),
 aQ 23 (.bin .add (.t 22) (.c (.nat .i64 1))),
 aQ 2 (.asg (.t 23))]
def b_dec_span_0 : AC := (.seq (.seq (.ops o_dec_span_1)
 (.cond (.t 21) .skip (.exit 0)))
 (.trim [0, 2] (.block 1 (.ops o_dec_span_2))))
def o_dec_span_3 : List AOp := [
 aQ 24 (.mov (.t 2)),
 aQ 3 (.asg (.t 24))]
def o_dec_span_4 : List AOp := [
 aQ 25 (.mov (.t 3)),
 aQ 26 (.mov (.t 0)),
 aQ 27 (.lenS (.t 26)),
 aQ 28 (.bin .lss (.t 25) (.t 27)),
 aQ 29 (.mov (.t 28)),
 gQ 30 (.mov (.t 0)) 29 true,
 gQ 31 (.mov (.t 3)) 29 true,
 gQ 32 (.idxS (.t 30) (.t 31)) 29 true,
 gQ 33 (.bin .eql (.t 32) (.c (.nat .u8 45))) 29 true,
 gQ 34 (.mov (.t 33)) 29 true,
 gQ 35 (.mov (.t 0)) 34 false,
 gQ 36 (.mov (.t 3)) 34 false,
 gQ 37 (.idxS (.t 35) (.t 36)) 34 false,
 gQ 38 (.bin .eql (.t 37) (.c (.nat .u8 43))) 34 false,
 gQ 39 (.pick (.t 34) (.c (.d (.bool true))) (.t 38)) 29 true,
 aQ 40 (.pick (.t 29) (.t 39) (.c (.d (.bool false))))]
def o_dec_span_5 : List AOp := [
 aQ 41 (.mov (.t 3)),
 aQ 42 (.bin .add (.t 41) (.c (.nat .i64 1))),
 aQ 3 (.asg (.t 42))]
def o_dec_span_6 : List AOp := [
 aQ 43 (.mov (.t 3)),
 aQ 4 (.asg (.t 43))]
def o_dec_span_7 : List AOp := [
 aQ 44 (.mov (.t 4)),
 aQ 45 (.mov (.t 0)),
 aQ 46 (.lenS (.t 45)),
 aQ 47 (.bin .lss (.t 44) (.t 46)),
 aQ 48 (.mov (.t 47)),
 gQ 49 (.mov (.t 0)) 48 true,
 gQ 50 (.mov (.t 4)) 48 true,
 gQ 51 (.idxS (.t 49) (.t 50)) 48 true,
 gQ 52 (.bin .geq (.t 51) (.c (.nat .u8 48))) 48 true,
 aQ 53 (.pick (.t 48) (.t 52) (.c (.d (.bool false)))),
 aQ 54 (.mov (.t 53)),
 gQ 55 (.mov (.t 0)) 54 true,
 gQ 56 (.mov (.t 4)) 54 true,
 gQ 57 (.idxS (.t 55) (.t 56)) 54 true,
 gQ 58 (.bin .leq (.t 57) (.c (.nat .u8 57))) 54 true,
 aQ 59 (.pick (.t 54) (.t 58) (.c (.d (.bool false))))]
def o_dec_span_8 : List AOp := [
 aQ 60 (.mov (.t 4)),
 aQ 61 (.bin .add (.t 60) (.c (.nat .i64 1))),
 aQ 4 (.asg (.t 61))]
def b_dec_span_1 : AC := (.seq (.seq (.ops o_dec_span_7)
 (.cond (.t 59) .skip (.exit 2)))
 (.trim [0, 2, 3, 4] (.block 3 (.ops o_dec_span_8))))
def o_dec_span_9 : List AOp := [
 aQ 62 (.mov (.t 4)),
 aQ 5 (.asg (.t 62))]
def o_dec_span_10 : List AOp := [
 aQ 63 (.mov (.t 5)),
 aQ 64 (.mov (.t 0)),
 aQ 65 (.lenS (.t 64)),
 aQ 66 (.bin .lss (.t 63) (.t 65)),
 aQ 67 (.mov (.t 66)),
 gQ 68 (.mov (.t 0)) 67 true,
 gQ 69 (.mov (.t 5)) 67 true,
 gQ 70 (.idxS (.t 68) (.t 69)) 67 true,
 gQ 71 (.bin .eql (.t 70) (.c (.nat .u8 46))) 67 true,
 aQ 72 (.pick (.t 67) (.t 71) (.c (.d (.bool false))))]
def o_dec_span_11 : List AOp := [
 aQ 73 (.mov (.t 5)),
 aQ 74 (.bin .add (.t 73) (.c (.nat .i64 1))),
 aQ 5 (.asg (.t 74))]
def o_dec_span_12 : List AOp := [
 aQ 75 (.mov (.t 5)),
 aQ 76 (.mov (.t 0)),
 aQ 77 (.lenS (.t 76)),
 aQ 78 (.bin .lss (.t 75) (.t 77)),
 aQ 79 (.mov (.t 78)),
 gQ 80 (.mov (.t 0)) 79 true,
 gQ 81 (.mov (.t 5)) 79 true,
 gQ 82 (.idxS (.t 80) (.t 81)) 79 true,
 gQ 83 (.bin .geq (.t 82) (.c (.nat .u8 48))) 79 true,
 aQ 84 (.pick (.t 79) (.t 83) (.c (.d (.bool false)))),
 aQ 85 (.mov (.t 84)),
 gQ 86 (.mov (.t 0)) 85 true,
 gQ 87 (.mov (.t 5)) 85 true,
 gQ 88 (.idxS (.t 86) (.t 87)) 85 true,
 gQ 89 (.bin .leq (.t 88) (.c (.nat .u8 57))) 85 true,
 aQ 90 (.pick (.t 85) (.t 89) (.c (.d (.bool false))))]
def o_dec_span_13 : List AOp := [
 aQ 91 (.mov (.t 5)),
 aQ 92 (.bin .add (.t 91) (.c (.nat .i64 1))),
 aQ 5 (.asg (.t 92))]
def b_dec_span_2 : AC := (.seq (.seq (.ops o_dec_span_12)
 (.cond (.t 90) .skip (.exit 4)))
 (.trim [0, 2, 3, 4, 5] (.block 5 (.ops o_dec_span_13))))
def o_dec_span_14 : List AOp := [
 aQ 93 (.mov (.t 2)),
 aQ 94 (.mov (.t 3)),
 aQ 95 (.mov (.t 4)),
 aQ 96 (.mov (.t 5)),
 aQ 2 (.asg (.t 93)),
 aQ 3 (.asg (.t 94)),
 aQ 4 (.asg (.t 95)),
 aQ 5 (.asg (.t 96))]
def c_dec_span : AC :=
 (.seq (.ops o_dec_span_0)
 (.seq (.trim [0, 2] (.block 0 (.loop [0, 2] b_dec_span_0)))
 (.seq (.ops o_dec_span_3)
 (.seq (.seq (.ops o_dec_span_4)
 (.cond (.t 40) (.ops o_dec_span_5) .skip))
 (.seq (.ops o_dec_span_6)
 (.seq (.trim [0, 2, 3, 4] (.block 2 (.loop [0, 2, 3, 4] b_dec_span_1)))
 (.seq (.ops o_dec_span_9)
 (.seq (.seq (.ops o_dec_span_10)
 (.cond (.t 72) (.seq (.ops o_dec_span_11)
 (.trim [2, 3, 4, 5] (.block 4 (.loop [0, 2, 3, 4, 5] b_dec_span_2)))) .skip))
 (.seq (.ops o_dec_span_14)
 .ret)))))))))
def a_dec_span : AFn := { body := c_dec_span, res := [.tmp 2, .tmp 3, .tmp 4, .tmp 5] }
def o_dec_wrong_0 : List AOp := [
 aQ 4 (.mov (.t 0))]
def o_dec_wrong_1 : List AOp := [
 aQ 5 (.mov (.t 1)),
 aQ 6 (.build [.nat .i64 0] [(0, 1, (.t 5))]),
 aQ 7 (.mkifc 100 (.t 6)),
 { dst := none, op := .panic (.t 7) }]
def c_dec_wrong : AC :=
 (.seq (.ops o_dec_wrong_0)
 (.cond (.t 4) (.ops o_dec_wrong_1) .skip))
def a_dec_wrong : AFn := { body := c_dec_wrong, res := [] }
def o_bits_Mul64_0 : List AOp := [
 aQ 4 (.asg (.c (.nat .u64 0))),
 aQ 5 (.asg (.c (.nat .u64 0)))]
def o_bits_Mul64_1 : List AOp := [
 aQ 14 (.mov (.t 0)),
 aQ 15 (.bin .and (.t 14) (.c (.nat .u64 4294967295))),
 aQ 6 (.asg (.t 15))]
def o_bits_Mul64_2 : List AOp := [
 aQ 16 (.mov (.t 0)),
 aQ 17 (.bin .shr (.t 16) (.c (.nat .u64 32))),
 aQ 7 (.asg (.t 17))]
def o_bits_Mul64_3 : List AOp := [
 aQ 18 (.mov (.t 1)),
 aQ 19 (.bin .and (.t 18) (.c (.nat .u64 4294967295))),
 aQ 8 (.asg (.t 19))]
def o_bits_Mul64_4 : List AOp := [
 aQ 20 (.mov (.t 1)),
 aQ 21 (.bin .shr (.t 20) (.c (.nat .u64 32))),
 aQ 9 (.asg (.t 21))]
def o_bits_Mul64_5 : List AOp := [
 aQ 22 (.mov (.t 6)),
 aQ 23 (.mov (.t 8)),
 aQ 24 (.bin .mul (.t 22) (.t 23)),
 aQ 10 (.asg (.t 24))]
def o_bits_Mul64_6 : List AOp := [
 aQ 25 (.mov (.t 7)),
 aQ 26 (.mov (.t 8)),
 aQ 27 (.bin .mul (.t 25) (.t 26)),
 aQ 28 (.mov (.t 10)),
 aQ 29 (.bin .shr (.t 28) (.c (.nat .u64 32))),
 aQ 30 (.bin .add (.t 27) (.t 29)),
 aQ 11 (.asg (.t 30))]
def o_bits_Mul64_7 : List AOp := [
 aQ 31 (.mov (.t 11)),
 aQ 32 (.bin .and (.t 31) (.c (.nat .u64 4294967295))),
 aQ 12 (.asg (.t 32))]
def o_bits_Mul64_8 : List AOp := [
 aQ 33 (.mov (.t 11)),
 aQ 34 (.bin .shr (.t 33) (.c (.nat .u64 32))),
 aQ 13 (.asg (.t 34))]
def o_bits_Mul64_9 : List AOp := [
 aQ 35 (.mov (.t 12)),
 aQ 36 (.mov (.t 6)),
 aQ 37 (.mov (.t 9)),
 aQ 38 (.bin .mul (.t 36) (.t 37)),
 aQ 39 (.bin .add (.t 35) (.t 38)),
 aQ 12 (.asg (.t 39))]
def o_bits_Mul64_10 : List AOp := [
 aQ 40 (.mov (.t 7)),
 aQ 41 (.mov (.t 9)),
 aQ 42 (.bin .mul (.t 40) (.t 41)),
 aQ 43 (.mov (.t 13)),
 aQ 44 (.bin .add (.t 42) (.t 43)),
 aQ 45 (.mov (.t 12)),
 aQ 46 (.bin .shr (.t 45) (.c (.nat .u64 32))),
 aQ 47 (.bin .add (.t 44) (.t 46)),
 aQ 4 (.asg (.t 47))]
def o_bits_Mul64_11 : List AOp := [
 aQ 48 (.mov (.t 0)),
 aQ 49 (.mov (.t 1)),
 aQ 50 (.bin .mul (.t 48) (.t 49)),
 aQ 5 (.asg (.t 50))]
def c_bits_Mul64 : AC :=
 (.seq (.ops o_bits_Mul64_0)
 (.seq (.ops o_bits_Mul64_1)
 (.seq (.ops o_bits_Mul64_2)
 (.seq (.ops o_bits_Mul64_3)
 (.seq (.ops o_bits_Mul64_4)
 (.seq (.ops o_bits_Mul64_5)
 (.seq (.ops o_bits_Mul64_6)
 (.seq (.ops o_bits_Mul64_7)
 (.seq (.ops o_bits_Mul64_8)
 (.seq (.ops o_bits_Mul64_9)
 (.seq (.ops o_bits_Mul64_10)
 (.seq (.ops o_bits_Mul64_11)
 .ret))))))))))))
def a_bits_Mul64 : AFn := { body := c_bits_Mul64, res := [.tmp 4, .tmp 5] }
def o_dec_joined_0 : List AOp := [
 aQ 6 (.asg (.c (.nat .i64 0)))]
def o_dec_joined_1 : List AOp := [
 aQ 7 (.asg (.c (.nat .u64 9223372036854775807)))]
def o_dec_joined_2 : List AOp := [
 aQ 8 (.mov (.t 2))]
def o_dec_joined_3 : List AOp := [
 aQ 9 (.mov (.t 7)),
 aQ 10 (.bin .add (.t 9) (.c (.nat .u64 1))),
 aQ 7 (.asg (.t 10))]
def o_dec_joined_4 : List AOp := [
 aQ 11 (.mov (.t 0)),
 aQ 12 (.bin .neq (.t 11) (.c (.nat .u64 0))),
 aQ 13 (.mov (.t 12)),
 gQ 14 (.mov (.t 1)) 13 false,
 gQ 15 (.mov (.t 7)) 13 false,
 gQ 16 (.bin .gtr (.t 14) (.t 15)) 13 false,
 aQ 17 (.pick (.t 13) (.c (.d (.bool true))) (.t 16)),
 aQ 18 (.call (.f f_dec_wrong) [.t 17, .c (.nat .i64 3)])]
def o_dec_joined_5 : List AOp := [
 aQ 19 (.mov (.t 2))]
def o_dec_joined_6 : List AOp := [
 aQ 20 (.mov (.t 1)),
 aQ 21 (.toInt .i64 (.t 20)),
 aQ 22 (.un .neg (.t 21)),
 aQ 6 (.asg (.t 22))]
def o_dec_joined_7 : List AOp := [
 aQ 23 (.mov (.t 1)),
 aQ 24 (.toInt .i64 (.t 23)),
 aQ 6 (.asg (.t 24))]
def c_dec_joined : AC :=
 (.seq (.ops o_dec_joined_0)
 (.seq (.ops o_dec_joined_1)
 (.seq (.seq (.ops o_dec_joined_2)
 (.cond (.t 8) (.ops o_dec_joined_3) .skip))
 (.seq (.ops o_dec_joined_4)
 (.seq (.seq (.ops o_dec_joined_5)
 (.cond (.t 19) (.seq (.ops o_dec_joined_6)
 .ret) .skip))
 (.seq (.ops o_dec_joined_7)
 .ret))))))
def a_dec_joined : AFn := { body := c_dec_joined, res := [.tmp 6] }
def o_stringslite_IndexByte_0 : List AOp := [
 aQ 4 (.asg (.c (.nat .i64 0)))]
def o_stringslite_IndexByte_1 : List AOp := [
 aQ 5 (.mov (.t 0)),
 aQ 6 (.mov (.t 1)),
 aQ 7 (.call (.f f_bytealg_IndexByteString) [.t 5, .t 6]),
 aQ 4 (.asg (.t 7))]
def c_stringslite_IndexByte : AC :=
 (.seq (.ops o_stringslite_IndexByte_0)
 (.seq (.ops o_stringslite_IndexByte_1)
 .ret))
def a_stringslite_IndexByte : AFn := { body := c_stringslite_IndexByte, res := [.tmp 4] }
def o_regex_Read_1_0 : List AOp := [
 aQ 5 (.recover),
 aQ 2 (.asg (.t 5))]
def o_regex_Read_1_1 : List AOp := [
 aQ 6 (.mov (.t 2)),
 aQ 7 (.eqnil 1 true (.t 6))]
def o_regex_Read_1_2 : List AOp := [
 aQ 9 (.mov (.t 2)),
 aQ 10 (.assertT 77 (.agg [.nat .i64 0]) (.t 9)),
 aQ 8 (.mov (.t 10)),
 aQ 11 (.extr (.t 8) 0),
 aQ 12 (.extr (.t 8) 1),
 aQ 3 (.alloc [.nat .i64 0]),
 { dst := none, op := .store 1 (.t 3) (.t 11) },
 aQ 4 (.asg (.t 12))]
def o_regex_Read_1_3 : List AOp := [
 aQ 13 (.mov (.t 4)),
 aQ 14 (.un .not (.t 13))]
def o_regex_Read_1_4 : List AOp := [
 aQ 15 (.mov (.t 2)),
 { dst := none, op := .panic (.t 15) }]
def o_regex_Read_1_5 : List AOp := [
 mQ 16 (.fldA 0 (.t 3)),
 mQ 17 (.loadB none (.t 16) (.t 3)),
 { dst := none, op := .storeW 1 (.t 0) (.c (.nil)) [.t 3], may := false },
 { dst := none, op := .store 1 (.t 1) (.t 17) }]
def c_regex_Read_1 : AC :=
 (.seq (.ops o_regex_Read_1_0)
 (.seq (.ops o_regex_Read_1_1)
 (.cond (.t 7) (.seq (.ops o_regex_Read_1_2)
 (.seq (.seq (.ops o_regex_Read_1_3)
 (.cond (.t 14) (.ops o_regex_Read_1_4) .skip))
 (.ops o_regex_Read_1_5))) .skip)))
def a_regex_Read_1 : AFn := { body := c_regex_Read_1, res := [] }
def o_regex_reader_all_0 : List AOp := [
 aQ 2 (.asg (.c (.nat .i64 0)))]
def o_regex_reader_all_1 : List AOp := [
 aQ 5 (.mov (.t 0)),
 aQ 6 (.call (.f f_regex_reader_cat) [.t 5]),
 aQ 3 (.asg (.t 6))]
def o_regex_reader_all_2 : List AOp := [
 aQ 7 (.mov (.t 0)),
 aQ 8 (.call (.f f_regex_reader_sees) [.t 7, .c (.nat .u8 124)])]
def o_regex_reader_all_3 : List AOp := [
 aQ 9 (.mov (.t 0)),
 aQ 10 (.nilchk (.t 9)),
 aQ 11 (.fldA 1 (.t 10)),
 aQ 12 (.load none (.t 11)),
 aQ 13 (.bin .add (.t 12) (.c (.nat .i64 1))),
 aQ 14 (.nilchk (.t 9)),
 aQ 15 (.fldA 1 (.t 14)),
 { dst := none, op := .store 1 (.t 15) (.t 13) }]
def o_regex_reader_all_4 : List AOp := [
 aQ 16 (.mov (.t 0)),
 aQ 17 (.call (.f f_regex_reader_cat) [.t 16]),
 aQ 4 (.asg (.t 17))]
def o_regex_reader_all_5 : List AOp := [
 aQ 18 (.mov (.t 0)),
 aQ 19 (.mov (.t 3)),
 aQ 20 (.mov (.t 4)),
 aQ 21 (.build [.nat .i64 0, .nat .i64 0] [(0, 1, (.t 19)), (1, 1, (.t 20))]),
 aQ 22 (.build [.nat .i64 0, .nat .u64 0, .nat .u64 0, .nat .u64 0, .nat .u64 0, .nat .i64 0, .nat .i64 0] [(0, 1, (.c (.nat .i64 3))), (5, 2, (.t 21))]),
 aQ 23 (.call (.f f_regex_reader_put) [.t 18, .t 22]),
 aQ 3 (.asg (.t 23))]
def b_regex_reader_all_0 : AC := (.seq (.seq (.ops o_regex_reader_all_2)
 (.cond (.t 8) .skip (.exit 0)))
 (.trim [0, 3] (.block 1 (.seq (.ops o_regex_reader_all_3)
 (.seq (.ops o_regex_reader_all_4)
 (.ops o_regex_reader_all_5))))))
def o_regex_reader_all_6 : List AOp := [
 aQ 24 (.mov (.t 3)),
 aQ 2 (.asg (.t 24))]
def c_regex_reader_all : AC :=
 (.seq (.ops o_regex_reader_all_0)
 (.seq (.ops o_regex_reader_all_1)
 (.seq (.trim [3] (.block 0 (.loop [0, 3] b_regex_reader_all_0)))
 (.seq (.ops o_regex_reader_all_6)
 .ret))))
def a_regex_reader_all : AFn := { body := c_regex_reader_all, res := [.tmp 2] }
def o_slices_IndexFunc_byte_byte_0 : List AOp := [
 aQ 4 (.asg (.c (.nat .i64 0)))]
def o_slices_IndexFunc_byte_byte_1 : List AOp := [
 aQ 6 (.mov (.t 0)),
 aQ 7 (.len (.t 6)),
 aQ 8 (.mov (.c (.nat .i64 0)))]
def o_slices_IndexFunc_byte_byte_2 : List AOp := [
 aQ 9 (.bin .lss (.t 8) (.t 7))]
def o_slices_IndexFunc_byte_byte_3 : List AOp := [
 aQ 10 (.mov (.t 8)),
 aQ 5 (.asg (.t 10))]
def o_slices_IndexFunc_byte_byte_4 : List AOp := [
 aQ 11 (.mov (.t 1)),
 aQ 12 (.mov (.t 0)),
 aQ 13 (.mov (.t 5)),
 aQ 14 (.idxA none 1 (.t 12) (.t 13)),
 aQ 15 (.load none (.t 14)),
 aQ 16 (.call (.t 11) [.t 15])]
def o_slices_IndexFunc_byte_byte_5 : List AOp := [
 aQ 17 (.mov (.t 5)),
 aQ 4 (.asg (.t 17))]
def o_slices_IndexFunc_byte_byte_6 : List AOp := [
 aQ 18 (.bin .add (.t 8) (.c (.nat .i64 1))),
 aQ 8 (.mov (.t 18))]
def b_slices_IndexFunc_byte_byte_0 : AC := (.seq (.ops o_slices_IndexFunc_byte_byte_2)
 (.seq (.cond (.t 9) .skip (.exit 0))
 (.seq (.trim [0, 1, 7, 8] (.block 1 (.seq (.ops o_slices_IndexFunc_byte_byte_3)
 (.seq (.ops o_slices_IndexFunc_byte_byte_4)
 (.cond (.t 16) (.seq (.ops o_slices_IndexFunc_byte_byte_5)
 .ret) .skip)))))
 (.ops o_slices_IndexFunc_byte_byte_6))))
def o_slices_IndexFunc_byte_byte_7 : List AOp := [
 aQ 4 (.asg (.c (.d (.int .i64 (-1)))))]
def c_slices_IndexFunc_byte_byte : AC :=
 (.seq (.ops o_slices_IndexFunc_byte_byte_0)
 (.seq (.seq (.ops o_slices_IndexFunc_byte_byte_1)
 (.trim [] (.block 0 (.loop [0, 1, 7, 8] b_slices_IndexFunc_byte_byte_0))))
 (.seq (.ops o_slices_IndexFunc_byte_byte_7)
 .ret)))
def a_slices_IndexFunc_byte_byte : AFn := { body := c_slices_IndexFunc_byte_byte, res := [.tmp 4] }
def o_slices_Index_string_string_0 : List AOp := [
 aQ 4 (.asg (.c (.nat .i64 0)))]
def o_slices_Index_string_string_1 : List AOp := [
 aQ 6 (.mov (.t 0)),
 aQ 7 (.len (.t 6)),
 aQ 8 (.mov (.c (.nat .i64 0)))]
def o_slices_Index_string_string_2 : List AOp := [
 aQ 9 (.bin .lss (.t 8) (.t 7))]
def o_slices_Index_string_string_3 : List AOp := [
 aQ 10 (.mov (.t 8)),
 aQ 5 (.asg (.t 10))]
def o_slices_Index_string_string_4 : List AOp := [
 aQ 11 (.mov (.t 1)),
 aQ 12 (.mov (.t 0)),
 aQ 13 (.mov (.t 5)),
 aQ 14 (.idxA none 1 (.t 12) (.t 13)),
 aQ 15 (.load none (.t 14)),
 aQ 16 (.bin .eql (.t 11) (.t 15))]
def o_slices_Index_string_string_5 : List AOp := [
 aQ 17 (.mov (.t 5)),
 aQ 4 (.asg (.t 17))]
def o_slices_Index_string_string_6 : List AOp := [
 aQ 18 (.bin .add (.t 8) (.c (.nat .i64 1))),
 aQ 8 (.mov (.t 18))]
def b_slices_Index_string_string_0 : AC := (.seq (.ops o_slices_Index_string_string_2)
 (.seq (.cond (.t 9) .skip (.exit 0))
 (.seq (.trim [0, 1, 7, 8] (.block 1 (.seq (.ops o_slices_Index_string_string_3)
 (.seq (.ops o_slices_Index_string_string_4)
 (.cond (.t 16) (.seq (.ops o_slices_Index_string_string_5)
 .ret) .skip)))))
 (.ops o_slices_Index_string_string_6))))
def o_slices_Index_string_string_7 : List AOp := [
 aQ 4 (.asg (.c (.d (.int .i64 (-1)))))]
def c_slices_Index_string_string : AC :=
 (.seq (.ops o_slices_Index_string_string_0)
 (.seq (.seq (.ops o_slices_Index_string_string_1)
 (.trim [] (.block 0 (.loop [0, 1, 7, 8] b_slices_Index_string_string_0))))
 (.seq (.ops o_slices_Index_string_string_7)
 .ret)))
def a_slices_Index_string_string : AFn := { body := c_slices_Index_string_string, res := [.tmp 4] }
def o_stringslite_HasPrefix_0 : List AOp := [
 aQ 4 (.asg (.c (.d (.bool false))))]
def o_stringslite_HasPrefix_1 : List AOp := [
 aQ 5 (.mov (.t 0)),
 aQ 6 (.lenS (.t 5)),
 aQ 7 (.mov (.t 1)),
 aQ 8 (.lenS (.t 7)),
 aQ 9 (.bin .geq (.t 6) (.t 8)),
 aQ 10 (.mov (.t 9)),
 gQ 11 (.mov (.t 0)) 10 true,
 gQ 12 (.mov (.t 1)) 10 true,
 gQ 13 (.lenS (.t 12)) 10 true,
 gQ 14 (.sliceS (.t 11) none (some (.t 13))) 10 true,
 gQ 15 (.mov (.t 1)) 10 true,
 gQ 16 (.bin .eql (.t 14) (.t 15)) 10 true,
 aQ 17 (.pick (.t 10) (.t 16) (.c (.d (.bool false)))),
 aQ 4 (.asg (.t 17))]
def c_stringslite_HasPrefix : AC :=
 (.seq (.ops o_stringslite_HasPrefix_0)
 (.seq (.ops o_stringslite_HasPrefix_1)
 .ret))
def a_stringslite_HasPrefix : AFn := { body := c_stringslite_HasPrefix, res := [.tmp 4] }
def o_ref02_figure_0 : List AOp := [
 aQ 4 (.asg (.c (.d (.bool false))))]
def o_ref02_figure_1 : List AOp := [
 aQ 5 (.mov (.t 1)),
 aQ 6 (.mov (.t 0)),
 aQ 7 (.lenS (.t 6)),
 aQ 8 (.bin .lss (.t 5) (.t 7)),
 aQ 9 (.mov (.t 8)),
 gQ 10 (.mov (.t 0)) 9 true,
 gQ 11 (.mov (.t 1)) 9 true,
 gQ 12 (.idxS (.t 10) (.t 11)) 9 true,
 gQ 13 (.bin .geq (.t 12) (.c (.nat .u8 48))) 9 true,
 aQ 14 (.pick (.t 9) (.t 13) (.c (.d (.bool false)))),
 aQ 15 (.mov (.t 14)),
 gQ 16 (.mov (.t 0)) 15 true,
 gQ 17 (.mov (.t 1)) 15 true,
 gQ 18 (.idxS (.t 16) (.t 17)) 15 true,
 gQ 19 (.bin .leq (.t 18) (.c (.nat .u8 57))) 15 true,
 aQ 20 (.pick (.t 15) (.t 19) (.c (.d (.bool false)))),
 aQ 4 (.asg (.t 20))]
def c_ref02_figure : AC :=
 (.seq (.ops o_ref02_figure_0)
 (.seq (.ops o_ref02_figure_1)
 .ret))
def a_ref02_figure : AFn := { body := c_ref02_figure, res := [.tmp 4] }
def o_ref02_times_0 : List AOp := [
 aQ 3 (.box (.t 0)),
 aQ 6 (.alloc [.d (.bool false), .nat .u64 0, .nat .u64 0, .nat .u64 0, .nat .u64 0, .nat .u64 0, .nat .u64 0, .nat .u64 0, .nat .u64 0, .nat .u64 0, .nat .u64 0, .nat .u64 0, .nat .u64 0])]
def o_ref02_times_1 : List AOp := [
 aQ 9 (.mov (.t 2)),
 aQ 7 (.asg (.t 9))]
def o_ref02_times_2 : List AOp := [
 aQ 8 (.asg (.c (.nat .i64 0)))]
def o_ref02_times_3 : List AOp := [
 aQ 10 (.mov (.t 8)),
 aQ 11 (.bin .lss (.t 10) (.c (.nat .i64 12)))]
def o_ref02_times_5 : List AOp := [
 aQ 14 (.mov (.t 7)),
 aQ 15 (.mov (.t 8)),
 aQ 16 (.fldA 1 (.t 3)),
 aQ 17 (.idxA (some 12) 1 (.t 16) (.t 15)),
 aQ 18 (.load none (.t 17)),
 aQ 19 (.mov (.t 1)),
 aQ 20 (.bin .mul (.t 18) (.t 19)),
 aQ 21 (.bin .add (.t 14) (.t 20)),
 aQ 7 (.asg (.t 21))]
def o_ref02_times_6 : List AOp := [
 aQ 22 (.mov (.t 8)),
 aQ 23 (.mov (.t 7)),
 aQ 24 (.bin .rem (.t 23) (.c (.nat .u64 4294967296))),
 aQ 25 (.fldA 1 (.t 3)),
 aQ 26 (.idxA (some 12) 1 (.t 25) (.t 22)),
 { dst := none, op := .store 1 (.t 26) (.t 24) }]
def o_ref02_times_7 : List AOp := [
 aQ 27 (.mov (.t 7)),
 aQ 28 (.bin .quo (.t 27) (.c (.nat .u64 4294967296))),
 aQ 7 (.asg (.t 28))]
def o_ref02_times_4 : List AOp := [
 aQ 12 (.mov (.t 8)),
 aQ 13 (.bin .add (.t 12) (.c (.nat .i64 1))),
 aQ 8 (.asg (.t 13))]
def b_ref02_times_0 : AC := (.seq (.seq (.ops o_ref02_times_3)
 (.cond (.t 11) .skip (.exit 0)))
 (.seq (.trim [1, 3, 6, 7, 8] (.block 1 (.seq (.ops o_ref02_times_5)
 (.seq (.ops o_ref02_times_6)
 (.ops o_ref02_times_7)))))
 (.ops o_ref02_times_4)))
def o_ref02_times_8 : List AOp := [
 aQ 29 (.load (some 13) (.t 3)),
 { dst := none, op := .store 13 (.t 6) (.t 29) }]
def c_ref02_times : AC :=
 (.seq (.ops o_ref02_times_0)
 (.seq (.ops o_ref02_times_1)
 (.seq (.seq (.ops o_ref02_times_2)
 (.trim [3, 6] (.block 0 (.loop [1, 3, 6, 7, 8] b_ref02_times_0))))
 (.seq (.ops o_ref02_times_8)
 .ret))))
def a_ref02_times : AFn := { body := c_ref02_times, res := [.cell 6 (some 13)] }
def o_ref02_back_0 : List AOp := [
 aQ 1 (.box (.t 0)),
 aQ 2 (.asg (.c (.nat .i64 0))),
 aQ 3 (.asg (.c (.nat .i64 0)))]
def o_ref02_back_1 : List AOp := [
 aQ 4 (.asg (.c (.nat .i64 2)))]
def o_ref02_back_2 : List AOp := [
 aQ 6 (.mov (.t 4)),
 aQ 7 (.bin .lss (.t 6) (.c (.nat .i64 12)))]
def o_ref02_back_4 : List AOp := [
 aQ 10 (.mov (.t 4)),
 aQ 11 (.fldA 1 (.t 1)),
 aQ 12 (.idxA (some 12) 1 (.t 11) (.t 10)),
 aQ 13 (.load none (.t 12)),
 aQ 14 (.bin .neq (.t 13) (.c (.nat .u64 0)))]
def o_ref02_back_5 : List AOp := [
 aQ 2 (.asg (.c (.nat .i64 0))),
 aQ 3 (.asg (.c (.nat .i64 3)))]
def o_ref02_back_3 : List AOp := [
 aQ 8 (.mov (.t 4)),
 aQ 9 (.bin .add (.t 8) (.c (.nat .i64 1))),
 aQ 4 (.asg (.t 9))]
def b_ref02_back_0 : AC := (.seq (.seq (.ops o_ref02_back_2)
 (.cond (.t 7) .skip (.exit 0)))
 (.seq (.trim [1, 4] (.block 1 (.seq (.ops o_ref02_back_4)
 (.cond (.t 14) (.seq (.ops o_ref02_back_5)
 .ret) .skip))))
 (.ops o_ref02_back_3)))
def o_ref02_back_6 : List AOp := [
 aQ 15 (.fldA 1 (.t 1)),
 aQ 16 (.idxA (some 12) 1 (.t 15) (.c (.nat .i64 0))),
 aQ 17 (.load none (.t 16)),
 aQ 18 (.fldA 1 (.t 1)),
 aQ 19 (.idxA (some 12) 1 (.t 18) (.c (.nat .i64 1))),
 aQ 20 (.load none (.t 19)),
 aQ 21 (.bin .mul (.t 20) (.c (.nat .u64 4294967296))),
 aQ 22 (.bin .add (.t 17) (.t 21)),
 aQ 5 (.asg (.t 22))]
def o_ref02_back_7 : List AOp := [
 aQ 23 (.fldA 0 (.t 1)),
 aQ 24 (.load none (.t 23))]
def o_ref02_back_8 : List AOp := [
 aQ 25 (.mov (.t 5)),
 aQ 26 (.bin .gtr (.t 25) (.c (.nat .u64 9223372036854775808)))]
def o_ref02_back_9 : List AOp := [
 aQ 2 (.asg (.c (.nat .i64 0))),
 aQ 3 (.asg (.c (.nat .i64 3)))]
def o_ref02_back_10 : List AOp := [
 aQ 27 (.mov (.t 5)),
 aQ 28 (.bin .sub (.c (.nat .u64 0)) (.t 27)),
 aQ 29 (.toInt .i64 (.t 28)),
 aQ 2 (.asg (.t 29)),
 aQ 3 (.asg (.c (.nat .i64 0)))]
def o_ref02_back_11 : List AOp := [
 aQ 30 (.mov (.t 5)),
 aQ 31 (.bin .gtr (.t 30) (.c (.nat .u64 9223372036854775807)))]
def o_ref02_back_12 : List AOp := [
 aQ 2 (.asg (.c (.nat .i64 0))),
 aQ 3 (.asg (.c (.nat .i64 3)))]
def o_ref02_back_13 : List AOp := [
 aQ 32 (.mov (.t 5)),
 aQ 33 (.toInt .i64 (.t 32)),
 aQ 2 (.asg (.t 33)),
 aQ 3 (.asg (.c (.nat .i64 0)))]
def c_ref02_back : AC :=
 (.seq (.ops o_ref02_back_0)
 (.seq (.seq (.ops o_ref02_back_1)
 (.trim [1] (.block 0 (.loop [1, 4] b_ref02_back_0))))
 (.seq (.ops o_ref02_back_6)
 (.seq (.seq (.ops o_ref02_back_7)
 (.cond (.t 24) (.seq (.seq (.ops o_ref02_back_8)
 (.cond (.t 26) (.seq (.ops o_ref02_back_9)
 .ret) .skip))
 (.seq (.ops o_ref02_back_10)
 .ret)) .skip))
 (.seq (.seq (.ops o_ref02_back_11)
 (.cond (.t 31) (.seq (.ops o_ref02_back_12)
 .ret) .skip))
 (.seq (.ops o_ref02_back_13)
 .ret))))))
def a_ref02_back : AFn := { body := c_ref02_back, res := [.tmp 2, .tmp 3] }
def o_ref05_parser_whole_0 : List AOp := [
 aQ 2 (.asg (.c (.nat .i64 0)))]
def o_ref05_parser_whole_1 : List AOp := [
 aQ 5 (.mov (.t 0)),
 aQ 6 (.call (.f f_ref05_parser_row) [.t 5]),
 aQ 3 (.asg (.t 6))]
def o_ref05_parser_whole_2 : List AOp := [
 aQ 7 (.mov (.t 0)),
 aQ 8 (.call (.f f_ref05_parser_is) [.t 7, .c (.nat .u8 124)])]
def o_ref05_parser_whole_3 : List AOp := [
 aQ 9 (.mov (.t 0)),
 aQ 10 (.nilchk (.t 9)),
 aQ 11 (.fldA 1 (.t 10)),
 aQ 12 (.load none (.t 11)),
 aQ 13 (.bin .add (.t 12) (.c (.nat .i64 1))),
 aQ 14 (.nilchk (.t 9)),
 aQ 15 (.fldA 1 (.t 14)),
 { dst := none, op := .store 1 (.t 15) (.t 13) }]
def o_ref05_parser_whole_4 : List AOp := [
 aQ 16 (.mov (.t 0)),
 aQ 17 (.call (.f f_ref05_parser_row) [.t 16]),
 aQ 4 (.asg (.t 17))]
def o_ref05_parser_whole_5 : List AOp := [
 aQ 18 (.mov (.t 0)),
 aQ 19 (.build [.nat .u64 0, .nat .u64 0, .nat .u64 0, .nat .u64 0] []),
 aQ 20 (.mov (.t 3)),
 aQ 21 (.mov (.t 4)),
 aQ 22 (.call (.f f_ref05_parser_lay) [.t 18, .c (.nat .i64 3), .t 19, .t 20, .t 21]),
 aQ 3 (.asg (.t 22))]
def b_ref05_parser_whole_0 : AC := (.seq (.seq (.ops o_ref05_parser_whole_2)
 (.cond (.t 8) .skip (.exit 0)))
 (.trim [0, 3] (.block 1 (.seq (.ops o_ref05_parser_whole_3)
 (.seq (.ops o_ref05_parser_whole_4)
 (.ops o_ref05_parser_whole_5))))))
def o_ref05_parser_whole_6 : List AOp := [
 aQ 23 (.mov (.t 3)),
 aQ 2 (.asg (.t 23))]
def c_ref05_parser_whole : AC :=
 (.seq (.ops o_ref05_parser_whole_0)
 (.seq (.ops o_ref05_parser_whole_1)
 (.seq (.trim [3] (.block 0 (.loop [0, 3] b_ref05_parser_whole_0)))
 (.seq (.ops o_ref05_parser_whole_6)
 .ret))))
def a_ref05_parser_whole : AFn := { body := c_ref05_parser_whole, res := [.tmp 2] }
def o_ref05_parser_fail_0 : List AOp := [
 aQ 4 (.mov (.t 0)),
 aQ 5 (.nilchk (.t 4)),
 aQ 6 (.fldA 4 (.t 5)),
 aQ 7 (.load none (.t 6)),
 aQ 8 (.bin .eql (.t 7) (.c (.nat .i64 0)))]
def o_ref05_parser_fail_1 : List AOp := [
 aQ 9 (.mov (.t 0)),
 aQ 10 (.mov (.t 1)),
 aQ 11 (.nilchk (.t 9)),
 aQ 12 (.fldA 4 (.t 11)),
 { dst := none, op := .store 1 (.t 12) (.t 10) }]
def c_ref05_parser_fail : AC :=
 (.seq (.ops o_ref05_parser_fail_0)
 (.cond (.t 8) (.ops o_ref05_parser_fail_1) .skip))
def a_ref05_parser_fail : AFn := { body := c_ref05_parser_fail, res := [] }
def o_regex_reader_cat_0 : List AOp := [
 aQ 2 (.asg (.c (.nat .i64 0)))]
def o_regex_reader_cat_1 : List AOp := [
 aQ 3 (.asg (.c (.d (.int .i64 (-1)))))]
def o_regex_reader_cat_2 : List AOp := [
 mQ 5 (.mov (.t 0)),
 mQ 6 (.nilchk (.t 5)),
 mQ 7 (.fldA 1 (.t 6)),
 mQ 8 (.load none (.t 7)),
 mQ 9 (.mov (.t 0)),
 mQ 10 (.nilchk (.t 9)),
 mQ 11 (.fldA 0 (.t 10)),
 mQ 12 (.load none (.t 11)),
 mQ 13 (.lenS (.t 12)),
 aQ 14 (.bin .lss (.t 8) (.t 13)),
 aQ 15 (.mov (.t 14)),
 gQ 16 (.mov (.t 0)) 15 true,
 gQ 17 (.call (.f f_regex_reader_sees) [.t 16, .c (.nat .u8 124)]) 15 true,
 gQ 18 (.un .not (.t 17)) 15 true,
 aQ 19 (.pick (.t 15) (.t 18) (.c (.d (.bool false)))),
 aQ 20 (.mov (.t 19)),
 gQ 21 (.mov (.t 0)) 20 true,
 gQ 22 (.call (.f f_regex_reader_sees) [.t 21, .c (.nat .u8 41)]) 20 true,
 gQ 23 (.un .not (.t 22)) 20 true,
 aQ 24 (.pick (.t 20) (.t 23) (.c (.d (.bool false))))]
def o_regex_reader_cat_3 : List AOp := [
 aQ 25 (.mov (.t 0)),
 aQ 26 (.call (.f f_regex_reader_piece) [.t 25]),
 aQ 4 (.asg (.t 26))]
def o_regex_reader_cat_4 : List AOp := [
 aQ 27 (.mov (.t 3)),
 aQ 28 (.bin .geq (.t 27) (.c (.nat .i64 0)))]
def o_regex_reader_cat_5 : List AOp := [
 aQ 29 (.mov (.t 0)),
 aQ 30 (.mov (.t 3)),
 aQ 31 (.mov (.t 4)),
 aQ 32 (.build [.nat .i64 0, .nat .i64 0] [(0, 1, (.t 30)), (1, 1, (.t 31))]),
 aQ 33 (.build [.nat .i64 0, .nat .u64 0, .nat .u64 0, .nat .u64 0, .nat .u64 0, .nat .i64 0, .nat .i64 0] [(0, 1, (.c (.nat .i64 2))), (5, 2, (.t 32))]),
 aQ 34 (.call (.f f_regex_reader_put) [.t 29, .t 33]),
 aQ 4 (.asg (.t 34))]
def o_regex_reader_cat_6 : List AOp := [
 aQ 35 (.mov (.t 4)),
 aQ 3 (.asg (.t 35))]
def b_regex_reader_cat_0 : AC := (.seq (.seq (.ops o_regex_reader_cat_2)
 (.cond (.t 24) .skip (.exit 0)))
 (.trim [0, 3] (.block 1 (.seq (.ops o_regex_reader_cat_3)
 (.seq (.seq (.ops o_regex_reader_cat_4)
 (.cond (.t 28) (.ops o_regex_reader_cat_5) .skip))
 (.ops o_regex_reader_cat_6))))))
def o_regex_reader_cat_7 : List AOp := [
 aQ 36 (.mov (.t 3)),
 aQ 37 (.bin .lss (.t 36) (.c (.nat .i64 0)))]
def o_regex_reader_cat_8 : List AOp := [
 aQ 38 (.mov (.t 0)),
 aQ 39 (.build [.nat .i64 0, .nat .u64 0, .nat .u64 0, .nat .u64 0, .nat .u64 0, .nat .i64 0, .nat .i64 0] []),
 aQ 40 (.call (.f f_regex_reader_put) [.t 38, .t 39]),
 aQ 2 (.asg (.t 40))]
def o_regex_reader_cat_9 : List AOp := [
 aQ 41 (.mov (.t 3)),
 aQ 2 (.asg (.t 41))]
def c_regex_reader_cat : AC :=
 (.seq (.ops o_regex_reader_cat_0)
 (.seq (.ops o_regex_reader_cat_1)
 (.seq (.trim [0, 3] (.block 0 (.loop [0, 3] b_regex_reader_cat_0)))
 (.seq (.seq (.ops o_regex_reader_cat_7)
 (.cond (.t 37) (.seq (.ops o_regex_reader_cat_8)
 .ret) .skip))
 (.seq (.ops o_regex_reader_cat_9)
 .ret)))))
def a_regex_reader_cat : AFn := { body := c_regex_reader_cat, res := [.tmp 2] }
def o_regex_reader_sees_0 : List AOp := [
 aQ 4 (.asg (.c (.d (.bool false))))]
def o_regex_reader_sees_1 : List AOp := [
 mQ 5 (.mov (.t 0)),
 mQ 6 (.nilchk (.t 5)),
 mQ 7 (.fldA 1 (.t 6)),
 mQ 8 (.load none (.t 7)),
 mQ 9 (.mov (.t 0)),
 mQ 10 (.nilchk (.t 9)),
 mQ 11 (.fldA 0 (.t 10)),
 mQ 12 (.load none (.t 11)),
 mQ 13 (.lenS (.t 12)),
 aQ 14 (.bin .lss (.t 8) (.t 13)),
 aQ 15 (.mov (.t 14)),
 hQ 16 (.mov (.t 0)) 15 true,
 hQ 17 (.nilchk (.t 16)) 15 true,
 hQ 18 (.fldA 0 (.t 17)) 15 true,
 hQ 19 (.load none (.t 18)) 15 true,
 hQ 20 (.mov (.t 0)) 15 true,
 hQ 21 (.nilchk (.t 20)) 15 true,
 hQ 22 (.fldA 1 (.t 21)) 15 true,
 hQ 23 (.load none (.t 22)) 15 true,
 hQ 24 (.idxS (.t 19) (.t 23)) 15 true,
 hQ 25 (.mov (.t 1)) 15 true,
 gQ 26 (.bin .eql (.t 24) (.t 25)) 15 true,
 aQ 27 (.pick (.t 15) (.t 26) (.c (.d (.bool false)))),
 aQ 4 (.asg (.t 27))]
def c_regex_reader_sees : AC :=
 (.seq (.ops o_regex_reader_sees_0)
 (.seq (.ops o_regex_reader_sees_1)
 .ret))
def a_regex_reader_sees : AFn := { body := c_regex_reader_sees, res := [.tmp 4] }
def o_regex_reader_put_0 : List AOp := [
 aQ 3 (.box (.t 1)),
 aQ 4 (.asg (.c (.nat .i64 0)))]
def o_regex_reader_put_1 : List AOp := [
 aQ 5 (.mov (.t 0)),
 aQ 6 (.nilchk (.t 5)),
 aQ 7 (.fldA 3 (.t 6)),
 aQ 8 (.load none (.t 7)),
 aQ 9 (.len (.t 8)),
 aQ 10 (.bin .geq (.t 9) (.c (.nat .i64 2000)))]
def o_regex_reader_put_2 : List AOp := [
 aQ 11 (.build [.nat .i64 0] [(0, 1, (.c (.nat .i64 6)))]),
 aQ 12 (.mkifc 77 (.t 11)),
 { dst := none, op := .panic (.t 12) }]
def o_regex_reader_put_3 : List AOp := [
 mQ 13 (.mov (.t 0)),
 mQ 14 (.mov (.t 0)),
 mQ 15 (.nilchk (.t 14)),
 mQ 16 (.fldA 3 (.t 15)),
 mQ 17 (.takeload (.t 16)),
 mQ 18 (.load (some 7) (.t 3)),
 mQ 19 (.mkls 7 [.nat .i64 0, .nat .u64 0, .nat .u64 0, .nat .u64 0, .nat .u64 0, .nat .i64 0, .nat .i64 0] [(0, 7, (.t 18))]),
 mQ 20 (.append 7 (.t 17) (.t 19)),
 aQ 21 (.nilchk (.t 13)),
 aQ 22 (.fldA 3 (.t 21)),
 { dst := none, op := .store 1 (.t 22) (.t 20) }]
def o_regex_reader_put_4 : List AOp := [
 aQ 23 (.mov (.t 0)),
 aQ 24 (.nilchk (.t 23)),
 aQ 25 (.fldA 3 (.t 24)),
 aQ 26 (.load none (.t 25)),
 aQ 27 (.len (.t 26)),
 aQ 28 (.bin .sub (.t 27) (.c (.nat .i64 1))),
 aQ 4 (.asg (.t 28))]
def c_regex_reader_put : AC :=
 (.seq (.ops o_regex_reader_put_0)
 (.seq (.seq (.ops o_regex_reader_put_1)
 (.cond (.t 10) (.ops o_regex_reader_put_2) .skip))
 (.seq (.ops o_regex_reader_put_3)
 (.seq (.ops o_regex_reader_put_4)
 .ret))))
def a_regex_reader_put : AFn := { body := c_regex_reader_put, res := [.tmp 4] }
def o_ref05_parser_row_0 : List AOp := [
 aQ 2 (.asg (.c (.nat .i64 0)))]
def o_ref05_parser_row_1 : List AOp := [
 mQ 5 (.mov (.t 0)),
 mQ 6 (.nilchk (.t 5)),
 mQ 7 (.fldA 1 (.t 6)),
 mQ 8 (.load none (.t 7)),
 mQ 9 (.mov (.t 0)),
 mQ 10 (.nilchk (.t 9)),
 mQ 11 (.fldA 0 (.t 10)),
 mQ 12 (.load none (.t 11)),
 mQ 13 (.lenS (.t 12)),
 aQ 14 (.bin .eql (.t 8) (.t 13)),
 aQ 15 (.mov (.t 14)),
 gQ 16 (.mov (.t 0)) 15 false,
 gQ 17 (.call (.f f_ref05_parser_is) [.t 16, .c (.nat .u8 124)]) 15 false,
 aQ 18 (.pick (.t 15) (.c (.d (.bool true))) (.t 17)),
 aQ 19 (.mov (.t 18)),
 gQ 20 (.mov (.t 0)) 19 false,
 gQ 21 (.call (.f f_ref05_parser_is) [.t 20, .c (.nat .u8 41)]) 19 false,
 aQ 22 (.pick (.t 19) (.c (.d (.bool true))) (.t 21))]
def o_ref05_parser_row_2 : List AOp := [
 aQ 23 (.mov (.t 0)),
 aQ 24 (.build [.nat .u64 0, .nat .u64 0, .nat .u64 0, .nat .u64 0] []),
 aQ 25 (.call (.f f_ref05_parser_lay) [.t 23, .c (.nat .i64 0), .t 24, .c (.nat .i64 0), .c (.nat .i64 0)]),
 aQ 2 (.asg (.t 25))]
def o_ref05_parser_row_3 : List AOp := [
 aQ 26 (.mov (.t 0)),
 aQ 27 (.call (.f f_ref05_parser_piece) [.t 26]),
 aQ 3 (.asg (.t 27))]
def o_ref05_parser_row_4 : List AOp := [
 aQ 28 (.mov (.t 0)),
 aQ 29 (.nilchk (.t 28)),
 aQ 30 (.fldA 4 (.t 29)),
 aQ 31 (.load none (.t 30)),
 aQ 32 (.bin .eql (.t 31) (.c (.nat .i64 0))),
 aQ 33 (.mov (.t 32)),
 hQ 34 (.mov (.t 0)) 33 true,
 hQ 35 (.nilchk (.t 34)) 33 true,
 hQ 36 (.fldA 1 (.t 35)) 33 true,
 hQ 37 (.load none (.t 36)) 33 true,
 hQ 38 (.mov (.t 0)) 33 true,
 hQ 39 (.nilchk (.t 38)) 33 true,
 hQ 40 (.fldA 0 (.t 39)) 33 true,
 hQ 41 (.load none (.t 40)) 33 true,
 hQ 42 (.lenS (.t 41)) 33 true,
 gQ 43 (.bin .lss (.t 37) (.t 42)) 33 true,
 aQ 44 (.pick (.t 33) (.t 43) (.c (.d (.bool false)))),
 aQ 45 (.mov (.t 44)),
 hQ 46 (.mov (.t 0)) 45 true,
 hQ 47 (.nilchk (.t 46)) 45 true,
 hQ 48 (.fldA 0 (.t 47)) 45 true,
 hQ 49 (.load none (.t 48)) 45 true,
 hQ 50 (.mov (.t 0)) 45 true,
 hQ 51 (.nilchk (.t 50)) 45 true,
 hQ 52 (.fldA 1 (.t 51)) 45 true,
 hQ 53 (.load none (.t 52)) 45 true,
 gQ 54 (.idxS (.t 49) (.t 53)) 45 true,
 gQ 55 (.bin .neq (.t 54) (.c (.nat .u8 124))) 45 true,
 aQ 56 (.pick (.t 45) (.t 55) (.c (.d (.bool false)))),
 aQ 57 (.mov (.t 56)),
 hQ 58 (.mov (.t 0)) 57 true,
 hQ 59 (.nilchk (.t 58)) 57 true,
 hQ 60 (.fldA 0 (.t 59)) 57 true,
 hQ 61 (.load none (.t 60)) 57 true,
 hQ 62 (.mov (.t 0)) 57 true,
 hQ 63 (.nilchk (.t 62)) 57 true,
 hQ 64 (.fldA 1 (.t 63)) 57 true,
 hQ 65 (.load none (.t 64)) 57 true,
 gQ 66 (.idxS (.t 61) (.t 65)) 57 true,
 gQ 67 (.bin .neq (.t 66) (.c (.nat .u8 41))) 57 true,
 aQ 68 (.pick (.t 57) (.t 67) (.c (.d (.bool false))))]
def o_ref05_parser_row_5 : List AOp := [
 aQ 69 (.mov (.t 0)),
 aQ 70 (.call (.f f_ref05_parser_piece) [.t 69]),
 aQ 4 (.asg (.t 70))]
def o_ref05_parser_row_6 : List AOp := [
 aQ 71 (.mov (.t 0)),
 aQ 72 (.build [.nat .u64 0, .nat .u64 0, .nat .u64 0, .nat .u64 0] []),
 aQ 73 (.mov (.t 3)),
 aQ 74 (.mov (.t 4)),
 aQ 75 (.call (.f f_ref05_parser_lay) [.t 71, .c (.nat .i64 2), .t 72, .t 73, .t 74]),
 aQ 3 (.asg (.t 75))]
def b_ref05_parser_row_0 : AC := (.seq (.seq (.ops o_ref05_parser_row_4)
 (.cond (.t 68) .skip (.exit 0)))
 (.trim [0, 3] (.block 1 (.seq (.ops o_ref05_parser_row_5)
 (.ops o_ref05_parser_row_6)))))
def o_ref05_parser_row_7 : List AOp := [
 aQ 76 (.mov (.t 3)),
 aQ 2 (.asg (.t 76))]
def c_ref05_parser_row : AC :=
 (.seq (.ops o_ref05_parser_row_0)
 (.seq (.seq (.ops o_ref05_parser_row_1)
 (.cond (.t 22) (.seq (.ops o_ref05_parser_row_2)
 .ret) .skip))
 (.seq (.ops o_ref05_parser_row_3)
 (.seq (.trim [3] (.block 0 (.loop [0, 3] b_ref05_parser_row_0)))
 (.seq (.ops o_ref05_parser_row_7)
 .ret)))))
def a_ref05_parser_row : AFn := { body := c_ref05_parser_row, res := [.tmp 2] }
def o_ref05_parser_is_0 : List AOp := [
 aQ 4 (.asg (.c (.d (.bool false))))]
def o_ref05_parser_is_1 : List AOp := [
 aQ 5 (.mov (.t 0)),
 aQ 6 (.nilchk (.t 5)),
 aQ 7 (.fldA 4 (.t 6)),
 aQ 8 (.load none (.t 7)),
 aQ 9 (.bin .eql (.t 8) (.c (.nat .i64 0))),
 aQ 10 (.mov (.t 9)),
 hQ 11 (.mov (.t 0)) 10 true,
 hQ 12 (.nilchk (.t 11)) 10 true,
 hQ 13 (.fldA 1 (.t 12)) 10 true,
 hQ 14 (.load none (.t 13)) 10 true,
 hQ 15 (.mov (.t 0)) 10 true,
 hQ 16 (.nilchk (.t 15)) 10 true,
 hQ 17 (.fldA 0 (.t 16)) 10 true,
 hQ 18 (.load none (.t 17)) 10 true,
 hQ 19 (.lenS (.t 18)) 10 true,
 gQ 20 (.bin .lss (.t 14) (.t 19)) 10 true,
 aQ 21 (.pick (.t 10) (.t 20) (.c (.d (.bool false)))),
 aQ 22 (.mov (.t 21)),
 hQ 23 (.mov (.t 0)) 22 true,
 hQ 24 (.nilchk (.t 23)) 22 true,
 hQ 25 (.fldA 0 (.t 24)) 22 true,
 hQ 26 (.load none (.t 25)) 22 true,
 hQ 27 (.mov (.t 0)) 22 true,
 hQ 28 (.nilchk (.t 27)) 22 true,
 hQ 29 (.fldA 1 (.t 28)) 22 true,
 hQ 30 (.load none (.t 29)) 22 true,
 hQ 31 (.idxS (.t 26) (.t 30)) 22 true,
 hQ 32 (.mov (.t 1)) 22 true,
 gQ 33 (.bin .eql (.t 31) (.t 32)) 22 true,
 aQ 34 (.pick (.t 22) (.t 33) (.c (.d (.bool false)))),
 aQ 4 (.asg (.t 34))]
def c_ref05_parser_is : AC :=
 (.seq (.ops o_ref05_parser_is_0)
 (.seq (.ops o_ref05_parser_is_1)
 .ret))
def a_ref05_parser_is : AFn := { body := c_ref05_parser_is, res := [.tmp 4] }
def o_ref05_parser_lay_0 : List AOp := [
 aQ 7 (.box (.t 2)),
 aQ 10 (.asg (.c (.nat .i64 0)))]
def o_ref05_parser_lay_1 : List AOp := [
 aQ 11 (.mov (.t 0)),
 aQ 12 (.nilchk (.t 11)),
 aQ 13 (.fldA 4 (.t 12)),
 aQ 14 (.load none (.t 13)),
 aQ 15 (.bin .eql (.t 14) (.c (.nat .i64 0))),
 aQ 16 (.mov (.t 15)),
 gQ 17 (.mov (.t 0)) 16 true,
 gQ 18 (.nilchk (.t 17)) 16 true,
 gQ 19 (.fldA 3 (.t 18)) 16 true,
 gQ 20 (.load none (.t 19)) 16 true,
 gQ 21 (.len (.t 20)) 16 true,
 gQ 22 (.bin .eql (.t 21) (.c (.nat .i64 2000))) 16 true,
 aQ 23 (.pick (.t 16) (.t 22) (.c (.d (.bool false))))]
def o_ref05_parser_lay_2 : List AOp := [
 aQ 24 (.mov (.t 0)),
 aQ 25 (.call (.f f_ref05_parser_fail) [.t 24, .c (.nat .i64 6)])]
def o_ref05_parser_lay_3 : List AOp := [
 aQ 26 (.mov (.t 0)),
 aQ 27 (.nilchk (.t 26)),
 aQ 28 (.fldA 4 (.t 27)),
 aQ 29 (.load none (.t 28)),
 aQ 30 (.bin .eql (.t 29) (.c (.nat .i64 0)))]
def o_ref05_parser_lay_4 : List AOp := [
 mQ 31 (.mov (.t 0)),
 mQ 32 (.mov (.t 0)),
 mQ 33 (.nilchk (.t 32)),
 mQ 34 (.fldA 3 (.t 33)),
 mQ 35 (.takeload (.t 34)),
 mQ 36 (.mov (.t 1)),
 mQ 37 (.load (some 4) (.t 7)),
 mQ 38 (.mov (.t 3)),
 mQ 39 (.mov (.t 4)),
 mQ 40 (.build [.nat .i64 0, .nat .i64 0] [(0, 1, (.t 38)), (1, 1, (.t 39))]),
 mQ 41 (.build [.nat .i64 0, .nat .u64 0, .nat .u64 0, .nat .u64 0, .nat .u64 0, .nat .i64 0, .nat .i64 0] [(0, 1, (.t 36)), (1, 4, (.t 37)), (5, 2, (.t 40))]),
 mQ 42 (.mkls 7 [.nat .i64 0, .nat .u64 0, .nat .u64 0, .nat .u64 0, .nat .u64 0, .nat .i64 0, .nat .i64 0] [(0, 7, (.t 41))]),
 mQ 43 (.append 7 (.t 35) (.t 42)),
 aQ 44 (.nilchk (.t 31)),
 aQ 45 (.fldA 3 (.t 44)),
 { dst := none, op := .store 1 (.t 45) (.t 43) }]
def o_ref05_parser_lay_5 : List AOp := [
 aQ 46 (.mov (.t 0)),
 aQ 47 (.nilchk (.t 46)),
 aQ 48 (.fldA 3 (.t 47)),
 aQ 49 (.load none (.t 48)),
 aQ 50 (.len (.t 49)),
 aQ 51 (.bin .sub (.t 50) (.c (.nat .i64 1))),
 aQ 10 (.asg (.t 51))]
def c_ref05_parser_lay : AC :=
 (.seq (.ops o_ref05_parser_lay_0)
 (.seq (.seq (.ops o_ref05_parser_lay_1)
 (.cond (.t 23) (.ops o_ref05_parser_lay_2) .skip))
 (.seq (.seq (.ops o_ref05_parser_lay_3)
 (.cond (.t 30) (.ops o_ref05_parser_lay_4) .skip))
 (.seq (.ops o_ref05_parser_lay_5)
 .ret))))
def a_ref05_parser_lay : AFn := { body := c_ref05_parser_lay, res := [.tmp 10] }
def o_regex_reader_piece_0 : List AOp := [
 aQ 2 (.asg (.c (.nat .i64 0)))]
def o_regex_reader_piece_1 : List AOp := [
 aQ 5 (.mov (.t 0)),
 aQ 6 (.call (.f f_regex_reader_atom) [.t 5]),
 aQ 3 (.asg (.t 6))]
def o_regex_reader_piece_2 : List AOp := [
 mQ 7 (.mov (.t 0)),
 mQ 8 (.nilchk (.t 7)),
 mQ 9 (.fldA 1 (.t 8)),
 mQ 10 (.load none (.t 9)),
 mQ 11 (.mov (.t 0)),
 mQ 12 (.nilchk (.t 11)),
 mQ 13 (.fldA 0 (.t 12)),
 mQ 14 (.load none (.t 13)),
 mQ 15 (.lenS (.t 14)),
 aQ 16 (.bin .lss (.t 10) (.t 15))]
def o_regex_reader_piece_3 : List AOp := [
 mQ 17 (.mov (.t 0)),
 mQ 18 (.nilchk (.t 17)),
 mQ 19 (.fldA 0 (.t 18)),
 mQ 20 (.load none (.t 19)),
 mQ 21 (.mov (.t 0)),
 mQ 22 (.nilchk (.t 21)),
 mQ 23 (.fldA 1 (.t 22)),
 mQ 24 (.load none (.t 23)),
 aQ 25 (.idxS (.t 20) (.t 24)),
 aQ 26 (.call (.f f_strings_IndexByte) [.c (.d (.str [42, 43, 63])), .t 25]),
 aQ 4 (.asg (.t 26))]
def o_regex_reader_piece_4 : List AOp := [
 aQ 27 (.mov (.t 4)),
 aQ 28 (.bin .lss (.t 27) (.c (.nat .i64 0)))]
def o_regex_reader_piece_5 : List AOp := [
 aQ 29 (.mov (.t 0)),
 aQ 30 (.nilchk (.t 29)),
 aQ 31 (.fldA 1 (.t 30)),
 aQ 32 (.load none (.t 31)),
 aQ 33 (.bin .add (.t 32) (.c (.nat .i64 1))),
 aQ 34 (.nilchk (.t 29)),
 aQ 35 (.fldA 1 (.t 34)),
 { dst := none, op := .store 1 (.t 35) (.t 33) }]
def o_regex_reader_piece_6 : List AOp := [
 aQ 36 (.mov (.t 0)),
 aQ 37 (.mov (.t 4)),
 aQ 38 (.bin .add (.c (.nat .i64 4)) (.t 37)),
 aQ 39 (.mov (.t 3)),
 aQ 40 (.build [.nat .i64 0, .nat .i64 0] [(0, 1, (.t 39))]),
 aQ 41 (.build [.nat .i64 0, .nat .u64 0, .nat .u64 0, .nat .u64 0, .nat .u64 0, .nat .i64 0, .nat .i64 0] [(0, 1, (.t 38)), (5, 2, (.t 40))]),
 aQ 42 (.call (.f f_regex_reader_put) [.t 36, .t 41]),
 aQ 3 (.asg (.t 42))]
def b_regex_reader_piece_0 : AC := (.seq (.seq (.ops o_regex_reader_piece_2)
 (.cond (.t 16) .skip (.exit 0)))
 (.trim [0, 3] (.block 1 (.seq (.ops o_regex_reader_piece_3)
 (.seq (.seq (.ops o_regex_reader_piece_4)
 (.cond (.t 28) (.exit 0) .skip))
 (.seq (.ops o_regex_reader_piece_5)
 (.ops o_regex_reader_piece_6)))))))
def o_regex_reader_piece_7 : List AOp := [
 aQ 43 (.mov (.t 3)),
 aQ 2 (.asg (.t 43))]
def c_regex_reader_piece : AC :=
 (.seq (.ops o_regex_reader_piece_0)
 (.seq (.ops o_regex_reader_piece_1)
 (.seq (.trim [3] (.block 0 (.loop [0, 3] b_regex_reader_piece_0)))
 (.seq (.ops o_regex_reader_piece_7)
 .ret))))
def a_regex_reader_piece : AFn := { body := c_regex_reader_piece, res := [.tmp 2] }
def o_ref05_parser_piece_0 : List AOp := [
 aQ 2 (.asg (.c (.nat .i64 0)))]
def o_ref05_parser_piece_1 : List AOp := [
 aQ 6 (.mov (.t 0)),
 aQ 7 (.call (.f f_ref05_parser_atom) [.t 6]),
 aQ 3 (.asg (.t 7))]
def o_ref05_parser_piece_2 : List AOp := [
 aQ 4 (.asg (.c (.d (.bool true))))]
def o_ref05_parser_piece_3 : List AOp := [
 aQ 8 (.mov (.t 4))]
def o_ref05_parser_piece_4 : List AOp := [
 aQ 4 (.asg (.c (.d (.bool false))))]
def o_ref05_parser_piece_5 : List AOp := [
 aQ 5 (.asg (.c (.nat .i64 0)))]
def o_ref05_parser_piece_6 : List AOp := [
 aQ 9 (.mov (.t 0)),
 aQ 10 (.call (.f f_ref05_parser_is) [.t 9, .c (.nat .u8 42)])]
def o_ref05_parser_piece_7 : List AOp := [
 aQ 5 (.asg (.c (.nat .i64 4)))]
def o_ref05_parser_piece_8 : List AOp := [
 aQ 11 (.mov (.t 0)),
 aQ 12 (.call (.f f_ref05_parser_is) [.t 11, .c (.nat .u8 43)])]
def o_ref05_parser_piece_9 : List AOp := [
 aQ 5 (.asg (.c (.nat .i64 5)))]
def o_ref05_parser_piece_10 : List AOp := [
 aQ 13 (.mov (.t 0)),
 aQ 14 (.call (.f f_ref05_parser_is) [.t 13, .c (.nat .u8 63)])]
def o_ref05_parser_piece_11 : List AOp := [
 aQ 5 (.asg (.c (.nat .i64 6)))]
def o_ref05_parser_piece_12 : List AOp := [
 aQ 15 (.mov (.t 5)),
 aQ 16 (.bin .gtr (.t 15) (.c (.nat .i64 0)))]
def o_ref05_parser_piece_13 : List AOp := [
 aQ 17 (.mov (.t 0)),
 aQ 18 (.nilchk (.t 17)),
 aQ 19 (.fldA 1 (.t 18)),
 aQ 20 (.load none (.t 19)),
 aQ 21 (.bin .add (.t 20) (.c (.nat .i64 1))),
 aQ 22 (.nilchk (.t 17)),
 aQ 23 (.fldA 1 (.t 22)),
 { dst := none, op := .store 1 (.t 23) (.t 21) }]
def o_ref05_parser_piece_14 : List AOp := [
 aQ 24 (.mov (.t 0)),
 aQ 25 (.mov (.t 5)),
 aQ 26 (.build [.nat .u64 0, .nat .u64 0, .nat .u64 0, .nat .u64 0] []),
 aQ 27 (.mov (.t 3)),
 aQ 28 (.call (.f f_ref05_parser_lay) [.t 24, .t 25, .t 26, .t 27, .c (.nat .i64 0)]),
 aQ 3 (.asg (.t 28))]
def o_ref05_parser_piece_15 : List AOp := [
 aQ 4 (.asg (.c (.d (.bool true))))]
def b_ref05_parser_piece_0 : AC := (.seq (.seq (.ops o_ref05_parser_piece_3)
 (.cond (.t 8) .skip (.exit 0)))
 (.trim [0, 3, 4] (.block 1 (.seq (.ops o_ref05_parser_piece_4)
 (.seq (.ops o_ref05_parser_piece_5)
 (.seq (.seq (.ops o_ref05_parser_piece_6)
 (.cond (.t 10) (.ops o_ref05_parser_piece_7) .skip))
 (.seq (.seq (.ops o_ref05_parser_piece_8)
 (.cond (.t 12) (.ops o_ref05_parser_piece_9) .skip))
 (.seq (.seq (.ops o_ref05_parser_piece_10)
 (.cond (.t 14) (.ops o_ref05_parser_piece_11) .skip))
 (.seq (.ops o_ref05_parser_piece_12)
 (.cond (.t 16) (.seq (.ops o_ref05_parser_piece_13)
 (.seq (.ops o_ref05_parser_piece_14)
 (.ops o_ref05_parser_piece_15))) .skip))))))))))
def o_ref05_parser_piece_16 : List AOp := [
 aQ 29 (.mov (.t 3)),
 aQ 2 (.asg (.t 29))]
def c_ref05_parser_piece : AC :=
 (.seq (.ops o_ref05_parser_piece_0)
 (.seq (.ops o_ref05_parser_piece_1)
 (.seq (.ops o_ref05_parser_piece_2)
 (.seq (.trim [3] (.block 0 (.loop [0, 3, 4] b_ref05_parser_piece_0)))
 (.seq (.ops o_ref05_parser_piece_16)
 .ret)))))
def a_ref05_parser_piece : AFn := { body := c_ref05_parser_piece, res := [.tmp 2] }
def o_regex_reader_atom_0 : List AOp := [
 aQ 2 (.asg (.c (.nat .i64 0)))]
def o_regex_reader_atom_1 : List AOp := [
 mQ 12 (.mov (.t 0)),
 mQ 13 (.nilchk (.t 12)),
 mQ 14 (.fldA 0 (.t 13)),
 mQ 15 (.load none (.t 14)),
 mQ 16 (.mov (.t 0)),
 mQ 17 (.nilchk (.t 16)),
 mQ 18 (.fldA 1 (.t 17)),
 mQ 19 (.load none (.t 18)),
 aQ 20 (.idxS (.t 15) (.t 19)),
 aQ 3 (.asg (.t 20))]
def o_regex_reader_atom_2 : List AOp := [
 aQ 21 (.build [.nat .i64 0, .nat .u64 0, .nat .u64 0, .nat .u64 0, .nat .u64 0, .nat .i64 0, .nat .i64 0] [(0, 1, (.c (.nat .i64 1)))]),
 aQ 4 (.alloc [.nat .i64 0, .nat .u64 0, .nat .u64 0, .nat .u64 0, .nat .u64 0, .nat .i64 0, .nat .i64 0]),
 { dst := none, op := .store 7 (.t 4) (.t 21) }]
def o_regex_reader_atom_3 : List AOp := [
 aQ 5 (.asg (.c (.nat .i64 1)))]
def o_regex_reader_atom_8 : List AOp := [
 aQ 45 (.mov (.t 3)),
 aQ 46 (.bin .eql (.t 45) (.c (.nat .u8 40))),
 aQ 44 (.asg (.t 46))]
def o_regex_reader_atom_9 : List AOp := [
 aQ 47 (.mov (.t 0)),
 aQ 48 (.call (.f f_regex_reader_group) [.t 47]),
 aQ 2 (.asg (.t 48))]
def o_regex_reader_atom_10 : List AOp := [
 aQ 50 (.mov (.t 3)),
 aQ 51 (.bin .eql (.t 50) (.c (.nat .u8 46))),
 aQ 49 (.asg (.t 51))]
def o_regex_reader_atom_11 : List AOp := [
 aQ 52 (.call (.f f_regex_dot) []),
 aQ 53 (.fldA 1 (.t 4)),
 { dst := none, op := .store 4 (.t 53) (.t 52) }]
def o_regex_reader_atom_12 : List AOp := [
 aQ 55 (.mov (.t 3)),
 aQ 56 (.bin .eql (.t 55) (.c (.nat .u8 94))),
 aQ 54 (.asg (.t 56))]
def o_regex_reader_atom_13 : List AOp := [
 aQ 57 (.build [.nat .i64 0, .nat .u64 0, .nat .u64 0, .nat .u64 0, .nat .u64 0, .nat .i64 0, .nat .i64 0] [(0, 1, (.c (.nat .i64 7)))]),
 { dst := none, op := .store 7 (.t 4) (.t 57) }]
def o_regex_reader_atom_14 : List AOp := [
 aQ 59 (.mov (.t 3)),
 aQ 60 (.bin .eql (.t 59) (.c (.nat .u8 36))),
 aQ 58 (.asg (.t 60))]
def o_regex_reader_atom_15 : List AOp := [
 aQ 61 (.build [.nat .i64 0, .nat .u64 0, .nat .u64 0, .nat .u64 0, .nat .u64 0, .nat .i64 0, .nat .i64 0] [(0, 1, (.c (.nat .i64 8)))]),
 { dst := none, op := .store 7 (.t 4) (.t 61) }]
def o_regex_reader_atom_16 : List AOp := [
 aQ 63 (.mov (.t 3)),
 aQ 64 (.bin .eql (.t 63) (.c (.nat .u8 91))),
 aQ 62 (.asg (.t 64))]
def o_regex_reader_atom_17 : List AOp := [
 mQ 66 (.mov (.t 0)),
 mQ 67 (.nilchk (.t 66)),
 mQ 68 (.fldA 0 (.t 67)),
 mQ 69 (.load none (.t 68)),
 mQ 70 (.mov (.t 0)),
 mQ 71 (.nilchk (.t 70)),
 mQ 72 (.fldA 1 (.t 71)),
 mQ 73 (.load none (.t 72)),
 mQ 74 (.sliceS (.t 69) (some (.t 73)) none),
 mQ 75 (.callZ (.f f_class_Read) [.t 74]),
 mQ 65 (.mov (.t 75)),
 mQ 76 (.extr (.t 65) 0),
 mQ 77 (.extr (.t 65) 1),
 mQ 78 (.extr (.t 65) 2),
 mQ 6 (.alloc [.nat .u64 0, .nat .u64 0, .nat .u64 0, .nat .u64 0]),
 { dst := none, op := .store 4 (.t 6) (.t 76), may := false },
 mQ 7 (.asg (.t 77)),
 aQ 8 (.asg (.t 78))]
def o_regex_reader_atom_18 : List AOp := [
 aQ 79 (.mov (.t 8)),
 aQ 80 (.bin .neq (.t 79) (.c (.nat .i64 0)))]
def o_regex_reader_atom_19 : List AOp := [
 aQ 81 (.build [.nat .i64 0] [(0, 1, (.c (.nat .i64 9)))]),
 aQ 82 (.mkifc 77 (.t 81)),
 { dst := none, op := .panic (.t 82) }]
def o_regex_reader_atom_20 : List AOp := [
 aQ 83 (.load (some 4) (.t 6)),
 aQ 84 (.mov (.t 7)),
 aQ 85 (.fldA 1 (.t 4)),
 { dst := none, op := .store 4 (.t 85) (.t 83) },
 aQ 5 (.asg (.t 84))]
def o_regex_reader_atom_21 : List AOp := [
 aQ 87 (.mov (.t 3)),
 aQ 88 (.call (.f f_strings_IndexByte) [.c (.d (.str [42, 43, 63, 41, 124, 123, 125, 47])), .t 87]),
 aQ 89 (.bin .geq (.t 88) (.c (.nat .i64 0))),
 aQ 86 (.asg (.t 89))]
def o_regex_reader_atom_22 : List AOp := [
 aQ 90 (.build [.nat .i64 0] [(0, 1, (.c (.nat .i64 9)))]),
 aQ 91 (.mkifc 77 (.t 90)),
 { dst := none, op := .panic (.t 91) }]
def o_regex_reader_atom_4 : List AOp := [
 mQ 23 (.mov (.t 0)),
 mQ 24 (.nilchk (.t 23)),
 mQ 25 (.fldA 0 (.t 24)),
 mQ 26 (.load none (.t 25)),
 mQ 27 (.mov (.t 0)),
 mQ 28 (.nilchk (.t 27)),
 mQ 29 (.fldA 1 (.t 28)),
 mQ 30 (.load none (.t 29)),
 aQ 31 (.sliceS (.t 26) (some (.t 30)) none),
 aQ 32 (.call (.f f_class_Sign) [.t 31]),
 aQ 22 (.mov (.t 32)),
 mQ 33 (.extr (.t 22) 0),
 mQ 34 (.extr (.t 22) 1),
 mQ 35 (.extr (.t 22) 2),
 mQ 9 (.asg (.t 33)),
 mQ 10 (.asg (.t 34)),
 aQ 11 (.asg (.t 35))]
def o_regex_reader_atom_5 : List AOp := [
 aQ 36 (.mov (.t 11)),
 aQ 37 (.bin .neq (.t 36) (.c (.nat .i64 0)))]
def o_regex_reader_atom_6 : List AOp := [
 aQ 38 (.build [.nat .i64 0] [(0, 1, (.c (.nat .i64 9)))]),
 aQ 39 (.mkifc 77 (.t 38)),
 { dst := none, op := .panic (.t 39) }]
def o_regex_reader_atom_7 : List AOp := [
 aQ 40 (.mov (.t 9)),
 aQ 41 (.call (.f f_class_One) [.t 40]),
 aQ 42 (.mov (.t 10)),
 aQ 43 (.fldA 1 (.t 4)),
 { dst := none, op := .store 4 (.t 43) (.t 41) },
 aQ 5 (.asg (.t 42))]
def o_regex_reader_atom_23 : List AOp := [
 aQ 92 (.mov (.t 0)),
 aQ 93 (.nilchk (.t 92)),
 aQ 94 (.fldA 1 (.t 93)),
 aQ 95 (.load none (.t 94)),
 aQ 96 (.mov (.t 5)),
 aQ 97 (.bin .add (.t 95) (.t 96)),
 aQ 98 (.nilchk (.t 92)),
 aQ 99 (.fldA 1 (.t 98)),
 { dst := none, op := .store 1 (.t 99) (.t 97) }]
def o_regex_reader_atom_24 : List AOp := [
 aQ 100 (.mov (.t 0)),
 aQ 101 (.load (some 7) (.t 4)),
 aQ 102 (.call (.f f_regex_reader_put) [.t 100, .t 101]),
 aQ 2 (.asg (.t 102))]
def c_regex_reader_atom : AC :=
 (.seq (.ops o_regex_reader_atom_0)
 (.seq (.ops o_regex_reader_atom_1)
 (.seq (.ops o_regex_reader_atom_2)
 (.seq (.ops o_regex_reader_atom_3)
 (.seq (.trim [0, 4, 5] (.block 0 (.seq (.ops o_regex_reader_atom_8)
 (.cond (.t 44) (.seq (.ops o_regex_reader_atom_9)
 .ret) (.seq (.ops o_regex_reader_atom_10)
 (.cond (.t 49) (.ops o_regex_reader_atom_11) (.seq (.ops o_regex_reader_atom_12)
 (.cond (.t 54) (.ops o_regex_reader_atom_13) (.seq (.ops o_regex_reader_atom_14)
 (.cond (.t 58) (.ops o_regex_reader_atom_15) (.seq (.ops o_regex_reader_atom_16)
 (.cond (.t 62) (.seq (.ops o_regex_reader_atom_17)
 (.seq (.seq (.ops o_regex_reader_atom_18)
 (.cond (.t 80) (.ops o_regex_reader_atom_19) .skip))
 (.ops o_regex_reader_atom_20))) (.seq (.ops o_regex_reader_atom_21)
 (.cond (.t 86) (.ops o_regex_reader_atom_22) (.seq (.ops o_regex_reader_atom_4)
 (.seq (.seq (.ops o_regex_reader_atom_5)
 (.cond (.t 37) (.ops o_regex_reader_atom_6) .skip))
 (.ops o_regex_reader_atom_7)))))))))))))))))
 (.seq (.ops o_regex_reader_atom_23)
 (.seq (.ops o_regex_reader_atom_24)
 .ret)))))))
def a_regex_reader_atom : AFn := { body := c_regex_reader_atom, res := [.tmp 2] }
def o_ref05_parser_atom_0 : List AOp := [
 aQ 2 (.asg (.c (.nat .i64 0)))]
def o_ref05_parser_atom_1 : List AOp := [
 aQ 11 (.mov (.t 0)),
 aQ 12 (.call (.f f_ref05_parser_is) [.t 11, .c (.nat .u8 40)])]
def o_ref05_parser_atom_2 : List AOp := [
 aQ 13 (.mov (.t 0)),
 aQ 14 (.nilchk (.t 13)),
 aQ 15 (.fldA 2 (.t 14)),
 aQ 16 (.load none (.t 15)),
 aQ 17 (.bin .eql (.t 16) (.c (.nat .i64 30)))]
def o_ref05_parser_atom_3 : List AOp := [
 aQ 18 (.mov (.t 0)),
 aQ 19 (.call (.f f_ref05_parser_fail) [.t 18, .c (.nat .i64 7)])]
def o_ref05_parser_atom_4 : List AOp := [
 aQ 2 (.asg (.c (.nat .i64 0)))]
def o_ref05_parser_atom_5 : List AOp := [
 aQ 20 (.mov (.t 0)),
 aQ 21 (.nilchk (.t 20)),
 aQ 22 (.fldA 2 (.t 21)),
 aQ 23 (.load none (.t 22)),
 aQ 24 (.bin .add (.t 23) (.c (.nat .i64 1))),
 aQ 25 (.nilchk (.t 20)),
 aQ 26 (.fldA 2 (.t 25)),
 { dst := none, op := .store 1 (.t 26) (.t 24) }]
def o_ref05_parser_atom_6 : List AOp := [
 aQ 27 (.mov (.t 0)),
 aQ 28 (.nilchk (.t 27)),
 aQ 29 (.fldA 1 (.t 28)),
 aQ 30 (.load none (.t 29)),
 aQ 31 (.bin .add (.t 30) (.c (.nat .i64 1))),
 aQ 32 (.nilchk (.t 27)),
 aQ 33 (.fldA 1 (.t 32)),
 { dst := none, op := .store 1 (.t 33) (.t 31) }]
def o_ref05_parser_atom_7 : List AOp := [
 aQ 34 (.mov (.t 0)),
 aQ 35 (.call (.f f_ref05_parser_whole) [.t 34]),
 aQ 3 (.asg (.t 35))]
def o_ref05_parser_atom_8 : List AOp := [
 aQ 36 (.mov (.t 0)),
 aQ 37 (.call (.f f_ref05_parser_is) [.t 36, .c (.nat .u8 41)]),
 aQ 38 (.un .not (.t 37))]
def o_ref05_parser_atom_9 : List AOp := [
 aQ 39 (.mov (.t 0)),
 aQ 40 (.call (.f f_ref05_parser_fail) [.t 39, .c (.nat .i64 9)])]
def o_ref05_parser_atom_10 : List AOp := [
 aQ 41 (.mov (.t 0)),
 aQ 42 (.nilchk (.t 41)),
 aQ 43 (.fldA 1 (.t 42)),
 aQ 44 (.load none (.t 43)),
 aQ 45 (.bin .add (.t 44) (.c (.nat .i64 1))),
 aQ 46 (.nilchk (.t 41)),
 aQ 47 (.fldA 1 (.t 46)),
 { dst := none, op := .store 1 (.t 47) (.t 45) }]
def o_ref05_parser_atom_11 : List AOp := [
 aQ 48 (.mov (.t 0)),
 aQ 49 (.nilchk (.t 48)),
 aQ 50 (.fldA 2 (.t 49)),
 aQ 51 (.load none (.t 50)),
 aQ 52 (.bin .sub (.t 51) (.c (.nat .i64 1))),
 aQ 53 (.nilchk (.t 48)),
 aQ 54 (.fldA 2 (.t 53)),
 { dst := none, op := .store 1 (.t 54) (.t 52) }]
def o_ref05_parser_atom_12 : List AOp := [
 aQ 55 (.mov (.t 3)),
 aQ 2 (.asg (.t 55))]
def o_ref05_parser_atom_13 : List AOp := [
 aQ 56 (.mov (.t 0)),
 aQ 57 (.call (.f f_ref05_parser_is) [.t 56, .c (.nat .u8 46)])]
def o_ref05_parser_atom_14 : List AOp := [
 aQ 58 (.mov (.t 0)),
 aQ 59 (.nilchk (.t 58)),
 aQ 60 (.fldA 1 (.t 59)),
 aQ 61 (.load none (.t 60)),
 aQ 62 (.bin .add (.t 61) (.c (.nat .i64 1))),
 aQ 63 (.nilchk (.t 58)),
 aQ 64 (.fldA 1 (.t 63)),
 { dst := none, op := .store 1 (.t 64) (.t 62) }]
def o_ref05_parser_atom_15 : List AOp := [
 aQ 65 (.mov (.t 0)),
 aQ 66 (.call (.f f_ref05_Dot) []),
 aQ 67 (.call (.f f_ref05_parser_lay) [.t 65, .c (.nat .i64 1), .t 66, .c (.nat .i64 0), .c (.nat .i64 0)]),
 aQ 2 (.asg (.t 67))]
def o_ref05_parser_atom_16 : List AOp := [
 aQ 68 (.mov (.t 0)),
 aQ 69 (.call (.f f_ref05_parser_is) [.t 68, .c (.nat .u8 94)])]
def o_ref05_parser_atom_17 : List AOp := [
 aQ 70 (.mov (.t 0)),
 aQ 71 (.nilchk (.t 70)),
 aQ 72 (.fldA 1 (.t 71)),
 aQ 73 (.load none (.t 72)),
 aQ 74 (.bin .add (.t 73) (.c (.nat .i64 1))),
 aQ 75 (.nilchk (.t 70)),
 aQ 76 (.fldA 1 (.t 75)),
 { dst := none, op := .store 1 (.t 76) (.t 74) }]
def o_ref05_parser_atom_18 : List AOp := [
 aQ 77 (.mov (.t 0)),
 aQ 78 (.build [.nat .u64 0, .nat .u64 0, .nat .u64 0, .nat .u64 0] []),
 aQ 79 (.call (.f f_ref05_parser_lay) [.t 77, .c (.nat .i64 7), .t 78, .c (.nat .i64 0), .c (.nat .i64 0)]),
 aQ 2 (.asg (.t 79))]
def o_ref05_parser_atom_19 : List AOp := [
 aQ 80 (.mov (.t 0)),
 aQ 81 (.call (.f f_ref05_parser_is) [.t 80, .c (.nat .u8 36)])]
def o_ref05_parser_atom_20 : List AOp := [
 aQ 82 (.mov (.t 0)),
 aQ 83 (.nilchk (.t 82)),
 aQ 84 (.fldA 1 (.t 83)),
 aQ 85 (.load none (.t 84)),
 aQ 86 (.bin .add (.t 85) (.c (.nat .i64 1))),
 aQ 87 (.nilchk (.t 82)),
 aQ 88 (.fldA 1 (.t 87)),
 { dst := none, op := .store 1 (.t 88) (.t 86) }]
def o_ref05_parser_atom_21 : List AOp := [
 aQ 89 (.mov (.t 0)),
 aQ 90 (.build [.nat .u64 0, .nat .u64 0, .nat .u64 0, .nat .u64 0] []),
 aQ 91 (.call (.f f_ref05_parser_lay) [.t 89, .c (.nat .i64 8), .t 90, .c (.nat .i64 0), .c (.nat .i64 0)]),
 aQ 2 (.asg (.t 91))]
def o_ref05_parser_atom_22 : List AOp := [
 aQ 92 (.mov (.t 0)),
 aQ 93 (.call (.f f_ref05_parser_is) [.t 92, .c (.nat .u8 91)])]
def o_ref05_parser_atom_23 : List AOp := [
 mQ 95 (.mov (.t 0)),
 mQ 96 (.nilchk (.t 95)),
 mQ 97 (.fldA 0 (.t 96)),
 mQ 98 (.load none (.t 97)),
 mQ 99 (.mov (.t 0)),
 mQ 100 (.nilchk (.t 99)),
 mQ 101 (.fldA 1 (.t 100)),
 mQ 102 (.load none (.t 101)),
 mQ 103 (.sliceS (.t 98) (some (.t 102)) none),
 mQ 104 (.callZ (.f f_ref04_Read) [.t 103]),
 mQ 94 (.mov (.t 104)),
 mQ 105 (.extr (.t 94) 0),
 mQ 106 (.extr (.t 94) 1),
 mQ 107 (.extr (.t 94) 2),
 mQ 4 (.alloc [.nat .u64 0, .nat .u64 0, .nat .u64 0, .nat .u64 0]),
 { dst := none, op := .store 4 (.t 4) (.t 105), may := false },
 mQ 5 (.asg (.t 106)),
 aQ 6 (.asg (.t 107))]
def o_ref05_parser_atom_24 : List AOp := [
 aQ 108 (.mov (.t 6)),
 aQ 109 (.bin .neq (.t 108) (.c (.nat .i64 0)))]
def o_ref05_parser_atom_25 : List AOp := [
 aQ 110 (.mov (.t 0)),
 aQ 111 (.call (.f f_ref05_parser_fail) [.t 110, .c (.nat .i64 9)])]
def o_ref05_parser_atom_26 : List AOp := [
 aQ 112 (.mov (.t 0)),
 aQ 113 (.mov (.t 0)),
 aQ 114 (.nilchk (.t 113)),
 aQ 115 (.fldA 1 (.t 114)),
 aQ 116 (.load none (.t 115)),
 aQ 117 (.mov (.t 5)),
 aQ 118 (.bin .add (.t 116) (.t 117)),
 aQ 119 (.nilchk (.t 112)),
 aQ 120 (.fldA 1 (.t 119)),
 { dst := none, op := .store 1 (.t 120) (.t 118) }]
def o_ref05_parser_atom_27 : List AOp := [
 aQ 121 (.mov (.t 0)),
 aQ 122 (.load (some 4) (.t 4)),
 aQ 123 (.call (.f f_ref05_parser_lay) [.t 121, .c (.nat .i64 1), .t 122, .c (.nat .i64 0), .c (.nat .i64 0)]),
 aQ 2 (.asg (.t 123))]
def o_ref05_parser_atom_28 : List AOp := [
 mQ 124 (.mov (.t 0)),
 mQ 125 (.nilchk (.t 124)),
 mQ 126 (.fldA 0 (.t 125)),
 mQ 127 (.load none (.t 126)),
 mQ 128 (.mov (.t 0)),
 mQ 129 (.nilchk (.t 128)),
 mQ 130 (.fldA 1 (.t 129)),
 mQ 131 (.load none (.t 130)),
 aQ 132 (.idxS (.t 127) (.t 131)),
 aQ 7 (.asg (.t 132))]
def o_ref05_parser_atom_29 : List AOp := [
 aQ 133 (.mov (.t 7)),
 aQ 134 (.bin .eql (.t 133) (.c (.nat .u8 42))),
 aQ 135 (.mov (.t 134)),
 gQ 136 (.mov (.t 7)) 135 false,
 gQ 137 (.bin .eql (.t 136) (.c (.nat .u8 43))) 135 false,
 aQ 138 (.pick (.t 135) (.c (.d (.bool true))) (.t 137)),
 aQ 139 (.mov (.t 138)),
 gQ 140 (.mov (.t 7)) 139 false,
 gQ 141 (.bin .eql (.t 140) (.c (.nat .u8 63))) 139 false,
 aQ 142 (.pick (.t 139) (.c (.d (.bool true))) (.t 141)),
 aQ 143 (.mov (.t 142)),
 gQ 144 (.mov (.t 7)) 143 false,
 gQ 145 (.bin .eql (.t 144) (.c (.nat .u8 41))) 143 false,
 aQ 146 (.pick (.t 143) (.c (.d (.bool true))) (.t 145)),
 aQ 147 (.mov (.t 146)),
 gQ 148 (.mov (.t 7)) 147 false,
 gQ 149 (.bin .eql (.t 148) (.c (.nat .u8 124))) 147 false,
 aQ 150 (.pick (.t 147) (.c (.d (.bool true))) (.t 149)),
 aQ 151 (.mov (.t 150)),
 gQ 152 (.mov (.t 7)) 151 false,
 gQ 153 (.bin .eql (.t 152) (.c (.nat .u8 123))) 151 false,
 aQ 154 (.pick (.t 151) (.c (.d (.bool true))) (.t 153)),
 aQ 155 (.mov (.t 154)),
 gQ 156 (.mov (.t 7)) 155 false,
 gQ 157 (.bin .eql (.t 156) (.c (.nat .u8 125))) 155 false,
 aQ 158 (.pick (.t 155) (.c (.d (.bool true))) (.t 157)),
 aQ 159 (.mov (.t 158)),
 gQ 160 (.mov (.t 7)) 159 false,
 gQ 161 (.bin .eql (.t 160) (.c (.nat .u8 47))) 159 false,
 aQ 162 (.pick (.t 159) (.c (.d (.bool true))) (.t 161))]
def o_ref05_parser_atom_30 : List AOp := [
 aQ 163 (.mov (.t 0)),
 aQ 164 (.call (.f f_ref05_parser_fail) [.t 163, .c (.nat .i64 9)])]
def o_ref05_parser_atom_31 : List AOp := [
 aQ 2 (.asg (.c (.nat .i64 0)))]
def o_ref05_parser_atom_32 : List AOp := [
 mQ 166 (.mov (.t 0)),
 mQ 167 (.nilchk (.t 166)),
 mQ 168 (.fldA 0 (.t 167)),
 mQ 169 (.load none (.t 168)),
 mQ 170 (.mov (.t 0)),
 mQ 171 (.nilchk (.t 170)),
 mQ 172 (.fldA 1 (.t 171)),
 mQ 173 (.load none (.t 172)),
 aQ 174 (.sliceS (.t 169) (some (.t 173)) none),
 aQ 175 (.call (.f f_ref04_Sign) [.t 174]),
 aQ 165 (.mov (.t 175)),
 mQ 176 (.extr (.t 165) 0),
 mQ 177 (.extr (.t 165) 1),
 mQ 178 (.extr (.t 165) 2),
 mQ 8 (.asg (.t 176)),
 mQ 9 (.asg (.t 177)),
 aQ 10 (.asg (.t 178))]
def o_ref05_parser_atom_33 : List AOp := [
 aQ 179 (.mov (.t 10)),
 aQ 180 (.bin .neq (.t 179) (.c (.nat .i64 0)))]
def o_ref05_parser_atom_34 : List AOp := [
 aQ 181 (.mov (.t 0)),
 aQ 182 (.call (.f f_ref05_parser_fail) [.t 181, .c (.nat .i64 9)])]
def o_ref05_parser_atom_35 : List AOp := [
 aQ 183 (.mov (.t 0)),
 aQ 184 (.mov (.t 0)),
 aQ 185 (.nilchk (.t 184)),
 aQ 186 (.fldA 1 (.t 185)),
 aQ 187 (.load none (.t 186)),
 aQ 188 (.mov (.t 9)),
 aQ 189 (.bin .add (.t 187) (.t 188)),
 aQ 190 (.nilchk (.t 183)),
 aQ 191 (.fldA 1 (.t 190)),
 { dst := none, op := .store 1 (.t 191) (.t 189) }]
def o_ref05_parser_atom_36 : List AOp := [
 aQ 192 (.mov (.t 0)),
 aQ 193 (.mov (.t 8)),
 aQ 194 (.call (.f f_ref04_One) [.t 193]),
 aQ 195 (.call (.f f_ref05_parser_lay) [.t 192, .c (.nat .i64 1), .t 194, .c (.nat .i64 0), .c (.nat .i64 0)]),
 aQ 2 (.asg (.t 195))]
def c_ref05_parser_atom : AC :=
 (.seq (.ops o_ref05_parser_atom_0)
 (.seq (.seq (.ops o_ref05_parser_atom_1)
 (.cond (.t 12) (.seq (.seq (.ops o_ref05_parser_atom_2)
 (.cond (.t 17) (.seq (.ops o_ref05_parser_atom_3)
 (.seq (.ops o_ref05_parser_atom_4)
 .ret)) .skip))
 (.seq (.ops o_ref05_parser_atom_5)
 (.seq (.ops o_ref05_parser_atom_6)
 (.seq (.ops o_ref05_parser_atom_7)
 (.seq (.seq (.ops o_ref05_parser_atom_8)
 (.cond (.t 38) (.ops o_ref05_parser_atom_9) .skip))
 (.seq (.ops o_ref05_parser_atom_10)
 (.seq (.ops o_ref05_parser_atom_11)
 (.seq (.ops o_ref05_parser_atom_12)
 .ret)))))))) .skip))
 (.seq (.seq (.ops o_ref05_parser_atom_13)
 (.cond (.t 57) (.seq (.ops o_ref05_parser_atom_14)
 (.seq (.ops o_ref05_parser_atom_15)
 .ret)) .skip))
 (.seq (.seq (.ops o_ref05_parser_atom_16)
 (.cond (.t 69) (.seq (.ops o_ref05_parser_atom_17)
 (.seq (.ops o_ref05_parser_atom_18)
 .ret)) .skip))
 (.seq (.seq (.ops o_ref05_parser_atom_19)
 (.cond (.t 81) (.seq (.ops o_ref05_parser_atom_20)
 (.seq (.ops o_ref05_parser_atom_21)
 .ret)) .skip))
 (.seq (.seq (.ops o_ref05_parser_atom_22)
 (.cond (.t 93) (.seq (.ops o_ref05_parser_atom_23)
 (.seq (.seq (.ops o_ref05_parser_atom_24)
 (.cond (.t 109) (.ops o_ref05_parser_atom_25) .skip))
 (.seq (.ops o_ref05_parser_atom_26)
 (.seq (.ops o_ref05_parser_atom_27)
 .ret)))) .skip))
 (.seq (.ops o_ref05_parser_atom_28)
 (.seq (.seq (.ops o_ref05_parser_atom_29)
 (.cond (.t 162) (.seq (.ops o_ref05_parser_atom_30)
 (.seq (.ops o_ref05_parser_atom_31)
 .ret)) .skip))
 (.seq (.ops o_ref05_parser_atom_32)
 (.seq (.seq (.ops o_ref05_parser_atom_33)
 (.cond (.t 180) (.ops o_ref05_parser_atom_34) .skip))
 (.seq (.ops o_ref05_parser_atom_35)
 (.seq (.ops o_ref05_parser_atom_36)
 .ret))))))))))))
def a_ref05_parser_atom : AFn := { body := c_ref05_parser_atom, res := [.tmp 2] }
def o_regex_reader_group_0 : List AOp := [
 aQ 2 (.asg (.c (.nat .i64 0)))]
def o_regex_reader_group_1 : List AOp := [
 aQ 4 (.mov (.t 0)),
 aQ 5 (.nilchk (.t 4)),
 aQ 6 (.fldA 2 (.t 5)),
 aQ 7 (.load none (.t 6)),
 aQ 8 (.bin .geq (.t 7) (.c (.nat .i64 30)))]
def o_regex_reader_group_2 : List AOp := [
 aQ 9 (.build [.nat .i64 0] [(0, 1, (.c (.nat .i64 7)))]),
 aQ 10 (.mkifc 77 (.t 9)),
 { dst := none, op := .panic (.t 10) }]
def o_regex_reader_group_3 : List AOp := [
 aQ 11 (.mov (.t 0)),
 aQ 12 (.nilchk (.t 11)),
 aQ 13 (.fldA 2 (.t 12)),
 aQ 14 (.load none (.t 13)),
 aQ 15 (.bin .add (.t 14) (.c (.nat .i64 1))),
 aQ 16 (.nilchk (.t 11)),
 aQ 17 (.fldA 2 (.t 16)),
 { dst := none, op := .store 1 (.t 17) (.t 15) }]
def o_regex_reader_group_4 : List AOp := [
 aQ 18 (.mov (.t 0)),
 aQ 19 (.nilchk (.t 18)),
 aQ 20 (.fldA 1 (.t 19)),
 aQ 21 (.load none (.t 20)),
 aQ 22 (.bin .add (.t 21) (.c (.nat .i64 1))),
 aQ 23 (.nilchk (.t 18)),
 aQ 24 (.fldA 1 (.t 23)),
 { dst := none, op := .store 1 (.t 24) (.t 22) }]
def o_regex_reader_group_5 : List AOp := [
 aQ 25 (.mov (.t 0)),
 aQ 26 (.call (.f f_regex_reader_all) [.t 25]),
 aQ 3 (.asg (.t 26))]
def o_regex_reader_group_6 : List AOp := [
 aQ 27 (.mov (.t 0)),
 aQ 28 (.call (.f f_regex_reader_sees) [.t 27, .c (.nat .u8 41)]),
 aQ 29 (.un .not (.t 28))]
def o_regex_reader_group_7 : List AOp := [
 aQ 30 (.build [.nat .i64 0] [(0, 1, (.c (.nat .i64 9)))]),
 aQ 31 (.mkifc 77 (.t 30)),
 { dst := none, op := .panic (.t 31) }]
def o_regex_reader_group_8 : List AOp := [
 aQ 32 (.mov (.t 0)),
 aQ 33 (.nilchk (.t 32)),
 aQ 34 (.fldA 1 (.t 33)),
 aQ 35 (.load none (.t 34)),
 aQ 36 (.bin .add (.t 35) (.c (.nat .i64 1))),
 aQ 37 (.nilchk (.t 32)),
 aQ 38 (.fldA 1 (.t 37)),
 { dst := none, op := .store 1 (.t 38) (.t 36) }]
def o_regex_reader_group_9 : List AOp := [
 aQ 39 (.mov (.t 0)),
 aQ 40 (.nilchk (.t 39)),
 aQ 41 (.fldA 2 (.t 40)),
 aQ 42 (.load none (.t 41)),
 aQ 43 (.bin .sub (.t 42) (.c (.nat .i64 1))),
 aQ 44 (.nilchk (.t 39)),
 aQ 45 (.fldA 2 (.t 44)),
 { dst := none, op := .store 1 (.t 45) (.t 43) }]
def o_regex_reader_group_10 : List AOp := [
 aQ 46 (.mov (.t 3)),
 aQ 2 (.asg (.t 46))]
def c_regex_reader_group : AC :=
 (.seq (.ops o_regex_reader_group_0)
 (.seq (.seq (.ops o_regex_reader_group_1)
 (.cond (.t 8) (.ops o_regex_reader_group_2) .skip))
 (.seq (.ops o_regex_reader_group_3)
 (.seq (.ops o_regex_reader_group_4)
 (.seq (.ops o_regex_reader_group_5)
 (.seq (.seq (.ops o_regex_reader_group_6)
 (.cond (.t 29) (.ops o_regex_reader_group_7) .skip))
 (.seq (.ops o_regex_reader_group_8)
 (.seq (.ops o_regex_reader_group_9)
 (.seq (.ops o_regex_reader_group_10)
 .ret)))))))))
def a_regex_reader_group : AFn := { body := c_regex_reader_group, res := [.tmp 2] }
def o_regex_dot_0 : List AOp := [
 aQ 0 (.alloc [.nat .u64 0, .nat .u64 0, .nat .u64 0, .nat .u64 0])]
def o_regex_dot_1 : List AOp := [
 aQ 1 (.call (.f f_class_One) [.c (.nat .u8 10)]),
 aQ 2 (.call (.f f_class_Not) [.t 1]),
 { dst := none, op := .store 4 (.t 0) (.t 2) }]
def c_regex_dot : AC :=
 (.seq (.ops o_regex_dot_0)
 (.seq (.ops o_regex_dot_1)
 .ret))
def a_regex_dot : AFn := { body := c_regex_dot, res := [.cell 0 (some 4)] }
def o_class_Read_0 : List AOp := [
 aQ 1 (.box (.t 0)),
 aQ 2 (.alloc [.nat .u64 0, .nat .u64 0, .nat .u64 0, .nat .u64 0]),
 aQ 3 (.asg (.c (.nat .i64 0))),
 aQ 4 (.asg (.c (.nat .i64 0)))]
def o_class_Read_1 : List AOp := [
 aQ 5 (.alloc [.nat .u64 0, .nat .u64 0, .nat .u64 0, .nat .u64 0])]
def o_class_Read_2 : List AOp := [
 aQ 6 (.alloc [.nat .i64 0]),
 { dst := none, op := .store 1 (.t 6) (.c (.nat .i64 0)) }]
def o_class_Read_3 : List AOp := [
 aQ 14 (.mkfn (.func f_class_Read_1) [] [.t 6, .t 1]),
 aQ 7 (.asg (.t 14))]
def o_class_Read_4 : List AOp := [
 aQ 15 (.mov (.t 7)),
 aQ 16 (.call (.t 15) [.c (.nat .u8 91)]),
 aQ 17 (.un .not (.t 16))]
def o_class_Read_5 : List AOp := [
 aQ 18 (.load (some 4) (.t 5)),
 { dst := none, op := .store 4 (.t 2) (.t 18) },
 aQ 3 (.asg (.c (.nat .i64 0))),
 aQ 4 (.asg (.c (.nat .i64 2)))]
def o_class_Read_6 : List AOp := [
 aQ 19 (.mov (.t 7)),
 aQ 20 (.call (.t 19) [.c (.nat .u8 94)]),
 aQ 8 (.asg (.t 20))]
def o_class_Read_7 : List AOp := [
 aQ 9 (.asg (.c (.nat .i64 0)))]
def o_class_Read_9 : List AOp := [
 aQ 23 (.mov (.t 9)),
 aQ 24 (.bin .gtr (.t 23) (.c (.nat .i64 0))),
 aQ 25 (.mov (.t 24)),
 gQ 26 (.mov (.t 7)) 25 true,
 gQ 27 (.call (.t 26) [.c (.nat .u8 93)]) 25 true,
 aQ 28 (.pick (.t 25) (.t 27) (.c (.d (.bool false))))]
def o_class_Read_10 : List AOp := [
 aQ 30 (.load none (.t 1)),
 aQ 31 (.load none (.t 6)),
 aQ 32 (.sliceS (.t 30) (some (.t 31)) none),
 aQ 33 (.call (.f f_class_Sign) [.t 32]),
 aQ 29 (.mov (.t 33)),
 aQ 34 (.extr (.t 29) 0),
 aQ 35 (.extr (.t 29) 1),
 aQ 36 (.extr (.t 29) 2),
 aQ 10 (.asg (.t 34)),
 aQ 11 (.asg (.t 35)),
 aQ 12 (.asg (.t 36))]
def o_class_Read_11 : List AOp := [
 aQ 37 (.mov (.t 12)),
 aQ 38 (.bin .neq (.t 37) (.c (.nat .i64 0)))]
def o_class_Read_12 : List AOp := [
 aQ 39 (.build [.nat .u64 0, .nat .u64 0, .nat .u64 0, .nat .u64 0] []),
 aQ 40 (.mov (.t 12)),
 { dst := none, op := .store 4 (.t 2) (.t 39) },
 aQ 3 (.asg (.c (.nat .i64 0))),
 aQ 4 (.asg (.t 40))]
def o_class_Read_13 : List AOp := [
 aQ 41 (.load none (.t 6)),
 aQ 42 (.mov (.t 11)),
 aQ 43 (.bin .add (.t 41) (.t 42)),
 { dst := none, op := .store 1 (.t 6) (.t 43) }]
def o_class_Read_14 : List AOp := [
 aQ 44 (.mov (.t 10)),
 aQ 13 (.asg (.t 44))]
def o_class_Read_15 : List AOp := [
 aQ 45 (.mov (.t 7)),
 aQ 46 (.call (.t 45) [.c (.nat .u8 45)])]
def o_class_Read_16 : List AOp := [
 aQ 48 (.load none (.t 1)),
 aQ 49 (.load none (.t 6)),
 aQ 50 (.sliceS (.t 48) (some (.t 49)) none),
 aQ 51 (.call (.f f_class_Sign) [.t 50]),
 aQ 47 (.mov (.t 51)),
 aQ 52 (.extr (.t 47) 0),
 aQ 53 (.extr (.t 47) 1),
 aQ 54 (.extr (.t 47) 2),
 aQ 13 (.asg (.t 52)),
 aQ 11 (.asg (.t 53)),
 aQ 12 (.asg (.t 54))]
def o_class_Read_17 : List AOp := [
 aQ 55 (.mov (.t 12)),
 aQ 56 (.bin .neq (.t 55) (.c (.nat .i64 0))),
 aQ 57 (.mov (.t 56)),
 gQ 58 (.mov (.t 10)) 57 false,
 gQ 59 (.mov (.t 13)) 57 false,
 gQ 60 (.bin .gtr (.t 58) (.t 59)) 57 false,
 aQ 61 (.pick (.t 57) (.c (.d (.bool true))) (.t 60))]
def o_class_Read_18 : List AOp := [
 aQ 62 (.build [.nat .u64 0, .nat .u64 0, .nat .u64 0, .nat .u64 0] []),
 { dst := none, op := .store 4 (.t 2) (.t 62) },
 aQ 3 (.asg (.c (.nat .i64 0))),
 aQ 4 (.asg (.c (.nat .i64 2)))]
def o_class_Read_19 : List AOp := [
 aQ 63 (.load none (.t 6)),
 aQ 64 (.mov (.t 11)),
 aQ 65 (.bin .add (.t 63) (.t 64)),
 { dst := none, op := .store 1 (.t 6) (.t 65) }]
def o_class_Read_20 : List AOp := [
 mQ 66 (.load (some 4) (.t 5)),
 mQ 67 (.mov (.t 10)),
 mQ 68 (.mov (.t 13)),
 mQ 69 (.callZ (.f f_class_Span) [.t 67, .t 68]),
 aQ 70 (.call (.f f_class_Or) [.t 66, .t 69]),
 { dst := none, op := .store 4 (.t 5) (.t 70) }]
def o_class_Read_8 : List AOp := [
 aQ 21 (.mov (.t 9)),
 aQ 22 (.bin .add (.t 21) (.c (.nat .i64 1))),
 aQ 9 (.asg (.t 22))]
def b_class_Read_0 : AC := (.seq (.trim [1, 2, 5, 6, 7, 8, 9] (.block 1 (.seq (.seq (.ops o_class_Read_9)
 (.cond (.t 28) (.exit 0) .skip))
 (.seq (.ops o_class_Read_10)
 (.seq (.seq (.ops o_class_Read_11)
 (.cond (.t 38) (.seq (.ops o_class_Read_12)
 .ret) .skip))
 (.seq (.ops o_class_Read_13)
 (.seq (.ops o_class_Read_14)
 (.seq (.seq (.ops o_class_Read_15)
 (.cond (.t 46) (.seq (.seq (.ops o_class_Read_16)
 (.seq (.ops o_class_Read_17)
 (.cond (.t 61) (.seq (.ops o_class_Read_18)
 .ret) .skip)))
 (.ops o_class_Read_19)) .skip))
 (.ops o_class_Read_20)))))))))
 (.ops o_class_Read_8))
def o_class_Read_21 : List AOp := [
 aQ 71 (.mov (.t 8))]
def o_class_Read_22 : List AOp := [
 mQ 72 (.load (some 4) (.t 5)),
 mQ 73 (.callZ (.f f_class_One) [.c (.nat .u8 10)]),
 aQ 74 (.call (.f f_class_Or) [.t 72, .t 73]),
 aQ 75 (.call (.f f_class_Not) [.t 74]),
 { dst := none, op := .store 4 (.t 5) (.t 75) }]
def o_class_Read_23 : List AOp := [
 mQ 76 (.load (some 4) (.t 5)),
 mQ 77 (.loadB none (.t 6) (.t 6)),
 { dst := none, op := .storeW 4 (.t 2) (.t 76) [.t 6], may := false },
 aQ 3 (.asg (.t 77)),
 aQ 4 (.asg (.c (.nat .i64 0)))]
def c_class_Read : AC :=
 (.seq (.ops o_class_Read_0)
 (.seq (.ops o_class_Read_1)
 (.seq (.ops o_class_Read_2)
 (.seq (.ops o_class_Read_3)
 (.seq (.seq (.ops o_class_Read_4)
 (.cond (.t 17) (.seq (.ops o_class_Read_5)
 .ret) .skip))
 (.seq (.ops o_class_Read_6)
 (.seq (.seq (.ops o_class_Read_7)
 (.trim [2, 5, 6, 8] (.block 0 (.loop [1, 2, 5, 6, 7, 8, 9] b_class_Read_0))))
 (.seq (.seq (.ops o_class_Read_21)
 (.cond (.t 71) (.ops o_class_Read_22) .skip))
 (.seq (.ops o_class_Read_23)
 .ret)))))))))
def a_class_Read : AFn := { body := c_class_Read, res := [.cell 2 (some 4), .tmp 3, .tmp 4] }
def o_class_Sign_0 : List AOp := [
 aQ 2 (.asg (.c (.nat .u8 0))),
 aQ 3 (.asg (.c (.nat .i64 0))),
 aQ 4 (.asg (.c (.nat .i64 0)))]
def o_class_Sign_1 : List AOp := [
 aQ 6 (.mov (.t 0)),
 aQ 7 (.bin .eql (.t 6) (.c (.d (.str [])))),
 aQ 8 (.mov (.t 7)),
 gQ 9 (.mov (.t 0)) 8 false,
 gQ 10 (.idxS (.t 9) (.c (.nat .i64 0))) 8 false,
 gQ 11 (.bin .neq (.t 10) (.c (.nat .u8 92))) 8 false,
 gQ 12 (.mov (.t 11)) 8 false,
 gQ 13 (.mov (.t 0)) 12 true,
 gQ 14 (.idxS (.t 13) (.c (.nat .i64 0))) 12 true,
 gQ 15 (.call (.f f_strings_IndexByte) [.c (.d (.str [10, 93, 91, 94, 45])), .t 14]) 12 true,
 gQ 16 (.bin .geq (.t 15) (.c (.nat .i64 0))) 12 true,
 gQ 17 (.pick (.t 12) (.t 16) (.c (.d (.bool false)))) 8 false,
 aQ 18 (.pick (.t 8) (.c (.d (.bool true))) (.t 17)),
 aQ 5 (.asg (.t 18))]
def o_class_Sign_2 : List AOp := [
 aQ 2 (.asg (.c (.nat .u8 0))),
 aQ 3 (.asg (.c (.nat .i64 0))),
 aQ 4 (.asg (.c (.nat .i64 2)))]
def o_class_Sign_3 : List AOp := [
 aQ 20 (.mov (.t 0)),
 aQ 21 (.idxS (.t 20) (.c (.nat .i64 0))),
 aQ 22 (.bin .neq (.t 21) (.c (.nat .u8 92))),
 aQ 19 (.asg (.t 22))]
def o_class_Sign_4 : List AOp := [
 aQ 23 (.mov (.t 0)),
 aQ 24 (.idxS (.t 23) (.c (.nat .i64 0))),
 aQ 2 (.asg (.t 24)),
 aQ 3 (.asg (.c (.nat .i64 1))),
 aQ 4 (.asg (.c (.nat .i64 0)))]
def o_class_Sign_5 : List AOp := [
 aQ 26 (.mov (.t 0)),
 aQ 27 (.lenS (.t 26)),
 aQ 28 (.bin .lss (.t 27) (.c (.nat .i64 2))),
 aQ 25 (.asg (.t 28))]
def o_class_Sign_6 : List AOp := [
 aQ 2 (.asg (.c (.nat .u8 0))),
 aQ 3 (.asg (.c (.nat .i64 0))),
 aQ 4 (.asg (.c (.nat .i64 2)))]
def o_class_Sign_7 : List AOp := [
 aQ 30 (.mov (.t 0)),
 aQ 31 (.idxS (.t 30) (.c (.nat .i64 1))),
 aQ 32 (.call (.f f_strings_IndexByte) [.c (.d (.str [92, 93, 91, 94, 45, 47, 46, 42, 43, 63, 40, 41, 124, 123, 125, 36])), .t 31]),
 aQ 33 (.bin .geq (.t 32) (.c (.nat .i64 0))),
 aQ 29 (.asg (.t 33))]
def o_class_Sign_8 : List AOp := [
 aQ 34 (.mov (.t 0)),
 aQ 35 (.idxS (.t 34) (.c (.nat .i64 1))),
 aQ 2 (.asg (.t 35)),
 aQ 3 (.asg (.c (.nat .i64 2))),
 aQ 4 (.asg (.c (.nat .i64 0)))]
def o_class_Sign_9 : List AOp := [
 aQ 37 (.mov (.t 0)),
 aQ 38 (.lenS (.t 37)),
 aQ 39 (.bin .lss (.t 38) (.c (.nat .i64 4))),
 aQ 40 (.mov (.t 39)),
 gQ 41 (.mov (.t 0)) 40 false,
 gQ 42 (.idxS (.t 41) (.c (.nat .i64 1))) 40 false,
 gQ 43 (.bin .neq (.t 42) (.c (.nat .u8 120))) 40 false,
 aQ 44 (.pick (.t 40) (.c (.d (.bool true))) (.t 43)),
 aQ 45 (.mov (.t 44)),
 gQ 46 (.mov (.t 0)) 45 false,
 gQ 47 (.idxS (.t 46) (.c (.nat .i64 2))) 45 false,
 gQ 48 (.call (.f f_hex_Digit) [.t 47]) 45 false,
 gQ 49 (.bin .lss (.t 48) (.c (.nat .i64 0))) 45 false,
 aQ 50 (.pick (.t 45) (.c (.d (.bool true))) (.t 49)),
 aQ 51 (.mov (.t 50)),
 gQ 52 (.mov (.t 0)) 51 false,
 gQ 53 (.idxS (.t 52) (.c (.nat .i64 3))) 51 false,
 gQ 54 (.call (.f f_hex_Digit) [.t 53]) 51 false,
 gQ 55 (.bin .lss (.t 54) (.c (.nat .i64 0))) 51 false,
 aQ 56 (.pick (.t 51) (.c (.d (.bool true))) (.t 55)),
 aQ 36 (.asg (.t 56))]
def o_class_Sign_10 : List AOp := [
 aQ 2 (.asg (.c (.nat .u8 0))),
 aQ 3 (.asg (.c (.nat .i64 0))),
 aQ 4 (.asg (.c (.nat .i64 2)))]
def o_class_Sign_11 : List AOp := [
 mQ 57 (.mov (.t 0)),
 mQ 58 (.idxS (.t 57) (.c (.nat .i64 2))),
 mQ 59 (.call (.f f_hex_Digit) [.t 58]),
 mQ 60 (.bin .shl (.t 59) (.c (.nat .u64 4))),
 mQ 61 (.mov (.t 0)),
 mQ 62 (.idxS (.t 61) (.c (.nat .i64 3))),
 mQ 63 (.call (.f f_hex_Digit) [.t 62]),
 aQ 64 (.bin .or (.t 60) (.t 63)),
 aQ 65 (.toInt .u8 (.t 64)),
 aQ 2 (.asg (.t 65)),
 aQ 3 (.asg (.c (.nat .i64 4))),
 aQ 4 (.asg (.c (.nat .i64 0)))]
def c_class_Sign : AC :=
 (.seq (.ops o_class_Sign_0)
 (.seq (.trim [0] (.block 0 (.seq (.ops o_class_Sign_1)
 (.cond (.t 5) (.seq (.ops o_class_Sign_2)
 .ret) (.seq (.ops o_class_Sign_3)
 (.cond (.t 19) (.seq (.ops o_class_Sign_4)
 .ret) (.seq (.ops o_class_Sign_5)
 (.cond (.t 25) (.seq (.ops o_class_Sign_6)
 .ret) (.seq (.ops o_class_Sign_7)
 (.cond (.t 29) (.seq (.ops o_class_Sign_8)
 .ret) (.seq (.ops o_class_Sign_9)
 (.cond (.t 36) (.seq (.ops o_class_Sign_10)
 .ret) .skip))))))))))))
 (.seq (.ops o_class_Sign_11)
 .ret)))
def a_class_Sign : AFn := { body := c_class_Sign, res := [.tmp 2, .tmp 3, .tmp 4] }
def o_class_One_0 : List AOp := [
 aQ 2 (.alloc [.nat .u64 0, .nat .u64 0, .nat .u64 0, .nat .u64 0])]
def o_class_One_1 : List AOp := [
 aQ 3 (.mov (.t 0)),
 aQ 4 (.mov (.t 0)),
 aQ 5 (.call (.f f_class_Span) [.t 3, .t 4]),
 { dst := none, op := .store 4 (.t 2) (.t 5) }]
def c_class_One : AC :=
 (.seq (.ops o_class_One_0)
 (.seq (.ops o_class_One_1)
 .ret))
def a_class_One : AFn := { body := c_class_One, res := [.cell 2 (some 4)] }
def o_ref05_Dot_0 : List AOp := [
 aQ 0 (.alloc [.nat .u64 0, .nat .u64 0, .nat .u64 0, .nat .u64 0])]
def o_ref05_Dot_1 : List AOp := [
 aQ 1 (.call (.f f_ref04_One) [.c (.nat .u8 10)]),
 aQ 2 (.call (.f f_ref04_Not) [.t 1]),
 { dst := none, op := .store 4 (.t 0) (.t 2) }]
def c_ref05_Dot : AC :=
 (.seq (.ops o_ref05_Dot_0)
 (.seq (.ops o_ref05_Dot_1)
 .ret))
def a_ref05_Dot : AFn := { body := c_ref05_Dot, res := [.cell 0 (some 4)] }
def o_ref04_Read_0 : List AOp := [
 aQ 2 (.alloc [.nat .u64 0, .nat .u64 0, .nat .u64 0, .nat .u64 0]),
 aQ 3 (.asg (.c (.nat .i64 0))),
 aQ 4 (.asg (.c (.nat .i64 0)))]
def o_ref04_Read_1 : List AOp := [
 aQ 15 (.mov (.t 0)),
 aQ 16 (.lenS (.t 15)),
 aQ 17 (.bin .lss (.t 16) (.c (.nat .i64 2))),
 aQ 18 (.mov (.t 17)),
 gQ 19 (.mov (.t 0)) 18 false,
 gQ 20 (.idxS (.t 19) (.c (.nat .i64 0))) 18 false,
 gQ 21 (.bin .neq (.t 20) (.c (.nat .u8 91))) 18 false,
 aQ 22 (.pick (.t 18) (.c (.d (.bool true))) (.t 21))]
def o_ref04_Read_2 : List AOp := [
 aQ 23 (.build [.nat .u64 0, .nat .u64 0, .nat .u64 0, .nat .u64 0] []),
 { dst := none, op := .store 4 (.t 2) (.t 23) },
 aQ 3 (.asg (.c (.nat .i64 0))),
 aQ 4 (.asg (.c (.nat .i64 2)))]
def o_ref04_Read_3 : List AOp := [
 aQ 5 (.asg (.c (.nat .i64 1)))]
def o_ref04_Read_4 : List AOp := [
 aQ 24 (.mov (.t 0)),
 aQ 25 (.idxS (.t 24) (.c (.nat .i64 1))),
 aQ 26 (.bin .eql (.t 25) (.c (.nat .u8 94))),
 aQ 6 (.asg (.t 26))]
def o_ref04_Read_5 : List AOp := [
 aQ 27 (.mov (.t 6))]
def o_ref04_Read_6 : List AOp := [
 aQ 5 (.asg (.c (.nat .i64 2)))]
def o_ref04_Read_7 : List AOp := [
 aQ 28 (.build [.nat .u64 0, .nat .u64 0, .nat .u64 0, .nat .u64 0] []),
 aQ 7 (.alloc [.nat .u64 0, .nat .u64 0, .nat .u64 0, .nat .u64 0]),
 { dst := none, op := .store 4 (.t 7) (.t 28) }]
def o_ref04_Read_8 : List AOp := [
 aQ 8 (.asg (.c (.d (.bool true))))]
def o_ref04_Read_9 : List AOp := [
 aQ 29 (.mov (.t 8)),
 aQ 30 (.mov (.t 29)),
 gQ 31 (.mov (.t 5)) 30 false,
 gQ 32 (.mov (.t 0)) 30 false,
 gQ 33 (.lenS (.t 32)) 30 false,
 gQ 34 (.bin .geq (.t 31) (.t 33)) 30 false,
 aQ 35 (.pick (.t 30) (.c (.d (.bool true))) (.t 34)),
 aQ 36 (.mov (.t 35)),
 gQ 37 (.mov (.t 0)) 36 false,
 gQ 38 (.mov (.t 5)) 36 false,
 gQ 39 (.idxS (.t 37) (.t 38)) 36 false,
 gQ 40 (.bin .neq (.t 39) (.c (.nat .u8 93))) 36 false,
 aQ 41 (.pick (.t 36) (.c (.d (.bool true))) (.t 40))]
def o_ref04_Read_10 : List AOp := [
 aQ 8 (.asg (.c (.d (.bool false))))]
def o_ref04_Read_11 : List AOp := [
 aQ 43 (.mov (.t 0)),
 aQ 44 (.mov (.t 5)),
 aQ 45 (.sliceS (.t 43) (some (.t 44)) none),
 aQ 46 (.call (.f f_ref04_Sign) [.t 45]),
 aQ 42 (.mov (.t 46)),
 aQ 47 (.extr (.t 42) 0),
 aQ 48 (.extr (.t 42) 1),
 aQ 49 (.extr (.t 42) 2),
 aQ 9 (.asg (.t 47)),
 aQ 10 (.asg (.t 48)),
 aQ 11 (.asg (.t 49))]
def o_ref04_Read_12 : List AOp := [
 aQ 50 (.mov (.t 11)),
 aQ 51 (.bin .neq (.t 50) (.c (.nat .i64 0)))]
def o_ref04_Read_13 : List AOp := [
 aQ 52 (.build [.nat .u64 0, .nat .u64 0, .nat .u64 0, .nat .u64 0] []),
 { dst := none, op := .store 4 (.t 2) (.t 52) },
 aQ 3 (.asg (.c (.nat .i64 0))),
 aQ 4 (.asg (.c (.nat .i64 2)))]
def o_ref04_Read_14 : List AOp := [
 aQ 53 (.mov (.t 5)),
 aQ 54 (.mov (.t 10)),
 aQ 55 (.bin .add (.t 53) (.t 54)),
 aQ 5 (.asg (.t 55))]
def o_ref04_Read_15 : List AOp := [
 aQ 56 (.mov (.t 5)),
 aQ 57 (.mov (.t 0)),
 aQ 58 (.lenS (.t 57)),
 aQ 59 (.bin .lss (.t 56) (.t 58)),
 aQ 60 (.mov (.t 59)),
 gQ 61 (.mov (.t 0)) 60 true,
 gQ 62 (.mov (.t 5)) 60 true,
 gQ 63 (.idxS (.t 61) (.t 62)) 60 true,
 gQ 64 (.bin .eql (.t 63) (.c (.nat .u8 45))) 60 true,
 aQ 65 (.pick (.t 60) (.t 64) (.c (.d (.bool false))))]
def o_ref04_Read_16 : List AOp := [
 aQ 67 (.mov (.t 0)),
 aQ 68 (.mov (.t 5)),
 aQ 69 (.bin .add (.t 68) (.c (.nat .i64 1))),
 aQ 70 (.sliceS (.t 67) (some (.t 69)) none),
 aQ 71 (.call (.f f_ref04_Sign) [.t 70]),
 aQ 66 (.mov (.t 71)),
 aQ 72 (.extr (.t 66) 0),
 aQ 73 (.extr (.t 66) 1),
 aQ 74 (.extr (.t 66) 2),
 aQ 12 (.asg (.t 72)),
 aQ 13 (.asg (.t 73)),
 aQ 14 (.asg (.t 74))]
def o_ref04_Read_17 : List AOp := [
 aQ 75 (.mov (.t 14)),
 aQ 76 (.bin .neq (.t 75) (.c (.nat .i64 0))),
 aQ 77 (.mov (.t 76)),
 gQ 78 (.mov (.t 9)) 77 false,
 gQ 79 (.mov (.t 12)) 77 false,
 gQ 80 (.bin .gtr (.t 78) (.t 79)) 77 false,
 aQ 81 (.pick (.t 77) (.c (.d (.bool true))) (.t 80))]
def o_ref04_Read_18 : List AOp := [
 aQ 82 (.build [.nat .u64 0, .nat .u64 0, .nat .u64 0, .nat .u64 0] []),
 { dst := none, op := .store 4 (.t 2) (.t 82) },
 aQ 3 (.asg (.c (.nat .i64 0))),
 aQ 4 (.asg (.c (.nat .i64 2)))]
def o_ref04_Read_19 : List AOp := [
 aQ 83 (.mov (.t 5)),
 aQ 84 (.bin .add (.t 83) (.c (.nat .i64 1))),
 aQ 85 (.mov (.t 13)),
 aQ 86 (.bin .add (.t 84) (.t 85)),
 aQ 5 (.asg (.t 86))]
def o_ref04_Read_20 : List AOp := [
 mQ 87 (.load (some 4) (.t 7)),
 mQ 88 (.mov (.t 9)),
 mQ 89 (.mov (.t 12)),
 mQ 90 (.callZ (.f f_ref04_Span) [.t 88, .t 89]),
 aQ 91 (.call (.f f_ref04_Or) [.t 87, .t 90]),
 { dst := none, op := .store 4 (.t 7) (.t 91) }]
def o_ref04_Read_21 : List AOp := [
 aQ 92 (.load (some 4) (.t 7)),
 aQ 93 (.mov (.t 9)),
 aQ 94 (.call (.f f_ref04_with) [.t 92, .t 93]),
 { dst := none, op := .store 4 (.t 7) (.t 94) }]
def o_ref04_Read_22 : List AOp := [
 aQ 95 (.mov (.t 5)),
 aQ 96 (.mov (.t 0)),
 aQ 97 (.lenS (.t 96)),
 aQ 98 (.bin .geq (.t 95) (.t 97))]
def o_ref04_Read_23 : List AOp := [
 aQ 99 (.build [.nat .u64 0, .nat .u64 0, .nat .u64 0, .nat .u64 0] []),
 { dst := none, op := .store 4 (.t 2) (.t 99) },
 aQ 3 (.asg (.c (.nat .i64 0))),
 aQ 4 (.asg (.c (.nat .i64 2)))]
def b_ref04_Read_0 : AC := (.seq (.seq (.ops o_ref04_Read_9)
 (.cond (.t 41) .skip (.exit 0)))
 (.trim [0, 2, 5, 6, 7, 8] (.block 1 (.seq (.ops o_ref04_Read_10)
 (.seq (.ops o_ref04_Read_11)
 (.seq (.seq (.ops o_ref04_Read_12)
 (.cond (.t 51) (.seq (.ops o_ref04_Read_13)
 .ret) .skip))
 (.seq (.ops o_ref04_Read_14)
 (.seq (.seq (.ops o_ref04_Read_15)
 (.cond (.t 65) (.seq (.ops o_ref04_Read_16)
 (.seq (.seq (.ops o_ref04_Read_17)
 (.cond (.t 81) (.seq (.ops o_ref04_Read_18)
 .ret) .skip))
 (.seq (.ops o_ref04_Read_19)
 (.ops o_ref04_Read_20)))) (.ops o_ref04_Read_21)))
 (.seq (.ops o_ref04_Read_22)
 (.cond (.t 98) (.seq (.ops o_ref04_Read_23)
 .ret) .skip))))))))))
def o_ref04_Read_24 : List AOp := [
 aQ 100 (.mov (.t 6))]
def o_ref04_Read_25 : List AOp := [
 aQ 101 (.load (some 4) (.t 7)),
 aQ 102 (.call (.f f_ref04_with) [.t 101, .c (.nat .u8 10)]),
 aQ 103 (.call (.f f_ref04_Not) [.t 102]),
 { dst := none, op := .store 4 (.t 7) (.t 103) }]
def o_ref04_Read_26 : List AOp := [
 aQ 104 (.load (some 4) (.t 7)),
 aQ 105 (.mov (.t 5)),
 aQ 106 (.bin .add (.t 105) (.c (.nat .i64 1))),
 { dst := none, op := .store 4 (.t 2) (.t 104) },
 aQ 3 (.asg (.t 106)),
 aQ 4 (.asg (.c (.nat .i64 0)))]
def c_ref04_Read : AC :=
 (.seq (.ops o_ref04_Read_0)
 (.seq (.seq (.ops o_ref04_Read_1)
 (.cond (.t 22) (.seq (.ops o_ref04_Read_2)
 .ret) .skip))
 (.seq (.ops o_ref04_Read_3)
 (.seq (.ops o_ref04_Read_4)
 (.seq (.seq (.ops o_ref04_Read_5)
 (.cond (.t 27) (.ops o_ref04_Read_6) .skip))
 (.seq (.ops o_ref04_Read_7)
 (.seq (.ops o_ref04_Read_8)
 (.seq (.trim [2, 5, 6, 7] (.block 0 (.loop [0, 2, 5, 6, 7, 8] b_ref04_Read_0)))
 (.seq (.seq (.ops o_ref04_Read_24)
 (.cond (.t 100) (.ops o_ref04_Read_25) .skip))
 (.seq (.ops o_ref04_Read_26)
 .ret))))))))))
def a_ref04_Read : AFn := { body := c_ref04_Read, res := [.cell 2 (some 4), .tmp 3, .tmp 4] }
def o_ref04_Sign_0 : List AOp := [
 aQ 2 (.asg (.c (.nat .u8 0))),
 aQ 3 (.asg (.c (.nat .i64 0))),
 aQ 4 (.asg (.c (.nat .i64 0)))]
def o_ref04_Sign_1 : List AOp := [
 aQ 10 (.mov (.t 0)),
 aQ 11 (.lenS (.t 10)),
 aQ 12 (.bin .lss (.t 11) (.c (.nat .i64 1)))]
def o_ref04_Sign_2 : List AOp := [
 aQ 2 (.asg (.c (.nat .u8 0))),
 aQ 3 (.asg (.c (.nat .i64 0))),
 aQ 4 (.asg (.c (.nat .i64 2)))]
def o_ref04_Sign_3 : List AOp := [
 aQ 13 (.mov (.t 0)),
 aQ 14 (.idxS (.t 13) (.c (.nat .i64 0))),
 aQ 5 (.asg (.t 14))]
def o_ref04_Sign_4 : List AOp := [
 aQ 15 (.mov (.t 5)),
 aQ 16 (.bin .eql (.t 15) (.c (.nat .u8 10))),
 aQ 17 (.mov (.t 16)),
 gQ 18 (.mov (.t 5)) 17 false,
 gQ 19 (.bin .eql (.t 18) (.c (.nat .u8 93))) 17 false,
 aQ 20 (.pick (.t 17) (.c (.d (.bool true))) (.t 19)),
 aQ 21 (.mov (.t 20)),
 gQ 22 (.mov (.t 5)) 21 false,
 gQ 23 (.bin .eql (.t 22) (.c (.nat .u8 91))) 21 false,
 aQ 24 (.pick (.t 21) (.c (.d (.bool true))) (.t 23)),
 aQ 25 (.mov (.t 24)),
 gQ 26 (.mov (.t 5)) 25 false,
 gQ 27 (.bin .eql (.t 26) (.c (.nat .u8 94))) 25 false,
 aQ 28 (.pick (.t 25) (.c (.d (.bool true))) (.t 27)),
 aQ 29 (.mov (.t 28)),
 gQ 30 (.mov (.t 5)) 29 false,
 gQ 31 (.bin .eql (.t 30) (.c (.nat .u8 45))) 29 false,
 aQ 32 (.pick (.t 29) (.c (.d (.bool true))) (.t 31))]
def o_ref04_Sign_5 : List AOp := [
 aQ 2 (.asg (.c (.nat .u8 0))),
 aQ 3 (.asg (.c (.nat .i64 0))),
 aQ 4 (.asg (.c (.nat .i64 2)))]
def o_ref04_Sign_6 : List AOp := [
 aQ 33 (.mov (.t 5)),
 aQ 34 (.bin .neq (.t 33) (.c (.nat .u8 92)))]
def o_ref04_Sign_7 : List AOp := [
 aQ 35 (.mov (.t 5)),
 aQ 2 (.asg (.t 35)),
 aQ 3 (.asg (.c (.nat .i64 1))),
 aQ 4 (.asg (.c (.nat .i64 0)))]
def o_ref04_Sign_8 : List AOp := [
 aQ 36 (.mov (.t 0)),
 aQ 37 (.lenS (.t 36)),
 aQ 38 (.bin .lss (.t 37) (.c (.nat .i64 2)))]
def o_ref04_Sign_9 : List AOp := [
 aQ 2 (.asg (.c (.nat .u8 0))),
 aQ 3 (.asg (.c (.nat .i64 0))),
 aQ 4 (.asg (.c (.nat .i64 2)))]
def o_ref04_Sign_10 : List AOp := [
 aQ 6 (.asg (.c (.d (.str [92, 93, 91, 94, 45, 47, 46, 42, 43, 63, 40, 41, 124, 123, 125, 36]))))]
def o_ref04_Sign_11 : List AOp := [
 aQ 7 (.asg (.c (.nat .i64 0)))]
def o_ref04_Sign_12 : List AOp := [
 aQ 39 (.mov (.t 7)),
 aQ 40 (.mov (.t 6)),
 aQ 41 (.lenS (.t 40)),
 aQ 42 (.bin .lss (.t 39) (.t 41))]
def o_ref04_Sign_14 : List AOp := [
 mQ 45 (.mov (.t 0)),
 mQ 46 (.idxS (.t 45) (.c (.nat .i64 1))),
 mQ 47 (.mov (.t 6)),
 mQ 48 (.mov (.t 7)),
 mQ 49 (.idxS (.t 47) (.t 48)),
 aQ 50 (.bin .eql (.t 46) (.t 49))]
def o_ref04_Sign_15 : List AOp := [
 aQ 51 (.mov (.t 0)),
 aQ 52 (.idxS (.t 51) (.c (.nat .i64 1))),
 aQ 2 (.asg (.t 52)),
 aQ 3 (.asg (.c (.nat .i64 2))),
 aQ 4 (.asg (.c (.nat .i64 0)))]
def o_ref04_Sign_13 : List AOp := [
 aQ 43 (.mov (.t 7)),
 aQ 44 (.bin .add (.t 43) (.c (.nat .i64 1))),
 aQ 7 (.asg (.t 44))]
def b_ref04_Sign_0 : AC := (.seq (.seq (.ops o_ref04_Sign_12)
 (.cond (.t 42) .skip (.exit 0)))
 (.seq (.trim [0, 6, 7] (.block 1 (.seq (.ops o_ref04_Sign_14)
 (.cond (.t 50) (.seq (.ops o_ref04_Sign_15)
 .ret) .skip))))
 (.ops o_ref04_Sign_13)))
def o_ref04_Sign_16 : List AOp := [
 aQ 53 (.mov (.t 0)),
 aQ 54 (.lenS (.t 53)),
 aQ 55 (.bin .lss (.t 54) (.c (.nat .i64 4))),
 aQ 56 (.mov (.t 55)),
 gQ 57 (.mov (.t 0)) 56 false,
 gQ 58 (.idxS (.t 57) (.c (.nat .i64 1))) 56 false,
 gQ 59 (.bin .neq (.t 58) (.c (.nat .u8 120))) 56 false,
 aQ 60 (.pick (.t 56) (.c (.d (.bool true))) (.t 59))]
def o_ref04_Sign_17 : List AOp := [
 aQ 2 (.asg (.c (.nat .u8 0))),
 aQ 3 (.asg (.c (.nat .i64 0))),
 aQ 4 (.asg (.c (.nat .i64 2)))]
def o_ref04_Sign_18 : List AOp := [
 aQ 61 (.mov (.t 0)),
 aQ 62 (.idxS (.t 61) (.c (.nat .i64 2))),
 aQ 63 (.call (.f f_ref01_Digit) [.t 62]),
 aQ 8 (.asg (.t 63))]
def o_ref04_Sign_19 : List AOp := [
 aQ 64 (.mov (.t 0)),
 aQ 65 (.idxS (.t 64) (.c (.nat .i64 3))),
 aQ 66 (.call (.f f_ref01_Digit) [.t 65]),
 aQ 9 (.asg (.t 66))]
def o_ref04_Sign_20 : List AOp := [
 aQ 67 (.mov (.t 8)),
 aQ 68 (.bin .lss (.t 67) (.c (.nat .i64 0))),
 aQ 69 (.mov (.t 68)),
 gQ 70 (.mov (.t 9)) 69 false,
 gQ 71 (.bin .lss (.t 70) (.c (.nat .i64 0))) 69 false,
 aQ 72 (.pick (.t 69) (.c (.d (.bool true))) (.t 71))]
def o_ref04_Sign_21 : List AOp := [
 aQ 2 (.asg (.c (.nat .u8 0))),
 aQ 3 (.asg (.c (.nat .i64 0))),
 aQ 4 (.asg (.c (.nat .i64 2)))]
def o_ref04_Sign_22 : List AOp := [
 aQ 73 (.mov (.t 8)),
 aQ 74 (.bin .mul (.c (.nat .i64 16)) (.t 73)),
 aQ 75 (.mov (.t 9)),
 aQ 76 (.bin .add (.t 74) (.t 75)),
 aQ 77 (.toInt .u8 (.t 76)),
 aQ 2 (.asg (.t 77)),
 aQ 3 (.asg (.c (.nat .i64 4))),
 aQ 4 (.asg (.c (.nat .i64 0)))]
def c_ref04_Sign : AC :=
 (.seq (.ops o_ref04_Sign_0)
 (.seq (.seq (.ops o_ref04_Sign_1)
 (.cond (.t 12) (.seq (.ops o_ref04_Sign_2)
 .ret) .skip))
 (.seq (.ops o_ref04_Sign_3)
 (.seq (.seq (.ops o_ref04_Sign_4)
 (.cond (.t 32) (.seq (.ops o_ref04_Sign_5)
 .ret) .skip))
 (.seq (.seq (.ops o_ref04_Sign_6)
 (.cond (.t 34) (.seq (.ops o_ref04_Sign_7)
 .ret) .skip))
 (.seq (.seq (.ops o_ref04_Sign_8)
 (.cond (.t 38) (.seq (.ops o_ref04_Sign_9)
 .ret) .skip))
 (.seq (.ops o_ref04_Sign_10)
 (.seq (.seq (.ops o_ref04_Sign_11)
 (.trim [0] (.block 0 (.loop [0, 6, 7] b_ref04_Sign_0))))
 (.seq (.seq (.ops o_ref04_Sign_16)
 (.cond (.t 60) (.seq (.ops o_ref04_Sign_17)
 .ret) .skip))
 (.seq (.ops o_ref04_Sign_18)
 (.seq (.ops o_ref04_Sign_19)
 (.seq (.seq (.ops o_ref04_Sign_20)
 (.cond (.t 72) (.seq (.ops o_ref04_Sign_21)
 .ret) .skip))
 (.seq (.ops o_ref04_Sign_22)
 .ret)))))))))))))
def a_ref04_Sign : AFn := { body := c_ref04_Sign, res := [.tmp 2, .tmp 3, .tmp 4] }
def o_ref04_One_0 : List AOp := [
 aQ 2 (.alloc [.nat .u64 0, .nat .u64 0, .nat .u64 0, .nat .u64 0])]
def o_ref04_One_1 : List AOp := [
 aQ 3 (.build [.nat .u64 0, .nat .u64 0, .nat .u64 0, .nat .u64 0] []),
 aQ 4 (.mov (.t 0)),
 aQ 5 (.call (.f f_ref04_with) [.t 3, .t 4]),
 { dst := none, op := .store 4 (.t 2) (.t 5) }]
def c_ref04_One : AC :=
 (.seq (.ops o_ref04_One_0)
 (.seq (.ops o_ref04_One_1)
 .ret))
def a_ref04_One : AFn := { body := c_ref04_One, res := [.cell 2 (some 4)] }
def o_class_Not_0 : List AOp := [
 aQ 1 (.box (.t 0)),
 aQ 2 (.alloc [.nat .u64 0, .nat .u64 0, .nat .u64 0, .nat .u64 0])]
def o_class_Not_1 : List AOp := [
 aQ 4 (.mov (.c (.nat .i64 0)))]
def o_class_Not_2 : List AOp := [
 aQ 5 (.bin .lss (.t 4) (.c (.nat .i64 4)))]
def o_class_Not_3 : List AOp := [
 aQ 6 (.mov (.t 4)),
 aQ 3 (.asg (.t 6))]
def o_class_Not_4 : List AOp := [
 aQ 7 (.mov (.t 3)),
 aQ 8 (.mov (.t 3)),
 aQ 9 (.idxA (some 4) 1 (.t 1) (.t 8)),
 aQ 10 (.load none (.t 9)),
 aQ 11 (.un .xor (.t 10)),
 aQ 12 (.idxA (some 4) 1 (.t 1) (.t 7)),
 { dst := none, op := .store 1 (.t 12) (.t 11) }]
def o_class_Not_5 : List AOp := [
 aQ 13 (.bin .add (.t 4) (.c (.nat .i64 1))),
 aQ 4 (.mov (.t 13))]
def b_class_Not_0 : AC := (.seq (.ops o_class_Not_2)
 (.seq (.cond (.t 5) .skip (.exit 0))
 (.seq (.trim [1, 2, 4] (.block 1 (.seq (.ops o_class_Not_3)
 (.ops o_class_Not_4))))
 (.ops o_class_Not_5))))
def o_class_Not_6 : List AOp := [
 aQ 14 (.load (some 4) (.t 1)),
 { dst := none, op := .store 4 (.t 2) (.t 14) }]
def c_class_Not : AC :=
 (.seq (.ops o_class_Not_0)
 (.seq (.seq (.ops o_class_Not_1)
 (.trim [1, 2] (.block 0 (.loop [1, 2, 4] b_class_Not_0))))
 (.seq (.ops o_class_Not_6)
 .ret)))
def a_class_Not : AFn := { body := c_class_Not, res := [.cell 2 (some 4)] }
def o_class_Read_1_0 : List AOp := [
 aQ 4 (.asg (.c (.d (.bool false))))]
def o_class_Read_1_1 : List AOp := [
 aQ 6 (.load none (.t 1)),
 aQ 7 (.load none (.t 2)),
 aQ 8 (.lenS (.t 7)),
 aQ 9 (.bin .lss (.t 6) (.t 8)),
 aQ 10 (.mov (.t 9)),
 gQ 11 (.load none (.t 2)) 10 true,
 gQ 12 (.load none (.t 1)) 10 true,
 gQ 13 (.idxS (.t 11) (.t 12)) 10 true,
 gQ 14 (.mov (.t 0)) 10 true,
 gQ 15 (.bin .eql (.t 13) (.t 14)) 10 true,
 aQ 16 (.pick (.t 10) (.t 15) (.c (.d (.bool false)))),
 aQ 5 (.asg (.t 16))]
def o_class_Read_1_2 : List AOp := [
 aQ 17 (.mov (.t 5))]
def o_class_Read_1_3 : List AOp := [
 aQ 18 (.load none (.t 1)),
 aQ 19 (.bin .add (.t 18) (.c (.nat .i64 1))),
 { dst := none, op := .store 1 (.t 1) (.t 19) }]
def o_class_Read_1_4 : List AOp := [
 aQ 20 (.mov (.t 5)),
 aQ 4 (.asg (.t 20))]
def c_class_Read_1 : AC :=
 (.seq (.ops o_class_Read_1_0)
 (.seq (.ops o_class_Read_1_1)
 (.seq (.seq (.ops o_class_Read_1_2)
 (.cond (.t 17) (.ops o_class_Read_1_3) .skip))
 (.seq (.ops o_class_Read_1_4)
 .ret))))
def a_class_Read_1 : AFn := { body := c_class_Read_1, res := [.tmp 4] }
def o_class_Or_0 : List AOp := [
 aQ 2 (.box (.t 0)),
 aQ 3 (.box (.t 1)),
 aQ 4 (.alloc [.nat .u64 0, .nat .u64 0, .nat .u64 0, .nat .u64 0])]
def o_class_Or_1 : List AOp := [
 aQ 6 (.mov (.c (.nat .i64 0)))]
def o_class_Or_2 : List AOp := [
 aQ 7 (.bin .lss (.t 6) (.c (.nat .i64 4)))]
def o_class_Or_3 : List AOp := [
 aQ 8 (.mov (.t 6)),
 aQ 5 (.asg (.t 8))]
def o_class_Or_4 : List AOp := [
 mQ 9 (.mov (.t 5)),
 mQ 10 (.idxA (some 4) 1 (.t 2) (.t 9)),
 mQ 11 (.load none (.t 10)),
 mQ 12 (.mov (.t 5)),
 mQ 13 (.idxA (some 4) 1 (.t 3) (.t 12)),
 mQ 14 (.load none (.t 13)),
 aQ 15 (.bin .or (.t 11) (.t 14)),
 aQ 16 (.idxA (some 4) 1 (.t 2) (.t 9)),
 { dst := none, op := .store 1 (.t 16) (.t 15) }]
def o_class_Or_5 : List AOp := [
 aQ 17 (.bin .add (.t 6) (.c (.nat .i64 1))),
 aQ 6 (.mov (.t 17))]
def b_class_Or_0 : AC := (.seq (.ops o_class_Or_2)
 (.seq (.cond (.t 7) .skip (.exit 0))
 (.seq (.trim [2, 3, 4, 6] (.block 1 (.seq (.ops o_class_Or_3)
 (.ops o_class_Or_4))))
 (.ops o_class_Or_5))))
def o_class_Or_6 : List AOp := [
 aQ 18 (.load (some 4) (.t 2)),
 { dst := none, op := .store 4 (.t 4) (.t 18) }]
def c_class_Or : AC :=
 (.seq (.ops o_class_Or_0)
 (.seq (.seq (.ops o_class_Or_1)
 (.trim [2, 4] (.block 0 (.loop [2, 3, 4, 6] b_class_Or_0))))
 (.seq (.ops o_class_Or_6)
 .ret)))
def a_class_Or : AFn := { body := c_class_Or, res := [.cell 4 (some 4)] }
def o_class_Span_0 : List AOp := [
 aQ 4 (.alloc [.nat .u64 0, .nat .u64 0, .nat .u64 0, .nat .u64 0])]
def o_class_Span_1 : List AOp := [
 aQ 5 (.alloc [.nat .u64 0, .nat .u64 0, .nat .u64 0, .nat .u64 0])]
def o_class_Span_2 : List AOp := [
 aQ 7 (.mov (.t 0)),
 aQ 8 (.toInt .i64 (.t 7)),
 aQ 6 (.asg (.t 8))]
def o_class_Span_3 : List AOp := [
 aQ 9 (.mov (.t 6)),
 aQ 10 (.mov (.t 1)),
 aQ 11 (.toInt .i64 (.t 10)),
 aQ 12 (.bin .leq (.t 9) (.t 11))]
def o_class_Span_5 : List AOp := [
 mQ 15 (.mov (.t 6)),
 mQ 16 (.bin .quo (.t 15) (.c (.nat .i64 64))),
 mQ 17 (.idxA (some 4) 1 (.t 5) (.t 16)),
 mQ 18 (.load none (.t 17)),
 mQ 19 (.mov (.t 6)),
 mQ 20 (.bin .rem (.t 19) (.c (.nat .i64 64))),
 mQ 21 (.bin .shl (.c (.nat .u64 1)) (.t 20)),
 aQ 22 (.bin .or (.t 18) (.t 21)),
 aQ 23 (.idxA (some 4) 1 (.t 5) (.t 16)),
 { dst := none, op := .store 1 (.t 23) (.t 22) }]
def o_class_Span_4 : List AOp := [
 aQ 13 (.mov (.t 6)),
 aQ 14 (.bin .add (.t 13) (.c (.nat .i64 1))),
 aQ 6 (.asg (.t 14))]
def b_class_Span_0 : AC := (.seq (.seq (.ops o_class_Span_3)
 (.cond (.t 12) .skip (.exit 0)))
 (.seq (.trim [1, 4, 5, 6] (.block 1 (.ops o_class_Span_5)))
 (.ops o_class_Span_4)))
def o_class_Span_6 : List AOp := [
 aQ 24 (.load (some 4) (.t 5)),
 { dst := none, op := .store 4 (.t 4) (.t 24) }]
def c_class_Span : AC :=
 (.seq (.ops o_class_Span_0)
 (.seq (.ops o_class_Span_1)
 (.seq (.seq (.ops o_class_Span_2)
 (.trim [4, 5] (.block 0 (.loop [1, 4, 5, 6] b_class_Span_0))))
 (.seq (.ops o_class_Span_6)
 .ret))))
def a_class_Span : AFn := { body := c_class_Span, res := [.cell 4 (some 4)] }
def o_ref04_Not_0 : List AOp := [
 aQ 1 (.box (.t 0)),
 aQ 2 (.alloc [.nat .u64 0, .nat .u64 0, .nat .u64 0, .nat .u64 0])]
def o_ref04_Not_1 : List AOp := [
 aQ 6 (.build [.nat .u64 0, .nat .u64 0, .nat .u64 0, .nat .u64 0] []),
 aQ 3 (.alloc [.nat .u64 0, .nat .u64 0, .nat .u64 0, .nat .u64 0]),
 { dst := none, op := .store 4 (.t 3) (.t 6) }]
def o_ref04_Not_2 : List AOp := [
 aQ 4 (.asg (.c (.nat .i64 0)))]
def o_ref04_Not_3 : List AOp := [
 aQ 7 (.mov (.t 4)),
 aQ 8 (.bin .lss (.t 7) (.c (.nat .i64 256)))]
def o_ref04_Not_5 : List AOp := [
 aQ 11 (.load (some 4) (.t 1)),
 aQ 12 (.mov (.t 4)),
 aQ 13 (.toInt .u8 (.t 12)),
 aQ 14 (.call (.f f_ref04_Has) [.t 11, .t 13]),
 aQ 5 (.asg (.t 14))]
def o_ref04_Not_6 : List AOp := [
 aQ 15 (.mov (.t 5)),
 aQ 16 (.un .not (.t 15))]
def o_ref04_Not_7 : List AOp := [
 aQ 17 (.load (some 4) (.t 3)),
 aQ 18 (.mov (.t 4)),
 aQ 19 (.toInt .u8 (.t 18)),
 aQ 20 (.call (.f f_ref04_with) [.t 17, .t 19]),
 { dst := none, op := .store 4 (.t 3) (.t 20) }]
def o_ref04_Not_4 : List AOp := [
 aQ 9 (.mov (.t 4)),
 aQ 10 (.bin .add (.t 9) (.c (.nat .i64 1))),
 aQ 4 (.asg (.t 10))]
def b_ref04_Not_0 : AC := (.seq (.seq (.ops o_ref04_Not_3)
 (.cond (.t 8) .skip (.exit 0)))
 (.seq (.trim [1, 2, 3, 4] (.block 1 (.seq (.ops o_ref04_Not_5)
 (.seq (.ops o_ref04_Not_6)
 (.cond (.t 16) (.ops o_ref04_Not_7) .skip)))))
 (.ops o_ref04_Not_4)))
def o_ref04_Not_8 : List AOp := [
 aQ 21 (.load (some 4) (.t 3)),
 { dst := none, op := .store 4 (.t 2) (.t 21) }]
def c_ref04_Not : AC :=
 (.seq (.ops o_ref04_Not_0)
 (.seq (.ops o_ref04_Not_1)
 (.seq (.seq (.ops o_ref04_Not_2)
 (.trim [2, 3] (.block 0 (.loop [1, 2, 3, 4] b_ref04_Not_0))))
 (.seq (.ops o_ref04_Not_8)
 .ret))))
def a_ref04_Not : AFn := { body := c_ref04_Not, res := [.cell 2 (some 4)] }
def o_ref04_Or_0 : List AOp := [
 aQ 2 (.box (.t 0)),
 aQ 3 (.box (.t 1)),
 aQ 4 (.alloc [.nat .u64 0, .nat .u64 0, .nat .u64 0, .nat .u64 0])]
def o_ref04_Or_1 : List AOp := [
 aQ 5 (.asg (.c (.nat .i64 0)))]
def o_ref04_Or_2 : List AOp := [
 aQ 7 (.mov (.t 5)),
 aQ 8 (.bin .lss (.t 7) (.c (.nat .i64 256)))]
def o_ref04_Or_4 : List AOp := [
 aQ 11 (.load (some 4) (.t 3)),
 aQ 12 (.mov (.t 5)),
 aQ 13 (.toInt .u8 (.t 12)),
 aQ 14 (.call (.f f_ref04_Has) [.t 11, .t 13]),
 aQ 6 (.asg (.t 14))]
def o_ref04_Or_5 : List AOp := [
 aQ 15 (.mov (.t 6))]
def o_ref04_Or_6 : List AOp := [
 aQ 16 (.load (some 4) (.t 2)),
 aQ 17 (.mov (.t 5)),
 aQ 18 (.toInt .u8 (.t 17)),
 aQ 19 (.call (.f f_ref04_with) [.t 16, .t 18]),
 { dst := none, op := .store 4 (.t 2) (.t 19) }]
def o_ref04_Or_3 : List AOp := [
 aQ 9 (.mov (.t 5)),
 aQ 10 (.bin .add (.t 9) (.c (.nat .i64 1))),
 aQ 5 (.asg (.t 10))]
def b_ref04_Or_0 : AC := (.seq (.seq (.ops o_ref04_Or_2)
 (.cond (.t 8) .skip (.exit 0)))
 (.seq (.trim [2, 3, 4, 5] (.block 1 (.seq (.ops o_ref04_Or_4)
 (.seq (.ops o_ref04_Or_5)
 (.cond (.t 15) (.ops o_ref04_Or_6) .skip)))))
 (.ops o_ref04_Or_3)))
def o_ref04_Or_7 : List AOp := [
 aQ 20 (.load (some 4) (.t 2)),
 { dst := none, op := .store 4 (.t 4) (.t 20) }]
def c_ref04_Or : AC :=
 (.seq (.ops o_ref04_Or_0)
 (.seq (.seq (.ops o_ref04_Or_1)
 (.trim [2, 4] (.block 0 (.loop [2, 3, 4, 5] b_ref04_Or_0))))
 (.seq (.ops o_ref04_Or_7)
 .ret)))
def a_ref04_Or : AFn := { body := c_ref04_Or, res := [.cell 4 (some 4)] }
def o_ref04_Span_0 : List AOp := [
 aQ 4 (.alloc [.nat .u64 0, .nat .u64 0, .nat .u64 0, .nat .u64 0])]
def o_ref04_Span_1 : List AOp := [
 aQ 7 (.build [.nat .u64 0, .nat .u64 0, .nat .u64 0, .nat .u64 0] []),
 aQ 5 (.alloc [.nat .u64 0, .nat .u64 0, .nat .u64 0, .nat .u64 0]),
 { dst := none, op := .store 4 (.t 5) (.t 7) }]
def o_ref04_Span_2 : List AOp := [
 aQ 8 (.mov (.t 0)),
 aQ 9 (.toInt .i64 (.t 8)),
 aQ 6 (.asg (.t 9))]
def o_ref04_Span_3 : List AOp := [
 aQ 10 (.mov (.t 6)),
 aQ 11 (.mov (.t 1)),
 aQ 12 (.toInt .i64 (.t 11)),
 aQ 13 (.bin .leq (.t 10) (.t 12))]
def o_ref04_Span_5 : List AOp := [
 aQ 16 (.load (some 4) (.t 5)),
 aQ 17 (.mov (.t 6)),
 aQ 18 (.toInt .u8 (.t 17)),
 aQ 19 (.call (.f f_ref04_with) [.t 16, .t 18]),
 { dst := none, op := .store 4 (.t 5) (.t 19) }]
def o_ref04_Span_4 : List AOp := [
 aQ 14 (.mov (.t 6)),
 aQ 15 (.bin .add (.t 14) (.c (.nat .i64 1))),
 aQ 6 (.asg (.t 15))]
def b_ref04_Span_0 : AC := (.seq (.seq (.ops o_ref04_Span_3)
 (.cond (.t 13) .skip (.exit 0)))
 (.seq (.trim [1, 4, 5, 6] (.block 1 (.ops o_ref04_Span_5)))
 (.ops o_ref04_Span_4)))
def o_ref04_Span_6 : List AOp := [
 aQ 20 (.load (some 4) (.t 5)),
 { dst := none, op := .store 4 (.t 4) (.t 20) }]
def c_ref04_Span : AC :=
 (.seq (.ops o_ref04_Span_0)
 (.seq (.ops o_ref04_Span_1)
 (.seq (.seq (.ops o_ref04_Span_2)
 (.trim [4, 5] (.block 0 (.loop [1, 4, 5, 6] b_ref04_Span_0))))
 (.seq (.ops o_ref04_Span_6)
 .ret))))
def a_ref04_Span : AFn := { body := c_ref04_Span, res := [.cell 4 (some 4)] }
def o_ref04_with_0 : List AOp := [
 aQ 2 (.box (.t 0)),
 aQ 4 (.alloc [.nat .u64 0, .nat .u64 0, .nat .u64 0, .nat .u64 0])]
def o_ref04_with_1 : List AOp := [
 aQ 6 (.load (some 4) (.t 2)),
 aQ 7 (.mov (.t 1)),
 aQ 8 (.call (.f f_ref04_Has) [.t 6, .t 7]),
 aQ 5 (.asg (.t 8))]
def o_ref04_with_2 : List AOp := [
 aQ 9 (.mov (.t 5)),
 aQ 10 (.un .not (.t 9))]
def o_ref04_with_3 : List AOp := [
 aQ 11 (.mov (.t 1)),
 aQ 12 (.bin .quo (.t 11) (.c (.nat .u8 64))),
 aQ 13 (.mov (.t 1)),
 aQ 14 (.bin .quo (.t 13) (.c (.nat .u8 64))),
 aQ 15 (.idxA (some 4) 1 (.t 2) (.t 14)),
 aQ 16 (.load none (.t 15)),
 aQ 17 (.mov (.t 1)),
 aQ 18 (.bin .rem (.t 17) (.c (.nat .u8 64))),
 aQ 19 (.toInt .u64 (.t 18)),
 aQ 20 (.bin .shl (.c (.nat .u64 1)) (.t 19)),
 aQ 21 (.bin .add (.t 16) (.t 20)),
 aQ 22 (.idxA (some 4) 1 (.t 2) (.t 12)),
 { dst := none, op := .store 1 (.t 22) (.t 21) }]
def o_ref04_with_4 : List AOp := [
 aQ 23 (.load (some 4) (.t 2)),
 { dst := none, op := .store 4 (.t 4) (.t 23) }]
def c_ref04_with : AC :=
 (.seq (.ops o_ref04_with_0)
 (.seq (.ops o_ref04_with_1)
 (.seq (.seq (.ops o_ref04_with_2)
 (.cond (.t 10) (.ops o_ref04_with_3) .skip))
 (.seq (.ops o_ref04_with_4)
 .ret))))
def a_ref04_with : AFn := { body := c_ref04_with, res := [.cell 4 (some 4)] }
def o_ref04_Has_0 : List AOp := [
 aQ 2 (.box (.t 0)),
 aQ 4 (.asg (.c (.d (.bool false))))]
def o_ref04_Has_1 : List AOp := [
 aQ 5 (.mov (.t 1)),
 aQ 6 (.bin .quo (.t 5) (.c (.nat .u8 64))),
 aQ 7 (.idxA (some 4) 1 (.t 2) (.t 6)),
 aQ 8 (.load none (.t 7)),
 aQ 9 (.mov (.t 1)),
 aQ 10 (.bin .rem (.t 9) (.c (.nat .u8 64))),
 aQ 11 (.toInt .u64 (.t 10)),
 aQ 12 (.bin .shl (.c (.nat .u64 1)) (.t 11)),
 aQ 13 (.bin .quo (.t 8) (.t 12)),
 aQ 14 (.bin .rem (.t 13) (.c (.nat .u64 2))),
 aQ 15 (.bin .eql (.t 14) (.c (.nat .u64 1))),
 aQ 4 (.asg (.t 15))]
def c_ref04_Has : AC :=
 (.seq (.ops o_ref04_Has_0)
 (.seq (.ops o_ref04_Has_1)
 .ret))
def a_ref04_Has : AFn := { body := c_ref04_Has, res := [.tmp 4] }
def tabl : List (Nat × AFn) := [(f_law15_ScanTokens, a_law15_ScanTokens), (f_law15_shown, a_law15_shown), (f_scan_Tokens, a_scan_Tokens), (f_ref15_Tokens, a_ref15_Tokens), (f_ref15_Same, a_ref15_Same), (f_ref15_Texts, a_ref15_Texts), (f_scan_Keys, a_scan_Keys), (f_ref15_Keys, a_ref15_Keys), (f_scan_Marks, a_scan_Marks), (f_ref15_Marks, a_ref15_Marks), (f_scan_skip, a_scan_skip), (f_scan_next, a_scan_next), (f_scan_Operand, a_scan_Operand), (f_ref15_one, a_ref15_one), (f_ref15_Operand, a_ref15_Operand), (f_ref07_Same, a_ref07_Same), (f_scan_isFigure, a_scan_isFigure), (f_scan_number, a_scan_number), (f_scan_text, a_scan_text), (f_scan_expression, a_scan_expression), (f_hex_IsName, a_hex_IsName), (f_scan_word, a_scan_word), (f_scan_mark, a_scan_mark), (f_ref15_number, a_ref15_number), (f_ref15_text, a_ref15_text), (f_ref15_expression, a_ref15_expression), (f_ref01_IsName, a_ref01_IsName), (f_ref15_among, a_ref15_among), (f_scan_number_1, a_scan_number_1), (f_dec_Read, a_dec_Read), (f_strings_IndexByte, a_strings_IndexByte), (f_hex_Digit, a_hex_Digit), (f_regex_Read, a_regex_Read), (f_hex_IsName_1, a_hex_IsName_1), (f_slices_ContainsFunc_byte_byte, a_slices_ContainsFunc_byte_byte), (f_slices_Contains_string_string, a_slices_Contains_string_string), (f_strings_HasPrefix, a_strings_HasPrefix), (f_ref15_figures, a_ref15_figures), (f_ref02_Read, a_ref02_Read), (f_ref01_Digit, a_ref01_Digit), (f_ref05_Read, a_ref05_Read), (f_dec_Read_1, a_dec_Read_1), (f_dec_span, a_dec_span), (f_dec_wrong, a_dec_wrong), (f_bits_Mul64, a_bits_Mul64), (f_dec_joined, a_dec_joined), (f_stringslite_IndexByte, a_stringslite_IndexByte), (f_regex_reader_all, a_regex_reader_all), (f_slices_IndexFunc_byte_byte, a_slices_IndexFunc_byte_byte), (f_slices_Index_string_string, a_slices_Index_string_string), (f_stringslite_HasPrefix, a_stringslite_HasPrefix), (f_ref02_figure, a_ref02_figure), (f_ref02_times, a_ref02_times), (f_ref02_back, a_ref02_back), (f_ref05_parser_whole, a_ref05_parser_whole), (f_ref05_parser_fail, a_ref05_parser_fail), (f_regex_reader_cat, a_regex_reader_cat), (f_regex_reader_sees, a_regex_reader_sees), (f_regex_reader_put, a_regex_reader_put), (f_ref05_parser_row, a_ref05_parser_row), (f_ref05_parser_is, a_ref05_parser_is), (f_ref05_parser_lay, a_ref05_parser_lay), (f_regex_reader_piece, a_regex_reader_piece), (f_ref05_parser_piece, a_ref05_parser_piece), (f_regex_reader_atom, a_regex_reader_atom), (f_ref05_parser_atom, a_ref05_parser_atom), (f_regex_reader_group, a_regex_reader_group), (f_regex_dot, a_regex_dot), (f_class_Read, a_class_Read), (f_class_Sign, a_class_Sign), (f_class_One, a_class_One), (f_ref05_Dot, a_ref05_Dot), (f_ref04_Read, a_ref04_Read), (f_ref04_Sign, a_ref04_Sign), (f_ref04_One, a_ref04_One), (f_class_Not, a_class_Not), (f_class_Read_1, a_class_Read_1), (f_class_Or, a_class_Or), (f_class_Span, a_class_Span), (f_ref04_Not, a_ref04_Not), (f_ref04_Or, a_ref04_Or), (f_ref04_Span, a_ref04_Span), (f_ref04_with, a_ref04_with), (f_ref04_Has, a_ref04_Has)]
def tabD : List (Nat × AFn) := [(f_scan_number_1, a_scan_number_1), (f_dec_Read_1, a_dec_Read_1), (f_dec_caught, a_dec_caught), (f_dec_wrong, a_dec_wrong), (f_regex_Read_1, a_regex_Read_1), (f_ref05_parser_fail, a_ref05_parser_fail)]
end Go.Ab.R15z
