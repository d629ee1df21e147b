/- A part of the proof: tools. No condition. -/
import Derived.Test.YtomglfpnfioplaaGreatDoorL0
set_option linter.all false
namespace Go.Ab.R09
abbrev aQ (d : Nat) (o : AOpk) : AOp := { dst := some d, op := o }
abbrev mQ (d : Nat) (o : AOpk) : AOp := { dst := some d, op := o, may := false }
abbrev gQ (d : Nat) (o : AOpk) (n : Nat) (b : Bool) : AOp := { dst := some d, op := o, guard := some (n, b) }
abbrev hQ (d : Nat) (o : AOpk) (n : Nat) (b : Bool) : AOp := { dst := some d, op := o, guard := some (n, b), may := false }
set_option maxRecDepth 100000
abbrev f_law09_StreamPlain : Nat := 4
abbrev f_law09_StreamLines : Nat := 5
abbrev f_law09_StreamQuits : Nat := 7
abbrev f_law09_StreamHolds : Nat := 8
abbrev f_law09_shown : Nat := 9
abbrev f_stream_Run : Nat := 13
abbrev f_ref07_Same : Nat := 14
abbrev f_ref07_Long : Nat := 15
abbrev f_stream_Lines : Nat := 16
abbrev f_stream_Text : Nat := 17
abbrev f_stream_machine_does : Nat := 21
abbrev f_stream_machine_burn : Nat := 22
abbrev f_stream_machine_meant : Nat := 23
abbrev f_stream_machine_tell : Nat := 24
abbrev f_strings_Split : Nat := 25
abbrev f_strings_TrimSuffix : Nat := 26
abbrev f_sed_Read : Nat := 27
abbrev f_stream_machine_print : Nat := 39
abbrev f_stream_machine_drop : Nat := 40
abbrev f_stream_machine_quit : Nat := 41
abbrev f_stream_machine_take : Nat := 42
abbrev f_stream_machine_copy : Nat := 43
abbrev f_stream_machine_copyMore : Nat := 44
abbrev f_stream_machine_get : Nat := 45
abbrev f_stream_machine_getMore : Nat := 46
abbrev f_stream_machine_change : Nat := 47
abbrev f_stream_machine_replace : Nat := 48
abbrev f_stream_machine_branch : Nat := 49
abbrev f_stream_machine_test : Nat := 50
abbrev f_stream_machine_label : Nat := 51
abbrev f_stream_machine_tells : Nat := 52
abbrev f_stream_machine_put : Nat := 53
abbrev f_strings_genSplit : Nat := 54
abbrev f_stringslite_TrimSuffix : Nat := 55
abbrev f_sed_Read_1 : Nat := 56
abbrev f_sed_wrong : Nat := 57
abbrev f_sed_reader_skips : Nat := 58
abbrev f_sed_reader_command : Nat := 59
abbrev f_sed_named : Nat := 60
abbrev f_stream_machine_fits : Nat := 71
abbrev f_subst_First : Nat := 72
abbrev f_subst_All : Nat := 73
abbrev f_stream_machine_jump : Nat := 74
abbrev f_match_Is : Nat := 75
abbrev f_strings_explode : Nat := 76
abbrev f_strings_Count : Nat := 77
abbrev f_strings_Index : Nat := 78
abbrev f_stringslite_HasSuffix : Nat := 79
abbrev f_sed_reader_takes : Nat := 80
abbrev f_sed_reader_addr : Nat := 81
abbrev f_sed_reader_replace : Nat := 82
abbrev f_sed_reader_label : Nat := 83
abbrev f_strings_IndexByte : Nat := 84
abbrev f_sed_reader_sees : Nat := 85
abbrev f_slices_ContainsFunc_api_SedCmd_api_SedCmd : Nat := 86
abbrev f_sed_named_1 : Nat := 87
abbrev f_match_Span : Nat := 95
abbrev f_subst_replaced : Nat := 96
abbrev f_match_Spans : Nat := 97
abbrev f_sed_Jump : Nat := 98
abbrev f_utf8_RuneCountInString : Nat := 99
abbrev f_utf8_DecodeRuneInString : Nat := 100
abbrev f_bytealg_CountString : Nat := 101
abbrev f_stringslite_Index : Nat := 102
abbrev f_sed_reader_re : Nat := 103
abbrev f_hex_Whole : Nat := 104
abbrev f_subst_Read : Nat := 105
abbrev f_sed_reader_part : Nat := 106
abbrev f_hex_IsName : Nat := 107
abbrev f_stringslite_IndexByte : Nat := 108
abbrev f_slices_IndexFunc_api_SedCmd_api_SedCmd : Nat := 109
abbrev f_match_Ends : Nat := 114
abbrev f_strings_Builder_WriteString : Nat := 115
abbrev f_subst_Put : Nat := 116
abbrev f_strings_Builder_String : Nat := 117
abbrev f_match_each : Nat := 118
abbrev f_sed_Jump_1 : Nat := 119
abbrev f_utf8_decodeRuneInStringSlow : Nat := 120
abbrev f_bytealg_IndexString : Nat := 121
abbrev f_bytealg_Cutover : Nat := 122
abbrev f_bytealg_IndexRabinKarp_string : Nat := 123
abbrev f_regex_Read : Nat := 124
abbrev f_strconv_ParseInt : Nat := 125
abbrev f_subst_Read_1 : Nat := 126
abbrev f_strings_HasPrefix : Nat := 127
abbrev f_class_Sign : Nat := 128
abbrev f_hex_IsName_1 : Nat := 129
abbrev f_slices_ContainsFunc_byte_byte : Nat := 130
abbrev f_bytealg_IndexByteString : Nat := 131
abbrev f_match_ends : Nat := 134
abbrev f_strings_Builder_copyCheck : Nat := 135
abbrev f_strings_Join : Nat := 136
abbrev f_match_each_1 : Nat := 137
abbrev f_bytealg_hashStr_string : Nat := 138
abbrev f_regex_Read_1 : Nat := 139
abbrev f_regex_reader_all : Nat := 140
abbrev f_strconv_ParseInt_x1 : Nat := 141
abbrev f_strconv_toError : Nat := 142
abbrev f_stringslite_HasPrefix : Nat := 143
abbrev f_hex_Digit : Nat := 144
abbrev f_slices_IndexFunc_byte_byte : Nat := 145
abbrev f_match_parents : Nat := 149
abbrev f_match_ends_1 : Nat := 150
abbrev f_class_Has : Nat := 151
abbrev f_abi_NoEscape : Nat := 152
abbrev f_strings_Builder_Grow : Nat := 153
abbrev f_regex_reader_cat : Nat := 154
abbrev f_regex_reader_sees : Nat := 155
abbrev f_regex_reader_put : Nat := 156
abbrev f_strconv_ParseUint : Nat := 157
abbrev f_strconv_syntaxError : Nat := 158
abbrev f_strconv_rangeError : Nat := 159
abbrev f_strconv_baseError : Nat := 160
abbrev f_strconv_bitSizeError : Nat := 161
abbrev f_strings_Builder_grow : Nat := 167
abbrev f_regex_reader_piece : Nat := 168
abbrev f_strconv_lower : Nat := 169
abbrev f_strconv_underscoreOK : Nat := 170
abbrev f_stringslite_Clone : Nat := 171
abbrev f_errors_New : Nat := 172
abbrev f_strconv_Itoa : Nat := 173
abbrev f_bytealg_MakeNoZero : Nat := 178
abbrev f_regex_reader_atom : Nat := 179
abbrev f_strconv_Itoa_x1 : Nat := 180
abbrev f_regex_reader_group : Nat := 181
abbrev f_regex_dot : Nat := 182
abbrev f_class_Read : Nat := 183
abbrev f_class_One : Nat := 184
abbrev f_strconv_FormatInt : Nat := 185
abbrev f_class_Not : Nat := 186
abbrev f_class_Read_1 : Nat := 187
abbrev f_class_Or : Nat := 188
abbrev f_class_Span : Nat := 189
abbrev f_strconv_small : Nat := 190
abbrev f_strconv_numDigits : Nat := 191
abbrev f_strconv_formatBase10 : Nat := 192
abbrev f_strconv_formatBits : Nat := 193
abbrev f_strconv_log10Pow2 : Nat := 194
abbrev f_bits_Len64 : Nat := 195
abbrev f_strconv_bool2_int : Nat := 196
abbrev f_strconv_isPowerOfTwo : Nat := 197
abbrev f_bits_TrailingZeros : Nat := 198
abbrev f_bits_TrailingZeros32 : Nat := 199
abbrev f_bits_TrailingZeros64 : Nat := 200
def o_law09_StreamPlain_0 : List AOp := [
 aQ 2 (.asg (.c (.d (.bool false))))]
def o_law09_StreamPlain_1 : List AOp := [
 aQ 17 (.callZ (.f f_law09_shown) []),
 aQ 3 (.asg (.t 17))]
def o_law09_StreamPlain_2 : List AOp := [
 aQ 18 (.mov (.t 0)),
 aQ 19 (.call (.f f_ref07_Long) [.t 18]),
 aQ 20 (.bin .gtr (.t 19) (.c (.nat .i64 500)))]
def o_law09_StreamPlain_3 : List AOp := [
 aQ 21 (.mov (.t 3)),
 aQ 2 (.asg (.t 21))]
def o_law09_StreamPlain_4 : List AOp := [
 aQ 22 (.mov (.t 0)),
 aQ 23 (.len (.t 22)),
 aQ 4 (.asg (.t 23))]
def o_law09_StreamPlain_5 : List AOp := [
 aQ 25 (.mov (.t 0)),
 aQ 26 (.mov (.t 4)),
 aQ 27 (.call (.f f_stream_Run) [.c (.nil), .t 25, .c (.d (.bool false)), .t 26]),
 aQ 24 (.mov (.t 27)),
 aQ 28 (.extr (.t 24) 0),
 aQ 29 (.extr (.t 24) 1),
 aQ 30 (.extr (.t 24) 2),
 aQ 5 (.asg (.t 28)),
 aQ 6 (.asg (.t 29)),
 aQ 7 (.asg (.t 30))]
def o_law09_StreamPlain_6 : List AOp := [
 aQ 32 (.build [.nat .u8 0, .nat .i64 0, .nat .i64 0, .nil, .nat .i64 0, .nat .i64 0, .nil, .d (.bool false), .nil, .nil, .d (.bool false), .d (.bool false), .d (.str [])] [(0, 1, (.c (.nat .u8 112)))]),
 aQ 33 (.mkls 13 [.nat .u8 0, .nat .i64 0, .nat .i64 0, .nil, .nat .i64 0, .nat .i64 0, .nil, .d (.bool false), .nil, .nil, .d (.bool false), .d (.bool false), .d (.str [])] [(0, 13, (.t 32))]),
 aQ 34 (.mov (.t 0)),
 aQ 35 (.mov (.t 4)),
 aQ 36 (.bin .mul (.c (.nat .i64 2)) (.t 35)),
 aQ 37 (.bin .add (.t 36) (.c (.nat .i64 1))),
 aQ 38 (.call (.f f_stream_Run) [.t 33, .t 34, .c (.d (.bool true)), .t 37]),
 aQ 31 (.mov (.t 38)),
 aQ 39 (.extr (.t 31) 0),
 aQ 40 (.extr (.t 31) 1),
 aQ 41 (.extr (.t 31) 2),
 aQ 8 (.asg (.t 39)),
 aQ 9 (.asg (.t 40)),
 aQ 10 (.asg (.t 41))]
def o_law09_StreamPlain_7 : List AOp := [
 aQ 43 (.build [.nat .u8 0, .nat .i64 0, .nat .i64 0, .nil, .nat .i64 0, .nat .i64 0, .nil, .d (.bool false), .nil, .nil, .d (.bool false), .d (.bool false), .d (.str [])] [(0, 1, (.c (.nat .u8 100)))]),
 aQ 44 (.mkls 13 [.nat .u8 0, .nat .i64 0, .nat .i64 0, .nil, .nat .i64 0, .nat .i64 0, .nil, .d (.bool false), .nil, .nil, .d (.bool false), .d (.bool false), .d (.str [])] [(0, 13, (.t 43))]),
 aQ 45 (.mov (.t 0)),
 aQ 46 (.mov (.t 4)),
 aQ 47 (.bin .mul (.c (.nat .i64 2)) (.t 46)),
 aQ 48 (.call (.f f_stream_Run) [.t 44, .t 45, .c (.d (.bool false)), .t 47]),
 aQ 42 (.mov (.t 48)),
 aQ 49 (.extr (.t 42) 0),
 aQ 50 (.extr (.t 42) 1),
 aQ 51 (.extr (.t 42) 2),
 aQ 11 (.asg (.t 49)),
 aQ 12 (.asg (.t 50)),
 aQ 13 (.asg (.t 51))]
def o_law09_StreamPlain_8 : List AOp := [
 aQ 53 (.mov (.t 0)),
 aQ 54 (.mov (.t 4)),
 aQ 55 (.call (.f f_stream_Run) [.c (.nil), .t 53, .c (.d (.bool true)), .t 54]),
 aQ 52 (.mov (.t 55)),
 aQ 56 (.extr (.t 52) 0),
 aQ 57 (.extr (.t 52) 1),
 aQ 58 (.extr (.t 52) 2),
 aQ 14 (.asg (.t 56)),
 aQ 15 (.asg (.t 57)),
 aQ 16 (.asg (.t 58))]
def o_law09_StreamPlain_9 : List AOp := [
 aQ 59 (.mov (.t 3)),
 aQ 60 (.mov (.t 59)),
 gQ 61 (.mov (.t 5)) 60 true,
 gQ 62 (.mov (.t 0)) 60 true,
 gQ 63 (.call (.f f_ref07_Same) [.t 61, .t 62]) 60 true,
 aQ 64 (.pick (.t 60) (.t 63) (.c (.d (.bool false)))),
 aQ 65 (.mov (.t 64)),
 gQ 66 (.mov (.t 6)) 65 true,
 gQ 67 (.bin .eql (.t 66) (.c (.nat .i64 0))) 65 true,
 aQ 68 (.pick (.t 65) (.t 67) (.c (.d (.bool false)))),
 aQ 69 (.mov (.t 68)),
 gQ 70 (.mov (.t 7)) 69 true,
 gQ 71 (.bin .eql (.t 70) (.c (.nat .i64 0))) 69 true,
 aQ 72 (.pick (.t 69) (.t 71) (.c (.d (.bool false)))),
 aQ 73 (.mov (.t 72)),
 gQ 74 (.mov (.t 8)) 73 true,
 gQ 75 (.mov (.t 0)) 73 true,
 gQ 76 (.call (.f f_ref07_Same) [.t 74, .t 75]) 73 true,
 aQ 77 (.pick (.t 73) (.t 76) (.c (.d (.bool false)))),
 aQ 78 (.mov (.t 77)),
 gQ 79 (.mov (.t 9)) 78 true,
 gQ 80 (.bin .eql (.t 79) (.c (.nat .i64 1))) 78 true,
 aQ 81 (.pick (.t 78) (.t 80) (.c (.d (.bool false)))),
 aQ 82 (.mov (.t 81)),
 gQ 83 (.mov (.t 10)) 82 true,
 gQ 84 (.bin .eql (.t 83) (.c (.nat .i64 0))) 82 true,
 aQ 85 (.pick (.t 82) (.t 84) (.c (.d (.bool false)))),
 aQ 86 (.mov (.t 85)),
 gQ 87 (.mov (.t 11)) 86 true,
 gQ 88 (.len (.t 87)) 86 true,
 gQ 89 (.bin .eql (.t 88) (.c (.nat .i64 0))) 86 true,
 aQ 90 (.pick (.t 86) (.t 89) (.c (.d (.bool false)))),
 aQ 91 (.mov (.t 90)),
 gQ 92 (.mov (.t 13)) 91 true,
 gQ 93 (.bin .eql (.t 92) (.c (.nat .i64 0))) 91 true,
 aQ 94 (.pick (.t 91) (.t 93) (.c (.d (.bool false)))),
 aQ 95 (.mov (.t 94)),
 gQ 96 (.mov (.t 14)) 95 true,
 gQ 97 (.len (.t 96)) 95 true,
 gQ 98 (.bin .eql (.t 97) (.c (.nat .i64 0))) 95 true,
 aQ 99 (.pick (.t 95) (.t 98) (.c (.d (.bool false)))),
 aQ 100 (.mov (.t 99)),
 gQ 101 (.mov (.t 16)) 100 true,
 gQ 102 (.bin .eql (.t 101) (.c (.nat .i64 0))) 100 true,
 aQ 103 (.pick (.t 100) (.t 102) (.c (.d (.bool false)))),
 aQ 2 (.asg (.t 103))]
def c_law09_StreamPlain : AC :=
 (.seq (.ops o_law09_StreamPlain_0)
 (.seq (.ops o_law09_StreamPlain_1)
 (.seq (.seq (.ops o_law09_StreamPlain_2)
 (.cond (.t 20) (.seq (.ops o_law09_StreamPlain_3)
 .ret) .skip))
 (.seq (.ops o_law09_StreamPlain_4)
 (.seq (.ops o_law09_StreamPlain_5)
 (.seq (.ops o_law09_StreamPlain_6)
 (.seq (.ops o_law09_StreamPlain_7)
 (.seq (.ops o_law09_StreamPlain_8)
 (.seq (.ops o_law09_StreamPlain_9)
 .ret)))))))))
def a_law09_StreamPlain : AFn := { body := c_law09_StreamPlain, res := [.tmp 2] }
def o_law09_StreamLines_0 : List AOp := [
 aQ 2 (.asg (.c (.d (.bool false))))]
def o_law09_StreamLines_1 : List AOp := [
 aQ 8 (.callZ (.f f_law09_shown) []),
 aQ 3 (.asg (.t 8))]
def o_law09_StreamLines_2 : List AOp := [
 aQ 9 (.mov (.t 0)),
 aQ 10 (.call (.f f_ref07_Long) [.t 9]),
 aQ 11 (.bin .gtr (.t 10) (.c (.nat .i64 500)))]
def o_law09_StreamLines_3 : List AOp := [
 aQ 12 (.mov (.t 3)),
 aQ 2 (.asg (.t 12))]
def o_law09_StreamLines_4 : List AOp := [
 aQ 4 (.asg (.c (.d (.str []))))]
def o_law09_StreamLines_5 : List AOp := [
 aQ 5 (.asg (.c (.nat .i64 0)))]
def o_law09_StreamLines_6 : List AOp := [
 aQ 13 (.mov (.t 5)),
 aQ 14 (.mov (.t 0)),
 aQ 15 (.len (.t 14)),
 aQ 16 (.bin .lss (.t 13) (.t 15))]
def o_law09_StreamLines_8 : List AOp := [
 aQ 6 (.asg (.c (.nat .i64 0)))]
def o_law09_StreamLines_9 : List AOp := [
 aQ 19 (.mov (.t 6)),
 aQ 20 (.mov (.t 0)),
 aQ 21 (.mov (.t 5)),
 aQ 22 (.idxA none 1 (.t 20) (.t 21)),
 aQ 23 (.load none (.t 22)),
 aQ 24 (.lenS (.t 23)),
 aQ 25 (.bin .lss (.t 19) (.t 24))]
def o_law09_StreamLines_11 : List AOp := [
 aQ 28 (.mov (.t 0)),
 aQ 29 (.mov (.t 5)),
 aQ 30 (.idxA none 1 (.t 28) (.t 29)),
 aQ 31 (.load none (.t 30)),
 aQ 32 (.mov (.t 6)),
 aQ 33 (.idxS (.t 31) (.t 32)),
 aQ 34 (.bin .eql (.t 33) (.c (.nat .u8 10)))]
def o_law09_StreamLines_12 : List AOp := [
 aQ 35 (.mov (.t 3)),
 aQ 2 (.asg (.t 35))]
def o_law09_StreamLines_10 : List AOp := [
 aQ 26 (.mov (.t 6)),
 aQ 27 (.bin .add (.t 26) (.c (.nat .i64 1))),
 aQ 6 (.asg (.t 27))]
def b_law09_StreamLines_0 : AC := (.seq (.seq (.ops o_law09_StreamLines_9)
 (.cond (.t 25) .skip (.exit 2)))
 (.seq (.trim [0, 3, 4, 5, 6] (.block 3 (.seq (.ops o_law09_StreamLines_11)
 (.cond (.t 34) (.seq (.ops o_law09_StreamLines_12)
 .ret) .skip))))
 (.ops o_law09_StreamLines_10)))
def o_law09_StreamLines_13 : List AOp := [
 aQ 36 (.mov (.t 4)),
 aQ 37 (.mov (.t 0)),
 aQ 38 (.mov (.t 5)),
 aQ 39 (.idxA none 1 (.t 37) (.t 38)),
 aQ 40 (.load none (.t 39)),
 aQ 41 (.bin .add (.t 36) (.t 40)),
 aQ 42 (.bin .add (.t 41) (.c (.d (.str [10])))),
 aQ 4 (.asg (.t 42))]
def o_law09_StreamLines_7 : List AOp := [
 aQ 17 (.mov (.t 5)),
 aQ 18 (.bin .add (.t 17) (.c (.nat .i64 1))),
 aQ 5 (.asg (.t 18))]
def b_law09_StreamLines_1 : AC := (.seq (.seq (.ops o_law09_StreamLines_6)
 (.cond (.t 16) .skip (.exit 0)))
 (.seq (.trim [0, 3, 4, 5] (.block 1 (.seq (.seq (.ops o_law09_StreamLines_8)
 (.trim [0, 3, 4, 5] (.block 2 (.loop [0, 3, 4, 5, 6] b_law09_StreamLines_0))))
 (.ops o_law09_StreamLines_13))))
 (.ops o_law09_StreamLines_7)))
def o_law09_StreamLines_14 : List AOp := [
 aQ 43 (.mov (.t 0)),
 aQ 44 (.len (.t 43)),
 aQ 7 (.asg (.t 44))]
def o_law09_StreamLines_15 : List AOp := [
 aQ 45 (.mov (.t 7)),
 aQ 46 (.bin .gtr (.t 45) (.c (.nat .i64 0))),
 aQ 47 (.mov (.t 46)),
 gQ 48 (.mov (.t 0)) 47 true,
 gQ 49 (.mov (.t 7)) 47 true,
 gQ 50 (.bin .sub (.t 49) (.c (.nat .i64 1))) 47 true,
 gQ 51 (.idxA none 1 (.t 48) (.t 50)) 47 true,
 gQ 52 (.load none (.t 51)) 47 true,
 gQ 53 (.bin .neq (.t 52) (.c (.d (.str [])))) 47 true,
 aQ 54 (.pick (.t 47) (.t 53) (.c (.d (.bool false)))),
 aQ 55 (.mov (.t 54)),
 gQ 56 (.mov (.t 4)) 55 true,
 gQ 57 (.mov (.t 4)) 55 true,
 gQ 58 (.lenS (.t 57)) 55 true,
 gQ 59 (.bin .sub (.t 58) (.c (.nat .i64 1))) 55 true,
 gQ 60 (.sliceS (.t 56) none (some (.t 59))) 55 true,
 gQ 61 (.call (.f f_stream_Lines) [.t 60]) 55 true,
 gQ 62 (.mov (.t 0)) 55 true,
 gQ 63 (.call (.f f_ref07_Same) [.t 61, .t 62]) 55 true,
 gQ 64 (.un .not (.t 63)) 55 true,
 aQ 65 (.pick (.t 55) (.t 64) (.c (.d (.bool false))))]
def o_law09_StreamLines_16 : List AOp := [
 aQ 2 (.asg (.c (.d (.bool false))))]
def o_law09_StreamLines_17 : List AOp := [
 aQ 66 (.mov (.t 3)),
 aQ 67 (.mov (.t 66)),
 gQ 68 (.mov (.t 4)) 67 true,
 gQ 69 (.call (.f f_stream_Lines) [.t 68]) 67 true,
 gQ 70 (.mov (.t 0)) 67 true,
 gQ 71 (.call (.f f_ref07_Same) [.t 69, .t 70]) 67 true,
 aQ 72 (.pick (.t 67) (.t 71) (.c (.d (.bool false)))),
 aQ 2 (.asg (.t 72))]
def c_law09_StreamLines : AC :=
 (.seq (.ops o_law09_StreamLines_0)
 (.seq (.ops o_law09_StreamLines_1)
 (.seq (.seq (.ops o_law09_StreamLines_2)
 (.cond (.t 11) (.seq (.ops o_law09_StreamLines_3)
 .ret) .skip))
 (.seq (.ops o_law09_StreamLines_4)
 (.seq (.seq (.ops o_law09_StreamLines_5)
 (.trim [0, 3, 4] (.block 0 (.loop [0, 3, 4, 5] b_law09_StreamLines_1))))
 (.seq (.ops o_law09_StreamLines_14)
 (.seq (.seq (.ops o_law09_StreamLines_15)
 (.cond (.t 65) (.seq (.ops o_law09_StreamLines_16)
 .ret) .skip))
 (.seq (.ops o_law09_StreamLines_17)
 .ret))))))))
def a_law09_StreamLines : AFn := { body := c_law09_StreamLines, res := [.tmp 2] }
def o_law09_StreamQuits_0 : List AOp := [
 aQ 4 (.asg (.c (.d (.bool false))))]
def o_law09_StreamQuits_1 : List AOp := [
 aQ 16 (.callZ (.f f_law09_shown) []),
 aQ 5 (.asg (.t 16))]
def o_law09_StreamQuits_2 : List AOp := [
 aQ 17 (.mov (.t 0)),
 aQ 18 (.call (.f f_ref07_Long) [.t 17]),
 aQ 19 (.bin .gtr (.t 18) (.c (.nat .i64 200))),
 aQ 20 (.mov (.t 19)),
 gQ 21 (.mov (.t 1)) 20 false,
 gQ 22 (.bin .lss (.t 21) (.c (.nat .i64 1))) 20 false,
 aQ 23 (.pick (.t 20) (.c (.d (.bool true))) (.t 22)),
 aQ 24 (.mov (.t 23)),
 gQ 25 (.mov (.t 1)) 24 false,
 gQ 26 (.mov (.t 0)) 24 false,
 gQ 27 (.len (.t 26)) 24 false,
 gQ 28 (.bin .gtr (.t 25) (.t 27)) 24 false,
 aQ 29 (.pick (.t 24) (.c (.d (.bool true))) (.t 28))]
def o_law09_StreamQuits_3 : List AOp := [
 aQ 30 (.mov (.t 5)),
 aQ 4 (.asg (.t 30))]
def o_law09_StreamQuits_4 : List AOp := [
 aQ 31 (.mov (.t 1)),
 aQ 32 (.build [.nat .i64 0, .nat .i64 0, .nil] [(0, 1, (.c (.nat .i64 1))), (1, 1, (.t 31))]),
 aQ 6 (.alloc [.nat .i64 0, .nat .i64 0, .nil]),
 { dst := none, op := .store 3 (.t 6) (.t 32) }]
def o_law09_StreamQuits_5 : List AOp := [
 aQ 34 (.load (some 3) (.t 6)),
 aQ 35 (.build [.nat .u8 0, .nat .i64 0, .nat .i64 0, .nil, .nat .i64 0, .nat .i64 0, .nil, .d (.bool false), .nil, .nil, .d (.bool false), .d (.bool false), .d (.str [])] [(0, 1, (.c (.nat .u8 113))), (1, 3, (.t 34))]),
 aQ 36 (.mkls 13 [.nat .u8 0, .nat .i64 0, .nat .i64 0, .nil, .nat .i64 0, .nat .i64 0, .nil, .d (.bool false), .nil, .nil, .d (.bool false), .d (.bool false), .d (.str [])] [(0, 13, (.t 35))]),
 aQ 37 (.mov (.t 0)),
 aQ 38 (.call (.f f_stream_Run) [.t 36, .t 37, .c (.d (.bool false)), .c (.nat .i64 1000)]),
 aQ 33 (.mov (.t 38)),
 aQ 39 (.extr (.t 33) 0),
 aQ 40 (.extr (.t 33) 1),
 aQ 41 (.extr (.t 33) 2),
 aQ 7 (.asg (.t 39)),
 aQ 8 (.asg (.t 40)),
 aQ 9 (.asg (.t 41))]
def o_law09_StreamQuits_6 : List AOp := [
 aQ 43 (.load (some 3) (.t 6)),
 aQ 44 (.build [.nat .u8 0, .nat .i64 0, .nat .i64 0, .nil, .nat .i64 0, .nat .i64 0, .nil, .d (.bool false), .nil, .nil, .d (.bool false), .d (.bool false), .d (.str [])] [(0, 1, (.c (.nat .u8 100))), (1, 3, (.t 43)), (7, 1, (.c (.d (.bool true))))]),
 aQ 45 (.mkls 13 [.nat .u8 0, .nat .i64 0, .nat .i64 0, .nil, .nat .i64 0, .nat .i64 0, .nil, .d (.bool false), .nil, .nil, .d (.bool false), .d (.bool false), .d (.str [])] [(0, 13, (.t 44))]),
 aQ 46 (.mov (.t 0)),
 aQ 47 (.call (.f f_stream_Run) [.t 45, .t 46, .c (.d (.bool false)), .c (.nat .i64 1000)]),
 aQ 42 (.mov (.t 47)),
 aQ 48 (.extr (.t 42) 0),
 aQ 49 (.extr (.t 42) 1),
 aQ 50 (.extr (.t 42) 2),
 aQ 10 (.asg (.t 48)),
 aQ 11 (.asg (.t 49)),
 aQ 12 (.asg (.t 50))]
def o_law09_StreamQuits_7 : List AOp := [
 aQ 52 (.load (some 3) (.t 6)),
 aQ 53 (.build [.nat .u8 0, .nat .i64 0, .nat .i64 0, .nil, .nat .i64 0, .nat .i64 0, .nil, .d (.bool false), .nil, .nil, .d (.bool false), .d (.bool false), .d (.str [])] [(0, 1, (.c (.nat .u8 112))), (1, 3, (.t 52))]),
 aQ 54 (.mkls 13 [.nat .u8 0, .nat .i64 0, .nat .i64 0, .nil, .nat .i64 0, .nat .i64 0, .nil, .d (.bool false), .nil, .nil, .d (.bool false), .d (.bool false), .d (.str [])] [(0, 13, (.t 53))]),
 aQ 55 (.mov (.t 0)),
 aQ 56 (.call (.f f_stream_Run) [.t 54, .t 55, .c (.d (.bool true)), .c (.nat .i64 1000)]),
 aQ 51 (.mov (.t 56)),
 aQ 57 (.extr (.t 51) 0),
 aQ 58 (.extr (.t 51) 1),
 aQ 59 (.extr (.t 51) 2),
 aQ 13 (.asg (.t 57)),
 aQ 14 (.asg (.t 58)),
 aQ 15 (.asg (.t 59))]
def o_law09_StreamQuits_8 : List AOp := [
 aQ 60 (.mov (.t 9)),
 aQ 61 (.bin .neq (.t 60) (.c (.nat .i64 0))),
 aQ 62 (.mov (.t 61)),
 gQ 63 (.mov (.t 12)) 62 false,
 gQ 64 (.bin .neq (.t 63) (.c (.nat .i64 0))) 62 false,
 aQ 65 (.pick (.t 62) (.c (.d (.bool true))) (.t 64)),
 aQ 66 (.mov (.t 65)),
 gQ 67 (.mov (.t 15)) 66 false,
 gQ 68 (.bin .neq (.t 67) (.c (.nat .i64 0))) 66 false,
 aQ 69 (.pick (.t 66) (.c (.d (.bool true))) (.t 68)),
 aQ 70 (.mov (.t 69)),
 gQ 71 (.mov (.t 10)) 70 false,
 gQ 72 (.len (.t 71)) 70 false,
 gQ 73 (.bin .neq (.t 72) (.c (.nat .i64 1))) 70 false,
 aQ 74 (.pick (.t 70) (.c (.d (.bool true))) (.t 73)),
 aQ 75 (.mov (.t 74)),
 gQ 76 (.mov (.t 13)) 75 false,
 gQ 77 (.len (.t 76)) 75 false,
 gQ 78 (.bin .neq (.t 77) (.c (.nat .i64 1))) 75 false,
 aQ 79 (.pick (.t 75) (.c (.d (.bool true))) (.t 78))]
def o_law09_StreamQuits_9 : List AOp := [
 aQ 4 (.asg (.c (.d (.bool false))))]
def o_law09_StreamQuits_10 : List AOp := [
 aQ 80 (.mov (.t 5)),
 aQ 81 (.mov (.t 80)),
 hQ 82 (.mov (.t 7)) 81 true,
 hQ 83 (.mov (.t 0)) 81 true,
 hQ 84 (.mov (.t 1)) 81 true,
 hQ 85 (.slice 1 (.t 83) none (some (.t 84))) 81 true,
 gQ 86 (.call (.f f_ref07_Same) [.t 82, .t 85]) 81 true,
 aQ 87 (.pick (.t 81) (.t 86) (.c (.d (.bool false)))),
 aQ 88 (.mov (.t 87)),
 hQ 89 (.mov (.t 10)) 88 true,
 hQ 90 (.idxA none 1 (.t 89) (.c (.nat .i64 0))) 88 true,
 hQ 91 (.load none (.t 90)) 88 true,
 hQ 92 (.mov (.t 0)) 88 true,
 hQ 93 (.mov (.t 1)) 88 true,
 hQ 94 (.bin .sub (.t 93) (.c (.nat .i64 1))) 88 true,
 hQ 95 (.idxA none 1 (.t 92) (.t 94)) 88 true,
 hQ 96 (.load none (.t 95)) 88 true,
 gQ 97 (.bin .eql (.t 91) (.t 96)) 88 true,
 aQ 98 (.pick (.t 88) (.t 97) (.c (.d (.bool false)))),
 aQ 99 (.mov (.t 98)),
 hQ 100 (.mov (.t 13)) 99 true,
 hQ 101 (.idxA none 1 (.t 100) (.c (.nat .i64 0))) 99 true,
 hQ 102 (.load none (.t 101)) 99 true,
 hQ 103 (.mov (.t 0)) 99 true,
 hQ 104 (.mov (.t 1)) 99 true,
 hQ 105 (.bin .sub (.t 104) (.c (.nat .i64 1))) 99 true,
 hQ 106 (.idxA none 1 (.t 103) (.t 105)) 99 true,
 hQ 107 (.load none (.t 106)) 99 true,
 gQ 108 (.bin .eql (.t 102) (.t 107)) 99 true,
 aQ 109 (.pick (.t 99) (.t 108) (.c (.d (.bool false)))),
 aQ 4 (.asg (.t 109))]
def c_law09_StreamQuits : AC :=
 (.seq (.ops o_law09_StreamQuits_0)
 (.seq (.ops o_law09_StreamQuits_1)
 (.seq (.seq (.ops o_law09_StreamQuits_2)
 (.cond (.t 29) (.seq (.ops o_law09_StreamQuits_3)
 .ret) .skip))
 (.seq (.ops o_law09_StreamQuits_4)
 (.seq (.ops o_law09_StreamQuits_5)
 (.seq (.ops o_law09_StreamQuits_6)
 (.seq (.ops o_law09_StreamQuits_7)
 (.seq (.seq (.ops o_law09_StreamQuits_8)
 (.cond (.t 79) (.seq (.ops o_law09_StreamQuits_9)
 .ret) .skip))
 (.seq (.ops o_law09_StreamQuits_10)
 .ret)))))))))
def a_law09_StreamQuits : AFn := { body := c_law09_StreamQuits, res := [.tmp 4] }
def o_law09_StreamHolds_0 : List AOp := [
 aQ 2 (.asg (.c (.d (.bool false))))]
def o_law09_StreamHolds_1 : List AOp := [
 aQ 15 (.callZ (.f f_law09_shown) []),
 aQ 3 (.asg (.t 15))]
def o_law09_StreamHolds_2 : List AOp := [
 aQ 16 (.mov (.t 0)),
 aQ 17 (.call (.f f_ref07_Long) [.t 16]),
 aQ 18 (.bin .gtr (.t 17) (.c (.nat .i64 200))),
 aQ 19 (.mov (.t 18)),
 gQ 20 (.mov (.t 0)) 19 false,
 gQ 21 (.len (.t 20)) 19 false,
 gQ 22 (.bin .eql (.t 21) (.c (.nat .i64 0))) 19 false,
 aQ 23 (.pick (.t 19) (.c (.d (.bool true))) (.t 22))]
def o_law09_StreamHolds_3 : List AOp := [
 aQ 24 (.mov (.t 3)),
 aQ 2 (.asg (.t 24))]
def o_law09_StreamHolds_4 : List AOp := [
 aQ 4 (.asg (.c (.d (.str []))))]
def o_law09_StreamHolds_5 : List AOp := [
 aQ 5 (.asg (.c (.nat .i64 0)))]
def o_law09_StreamHolds_6 : List AOp := [
 aQ 25 (.mov (.t 5)),
 aQ 26 (.mov (.t 0)),
 aQ 27 (.len (.t 26)),
 aQ 28 (.bin .lss (.t 25) (.t 27))]
def o_law09_StreamHolds_8 : List AOp := [
 aQ 6 (.asg (.c (.nat .i64 0)))]
def o_law09_StreamHolds_9 : List AOp := [
 aQ 31 (.mov (.t 6)),
 aQ 32 (.mov (.t 0)),
 aQ 33 (.mov (.t 5)),
 aQ 34 (.idxA none 1 (.t 32) (.t 33)),
 aQ 35 (.load none (.t 34)),
 aQ 36 (.lenS (.t 35)),
 aQ 37 (.bin .lss (.t 31) (.t 36))]
def o_law09_StreamHolds_11 : List AOp := [
 aQ 40 (.mov (.t 0)),
 aQ 41 (.mov (.t 5)),
 aQ 42 (.idxA none 1 (.t 40) (.t 41)),
 aQ 43 (.load none (.t 42)),
 aQ 44 (.mov (.t 6)),
 aQ 45 (.idxS (.t 43) (.t 44)),
 aQ 46 (.bin .eql (.t 45) (.c (.nat .u8 10)))]
def o_law09_StreamHolds_12 : List AOp := [
 aQ 47 (.mov (.t 3)),
 aQ 2 (.asg (.t 47))]
def o_law09_StreamHolds_10 : List AOp := [
 aQ 38 (.mov (.t 6)),
 aQ 39 (.bin .add (.t 38) (.c (.nat .i64 1))),
 aQ 6 (.asg (.t 39))]
def b_law09_StreamHolds_0 : AC := (.seq (.seq (.ops o_law09_StreamHolds_9)
 (.cond (.t 37) .skip (.exit 2)))
 (.seq (.trim [0, 3, 4, 5, 6] (.block 3 (.seq (.ops o_law09_StreamHolds_11)
 (.cond (.t 46) (.seq (.ops o_law09_StreamHolds_12)
 .ret) .skip))))
 (.ops o_law09_StreamHolds_10)))
def o_law09_StreamHolds_13 : List AOp := [
 aQ 48 (.mov (.t 0)),
 aQ 49 (.mov (.t 5)),
 aQ 50 (.idxA none 1 (.t 48) (.t 49)),
 aQ 51 (.load none (.t 50)),
 aQ 52 (.bin .add (.t 51) (.c (.d (.str [10])))),
 aQ 53 (.mov (.t 4)),
 aQ 54 (.bin .add (.t 52) (.t 53)),
 aQ 4 (.asg (.t 54))]
def o_law09_StreamHolds_7 : List AOp := [
 aQ 29 (.mov (.t 5)),
 aQ 30 (.bin .add (.t 29) (.c (.nat .i64 1))),
 aQ 5 (.asg (.t 30))]
def b_law09_StreamHolds_1 : AC := (.seq (.seq (.ops o_law09_StreamHolds_6)
 (.cond (.t 28) .skip (.exit 0)))
 (.seq (.trim [0, 3, 4, 5] (.block 1 (.seq (.seq (.ops o_law09_StreamHolds_8)
 (.trim [0, 3, 4, 5] (.block 2 (.loop [0, 3, 4, 5, 6] b_law09_StreamHolds_0))))
 (.ops o_law09_StreamHolds_13))))
 (.ops o_law09_StreamHolds_7)))
def o_law09_StreamHolds_14 : List AOp := [
 aQ 55 (.build [.nat .i64 0, .nat .i64 0, .nil] [(0, 1, (.c (.nat .i64 1))), (1, 1, (.c (.nat .i64 1)))]),
 aQ 7 (.alloc [.nat .i64 0, .nat .i64 0, .nil]),
 { dst := none, op := .store 3 (.t 7) (.t 55) }]
def o_law09_StreamHolds_15 : List AOp := [
 aQ 56 (.build [.nat .i64 0, .nat .i64 0, .nil] [(0, 1, (.c (.nat .i64 2)))]),
 aQ 8 (.alloc [.nat .i64 0, .nat .i64 0, .nil]),
 { dst := none, op := .store 3 (.t 8) (.t 56) }]
def o_law09_StreamHolds_16 : List AOp := [
 aQ 58 (.load (some 3) (.t 7)),
 aQ 59 (.build [.nat .u8 0, .nat .i64 0, .nat .i64 0, .nil, .nat .i64 0, .nat .i64 0, .nil, .d (.bool false), .nil, .nil, .d (.bool false), .d (.bool false), .d (.str [])] [(0, 1, (.c (.nat .u8 71))), (1, 3, (.t 58)), (7, 1, (.c (.d (.bool true))))]),
 aQ 60 (.build [.nat .u8 0, .nat .i64 0, .nat .i64 0, .nil, .nat .i64 0, .nat .i64 0, .nil, .d (.bool false), .nil, .nil, .d (.bool false), .d (.bool false), .d (.str [])] [(0, 1, (.c (.nat .u8 104)))]),
 aQ 61 (.load (some 3) (.t 8)),
 aQ 62 (.build [.nat .u8 0, .nat .i64 0, .nat .i64 0, .nil, .nat .i64 0, .nat .i64 0, .nil, .d (.bool false), .nil, .nil, .d (.bool false), .d (.bool false), .d (.str [])] [(0, 1, (.c (.nat .u8 100))), (1, 3, (.t 61)), (7, 1, (.c (.d (.bool true))))]),
 aQ 63 (.mkls 13 [.nat .u8 0, .nat .i64 0, .nat .i64 0, .nil, .nat .i64 0, .nat .i64 0, .nil, .d (.bool false), .nil, .nil, .d (.bool false), .d (.bool false), .d (.str []), .nat .u8 0, .nat .i64 0, .nat .i64 0, .nil, .nat .i64 0, .nat .i64 0, .nil, .d (.bool false), .nil, .nil, .d (.bool false), .d (.bool false), .d (.str []), .nat .u8 0, .nat .i64 0, .nat .i64 0, .nil, .nat .i64 0, .nat .i64 0, .nil, .d (.bool false), .nil, .nil, .d (.bool false), .d (.bool false), .d (.str [])] [(0, 13, (.t 59)), (13, 13, (.t 60)), (26, 13, (.t 62))]),
 aQ 64 (.mov (.t 0)),
 aQ 65 (.call (.f f_stream_Run) [.t 63, .t 64, .c (.d (.bool false)), .c (.nat .i64 1500)]),
 aQ 57 (.mov (.t 65)),
 aQ 66 (.extr (.t 57) 0),
 aQ 67 (.extr (.t 57) 1),
 aQ 68 (.extr (.t 57) 2),
 aQ 9 (.asg (.t 66)),
 aQ 10 (.asg (.t 67)),
 aQ 11 (.asg (.t 68))]
def o_law09_StreamHolds_17 : List AOp := [
 aQ 70 (.build [.nat .u8 0, .nat .i64 0, .nat .i64 0, .nil, .nat .i64 0, .nat .i64 0, .nil, .d (.bool false), .nil, .nil, .d (.bool false), .d (.bool false), .d (.str [])] [(0, 1, (.c (.nat .u8 104)))]),
 aQ 71 (.build [.nat .u8 0, .nat .i64 0, .nat .i64 0, .nil, .nat .i64 0, .nat .i64 0, .nil, .d (.bool false), .nil, .nil, .d (.bool false), .d (.bool false), .d (.str [])] [(0, 1, (.c (.nat .u8 120)))]),
 aQ 72 (.build [.nat .u8 0, .nat .i64 0, .nat .i64 0, .nil, .nat .i64 0, .nat .i64 0, .nil, .d (.bool false), .nil, .nil, .d (.bool false), .d (.bool false), .d (.str [])] [(0, 1, (.c (.nat .u8 103)))]),
 aQ 73 (.mkls 13 [.nat .u8 0, .nat .i64 0, .nat .i64 0, .nil, .nat .i64 0, .nat .i64 0, .nil, .d (.bool false), .nil, .nil, .d (.bool false), .d (.bool false), .d (.str []), .nat .u8 0, .nat .i64 0, .nat .i64 0, .nil, .nat .i64 0, .nat .i64 0, .nil, .d (.bool false), .nil, .nil, .d (.bool false), .d (.bool false), .d (.str []), .nat .u8 0, .nat .i64 0, .nat .i64 0, .nil, .nat .i64 0, .nat .i64 0, .nil, .d (.bool false), .nil, .nil, .d (.bool false), .d (.bool false), .d (.str [])] [(0, 13, (.t 70)), (13, 13, (.t 71)), (26, 13, (.t 72))]),
 aQ 74 (.mov (.t 0)),
 aQ 75 (.call (.f f_stream_Run) [.t 73, .t 74, .c (.d (.bool false)), .c (.nat .i64 1500)]),
 aQ 69 (.mov (.t 75)),
 aQ 76 (.extr (.t 69) 0),
 aQ 77 (.extr (.t 69) 1),
 aQ 78 (.extr (.t 69) 2),
 aQ 12 (.asg (.t 76)),
 aQ 13 (.asg (.t 77)),
 aQ 14 (.asg (.t 78))]
def o_law09_StreamHolds_18 : List AOp := [
 aQ 79 (.mov (.t 3)),
 aQ 80 (.mov (.t 79)),
 gQ 81 (.mov (.t 11)) 80 true,
 gQ 82 (.bin .eql (.t 81) (.c (.nat .i64 0))) 80 true,
 aQ 83 (.pick (.t 80) (.t 82) (.c (.d (.bool false)))),
 aQ 84 (.mov (.t 83)),
 gQ 85 (.mov (.t 14)) 84 true,
 gQ 86 (.bin .eql (.t 85) (.c (.nat .i64 0))) 84 true,
 aQ 87 (.pick (.t 84) (.t 86) (.c (.d (.bool false)))),
 aQ 88 (.mov (.t 87)),
 gQ 89 (.mov (.t 9)) 88 true,
 gQ 90 (.len (.t 89)) 88 true,
 gQ 91 (.bin .eql (.t 90) (.c (.nat .i64 1))) 88 true,
 aQ 92 (.pick (.t 88) (.t 91) (.c (.d (.bool false)))),
 aQ 93 (.mov (.t 92)),
 gQ 94 (.mov (.t 9)) 93 true,
 gQ 95 (.idxA none 1 (.t 94) (.c (.nat .i64 0))) 93 true,
 gQ 96 (.load none (.t 95)) 93 true,
 gQ 97 (.bin .add (.t 96) (.c (.d (.str [10])))) 93 true,
 gQ 98 (.mov (.t 4)) 93 true,
 gQ 99 (.bin .eql (.t 97) (.t 98)) 93 true,
 aQ 100 (.pick (.t 93) (.t 99) (.c (.d (.bool false)))),
 aQ 101 (.mov (.t 100)),
 gQ 102 (.mov (.t 12)) 101 true,
 gQ 103 (.mov (.t 0)) 101 true,
 gQ 104 (.call (.f f_ref07_Same) [.t 102, .t 103]) 101 true,
 aQ 105 (.pick (.t 101) (.t 104) (.c (.d (.bool false)))),
 aQ 2 (.asg (.t 105))]
def c_law09_StreamHolds : AC :=
 (.seq (.ops o_law09_StreamHolds_0)
 (.seq (.ops o_law09_StreamHolds_1)
 (.seq (.seq (.ops o_law09_StreamHolds_2)
 (.cond (.t 23) (.seq (.ops o_law09_StreamHolds_3)
 .ret) .skip))
 (.seq (.ops o_law09_StreamHolds_4)
 (.seq (.seq (.ops o_law09_StreamHolds_5)
 (.trim [0, 3, 4] (.block 0 (.loop [0, 3, 4, 5] b_law09_StreamHolds_1))))
 (.seq (.ops o_law09_StreamHolds_14)
 (.seq (.ops o_law09_StreamHolds_15)
 (.seq (.ops o_law09_StreamHolds_16)
 (.seq (.ops o_law09_StreamHolds_17)
 (.seq (.ops o_law09_StreamHolds_18)
 .ret))))))))))
def a_law09_StreamHolds : AFn := { body := c_law09_StreamHolds, res := [.tmp 2] }
def o_law09_shown_0 : List AOp := [
 aQ 0 (.asg (.c (.d (.bool false))))]
def o_law09_shown_1 : List AOp := [
 aQ 5 (.call (.f f_stream_Text) [.c (.d (.str [97, 10, 98, 10])), .c (.d (.str [49, 100])), .c (.d (.bool false)), .c (.nat .i64 10)]),
 aQ 4 (.mov (.t 5)),
 aQ 6 (.extr (.t 4) 0),
 aQ 7 (.extr (.t 4) 1),
 aQ 8 (.extr (.t 4) 2),
 aQ 1 (.asg (.t 6)),
 aQ 2 (.asg (.t 7)),
 aQ 3 (.asg (.t 8))]
def o_law09_shown_2 : List AOp := [
 aQ 9 (.mov (.t 1)),
 aQ 10 (.bin .eql (.t 9) (.c (.d (.str [98, 10])))),
 aQ 11 (.mov (.t 10)),
 gQ 12 (.mov (.t 2)) 11 true,
 gQ 13 (.bin .eql (.t 12) (.c (.nat .i64 6))) 11 true,
 aQ 14 (.pick (.t 11) (.t 13) (.c (.d (.bool false)))),
 aQ 15 (.mov (.t 14)),
 gQ 16 (.mov (.t 3)) 15 true,
 gQ 17 (.bin .eql (.t 16) (.c (.nat .i64 0))) 15 true,
 aQ 18 (.pick (.t 15) (.t 17) (.c (.d (.bool false)))),
 aQ 19 (.mov (.t 18)),
 gQ 20 (.call (.f f_stream_Lines) [.c (.d (.str [97, 10, 10, 98]))]) 19 true,
 gQ 21 (.len (.t 20)) 19 true,
 gQ 22 (.bin .eql (.t 21) (.c (.nat .i64 3))) 19 true,
 aQ 23 (.pick (.t 19) (.t 22) (.c (.d (.bool false)))),
 aQ 0 (.asg (.t 23))]
def c_law09_shown : AC :=
 (.seq (.ops o_law09_shown_0)
 (.seq (.ops o_law09_shown_1)
 (.seq (.ops o_law09_shown_2)
 .ret)))
def a_law09_shown : AFn := { body := c_law09_shown, res := [.tmp 0] }
def o_stream_Run_0 : List AOp := [
 aQ 8 (.asg (.c (.nil))),
 aQ 9 (.asg (.c (.nat .i64 0))),
 aQ 10 (.asg (.c (.nat .i64 0)))]
def o_stream_Run_1 : List AOp := [
 aQ 14 (.mov (.t 0)),
 aQ 15 (.mov (.t 1)),
 aQ 16 (.mov (.t 2)),
 aQ 17 (.mov (.t 3)),
 aQ 18 (.mov (.t 0)),
 aQ 19 (.len (.t 18)),
 aQ 20 (.mkS (.d (.bool false)) (.t 19)),
 aQ 21 (.build [.d (.str []), .d (.str []), .nil, .nil, .nat .i64 0, .d (.bool false), .nat .i64 0, .nil, .d (.bool false), .nil, .nat .i64 0, .d (.bool false), .nat .i64 0] [(2, 1, (.t 14)), (3, 1, (.t 15)), (5, 1, (.t 16)), (6, 1, (.t 17)), (7, 1, (.t 20))]),
 aQ 22 (.box (.t 21)),
 aQ 11 (.asg (.t 22))]
def o_stream_Run_2 : List AOp := [
 aQ 23 (.mov (.t 11)),
 aQ 24 (.call (.f f_stream_machine_does) [.t 23]),
 aQ 12 (.asg (.t 24))]
def o_stream_Run_3 : List AOp := [
 aQ 25 (.mov (.t 11)),
 aQ 26 (.nilchk (.t 25)),
 aQ 27 (.fldA 4 (.t 26)),
 aQ 28 (.load none (.t 27)),
 aQ 29 (.mov (.t 1)),
 aQ 30 (.len (.t 29)),
 aQ 31 (.bin .lss (.t 28) (.t 30))]
def o_stream_Run_4 : List AOp := [
 aQ 32 (.mov (.t 11)),
 aQ 33 (.call (.f f_stream_machine_burn) [.t 32]),
 aQ 34 (.un .not (.t 33))]
def o_stream_Run_5 : List AOp := [
 aQ 35 (.mov (.t 11)),
 aQ 36 (.mov (.t 11)),
 aQ 37 (.mov (.t 1)),
 aQ 38 (.mov (.t 11)),
 aQ 39 (.nilchk (.t 38)),
 aQ 40 (.fldA 4 (.t 39)),
 aQ 41 (.load none (.t 40)),
 aQ 42 (.idxA none 1 (.t 37) (.t 41)),
 aQ 43 (.load none (.t 42)),
 aQ 44 (.nilchk (.t 35)),
 aQ 45 (.fldA 0 (.t 44)),
 aQ 46 (.fldA 0 (.t 45)),
 { dst := none, op := .store 1 (.t 46) (.t 43) },
 aQ 47 (.nilchk (.t 36)),
 aQ 48 (.fldA 8 (.t 47)),
 { dst := none, op := .store 1 (.t 48) (.c (.d (.bool false))) }]
def o_stream_Run_6 : List AOp := [
 aQ 49 (.mov (.t 11)),
 aQ 50 (.nilchk (.t 49)),
 aQ 51 (.fldA 4 (.t 50)),
 aQ 52 (.load none (.t 51)),
 aQ 53 (.bin .add (.t 52) (.c (.nat .i64 1))),
 aQ 54 (.nilchk (.t 49)),
 aQ 55 (.fldA 4 (.t 54)),
 { dst := none, op := .store 1 (.t 55) (.t 53) }]
def o_stream_Run_7 : List AOp := [
 aQ 56 (.mov (.t 11)),
 aQ 57 (.nilchk (.t 56)),
 aQ 58 (.fldA 10 (.t 57)),
 { dst := none, op := .store 1 (.t 58) (.c (.nat .i64 0)) }]
def o_stream_Run_8 : List AOp := [
 aQ 59 (.mov (.t 11)),
 aQ 60 (.nilchk (.t 59)),
 aQ 61 (.fldA 10 (.t 60)),
 aQ 62 (.load none (.t 61)),
 aQ 63 (.mov (.t 0)),
 aQ 64 (.len (.t 63)),
 aQ 65 (.bin .lss (.t 62) (.t 64))]
def o_stream_Run_9 : List AOp := [
 aQ 66 (.mov (.t 11)),
 aQ 67 (.call (.f f_stream_machine_burn) [.t 66]),
 aQ 68 (.un .not (.t 67))]
def o_stream_Run_10 : List AOp := [
 aQ 69 (.mov (.t 11)),
 aQ 70 (.nilchk (.t 69)),
 aQ 71 (.fldA 10 (.t 70)),
 aQ 72 (.load none (.t 71)),
 aQ 13 (.asg (.t 72))]
def o_stream_Run_11 : List AOp := [
 aQ 73 (.mov (.t 11)),
 aQ 74 (.nilchk (.t 73)),
 aQ 75 (.fldA 10 (.t 74)),
 aQ 76 (.load none (.t 75)),
 aQ 77 (.bin .add (.t 76) (.c (.nat .i64 1))),
 aQ 78 (.nilchk (.t 73)),
 aQ 79 (.fldA 10 (.t 78)),
 { dst := none, op := .store 1 (.t 79) (.t 77) }]
def o_stream_Run_12 : List AOp := [
 aQ 80 (.mov (.t 11)),
 aQ 81 (.mov (.t 13)),
 aQ 82 (.call (.f f_stream_machine_meant) [.t 80, .t 81])]
def o_stream_Run_13 : List AOp := [
 mQ 83 (.mov (.t 12)),
 mQ 84 (.mov (.t 0)),
 mQ 85 (.mov (.t 13)),
 mQ 86 (.idxA none 13 (.t 84) (.t 85)),
 mQ 87 (.fldA 0 (.t 86)),
 mQ 88 (.load none (.t 87)),
 mQ 89 (.lookup (.int .u8) false (.d .nilF) (.t 83) (.t 88)),
 mQ 90 (.mov (.t 0)),
 mQ 91 (.mov (.t 13)),
 mQ 92 (.idxA none 13 (.t 90) (.t 91)),
 mQ 93 (.load (some 13) (.t 92)),
 aQ 94 (.call (.t 89) [.t 93])]
def o_stream_Run_14 : List AOp := [
 aQ 95 (.mov (.t 11)),
 aQ 96 (.nilchk (.t 95)),
 aQ 97 (.fldA 11 (.t 96)),
 aQ 98 (.load none (.t 97))]
def b_stream_Run_0 : AC := (.seq (.seq (.ops o_stream_Run_8)
 (.cond (.t 65) .skip (.exit 2)))
 (.trim [0, 1, 11, 12] (.block 3 (.seq (.seq (.ops o_stream_Run_9)
 (.cond (.t 68) (.exit 0) .skip))
 (.seq (.ops o_stream_Run_10)
 (.seq (.ops o_stream_Run_11)
 (.seq (.seq (.ops o_stream_Run_12)
 (.cond (.t 82) (.ops o_stream_Run_13) .skip))
 (.seq (.ops o_stream_Run_14)
 (.cond (.t 98) (.exit 0) .skip)))))))))
def o_stream_Run_15 : List AOp := [
 aQ 99 (.mov (.t 11)),
 aQ 100 (.nilchk (.t 99)),
 aQ 101 (.fldA 10 (.t 100)),
 aQ 102 (.load none (.t 101)),
 aQ 103 (.mov (.t 0)),
 aQ 104 (.len (.t 103)),
 aQ 105 (.bin .eql (.t 102) (.t 104))]
def o_stream_Run_16 : List AOp := [
 aQ 106 (.mov (.t 11)),
 aQ 107 (.call (.f f_stream_machine_tell) [.t 106])]
def b_stream_Run_1 : AC := (.seq (.seq (.ops o_stream_Run_3)
 (.cond (.t 31) .skip (.exit 0)))
 (.trim [0, 1, 11, 12] (.block 1 (.seq (.seq (.ops o_stream_Run_4)
 (.cond (.t 34) (.exit 0) .skip))
 (.seq (.ops o_stream_Run_5)
 (.seq (.ops o_stream_Run_6)
 (.seq (.ops o_stream_Run_7)
 (.seq (.trim [0, 1, 11, 12] (.block 2 (.loop [0, 1, 11, 12] b_stream_Run_0)))
 (.seq (.ops o_stream_Run_15)
 (.cond (.t 105) (.ops o_stream_Run_16) .skip))))))))))
def o_stream_Run_17 : List AOp := [
 mQ 108 (.mov (.t 11)),
 mQ 109 (.nilchk (.t 108)),
 mQ 110 (.fldA 9 (.t 109)),
 mQ 111 (.load none (.t 110)),
 mQ 112 (.mov (.t 11)),
 mQ 113 (.nilchk (.t 112)),
 mQ 114 (.fldA 6 (.t 113)),
 mQ 115 (.load none (.t 114)),
 mQ 116 (.max (.t 115) (.c (.nat .i64 0))),
 mQ 117 (.mov (.t 11)),
 mQ 118 (.nilchk (.t 117)),
 mQ 119 (.fldA 12 (.t 118)),
 mQ 120 (.load none (.t 119)),
 mQ 8 (.asg (.t 111)),
 mQ 9 (.asg (.t 116)),
 aQ 10 (.asg (.t 120))]
def c_stream_Run : AC :=
 (.seq (.ops o_stream_Run_0)
 (.scope 0 (.seq (.ops o_stream_Run_1)
 (.seq (.ops o_stream_Run_2)
 (.seq .label
 (.seq (.trim [11] (.block 0 (.loop [0, 1, 11, 12] b_stream_Run_1)))
 (.seq (.ops o_stream_Run_17)
 .ret))))) (.seq .skip
 (.seq (.trim [11] (.block 0 (.loop [0, 1, 11, 12] b_stream_Run_1)))
 (.seq (.ops o_stream_Run_17)
 .ret)))))
def a_stream_Run : AFn := { body := c_stream_Run, res := [.tmp 8, .tmp 9, .tmp 10] }
def o_ref07_Same_0 : List AOp := [
 aQ 4 (.asg (.c (.d (.bool false))))]
def o_ref07_Same_1 : List AOp := [
 aQ 6 (.mov (.t 0)),
 aQ 7 (.len (.t 6)),
 aQ 8 (.mov (.t 1)),
 aQ 9 (.len (.t 8)),
 aQ 10 (.bin .neq (.t 7) (.t 9))]
def o_ref07_Same_2 : List AOp := [
 aQ 4 (.asg (.c (.d (.bool false))))]
def o_ref07_Same_3 : List AOp := [
 aQ 5 (.asg (.c (.nat .i64 0)))]
def o_ref07_Same_4 : List AOp := [
 aQ 11 (.mov (.t 5)),
 aQ 12 (.mov (.t 0)),
 aQ 13 (.len (.t 12)),
 aQ 14 (.bin .lss (.t 11) (.t 13))]
def o_ref07_Same_6 : List AOp := [
 mQ 17 (.mov (.t 0)),
 mQ 18 (.mov (.t 5)),
 mQ 19 (.idxA none 1 (.t 17) (.t 18)),
 mQ 20 (.load none (.t 19)),
 mQ 21 (.mov (.t 1)),
 mQ 22 (.mov (.t 5)),
 mQ 23 (.idxA none 1 (.t 21) (.t 22)),
 mQ 24 (.load none (.t 23)),
 aQ 25 (.bin .neq (.t 20) (.t 24))]
def o_ref07_Same_7 : List AOp := [
 aQ 4 (.asg (.c (.d (.bool false))))]
def o_ref07_Same_5 : List AOp := [
 aQ 15 (.mov (.t 5)),
 aQ 16 (.bin .add (.t 15) (.c (.nat .i64 1))),
 aQ 5 (.asg (.t 16))]
def b_ref07_Same_0 : AC := (.seq (.seq (.ops o_ref07_Same_4)
 (.cond (.t 14) .skip (.exit 0)))
 (.seq (.trim [0, 1, 5] (.block 1 (.seq (.ops o_ref07_Same_6)
 (.cond (.t 25) (.seq (.ops o_ref07_Same_7)
 .ret) .skip))))
 (.ops o_ref07_Same_5)))
def o_ref07_Same_8 : List AOp := [
 aQ 4 (.asg (.c (.d (.bool true))))]
def c_ref07_Same : AC :=
 (.seq (.ops o_ref07_Same_0)
 (.seq (.seq (.ops o_ref07_Same_1)
 (.cond (.t 10) (.seq (.ops o_ref07_Same_2)
 .ret) .skip))
 (.seq (.seq (.ops o_ref07_Same_3)
 (.trim [] (.block 0 (.loop [0, 1, 5] b_ref07_Same_0))))
 (.seq (.ops o_ref07_Same_8)
 .ret))))
def a_ref07_Same : AFn := { body := c_ref07_Same, res := [.tmp 4] }
def o_ref07_Long_0 : List AOp := [
 aQ 2 (.asg (.c (.nat .i64 0)))]
def o_ref07_Long_1 : List AOp := [
 aQ 5 (.mov (.t 0)),
 aQ 6 (.len (.t 5)),
 aQ 3 (.asg (.t 6))]
def o_ref07_Long_2 : List AOp := [
 aQ 4 (.asg (.c (.nat .i64 0)))]
def o_ref07_Long_3 : List AOp := [
 aQ 7 (.mov (.t 4)),
 aQ 8 (.mov (.t 0)),
 aQ 9 (.len (.t 8)),
 aQ 10 (.bin .lss (.t 7) (.t 9))]
def o_ref07_Long_5 : List AOp := [
 aQ 13 (.mov (.t 3)),
 aQ 14 (.mov (.t 0)),
 aQ 15 (.mov (.t 4)),
 aQ 16 (.idxA none 1 (.t 14) (.t 15)),
 aQ 17 (.load none (.t 16)),
 aQ 18 (.lenS (.t 17)),
 aQ 19 (.bin .add (.t 13) (.t 18)),
 aQ 3 (.asg (.t 19))]
def o_ref07_Long_4 : List AOp := [
 aQ 11 (.mov (.t 4)),
 aQ 12 (.bin .add (.t 11) (.c (.nat .i64 1))),
 aQ 4 (.asg (.t 12))]
def b_ref07_Long_0 : AC := (.seq (.seq (.ops o_ref07_Long_3)
 (.cond (.t 10) .skip (.exit 0)))
 (.seq (.trim [0, 3, 4] (.block 1 (.ops o_ref07_Long_5)))
 (.ops o_ref07_Long_4)))
def o_ref07_Long_6 : List AOp := [
 aQ 20 (.mov (.t 3)),
 aQ 2 (.asg (.t 20))]
def c_ref07_Long : AC :=
 (.seq (.ops o_ref07_Long_0)
 (.seq (.ops o_ref07_Long_1)
 (.seq (.seq (.ops o_ref07_Long_2)
 (.trim [3] (.block 0 (.loop [0, 3, 4] b_ref07_Long_0))))
 (.seq (.ops o_ref07_Long_6)
 .ret))))
def a_ref07_Long : AFn := { body := c_ref07_Long, res := [.tmp 2] }
def o_stream_Lines_0 : List AOp := [
 aQ 2 (.asg (.c (.nil)))]
def o_stream_Lines_1 : List AOp := [
 aQ 3 (.mov (.t 0)),
 aQ 4 (.bin .eql (.t 3) (.c (.d (.str []))))]
def o_stream_Lines_2 : List AOp := [
 aQ 2 (.asg (.c (.nil)))]
def o_stream_Lines_3 : List AOp := [
 aQ 5 (.mov (.t 0)),
 aQ 6 (.call (.f f_strings_TrimSuffix) [.t 5, .c (.d (.str [10]))]),
 aQ 7 (.call (.f f_strings_Split) [.t 6, .c (.d (.str [10]))]),
 aQ 2 (.asg (.t 7))]
def c_stream_Lines : AC :=
 (.seq (.ops o_stream_Lines_0)
 (.seq (.seq (.ops o_stream_Lines_1)
 (.cond (.t 4) (.seq (.ops o_stream_Lines_2)
 .ret) .skip))
 (.seq (.ops o_stream_Lines_3)
 .ret)))
def a_stream_Lines : AFn := { body := c_stream_Lines, res := [.tmp 2] }
def o_stream_Text_0 : List AOp := [
 aQ 8 (.asg (.c (.d (.str [])))),
 aQ 9 (.asg (.c (.nat .i64 0))),
 aQ 10 (.asg (.c (.nat .i64 0)))]
def o_stream_Text_1 : List AOp := [
 aQ 19 (.mov (.t 1)),
 aQ 20 (.call (.f f_sed_Read) [.t 19]),
 aQ 18 (.mov (.t 20)),
 aQ 21 (.extr (.t 18) 0),
 aQ 22 (.extr (.t 18) 1),
 aQ 11 (.asg (.t 21)),
 aQ 12 (.asg (.t 22))]
def o_stream_Text_2 : List AOp := [
 aQ 23 (.mov (.t 12)),
 aQ 24 (.bin .neq (.t 23) (.c (.nat .i64 0)))]
def o_stream_Text_3 : List AOp := [
 aQ 25 (.mov (.t 3)),
 aQ 26 (.mov (.t 12)),
 aQ 8 (.asg (.c (.d (.str [])))),
 aQ 9 (.asg (.t 25)),
 aQ 10 (.asg (.t 26))]
def o_stream_Text_4 : List AOp := [
 aQ 28 (.mov (.t 11)),
 aQ 29 (.mov (.t 0)),
 aQ 30 (.call (.f f_stream_Lines) [.t 29]),
 aQ 31 (.mov (.t 2)),
 aQ 32 (.mov (.t 3)),
 aQ 33 (.call (.f f_stream_Run) [.t 28, .t 30, .t 31, .t 32]),
 aQ 27 (.mov (.t 33)),
 aQ 34 (.extr (.t 27) 0),
 aQ 35 (.extr (.t 27) 1),
 aQ 36 (.extr (.t 27) 2),
 aQ 13 (.asg (.t 34)),
 aQ 14 (.asg (.t 35)),
 aQ 12 (.asg (.t 36))]
def o_stream_Text_5 : List AOp := [
 aQ 15 (.asg (.c (.d (.str []))))]
def o_stream_Text_6 : List AOp := [
 aQ 37 (.mov (.t 13)),
 aQ 38 (.len (.t 37)),
 aQ 39 (.mov (.c (.nat .i64 0)))]
def o_stream_Text_7 : List AOp := [
 aQ 40 (.bin .lss (.t 39) (.t 38))]
def o_stream_Text_8 : List AOp := [
 aQ 41 (.idxA none 1 (.t 37) (.t 39)),
 aQ 42 (.load none (.t 41)),
 aQ 17 (.asg (.t 42))]
def o_stream_Text_9 : List AOp := [
 aQ 43 (.mov (.t 15)),
 aQ 44 (.mov (.t 17)),
 aQ 45 (.bin .add (.t 44) (.c (.d (.str [10])))),
 aQ 46 (.bin .add (.t 43) (.t 45)),
 aQ 15 (.asg (.t 46))]
def o_stream_Text_10 : List AOp := [
 aQ 47 (.bin .add (.t 39) (.c (.nat .i64 1))),
 aQ 39 (.mov (.t 47))]
def b_stream_Text_0 : AC := (.seq (.ops o_stream_Text_7)
 (.seq (.cond (.t 40) .skip (.exit 0))
 (.seq (.trim [12, 14, 15, 37, 38, 39] (.block 1 (.seq (.ops o_stream_Text_8)
 (.ops o_stream_Text_9))))
 (.ops o_stream_Text_10))))
def o_stream_Text_11 : List AOp := [
 aQ 48 (.mov (.t 15)),
 aQ 49 (.mov (.t 14)),
 aQ 50 (.mov (.t 12)),
 aQ 8 (.asg (.t 48)),
 aQ 9 (.asg (.t 49)),
 aQ 10 (.asg (.t 50))]
def c_stream_Text : AC :=
 (.seq (.ops o_stream_Text_0)
 (.seq (.ops o_stream_Text_1)
 (.seq (.seq (.ops o_stream_Text_2)
 (.cond (.t 24) (.seq (.ops o_stream_Text_3)
 .ret) .skip))
 (.seq (.ops o_stream_Text_4)
 (.seq (.ops o_stream_Text_5)
 (.seq (.seq (.ops o_stream_Text_6)
 (.trim [12, 14, 15] (.block 0 (.loop [12, 14, 15, 37, 38, 39] b_stream_Text_0))))
 (.seq (.ops o_stream_Text_11)
 .ret)))))))
def a_stream_Text : AFn := { body := c_stream_Text, res := [.tmp 8, .tmp 9, .tmp 10] }
def o_stream_machine_does_0 : List AOp := [
 aQ 2 (.asg (.c (.d .nilM)))]
def o_stream_machine_does_1 : List AOp := [
 aQ 3 (.makeMap),
 aQ 4 (.mov (.t 0)),
 aQ 5 (.mkfn (.func f_stream_machine_print) [.t 4] []),
 { dst := none, op := .mapSet (.int .u8) (.t 3) (.c (.nat .u8 112)) (.t 5) },
 aQ 6 (.mov (.t 0)),
 aQ 7 (.mkfn (.func f_stream_machine_drop) [.t 6] []),
 { dst := none, op := .mapSet (.int .u8) (.t 3) (.c (.nat .u8 100)) (.t 7) },
 aQ 8 (.mov (.t 0)),
 aQ 9 (.mkfn (.func f_stream_machine_quit) [.t 8] []),
 { dst := none, op := .mapSet (.int .u8) (.t 3) (.c (.nat .u8 113)) (.t 9) },
 aQ 10 (.mov (.t 0)),
 aQ 11 (.mkfn (.func f_stream_machine_take) [.t 10] []),
 { dst := none, op := .mapSet (.int .u8) (.t 3) (.c (.nat .u8 110)) (.t 11) },
 aQ 12 (.mov (.t 0)),
 aQ 13 (.mkfn (.func f_stream_machine_copy) [.t 12] []),
 { dst := none, op := .mapSet (.int .u8) (.t 3) (.c (.nat .u8 104)) (.t 13) },
 aQ 14 (.mov (.t 0)),
 aQ 15 (.mkfn (.func f_stream_machine_copyMore) [.t 14] []),
 { dst := none, op := .mapSet (.int .u8) (.t 3) (.c (.nat .u8 72)) (.t 15) },
 aQ 16 (.mov (.t 0)),
 aQ 17 (.mkfn (.func f_stream_machine_get) [.t 16] []),
 { dst := none, op := .mapSet (.int .u8) (.t 3) (.c (.nat .u8 103)) (.t 17) },
 aQ 18 (.mov (.t 0)),
 aQ 19 (.mkfn (.func f_stream_machine_getMore) [.t 18] []),
 { dst := none, op := .mapSet (.int .u8) (.t 3) (.c (.nat .u8 71)) (.t 19) },
 aQ 20 (.mov (.t 0)),
 aQ 21 (.mkfn (.func f_stream_machine_change) [.t 20] []),
 { dst := none, op := .mapSet (.int .u8) (.t 3) (.c (.nat .u8 120)) (.t 21) },
 aQ 22 (.mov (.t 0)),
 aQ 23 (.mkfn (.func f_stream_machine_replace) [.t 22] []),
 { dst := none, op := .mapSet (.int .u8) (.t 3) (.c (.nat .u8 115)) (.t 23) },
 aQ 24 (.mov (.t 0)),
 aQ 25 (.mkfn (.func f_stream_machine_branch) [.t 24] []),
 { dst := none, op := .mapSet (.int .u8) (.t 3) (.c (.nat .u8 98)) (.t 25) },
 aQ 26 (.mov (.t 0)),
 aQ 27 (.mkfn (.func f_stream_machine_test) [.t 26] []),
 { dst := none, op := .mapSet (.int .u8) (.t 3) (.c (.nat .u8 116)) (.t 27) },
 aQ 28 (.mov (.t 0)),
 aQ 29 (.mkfn (.func f_stream_machine_label) [.t 28] []),
 { dst := none, op := .mapSet (.int .u8) (.t 3) (.c (.nat .u8 58)) (.t 29) },
 aQ 30 (.mov (.t 3)),
 aQ 2 (.asg (.t 30))]
def c_stream_machine_does : AC :=
 (.seq (.ops o_stream_machine_does_0)
 (.seq (.ops o_stream_machine_does_1)
 .ret))
def a_stream_machine_does : AFn := { body := c_stream_machine_does, res := [.tmp 2] }
def o_stream_machine_burn_0 : List AOp := [
 aQ 2 (.asg (.c (.d (.bool false))))]
def o_stream_machine_burn_1 : List AOp := [
 aQ 3 (.mov (.t 0)),
 aQ 4 (.nilchk (.t 3)),
 aQ 5 (.fldA 6 (.t 4)),
 aQ 6 (.load none (.t 5)),
 aQ 7 (.bin .leq (.t 6) (.c (.nat .i64 0)))]
def o_stream_machine_burn_2 : List AOp := [
 aQ 8 (.mov (.t 0)),
 aQ 9 (.mov (.t 0)),
 aQ 10 (.mov (.t 0)),
 aQ 11 (.nilchk (.t 8)),
 aQ 12 (.fldA 6 (.t 11)),
 { dst := none, op := .store 1 (.t 12) (.c (.nat .i64 0)) },
 aQ 13 (.nilchk (.t 9)),
 aQ 14 (.fldA 12 (.t 13)),
 { dst := none, op := .store 1 (.t 14) (.c (.nat .i64 10)) },
 aQ 15 (.nilchk (.t 10)),
 aQ 16 (.fldA 11 (.t 15)),
 { dst := none, op := .store 1 (.t 16) (.c (.d (.bool true))) }]
def o_stream_machine_burn_3 : List AOp := [
 aQ 2 (.asg (.c (.d (.bool false))))]
def o_stream_machine_burn_4 : List AOp := [
 aQ 17 (.mov (.t 0)),
 aQ 18 (.nilchk (.t 17)),
 aQ 19 (.fldA 6 (.t 18)),
 aQ 20 (.load none (.t 19)),
 aQ 21 (.bin .sub (.t 20) (.c (.nat .i64 1))),
 aQ 22 (.nilchk (.t 17)),
 aQ 23 (.fldA 6 (.t 22)),
 { dst := none, op := .store 1 (.t 23) (.t 21) }]
def o_stream_machine_burn_5 : List AOp := [
 aQ 2 (.asg (.c (.d (.bool true))))]
def c_stream_machine_burn : AC :=
 (.seq (.ops o_stream_machine_burn_0)
 (.seq (.seq (.ops o_stream_machine_burn_1)
 (.cond (.t 7) (.seq (.ops o_stream_machine_burn_2)
 (.seq (.ops o_stream_machine_burn_3)
 .ret)) .skip))
 (.seq (.ops o_stream_machine_burn_4)
 (.seq (.ops o_stream_machine_burn_5)
 .ret))))
def a_stream_machine_burn : AFn := { body := c_stream_machine_burn, res := [.tmp 2] }
def o_stream_machine_meant_0 : List AOp := [
 aQ 4 (.asg (.c (.d (.bool false))))]
def o_stream_machine_meant_1 : List AOp := [
 aQ 9 (.mov (.t 0)),
 aQ 10 (.nilchk (.t 9)),
 aQ 11 (.fldA 2 (.t 10)),
 aQ 12 (.load none (.t 11)),
 aQ 13 (.mov (.t 1)),
 aQ 14 (.idxA none 13 (.t 12) (.t 13)),
 aQ 15 (.load (some 13) (.t 14)),
 aQ 5 (.alloc [.nat .u8 0, .nat .i64 0, .nat .i64 0, .nil, .nat .i64 0, .nat .i64 0, .nil, .d (.bool false), .nil, .nil, .d (.bool false), .d (.bool false), .d (.str [])]),
 { dst := none, op := .store 13 (.t 5) (.t 15) }]
def o_stream_machine_meant_2 : List AOp := [
 aQ 16 (.fldA 4 (.t 5)),
 aQ 17 (.fldA 0 (.t 16)),
 aQ 18 (.load none (.t 17)),
 aQ 19 (.bin .eql (.t 18) (.c (.nat .i64 0)))]
def o_stream_machine_meant_3 : List AOp := [
 mQ 20 (.mov (.t 0)),
 mQ 21 (.fldA 1 (.t 5)),
 mQ 22 (.load (some 3) (.t 21)),
 mQ 23 (.callQ (.f f_stream_machine_tells) [.t 20, .t 22]),
 mQ 24 (.fldA 7 (.t 5)),
 mQ 25 (.load none (.t 24)),
 aQ 26 (.beq true (.t 23) (.t 25)),
 aQ 4 (.asg (.t 26))]
def o_stream_machine_meant_4 : List AOp := [
 aQ 27 (.mov (.t 0)),
 aQ 28 (.nilchk (.t 27)),
 aQ 29 (.fldA 7 (.t 28)),
 aQ 30 (.load none (.t 29)),
 aQ 31 (.mov (.t 1)),
 aQ 32 (.idxA none 1 (.t 30) (.t 31)),
 aQ 33 (.load none (.t 32)),
 aQ 6 (.asg (.t 33))]
def o_stream_machine_meant_5 : List AOp := [
 aQ 34 (.mov (.t 6)),
 aQ 35 (.mov (.t 34)),
 gQ 36 (.mov (.t 0)) 35 false,
 gQ 37 (.fldA 1 (.t 5)) 35 false,
 gQ 38 (.load (some 3) (.t 37)) 35 false,
 gQ 39 (.call (.f f_stream_machine_tells) [.t 36, .t 38]) 35 false,
 aQ 40 (.pick (.t 35) (.c (.d (.bool true))) (.t 39)),
 aQ 7 (.asg (.t 40))]
def o_stream_machine_meant_6 : List AOp := [
 aQ 41 (.mov (.t 7))]
def o_stream_machine_meant_7 : List AOp := [
 aQ 42 (.fldA 4 (.t 5)),
 aQ 43 (.fldA 0 (.t 42)),
 aQ 44 (.load none (.t 43)),
 aQ 45 (.bin .eql (.t 44) (.c (.nat .i64 1))),
 aQ 46 (.mov (.t 45)),
 hQ 47 (.fldA 4 (.t 5)) 46 true,
 hQ 48 (.fldA 1 (.t 47)) 46 true,
 hQ 49 (.load none (.t 48)) 46 true,
 hQ 50 (.mov (.t 0)) 46 true,
 hQ 51 (.nilchk (.t 50)) 46 true,
 hQ 52 (.fldA 4 (.t 51)) 46 true,
 hQ 53 (.load none (.t 52)) 46 true,
 gQ 54 (.bin .leq (.t 49) (.t 53)) 46 true,
 aQ 55 (.pick (.t 46) (.t 54) (.c (.d (.bool false)))),
 aQ 8 (.asg (.t 55))]
def o_stream_machine_meant_8 : List AOp := [
 mQ 56 (.mov (.t 0)),
 mQ 57 (.nilchk (.t 56)),
 mQ 58 (.fldA 7 (.t 57)),
 mQ 59 (.load none (.t 58)),
 mQ 60 (.mov (.t 1)),
 mQ 61 (.mov (.t 8)),
 mQ 62 (.un .not (.t 61)),
 mQ 63 (.mov (.t 62)),
 hQ 64 (.mov (.t 6)) 63 true,
 hQ 65 (.un .not (.t 64)) 63 true,
 hQ 66 (.mov (.t 65)) 63 true,
 hQ 67 (.mov (.t 0)) 66 false,
 hQ 68 (.fldA 4 (.t 5)) 66 false,
 hQ 69 (.load (some 3) (.t 68)) 66 false,
 hQ 70 (.callQ (.f f_stream_machine_tells) [.t 67, .t 69]) 66 false,
 hQ 71 (.un .not (.t 70)) 66 false,
 hQ 72 (.pick (.t 66) (.c (.d (.bool true))) (.t 71)) 63 true,
 mQ 73 (.pick (.t 63) (.t 72) (.c (.d (.bool false)))),
 aQ 74 (.idxA none 1 (.t 59) (.t 60)),
 { dst := none, op := .store 1 (.t 74) (.t 73) }]
def o_stream_machine_meant_9 : List AOp := [
 aQ 75 (.mov (.t 7)),
 aQ 76 (.fldA 7 (.t 5)),
 aQ 77 (.load none (.t 76)),
 aQ 78 (.beq true (.t 75) (.t 77)),
 aQ 4 (.asg (.t 78))]
def c_stream_machine_meant : AC :=
 (.seq (.ops o_stream_machine_meant_0)
 (.seq (.ops o_stream_machine_meant_1)
 (.seq (.seq (.ops o_stream_machine_meant_2)
 (.cond (.t 19) (.seq (.ops o_stream_machine_meant_3)
 .ret) .skip))
 (.seq (.ops o_stream_machine_meant_4)
 (.seq (.ops o_stream_machine_meant_5)
 (.seq (.seq (.ops o_stream_machine_meant_6)
 (.cond (.t 41) (.seq (.ops o_stream_machine_meant_7)
 (.ops o_stream_machine_meant_8)) .skip))
 (.seq (.ops o_stream_machine_meant_9)
 .ret)))))))
def a_stream_machine_meant : AFn := { body := c_stream_machine_meant, res := [.tmp 4] }
def o_stream_machine_tell_0 : List AOp := [
 aQ 2 (.mov (.t 0)),
 aQ 3 (.nilchk (.t 2)),
 aQ 4 (.fldA 5 (.t 3)),
 aQ 5 (.load none (.t 4)),
 aQ 6 (.un .not (.t 5))]
def o_stream_machine_tell_1 : List AOp := [
 aQ 7 (.mov (.t 0)),
 aQ 8 (.call (.f f_stream_machine_put) [.t 7])]
def c_stream_machine_tell : AC :=
 (.seq (.ops o_stream_machine_tell_0)
 (.cond (.t 6) (.ops o_stream_machine_tell_1) .skip))
def a_stream_machine_tell : AFn := { body := c_stream_machine_tell, res := [] }
def o_strings_TrimSuffix_0 : List AOp := [
 aQ 4 (.asg (.c (.d (.str []))))]
def o_strings_TrimSuffix_1 : List AOp := [
 aQ 5 (.mov (.t 0)),
 aQ 6 (.mov (.t 1)),
 aQ 7 (.call (.f f_stringslite_TrimSuffix) [.t 5, .t 6]),
 aQ 4 (.asg (.t 7))]
def c_strings_TrimSuffix : AC :=
 (.seq (.ops o_strings_TrimSuffix_0)
 (.seq (.ops o_strings_TrimSuffix_1)
 .ret))
def a_strings_TrimSuffix : AFn := { body := c_strings_TrimSuffix, res := [.tmp 4] }
def o_sed_Read_0 : List AOp := [
 aQ 2 (.alloc [.nil]),
 aQ 3 (.alloc [.nat .i64 0])]
def o_sed_Read_1 : List AOp := [
 aQ 5 (.mkfn (.func f_sed_Read_1) [] [.t 2, .t 3]),
 { dst := none, op := .defer (.t 5) [] }]
def o_sed_Read_2 : List AOp := [
 aQ 6 (.mov (.t 0)),
 aQ 7 (.lenS (.t 6)),
 aQ 8 (.bin .gtr (.t 7) (.c (.nat .i64 8192))),
 aQ 9 (.call (.f f_sed_wrong) [.t 8, .c (.nat .i64 6)])]
def o_sed_Read_3 : List AOp := [
 aQ 10 (.mov (.t 0)),
 aQ 11 (.build [.d (.str []), .nat .i64 0] [(0, 1, (.t 10))]),
 aQ 12 (.box (.t 11)),
 aQ 4 (.asg (.t 12))]
def o_sed_Read_4 : List AOp := [
 aQ 13 (.mov (.t 4)),
 aQ 14 (.call (.f f_sed_reader_skips) [.t 13, .c (.d (.str [32, 10, 59]))])]
def o_sed_Read_5 : List AOp := [
 aQ 15 (.mov (.t 4)),
 aQ 16 (.nilchk (.t 15)),
 aQ 17 (.fldA 1 (.t 16)),
 aQ 18 (.load none (.t 17)),
 aQ 19 (.mov (.t 0)),
 aQ 20 (.lenS (.t 19)),
 aQ 21 (.bin .lss (.t 18) (.t 20))]
def o_sed_Read_7 : List AOp := [
 aQ 24 (.load none (.t 2)),
 aQ 25 (.len (.t 24)),
 aQ 26 (.bin .geq (.t 25) (.c (.nat .i64 2000))),
 aQ 27 (.call (.f f_sed_wrong) [.t 26, .c (.nat .i64 6)])]
def o_sed_Read_8 : List AOp := [
 aQ 28 (.takeload (.t 2)),
 aQ 29 (.mov (.t 4)),
 aQ 30 (.call (.f f_sed_reader_command) [.t 29]),
 aQ 31 (.mkls 13 [.nat .u8 0, .nat .i64 0, .nat .i64 0, .nil, .nat .i64 0, .nat .i64 0, .nil, .d (.bool false), .nil, .nil, .d (.bool false), .d (.bool false), .d (.str [])] [(0, 13, (.t 30))]),
 aQ 32 (.append 13 (.t 28) (.t 31)),
 { dst := none, op := .store 1 (.t 2) (.t 32) }]
def o_sed_Read_6 : List AOp := [
 aQ 22 (.mov (.t 4)),
 aQ 23 (.call (.f f_sed_reader_skips) [.t 22, .c (.d (.str [32, 10, 59]))])]
def b_sed_Read_0 : AC := (.seq (.seq (.ops o_sed_Read_5)
 (.cond (.t 21) .skip (.exit 0)))
 (.seq (.trim [0, 2, 3, 4] (.block 1 (.seq (.ops o_sed_Read_7)
 (.opsD o_sed_Read_8 [[0, 1, 2, 3, 4, 5], [1, 0, 2, 3, 4, 5], [1, 2, 0, 3, 4, 5], [1, 2, 3, 0, 4, 5]] [0, 2, 3, 4] [2, 3] 2))))
 (.ops o_sed_Read_6)))
def o_sed_Read_9 : List AOp := [
 aQ 33 (.load none (.t 2)),
 aQ 34 (.call (.f f_sed_named) [.t 33]),
 aQ 35 (.un .not (.t 34)),
 aQ 36 (.call (.f f_sed_wrong) [.t 35, .c (.nat .i64 8)])]
def o_sed_Read_10 : List AOp := [
 aQ 37 (.load none (.t 2)),
 { dst := none, op := .store 1 (.t 2) (.t 37) },
 { dst := none, op := .store 1 (.t 3) (.c (.nat .i64 0)) }]
def c_sed_Read : AC :=
 (.seq (.ops o_sed_Read_0)
 (.seq (.ops o_sed_Read_1)
 (.seq (.ops o_sed_Read_2)
 (.seq (.ops o_sed_Read_3)
 (.seq (.seq (.ops o_sed_Read_4)
 (.trim [2, 3] (.block 0 (.loop [0, 2, 3, 4] b_sed_Read_0))))
 (.seq (.ops o_sed_Read_9)
 (.seq (.ops o_sed_Read_10)
 .ret)))))))
def a_sed_Read : AFn := { body := c_sed_Read, res := [.cell 2 none, .cell 3 none] }
def o_stream_machine_print_0 : List AOp := [
 aQ 3 (.box (.t 1))]
def o_stream_machine_print_1 : List AOp := [
 aQ 4 (.mov (.t 0)),
 aQ 5 (.call (.f f_stream_machine_put) [.t 4])]
def c_stream_machine_print : AC :=
 (.seq (.ops o_stream_machine_print_0)
 (.ops o_stream_machine_print_1))
def a_stream_machine_print : AFn := { body := c_stream_machine_print, res := [] }
def o_stream_machine_drop_0 : List AOp := [
 aQ 3 (.box (.t 1))]
def o_stream_machine_drop_1 : List AOp := [
 aQ 4 (.mov (.t 0)),
 aQ 5 (.mov (.t 0)),
 aQ 6 (.nilchk (.t 5)),
 aQ 7 (.fldA 2 (.t 6)),
 aQ 8 (.load none (.t 7)),
 aQ 9 (.len (.t 8)),
 aQ 10 (.bin .add (.t 9) (.c (.nat .i64 1))),
 aQ 11 (.nilchk (.t 4)),
 aQ 12 (.fldA 10 (.t 11)),
 { dst := none, op := .store 1 (.t 12) (.t 10) }]
def c_stream_machine_drop : AC :=
 (.seq (.ops o_stream_machine_drop_0)
 (.ops o_stream_machine_drop_1))
def a_stream_machine_drop : AFn := { body := c_stream_machine_drop, res := [] }
def o_stream_machine_quit_0 : List AOp := [
 aQ 3 (.box (.t 1))]
def o_stream_machine_quit_1 : List AOp := [
 aQ 4 (.mov (.t 0)),
 aQ 5 (.call (.f f_stream_machine_tell) [.t 4])]
def o_stream_machine_quit_2 : List AOp := [
 aQ 6 (.mov (.t 0)),
 aQ 7 (.nilchk (.t 6)),
 aQ 8 (.fldA 11 (.t 7)),
 { dst := none, op := .store 1 (.t 8) (.c (.d (.bool true))) }]
def c_stream_machine_quit : AC :=
 (.seq (.ops o_stream_machine_quit_0)
 (.seq (.ops o_stream_machine_quit_1)
 (.ops o_stream_machine_quit_2)))
def a_stream_machine_quit : AFn := { body := c_stream_machine_quit, res := [] }
def o_stream_machine_copy_0 : List AOp := [
 aQ 3 (.box (.t 1))]
def o_stream_machine_copy_1 : List AOp := [
 aQ 4 (.mov (.t 0)),
 aQ 5 (.mov (.t 0)),
 aQ 6 (.nilchk (.t 5)),
 aQ 7 (.fldA 0 (.t 6)),
 aQ 8 (.fldA 0 (.t 7)),
 aQ 9 (.load none (.t 8)),
 aQ 10 (.nilchk (.t 4)),
 aQ 11 (.fldA 0 (.t 10)),
 aQ 12 (.fldA 1 (.t 11)),
 { dst := none, op := .store 1 (.t 12) (.t 9) }]
def c_stream_machine_copy : AC :=
 (.seq (.ops o_stream_machine_copy_0)
 (.ops o_stream_machine_copy_1))
def a_stream_machine_copy : AFn := { body := c_stream_machine_copy, res := [] }
def o_stream_machine_get_0 : List AOp := [
 aQ 3 (.box (.t 1))]
def o_stream_machine_get_1 : List AOp := [
 aQ 4 (.mov (.t 0)),
 aQ 5 (.mov (.t 0)),
 aQ 6 (.nilchk (.t 5)),
 aQ 7 (.fldA 0 (.t 6)),
 aQ 8 (.fldA 1 (.t 7)),
 aQ 9 (.load none (.t 8)),
 aQ 10 (.nilchk (.t 4)),
 aQ 11 (.fldA 0 (.t 10)),
 aQ 12 (.fldA 0 (.t 11)),
 { dst := none, op := .store 1 (.t 12) (.t 9) }]
def c_stream_machine_get : AC :=
 (.seq (.ops o_stream_machine_get_0)
 (.ops o_stream_machine_get_1))
def a_stream_machine_get : AFn := { body := c_stream_machine_get, res := [] }
def o_stream_machine_getMore_0 : List AOp := [
 aQ 3 (.box (.t 1))]
def o_stream_machine_getMore_1 : List AOp := [
 mQ 4 (.mov (.t 0)),
 mQ 5 (.mov (.t 0)),
 mQ 6 (.mov (.t 0)),
 mQ 7 (.nilchk (.t 6)),
 mQ 8 (.fldA 0 (.t 7)),
 mQ 9 (.fldA 0 (.t 8)),
 mQ 10 (.load none (.t 9)),
 mQ 11 (.bin .add (.t 10) (.c (.d (.str [10])))),
 mQ 12 (.mov (.t 0)),
 mQ 13 (.nilchk (.t 12)),
 mQ 14 (.fldA 0 (.t 13)),
 mQ 15 (.fldA 1 (.t 14)),
 mQ 16 (.load none (.t 15)),
 mQ 17 (.bin .add (.t 11) (.t 16)),
 mQ 18 (.call (.f f_stream_machine_fits) [.t 5, .t 17]),
 aQ 19 (.nilchk (.t 4)),
 aQ 20 (.fldA 0 (.t 19)),
 aQ 21 (.fldA 0 (.t 20)),
 { dst := none, op := .store 1 (.t 21) (.t 18) }]
def c_stream_machine_getMore : AC :=
 (.seq (.ops o_stream_machine_getMore_0)
 (.ops o_stream_machine_getMore_1))
def a_stream_machine_getMore : AFn := { body := c_stream_machine_getMore, res := [] }
def o_stream_machine_change_0 : List AOp := [
 aQ 3 (.box (.t 1))]
def o_stream_machine_change_1 : List AOp := [
 mQ 4 (.mov (.t 0)),
 mQ 5 (.mov (.t 0)),
 mQ 6 (.mov (.t 0)),
 mQ 7 (.nilchk (.t 6)),
 mQ 8 (.fldA 0 (.t 7)),
 mQ 9 (.fldA 1 (.t 8)),
 mQ 10 (.load none (.t 9)),
 mQ 11 (.mov (.t 0)),
 mQ 12 (.nilchk (.t 11)),
 mQ 13 (.fldA 0 (.t 12)),
 mQ 14 (.fldA 0 (.t 13)),
 mQ 15 (.load none (.t 14)),
 mQ 16 (.nilchk (.t 4)),
 mQ 17 (.fldA 0 (.t 16)),
 mQ 18 (.fldA 0 (.t 17)),
 { dst := none, op := .store 1 (.t 18) (.t 10), may := false },
 aQ 19 (.nilchk (.t 5)),
 aQ 20 (.fldA 0 (.t 19)),
 aQ 21 (.fldA 1 (.t 20)),
 { dst := none, op := .store 1 (.t 21) (.t 15) }]
def c_stream_machine_change : AC :=
 (.seq (.ops o_stream_machine_change_0)
 (.ops o_stream_machine_change_1))
def a_stream_machine_change : AFn := { body := c_stream_machine_change, res := [] }
def o_stream_machine_label_0 : List AOp := [
 aQ 3 (.box (.t 1))]
def c_stream_machine_label : AC :=
 (.ops o_stream_machine_label_0)
def a_stream_machine_label : AFn := { body := c_stream_machine_label, res := [] }
def o_stream_machine_tells_0 : List AOp := [
 aQ 3 (.box (.t 1)),
 aQ 4 (.asg (.c (.d (.bool false))))]
def o_stream_machine_tells_1 : List AOp := [
 aQ 5 (.fldA 0 (.t 3)),
 aQ 6 (.load none (.t 5))]
def o_stream_machine_tells_2 : List AOp := [
 aQ 8 (.bin .eql (.t 6) (.c (.nat .i64 1))),
 aQ 7 (.asg (.t 8))]
def o_stream_machine_tells_3 : List AOp := [
 mQ 9 (.mov (.t 0)),
 mQ 10 (.nilchk (.t 9)),
 mQ 11 (.fldA 4 (.t 10)),
 mQ 12 (.load none (.t 11)),
 mQ 13 (.fldA 1 (.t 3)),
 mQ 14 (.load none (.t 13)),
 aQ 15 (.bin .eql (.t 12) (.t 14)),
 aQ 4 (.asg (.t 15))]
def o_stream_machine_tells_4 : List AOp := [
 aQ 17 (.bin .eql (.t 6) (.c (.nat .i64 2))),
 aQ 16 (.asg (.t 17))]
def o_stream_machine_tells_5 : List AOp := [
 mQ 18 (.mov (.t 0)),
 mQ 19 (.nilchk (.t 18)),
 mQ 20 (.fldA 4 (.t 19)),
 mQ 21 (.load none (.t 20)),
 mQ 22 (.mov (.t 0)),
 mQ 23 (.nilchk (.t 22)),
 mQ 24 (.fldA 3 (.t 23)),
 mQ 25 (.load none (.t 24)),
 mQ 26 (.len (.t 25)),
 aQ 27 (.bin .eql (.t 21) (.t 26)),
 aQ 4 (.asg (.t 27))]
def o_stream_machine_tells_6 : List AOp := [
 aQ 29 (.bin .eql (.t 6) (.c (.nat .i64 3))),
 aQ 28 (.asg (.t 29))]
def o_stream_machine_tells_7 : List AOp := [
 mQ 30 (.fldA 2 (.t 3)),
 mQ 31 (.load none (.t 30)),
 mQ 32 (.mov (.t 0)),
 mQ 33 (.nilchk (.t 32)),
 mQ 34 (.fldA 0 (.t 33)),
 mQ 35 (.fldA 0 (.t 34)),
 mQ 36 (.load none (.t 35)),
 aQ 37 (.call (.f f_match_Is) [.t 31, .t 36]),
 aQ 4 (.asg (.t 37))]
def o_stream_machine_tells_8 : List AOp := [
 aQ 4 (.asg (.c (.d (.bool true))))]
def c_stream_machine_tells : AC :=
 (.seq (.ops o_stream_machine_tells_0)
 (.seq (.seq (.ops o_stream_machine_tells_1)
 (.trim [] (.block 0 (.seq (.ops o_stream_machine_tells_2)
 (.cond (.t 7) (.seq (.ops o_stream_machine_tells_3)
 .ret) (.seq (.ops o_stream_machine_tells_4)
 (.cond (.t 16) (.seq (.ops o_stream_machine_tells_5)
 .ret) (.seq (.ops o_stream_machine_tells_6)
 (.cond (.t 28) (.seq (.ops o_stream_machine_tells_7)
 .ret) .skip)))))))))
 (.seq (.ops o_stream_machine_tells_8)
 .ret)))
def a_stream_machine_tells : AFn := { body := c_stream_machine_tells, res := [.tmp 4] }
def o_stream_machine_put_0 : List AOp := [
 mQ 2 (.mov (.t 0)),
 mQ 3 (.mov (.t 0)),
 mQ 4 (.nilchk (.t 3)),
 mQ 5 (.fldA 9 (.t 4)),
 mQ 6 (.takeload (.t 5)),
 mQ 7 (.mov (.t 0)),
 mQ 8 (.nilchk (.t 7)),
 mQ 9 (.fldA 0 (.t 8)),
 mQ 10 (.fldA 0 (.t 9)),
 mQ 11 (.load none (.t 10)),
 mQ 12 (.mkls 1 [.d (.str [])] [(0, 1, (.t 11))]),
 mQ 13 (.append 1 (.t 6) (.t 12)),
 aQ 14 (.nilchk (.t 2)),
 aQ 15 (.fldA 9 (.t 14)),
 { dst := none, op := .store 1 (.t 15) (.t 13) }]
def c_stream_machine_put : AC :=
 (.ops o_stream_machine_put_0)
def a_stream_machine_put : AFn := { body := c_stream_machine_put, res := [] }
def o_stringslite_TrimSuffix_0 : List AOp := [
 aQ 4 (.asg (.c (.d (.str []))))]
def o_stringslite_TrimSuffix_1 : List AOp := [
 aQ 5 (.mov (.t 0)),
 aQ 6 (.mov (.t 1)),
 aQ 7 (.call (.f f_stringslite_HasSuffix) [.t 5, .t 6])]
def o_stringslite_TrimSuffix_2 : List AOp := [
 aQ 8 (.mov (.t 0)),
 aQ 9 (.mov (.t 0)),
 aQ 10 (.lenS (.t 9)),
 aQ 11 (.mov (.t 1)),
 aQ 12 (.lenS (.t 11)),
 aQ 13 (.bin .sub (.t 10) (.t 12)),
 aQ 14 (.sliceS (.t 8) none (some (.t 13))),
 aQ 4 (.asg (.t 14))]
def o_stringslite_TrimSuffix_3 : List AOp := [
 aQ 15 (.mov (.t 0)),
 aQ 4 (.asg (.t 15))]
def c_stringslite_TrimSuffix : AC :=
 (.seq (.ops o_stringslite_TrimSuffix_0)
 (.seq (.seq (.ops o_stringslite_TrimSuffix_1)
 (.cond (.t 7) (.seq (.ops o_stringslite_TrimSuffix_2)
 .ret) .skip))
 (.seq (.ops o_stringslite_TrimSuffix_3)
 .ret)))
def a_stringslite_TrimSuffix : AFn := { body := c_stringslite_TrimSuffix, res := [.tmp 4] }
def o_sed_Read_1_0 : List AOp := [
 aQ 5 (.recover),
 aQ 2 (.asg (.t 5))]
def o_sed_Read_1_1 : List AOp := [
 aQ 6 (.mov (.t 2)),
 aQ 7 (.eqnil 1 true (.t 6))]
def o_sed_Read_1_2 : List AOp := [
 aQ 9 (.mov (.t 2)),
 aQ 10 (.assertT 85 (.agg [.nat .i64 0]) (.t 9)),
 aQ 8 (.mov (.t 10)),
 aQ 11 (.extr (.t 8) 0),
 aQ 12 (.extr (.t 8) 1),
 aQ 3 (.alloc [.nat .i64 0]),
 { dst := none, op := .store 1 (.t 3) (.t 11) },
 aQ 4 (.asg (.t 12))]
def o_sed_Read_1_3 : List AOp := [
 aQ 13 (.mov (.t 4)),
 aQ 14 (.un .not (.t 13))]
def o_sed_Read_1_4 : List AOp := [
 aQ 15 (.mov (.t 2)),
 { dst := none, op := .panic (.t 15) }]
def o_sed_Read_1_5 : List AOp := [
 mQ 16 (.fldA 0 (.t 3)),
 mQ 17 (.loadB none (.t 16) (.t 3)),
 { dst := none, op := .storeW 1 (.t 0) (.c (.nil)) [.t 3], may := false },
 { dst := none, op := .store 1 (.t 1) (.t 17) }]
def c_sed_Read_1 : AC :=
 (.seq (.ops o_sed_Read_1_0)
 (.seq (.ops o_sed_Read_1_1)
 (.cond (.t 7) (.seq (.ops o_sed_Read_1_2)
 (.seq (.seq (.ops o_sed_Read_1_3)
 (.cond (.t 14) (.ops o_sed_Read_1_4) .skip))
 (.ops o_sed_Read_1_5))) .skip)))
def a_sed_Read_1 : AFn := { body := c_sed_Read_1, res := [] }
def o_sed_wrong_0 : List AOp := [
 aQ 4 (.mov (.t 0))]
def o_sed_wrong_1 : List AOp := [
 aQ 5 (.mov (.t 1)),
 aQ 6 (.build [.nat .i64 0] [(0, 1, (.t 5))]),
 aQ 7 (.mkifc 85 (.t 6)),
 { dst := none, op := .panic (.t 7) }]
def c_sed_wrong : AC :=
 (.seq (.ops o_sed_wrong_0)
 (.cond (.t 4) (.ops o_sed_wrong_1) .skip))
def a_sed_wrong : AFn := { body := c_sed_wrong, res := [] }
def o_sed_reader_skips_0 : List AOp := [
 aQ 4 (.mov (.t 0)),
 aQ 5 (.mov (.t 1)),
 aQ 6 (.call (.f f_sed_reader_takes) [.t 4, .t 5])]
def b_sed_reader_skips_0 : AC := (.seq (.seq (.ops o_sed_reader_skips_0)
 (.cond (.t 6) .skip (.exit 0)))
 (.trim [0, 1] (.block 1 .skip)))
def c_sed_reader_skips : AC :=
 (.trim [] (.block 0 (.loop [0, 1] b_sed_reader_skips_0)))
def a_sed_reader_skips : AFn := { body := c_sed_reader_skips, res := [] }
def o_sed_reader_command_0 : List AOp := [
 aQ 2 (.alloc [.nat .u8 0, .nat .i64 0, .nat .i64 0, .nil, .nat .i64 0, .nat .i64 0, .nil, .d (.bool false), .nil, .nil, .d (.bool false), .d (.bool false), .d (.str [])])]
def o_sed_reader_command_1 : List AOp := [
 aQ 4 (.mov (.t 0)),
 aQ 5 (.call (.f f_sed_reader_addr) [.t 4]),
 aQ 6 (.build [.nat .u8 0, .nat .i64 0, .nat .i64 0, .nil, .nat .i64 0, .nat .i64 0, .nil, .d (.bool false), .nil, .nil, .d (.bool false), .d (.bool false), .d (.str [])] [(1, 3, (.t 5))]),
 aQ 3 (.alloc [.nat .u8 0, .nat .i64 0, .nat .i64 0, .nil, .nat .i64 0, .nat .i64 0, .nil, .d (.bool false), .nil, .nil, .d (.bool false), .d (.bool false), .d (.str [])]),
 { dst := none, op := .store 13 (.t 3) (.t 6) }]
def o_sed_reader_command_2 : List AOp := [
 aQ 7 (.fldA 1 (.t 3)),
 aQ 8 (.fldA 0 (.t 7)),
 aQ 9 (.load none (.t 8)),
 aQ 10 (.bin .neq (.t 9) (.c (.nat .i64 0))),
 aQ 11 (.mov (.t 10)),
 gQ 12 (.mov (.t 0)) 11 true,
 gQ 13 (.call (.f f_sed_reader_takes) [.t 12, .c (.d (.str [44]))]) 11 true,
 aQ 14 (.pick (.t 11) (.t 13) (.c (.d (.bool false))))]
def o_sed_reader_command_3 : List AOp := [
 aQ 15 (.mov (.t 0)),
 aQ 16 (.call (.f f_sed_reader_addr) [.t 15]),
 aQ 17 (.fldA 4 (.t 3)),
 { dst := none, op := .store 3 (.t 17) (.t 16) }]
def o_sed_reader_command_4 : List AOp := [
 aQ 18 (.fldA 4 (.t 3)),
 aQ 19 (.fldA 0 (.t 18)),
 aQ 20 (.load none (.t 19)),
 aQ 21 (.bin .eql (.t 20) (.c (.nat .i64 0))),
 aQ 22 (.call (.f f_sed_wrong) [.t 21, .c (.nat .i64 9)])]
def o_sed_reader_command_5 : List AOp := [
 aQ 23 (.mov (.t 0)),
 aQ 24 (.call (.f f_sed_reader_skips) [.t 23, .c (.d (.str [32]))])]
def o_sed_reader_command_6 : List AOp := [
 aQ 25 (.mov (.t 0)),
 aQ 26 (.call (.f f_sed_reader_takes) [.t 25, .c (.d (.str [33]))]),
 aQ 27 (.fldA 7 (.t 3)),
 { dst := none, op := .store 1 (.t 27) (.t 26) }]
def o_sed_reader_command_7 : List AOp := [
 aQ 28 (.mov (.t 0)),
 aQ 29 (.call (.f f_sed_reader_skips) [.t 28, .c (.d (.str [32]))])]
def o_sed_reader_command_8 : List AOp := [
 mQ 30 (.mov (.t 0)),
 mQ 31 (.nilchk (.t 30)),
 mQ 32 (.fldA 1 (.t 31)),
 mQ 33 (.load none (.t 32)),
 mQ 34 (.mov (.t 0)),
 mQ 35 (.nilchk (.t 34)),
 mQ 36 (.fldA 0 (.t 35)),
 mQ 37 (.load none (.t 36)),
 mQ 38 (.lenS (.t 37)),
 aQ 39 (.bin .geq (.t 33) (.t 38)),
 aQ 40 (.call (.f f_sed_wrong) [.t 39, .c (.nat .i64 9)])]
def o_sed_reader_command_9 : List AOp := [
 mQ 41 (.mov (.t 0)),
 mQ 42 (.nilchk (.t 41)),
 mQ 43 (.fldA 0 (.t 42)),
 mQ 44 (.load none (.t 43)),
 mQ 45 (.mov (.t 0)),
 mQ 46 (.nilchk (.t 45)),
 mQ 47 (.fldA 1 (.t 46)),
 mQ 48 (.load none (.t 47)),
 aQ 49 (.idxS (.t 44) (.t 48)),
 aQ 50 (.fldA 0 (.t 3)),
 { dst := none, op := .store 1 (.t 50) (.t 49) }]
def o_sed_reader_command_10 : List AOp := [
 aQ 51 (.mov (.t 0)),
 aQ 52 (.nilchk (.t 51)),
 aQ 53 (.fldA 1 (.t 52)),
 aQ 54 (.load none (.t 53)),
 aQ 55 (.bin .add (.t 54) (.c (.nat .i64 1))),
 aQ 56 (.nilchk (.t 51)),
 aQ 57 (.fldA 1 (.t 56)),
 { dst := none, op := .store 1 (.t 57) (.t 55) }]
def o_sed_reader_command_11 : List AOp := [
 aQ 58 (.fldA 0 (.t 3)),
 aQ 59 (.load none (.t 58))]
def o_sed_reader_command_12 : List AOp := [
 aQ 61 (.bin .eql (.t 59) (.c (.nat .u8 115))),
 aQ 60 (.asg (.t 61))]
def o_sed_reader_command_13 : List AOp := [
 aQ 63 (.bin .eql (.t 59) (.c (.nat .u8 58))),
 aQ 62 (.asg (.t 63))]
def o_sed_reader_command_14 : List AOp := [
 aQ 65 (.bin .eql (.t 59) (.c (.nat .u8 98))),
 aQ 64 (.asg (.t 65))]
def o_sed_reader_command_15 : List AOp := [
 aQ 66 (.bin .eql (.t 59) (.c (.nat .u8 116))),
 aQ 64 (.asg (.t 66))]
def o_sed_reader_command_16 : List AOp := [
 aQ 67 (.mov (.t 0)),
 aQ 68 (.call (.f f_sed_reader_replace) [.t 67, .t 3])]
def o_sed_reader_command_17 : List AOp := [
 aQ 69 (.fldA 7 (.t 3)),
 aQ 70 (.load none (.t 69)),
 aQ 71 (.mov (.t 70)),
 gQ 72 (.fldA 1 (.t 3)) 71 false,
 gQ 73 (.fldA 0 (.t 72)) 71 false,
 gQ 74 (.load none (.t 73)) 71 false,
 gQ 75 (.bin .neq (.t 74) (.c (.nat .i64 0))) 71 false,
 aQ 76 (.pick (.t 71) (.c (.d (.bool true))) (.t 75)),
 aQ 77 (.call (.f f_sed_wrong) [.t 76, .c (.nat .i64 9)])]
def o_sed_reader_command_18 : List AOp := [
 aQ 78 (.mov (.t 0)),
 aQ 79 (.call (.f f_sed_reader_label) [.t 78]),
 aQ 80 (.fldA 12 (.t 3)),
 { dst := none, op := .store 1 (.t 80) (.t 79) }]
def o_sed_reader_command_19 : List AOp := [
 aQ 81 (.fldA 12 (.t 3)),
 aQ 82 (.load none (.t 81)),
 aQ 83 (.bin .eql (.t 82) (.c (.d (.str [])))),
 aQ 84 (.call (.f f_sed_wrong) [.t 83, .c (.nat .i64 9)])]
def o_sed_reader_command_20 : List AOp := [
 aQ 85 (.mov (.t 0)),
 aQ 86 (.call (.f f_sed_reader_skips) [.t 85, .c (.d (.str [32]))])]
def o_sed_reader_command_21 : List AOp := [
 aQ 87 (.mov (.t 0)),
 aQ 88 (.call (.f f_sed_reader_label) [.t 87]),
 aQ 89 (.fldA 12 (.t 3)),
 { dst := none, op := .store 1 (.t 89) (.t 88) }]
def o_sed_reader_command_22 : List AOp := [
 aQ 90 (.fldA 0 (.t 3)),
 aQ 91 (.load none (.t 90)),
 aQ 92 (.bin .neq (.t 91) (.c (.nat .u8 98))),
 aQ 93 (.mov (.t 92)),
 gQ 94 (.fldA 0 (.t 3)) 93 true,
 gQ 95 (.load none (.t 94)) 93 true,
 gQ 96 (.bin .neq (.t 95) (.c (.nat .u8 116))) 93 true,
 aQ 97 (.pick (.t 93) (.t 96) (.c (.d (.bool false)))),
 aQ 98 (.mov (.t 97)),
 gQ 99 (.fldA 0 (.t 3)) 98 true,
 gQ 100 (.load none (.t 99)) 98 true,
 gQ 101 (.call (.f f_strings_IndexByte) [.c (.d (.str [112, 100, 113, 110, 104, 72, 103, 71, 120])), .t 100]) 98 true,
 gQ 102 (.bin .lss (.t 101) (.c (.nat .i64 0))) 98 true,
 aQ 103 (.pick (.t 98) (.t 102) (.c (.d (.bool false)))),
 aQ 104 (.call (.f f_sed_wrong) [.t 103, .c (.nat .i64 9)])]
def o_sed_reader_command_23 : List AOp := [
 aQ 105 (.mov (.t 0)),
 aQ 106 (.call (.f f_sed_reader_skips) [.t 105, .c (.d (.str [32]))])]
def o_sed_reader_command_24 : List AOp := [
 mQ 107 (.mov (.t 0)),
 mQ 108 (.nilchk (.t 107)),
 mQ 109 (.fldA 1 (.t 108)),
 mQ 110 (.load none (.t 109)),
 mQ 111 (.mov (.t 0)),
 mQ 112 (.nilchk (.t 111)),
 mQ 113 (.fldA 0 (.t 112)),
 mQ 114 (.load none (.t 113)),
 mQ 115 (.lenS (.t 114)),
 aQ 116 (.bin .lss (.t 110) (.t 115)),
 aQ 117 (.mov (.t 116)),
 gQ 118 (.mov (.t 0)) 117 true,
 gQ 119 (.call (.f f_sed_reader_sees) [.t 118, .c (.d (.str [10, 59]))]) 117 true,
 gQ 120 (.un .not (.t 119)) 117 true,
 aQ 121 (.pick (.t 117) (.t 120) (.c (.d (.bool false)))),
 aQ 122 (.call (.f f_sed_wrong) [.t 121, .c (.nat .i64 9)])]
def o_sed_reader_command_25 : List AOp := [
 aQ 123 (.load (some 13) (.t 3)),
 { dst := none, op := .store 13 (.t 2) (.t 123) }]
def c_sed_reader_command : AC :=
 (.seq (.ops o_sed_reader_command_0)
 (.seq (.ops o_sed_reader_command_1)
 (.seq (.seq (.ops o_sed_reader_command_2)
 (.cond (.t 14) (.seq (.ops o_sed_reader_command_3)
 (.ops o_sed_reader_command_4)) .skip))
 (.seq (.ops o_sed_reader_command_5)
 (.seq (.ops o_sed_reader_command_6)
 (.seq (.ops o_sed_reader_command_7)
 (.seq (.ops o_sed_reader_command_8)
 (.seq (.ops o_sed_reader_command_9)
 (.seq (.ops o_sed_reader_command_10)
 (.seq (.seq (.ops o_sed_reader_command_11)
 (.trim [0, 2, 3] (.block 0 (.seq (.trim [0, 2, 3] (.block 4 (.seq (.trim [0, 2, 3] (.block 3 (.seq (.trim [0, 2, 3] (.block 2 (.seq (.trim [0, 2, 3] (.block 1 (.seq (.seq (.seq (.ops o_sed_reader_command_12)
 (.cond (.t 60) (.exit 1) .skip))
 (.seq (.seq (.ops o_sed_reader_command_13)
 (.cond (.t 62) (.exit 2) .skip))
 (.seq (.seq (.ops o_sed_reader_command_14)
 (.cond (.t 64) .skip (.ops o_sed_reader_command_15)))
 (.cond (.t 64) (.exit 3) .skip))))
 (.exit 4))))
 (.seq (.ops o_sed_reader_command_16)
 (.exit 0)))))
 (.seq (.seq (.ops o_sed_reader_command_17)
 (.seq (.ops o_sed_reader_command_18)
 (.ops o_sed_reader_command_19)))
 (.exit 0)))))
 (.seq (.ops o_sed_reader_command_20)
 (.ops o_sed_reader_command_21)))))
 (.seq (.ops o_sed_reader_command_22)
 (.exit 0))))))
 (.seq (.ops o_sed_reader_command_23)
 (.seq (.ops o_sed_reader_command_24)
 (.seq (.ops o_sed_reader_command_25)
 .ret)))))))))))))
def a_sed_reader_command : AFn := { body := c_sed_reader_command, res := [.cell 2 (some 13)] }
def o_sed_named_0 : List AOp := [
 aQ 2 (.asg (.c (.d (.bool false))))]
def o_sed_named_1 : List AOp := [
 aQ 6 (.makeMap),
 aQ 3 (.alloc [.d .nilM]),
 { dst := none, op := .store 1 (.t 3) (.t 6) }]
def o_sed_named_2 : List AOp := [
 aQ 7 (.mov (.t 0)),
 aQ 8 (.len (.t 7)),
 aQ 9 (.mov (.c (.nat .i64 0)))]
def o_sed_named_3 : List AOp := [
 aQ 10 (.bin .lss (.t 9) (.t 8))]
def o_sed_named_4 : List AOp := [
 aQ 11 (.idxA none 13 (.t 7) (.t 9)),
 aQ 12 (.load (some 13) (.t 11)),
 aQ 5 (.alloc [.nat .u8 0, .nat .i64 0, .nat .i64 0, .nil, .nat .i64 0, .nat .i64 0, .nil, .d (.bool false), .nil, .nil, .d (.bool false), .d (.bool false), .d (.str [])]),
 { dst := none, op := .store 13 (.t 5) (.t 12) }]
def o_sed_named_5 : List AOp := [
 aQ 13 (.fldA 0 (.t 5)),
 aQ 14 (.load none (.t 13)),
 aQ 15 (.bin .eql (.t 14) (.c (.nat .u8 58)))]
def o_sed_named_6 : List AOp := [
 aQ 16 (.load none (.t 3)),
 aQ 17 (.fldA 12 (.t 5)),
 aQ 18 (.load none (.t 17)),
 aQ 19 (.lookup .str false (.nat .i64 0) (.t 16) (.t 18)),
 aQ 20 (.bin .add (.t 19) (.c (.nat .i64 1))),
 { dst := none, op := .mapSet .str (.t 16) (.t 18) (.t 20) }]
def o_sed_named_7 : List AOp := [
 aQ 21 (.bin .add (.t 9) (.c (.nat .i64 1))),
 aQ 9 (.mov (.t 21))]
def b_sed_named_0 : AC := (.seq (.ops o_sed_named_3)
 (.seq (.cond (.t 10) .skip (.exit 0))
 (.seq (.trim [0, 3, 7, 8, 9] (.block 1 (.seq (.ops o_sed_named_4)
 (.seq (.ops o_sed_named_5)
 (.cond (.t 15) (.ops o_sed_named_6) .skip)))))
 (.ops o_sed_named_7))))
def o_sed_named_8 : List AOp := [
 aQ 22 (.mov (.t 0)),
 aQ 23 (.mkfn (.func f_sed_named_1) [] [.t 3]),
 aQ 24 (.call (.f f_slices_ContainsFunc_api_SedCmd_api_SedCmd) [.t 22, .t 23]),
 aQ 25 (.un .not (.t 24)),
 aQ 2 (.asg (.t 25))]
def c_sed_named : AC :=
 (.seq (.ops o_sed_named_0)
 (.seq (.ops o_sed_named_1)
 (.seq (.seq (.ops o_sed_named_2)
 (.trim [0, 3] (.block 0 (.loop [0, 3, 7, 8, 9] b_sed_named_0))))
 (.seq (.ops o_sed_named_8)
 .ret))))
def a_sed_named : AFn := { body := c_sed_named, res := [.tmp 2] }
def o_stream_machine_fits_0 : List AOp := [
 aQ 4 (.asg (.c (.d (.str []))))]
def o_stream_machine_fits_1 : List AOp := [
 aQ 5 (.mov (.t 1)),
 aQ 6 (.lenS (.t 5)),
 aQ 7 (.bin .gtr (.t 6) (.c (.nat .i64 65536)))]
def o_stream_machine_fits_2 : List AOp := [
 aQ 8 (.mov (.t 0)),
 aQ 9 (.mov (.t 0)),
 aQ 10 (.nilchk (.t 8)),
 aQ 11 (.fldA 12 (.t 10)),
 { dst := none, op := .store 1 (.t 11) (.c (.nat .i64 6)) },
 aQ 12 (.nilchk (.t 9)),
 aQ 13 (.fldA 11 (.t 12)),
 { dst := none, op := .store 1 (.t 13) (.c (.d (.bool true))) }]
def o_stream_machine_fits_3 : List AOp := [
 aQ 4 (.asg (.c (.d (.str []))))]
def o_stream_machine_fits_4 : List AOp := [
 aQ 14 (.mov (.t 1)),
 aQ 4 (.asg (.t 14))]
def c_stream_machine_fits : AC :=
 (.seq (.ops o_stream_machine_fits_0)
 (.seq (.seq (.ops o_stream_machine_fits_1)
 (.cond (.t 7) (.seq (.ops o_stream_machine_fits_2)
 (.seq (.ops o_stream_machine_fits_3)
 .ret)) .skip))
 (.seq (.ops o_stream_machine_fits_4)
 .ret)))
def a_stream_machine_fits : AFn := { body := c_stream_machine_fits, res := [.tmp 4] }
def o_stringslite_HasSuffix_0 : List AOp := [
 aQ 4 (.asg (.c (.d (.bool false))))]
def o_stringslite_HasSuffix_1 : List AOp := [
 aQ 5 (.mov (.t 0)),
 aQ 6 (.lenS (.t 5)),
 aQ 7 (.mov (.t 1)),
 aQ 8 (.lenS (.t 7)),
 aQ 9 (.bin .geq (.t 6) (.t 8)),
 aQ 10 (.mov (.t 9)),
 gQ 11 (.mov (.t 0)) 10 true,
 gQ 12 (.mov (.t 0)) 10 true,
 gQ 13 (.lenS (.t 12)) 10 true,
 gQ 14 (.mov (.t 1)) 10 true,
 gQ 15 (.lenS (.t 14)) 10 true,
 gQ 16 (.bin .sub (.t 13) (.t 15)) 10 true,
 gQ 17 (.sliceS (.t 11) (some (.t 16)) none) 10 true,
 gQ 18 (.mov (.t 1)) 10 true,
 gQ 19 (.bin .eql (.t 17) (.t 18)) 10 true,
 aQ 20 (.pick (.t 10) (.t 19) (.c (.d (.bool false)))),
 aQ 4 (.asg (.t 20))]
def c_stringslite_HasSuffix : AC :=
 (.seq (.ops o_stringslite_HasSuffix_0)
 (.seq (.ops o_stringslite_HasSuffix_1)
 .ret))
def a_stringslite_HasSuffix : AFn := { body := c_stringslite_HasSuffix, res := [.tmp 4] }
def o_sed_reader_takes_0 : List AOp := [
 aQ 4 (.asg (.c (.d (.bool false))))]
def o_sed_reader_takes_1 : List AOp := [
 aQ 6 (.mov (.t 0)),
 aQ 7 (.mov (.t 1)),
 aQ 8 (.call (.f f_sed_reader_sees) [.t 6, .t 7]),
 aQ 5 (.asg (.t 8))]
def o_sed_reader_takes_2 : List AOp := [
 aQ 9 (.mov (.t 5))]
def o_sed_reader_takes_3 : List AOp := [
 aQ 10 (.mov (.t 0)),
 aQ 11 (.nilchk (.t 10)),
 aQ 12 (.fldA 1 (.t 11)),
 aQ 13 (.load none (.t 12)),
 aQ 14 (.bin .add (.t 13) (.c (.nat .i64 1))),
 aQ 15 (.nilchk (.t 10)),
 aQ 16 (.fldA 1 (.t 15)),
 { dst := none, op := .store 1 (.t 16) (.t 14) }]
def o_sed_reader_takes_4 : List AOp := [
 aQ 17 (.mov (.t 5)),
 aQ 4 (.asg (.t 17))]
def c_sed_reader_takes : AC :=
 (.seq (.ops o_sed_reader_takes_0)
 (.seq (.ops o_sed_reader_takes_1)
 (.seq (.seq (.ops o_sed_reader_takes_2)
 (.cond (.t 9) (.ops o_sed_reader_takes_3) .skip))
 (.seq (.ops o_sed_reader_takes_4)
 .ret))))
def a_sed_reader_takes : AFn := { body := c_sed_reader_takes, res := [.tmp 4] }
def o_sed_reader_addr_0 : List AOp := [
 aQ 2 (.alloc [.nat .i64 0, .nat .i64 0, .nil])]
def o_sed_reader_addr_1 : List AOp := [
 aQ 7 (.mov (.t 0)),
 aQ 8 (.call (.f f_sed_reader_takes) [.t 7, .c (.d (.str [36]))]),
 aQ 6 (.asg (.t 8))]
def o_sed_reader_addr_2 : List AOp := [
 aQ 9 (.build [.nat .i64 0, .nat .i64 0, .nil] [(0, 1, (.c (.nat .i64 2)))]),
 { dst := none, op := .store 3 (.t 2) (.t 9) }]
def o_sed_reader_addr_3 : List AOp := [
 aQ 11 (.mov (.t 0)),
 aQ 12 (.call (.f f_sed_reader_takes) [.t 11, .c (.d (.str [47]))]),
 aQ 10 (.asg (.t 12))]
def o_sed_reader_addr_4 : List AOp := [
 aQ 13 (.mov (.t 0)),
 aQ 14 (.call (.f f_sed_reader_re) [.t 13]),
 aQ 15 (.build [.nat .i64 0, .nat .i64 0, .nil] [(0, 1, (.c (.nat .i64 3))), (2, 1, (.t 14))]),
 { dst := none, op := .store 3 (.t 2) (.t 15) }]
def o_sed_reader_addr_5 : List AOp := [
 aQ 17 (.mov (.t 0)),
 aQ 18 (.call (.f f_sed_reader_sees) [.t 17, .c (.d (.str [48, 49, 50, 51, 52, 53, 54, 55, 56, 57]))]),
 aQ 19 (.un .not (.t 18)),
 aQ 16 (.asg (.t 19))]
def o_sed_reader_addr_6 : List AOp := [
 aQ 20 (.build [.nat .i64 0, .nat .i64 0, .nil] []),
 { dst := none, op := .store 3 (.t 2) (.t 20) }]
def o_sed_reader_addr_7 : List AOp := [
 mQ 22 (.mov (.t 0)),
 mQ 23 (.nilchk (.t 22)),
 mQ 24 (.fldA 0 (.t 23)),
 mQ 25 (.load none (.t 24)),
 mQ 26 (.mov (.t 0)),
 mQ 27 (.nilchk (.t 26)),
 mQ 28 (.fldA 1 (.t 27)),
 mQ 29 (.load none (.t 28)),
 aQ 30 (.sliceS (.t 25) (some (.t 29)) none),
 aQ 31 (.call (.f f_hex_Whole) [.t 30]),
 aQ 21 (.mov (.t 31)),
 mQ 32 (.extr (.t 21) 0),
 mQ 33 (.extr (.t 21) 1),
 mQ 34 (.extr (.t 21) 2),
 mQ 3 (.asg (.t 32)),
 mQ 4 (.asg (.t 33)),
 aQ 5 (.asg (.t 34))]
def o_sed_reader_addr_8 : List AOp := [
 aQ 35 (.mov (.t 5)),
 aQ 36 (.bin .neq (.t 35) (.c (.nat .i64 0))),
 aQ 37 (.mov (.t 36)),
 gQ 38 (.mov (.t 3)) 37 false,
 gQ 39 (.bin .lss (.t 38) (.c (.nat .i64 1))) 37 false,
 aQ 40 (.pick (.t 37) (.c (.d (.bool true))) (.t 39)),
 aQ 41 (.mov (.t 40)),
 gQ 42 (.mov (.t 3)) 41 false,
 gQ 43 (.bin .gtr (.t 42) (.c (.nat .i64 1000000000))) 41 false,
 aQ 44 (.pick (.t 41) (.c (.d (.bool true))) (.t 43)),
 aQ 45 (.call (.f f_sed_wrong) [.t 44, .c (.nat .i64 9)])]
def o_sed_reader_addr_9 : List AOp := [
 aQ 46 (.mov (.t 0)),
 aQ 47 (.nilchk (.t 46)),
 aQ 48 (.fldA 1 (.t 47)),
 aQ 49 (.load none (.t 48)),
 aQ 50 (.mov (.t 4)),
 aQ 51 (.bin .add (.t 49) (.t 50)),
 aQ 52 (.nilchk (.t 46)),
 aQ 53 (.fldA 1 (.t 52)),
 { dst := none, op := .store 1 (.t 53) (.t 51) }]
def o_sed_reader_addr_10 : List AOp := [
 aQ 54 (.mov (.t 3)),
 aQ 55 (.build [.nat .i64 0, .nat .i64 0, .nil] [(0, 1, (.c (.nat .i64 1))), (1, 1, (.t 54))]),
 { dst := none, op := .store 3 (.t 2) (.t 55) }]
def c_sed_reader_addr : AC :=
 (.seq (.ops o_sed_reader_addr_0)
 (.seq (.trim [0, 2] (.block 0 (.seq (.ops o_sed_reader_addr_1)
 (.cond (.t 6) (.seq (.ops o_sed_reader_addr_2)
 .ret) (.seq (.ops o_sed_reader_addr_3)
 (.cond (.t 10) (.seq (.ops o_sed_reader_addr_4)
 .ret) (.seq (.ops o_sed_reader_addr_5)
 (.cond (.t 16) (.seq (.ops o_sed_reader_addr_6)
 .ret) .skip))))))))
 (.seq (.ops o_sed_reader_addr_7)
 (.seq (.ops o_sed_reader_addr_8)
 (.seq (.ops o_sed_reader_addr_9)
 (.seq (.ops o_sed_reader_addr_10)
 .ret))))))
def a_sed_reader_addr : AFn := { body := c_sed_reader_addr, res := [.cell 2 (some 3)] }
def o_sed_reader_label_0 : List AOp := [
 aQ 2 (.asg (.c (.d (.str []))))]
def o_sed_reader_label_1 : List AOp := [
 aQ 4 (.mov (.t 0)),
 aQ 5 (.nilchk (.t 4)),
 aQ 6 (.fldA 1 (.t 5)),
 aQ 7 (.load none (.t 6)),
 aQ 3 (.asg (.t 7))]
def o_sed_reader_label_2 : List AOp := [
 mQ 8 (.mov (.t 0)),
 mQ 9 (.nilchk (.t 8)),
 mQ 10 (.fldA 1 (.t 9)),
 mQ 11 (.load none (.t 10)),
 mQ 12 (.mov (.t 0)),
 mQ 13 (.nilchk (.t 12)),
 mQ 14 (.fldA 0 (.t 13)),
 mQ 15 (.load none (.t 14)),
 mQ 16 (.lenS (.t 15)),
 aQ 17 (.bin .lss (.t 11) (.t 16)),
 aQ 18 (.mov (.t 17)),
 hQ 19 (.mov (.t 0)) 18 true,
 hQ 20 (.nilchk (.t 19)) 18 true,
 hQ 21 (.fldA 0 (.t 20)) 18 true,
 hQ 22 (.load none (.t 21)) 18 true,
 hQ 23 (.mov (.t 3)) 18 true,
 hQ 24 (.mov (.t 0)) 18 true,
 hQ 25 (.nilchk (.t 24)) 18 true,
 hQ 26 (.fldA 1 (.t 25)) 18 true,
 hQ 27 (.load none (.t 26)) 18 true,
 hQ 28 (.bin .add (.t 27) (.c (.nat .i64 1))) 18 true,
 gQ 29 (.sliceS (.t 22) (some (.t 23)) (some (.t 28))) 18 true,
 gQ 30 (.call (.f f_hex_IsName) [.t 29]) 18 true,
 aQ 31 (.pick (.t 18) (.t 30) (.c (.d (.bool false))))]
def o_sed_reader_label_3 : List AOp := [
 aQ 32 (.mov (.t 0)),
 aQ 33 (.nilchk (.t 32)),
 aQ 34 (.fldA 1 (.t 33)),
 aQ 35 (.load none (.t 34)),
 aQ 36 (.bin .add (.t 35) (.c (.nat .i64 1))),
 aQ 37 (.nilchk (.t 32)),
 aQ 38 (.fldA 1 (.t 37)),
 { dst := none, op := .store 1 (.t 38) (.t 36) }]
def b_sed_reader_label_0 : AC := (.seq (.seq (.ops o_sed_reader_label_2)
 (.cond (.t 31) .skip (.exit 0)))
 (.trim [0, 3] (.block 1 (.ops o_sed_reader_label_3))))
def o_sed_reader_label_4 : List AOp := [
 mQ 39 (.mov (.t 0)),
 mQ 40 (.nilchk (.t 39)),
 mQ 41 (.fldA 0 (.t 40)),
 mQ 42 (.load none (.t 41)),
 mQ 43 (.mov (.t 3)),
 mQ 44 (.mov (.t 0)),
 mQ 45 (.nilchk (.t 44)),
 mQ 46 (.fldA 1 (.t 45)),
 mQ 47 (.load none (.t 46)),
 aQ 48 (.sliceS (.t 42) (some (.t 43)) (some (.t 47))),
 aQ 2 (.asg (.t 48))]
def c_sed_reader_label : AC :=
 (.seq (.ops o_sed_reader_label_0)
 (.seq (.ops o_sed_reader_label_1)
 (.seq (.trim [0, 3] (.block 0 (.loop [0, 3] b_sed_reader_label_0)))
 (.seq (.ops o_sed_reader_label_4)
 .ret))))
def a_sed_reader_label : AFn := { body := c_sed_reader_label, res := [.tmp 2] }
def o_strings_IndexByte_0 : List AOp := [
 aQ 4 (.asg (.c (.nat .i64 0)))]
def o_strings_IndexByte_1 : List AOp := [
 aQ 5 (.mov (.t 0)),
 aQ 6 (.mov (.t 1)),
 aQ 7 (.call (.f f_stringslite_IndexByte) [.t 5, .t 6]),
 aQ 4 (.asg (.t 7))]
def c_strings_IndexByte : AC :=
 (.seq (.ops o_strings_IndexByte_0)
 (.seq (.ops o_strings_IndexByte_1)
 .ret))
def a_strings_IndexByte : AFn := { body := c_strings_IndexByte, res := [.tmp 4] }
def o_sed_reader_sees_0 : List AOp := [
 aQ 4 (.asg (.c (.d (.bool false))))]
def o_sed_reader_sees_1 : List AOp := [
 mQ 5 (.mov (.t 0)),
 mQ 6 (.nilchk (.t 5)),
 mQ 7 (.fldA 1 (.t 6)),
 mQ 8 (.load none (.t 7)),
 mQ 9 (.mov (.t 0)),
 mQ 10 (.nilchk (.t 9)),
 mQ 11 (.fldA 0 (.t 10)),
 mQ 12 (.load none (.t 11)),
 mQ 13 (.lenS (.t 12)),
 aQ 14 (.bin .lss (.t 8) (.t 13)),
 aQ 15 (.mov (.t 14)),
 hQ 16 (.mov (.t 1)) 15 true,
 hQ 17 (.mov (.t 0)) 15 true,
 hQ 18 (.nilchk (.t 17)) 15 true,
 hQ 19 (.fldA 0 (.t 18)) 15 true,
 hQ 20 (.load none (.t 19)) 15 true,
 hQ 21 (.mov (.t 0)) 15 true,
 hQ 22 (.nilchk (.t 21)) 15 true,
 hQ 23 (.fldA 1 (.t 22)) 15 true,
 hQ 24 (.load none (.t 23)) 15 true,
 hQ 25 (.idxS (.t 20) (.t 24)) 15 true,
 gQ 26 (.call (.f f_strings_IndexByte) [.t 16, .t 25]) 15 true,
 gQ 27 (.bin .geq (.t 26) (.c (.nat .i64 0))) 15 true,
 aQ 28 (.pick (.t 15) (.t 27) (.c (.d (.bool false)))),
 aQ 4 (.asg (.t 28))]
def c_sed_reader_sees : AC :=
 (.seq (.ops o_sed_reader_sees_0)
 (.seq (.ops o_sed_reader_sees_1)
 .ret))
def a_sed_reader_sees : AFn := { body := c_sed_reader_sees, res := [.tmp 4] }
def o_slices_ContainsFunc_api_SedCmd_api_SedCmd_0 : List AOp := [
 aQ 4 (.asg (.c (.d (.bool false))))]
def o_slices_ContainsFunc_api_SedCmd_api_SedCmd_1 : List AOp := [
 aQ 5 (.mov (.t 0)),
 aQ 6 (.mov (.t 1)),
 aQ 7 (.call (.f f_slices_IndexFunc_api_SedCmd_api_SedCmd) [.t 5, .t 6]),
 aQ 8 (.bin .geq (.t 7) (.c (.nat .i64 0))),
 aQ 4 (.asg (.t 8))]
def c_slices_ContainsFunc_api_SedCmd_api_SedCmd : AC :=
 (.seq (.ops o_slices_ContainsFunc_api_SedCmd_api_SedCmd_0)
 (.seq (.ops o_slices_ContainsFunc_api_SedCmd_api_SedCmd_1)
 .ret))
def a_slices_ContainsFunc_api_SedCmd_api_SedCmd : AFn := { body := c_slices_ContainsFunc_api_SedCmd_api_SedCmd, res := [.tmp 4] }
def o_sed_named_1_0 : List AOp := [
 aQ 2 (.box (.t 0)),
 aQ 3 (.asg (.c (.d (.bool false))))]
def o_sed_named_1_1 : List AOp := [
 aQ 4 (.fldA 12 (.t 2)),
 aQ 5 (.load none (.t 4)),
 aQ 6 (.bin .neq (.t 5) (.c (.d (.str [])))),
 aQ 7 (.mov (.t 6)),
 gQ 8 (.load none (.t 1)) 7 true,
 gQ 9 (.fldA 12 (.t 2)) 7 true,
 gQ 10 (.load none (.t 9)) 7 true,
 gQ 11 (.lookup .str false (.nat .i64 0) (.t 8) (.t 10)) 7 true,
 gQ 12 (.bin .neq (.t 11) (.c (.nat .i64 1))) 7 true,
 aQ 13 (.pick (.t 7) (.t 12) (.c (.d (.bool false)))),
 aQ 3 (.asg (.t 13))]
def c_sed_named_1 : AC :=
 (.seq (.ops o_sed_named_1_0)
 (.seq (.ops o_sed_named_1_1)
 .ret))
def a_sed_named_1 : AFn := { body := c_sed_named_1, res := [.tmp 3] }
def o_hex_Whole_0 : List AOp := [
 aQ 2 (.asg (.c (.nat .i64 0))),
 aQ 3 (.asg (.c (.nat .i64 0))),
 aQ 4 (.asg (.c (.nat .i64 0)))]
def o_hex_Whole_1 : List AOp := [
 aQ 5 (.asg (.c (.nat .i64 0)))]
def o_hex_Whole_2 : List AOp := [
 aQ 10 (.mov (.t 0)),
 aQ 11 (.bin .neq (.t 10) (.c (.d (.str [])))),
 aQ 12 (.mov (.t 11)),
 gQ 13 (.mov (.t 0)) 12 true,
 gQ 14 (.idxS (.t 13) (.c (.nat .i64 0))) 12 true,
 gQ 15 (.bin .eql (.t 14) (.c (.nat .u8 45))) 12 true,
 aQ 16 (.pick (.t 12) (.t 15) (.c (.d (.bool false))))]
def o_hex_Whole_3 : List AOp := [
 aQ 5 (.asg (.c (.nat .i64 1)))]
def o_hex_Whole_4 : List AOp := [
 aQ 17 (.mov (.t 5)),
 aQ 6 (.asg (.t 17))]
def o_hex_Whole_5 : List AOp := [
 aQ 18 (.mov (.t 5)),
 aQ 19 (.mov (.t 0)),
 aQ 20 (.lenS (.t 19)),
 aQ 21 (.bin .lss (.t 18) (.t 20)),
 aQ 22 (.mov (.t 21)),
 gQ 23 (.mov (.t 0)) 22 true,
 gQ 24 (.mov (.t 5)) 22 true,
 gQ 25 (.idxS (.t 23) (.t 24)) 22 true,
 gQ 26 (.bin .geq (.t 25) (.c (.nat .u8 48))) 22 true,
 aQ 27 (.pick (.t 22) (.t 26) (.c (.d (.bool false)))),
 aQ 28 (.mov (.t 27)),
 gQ 29 (.mov (.t 0)) 28 true,
 gQ 30 (.mov (.t 5)) 28 true,
 gQ 31 (.idxS (.t 29) (.t 30)) 28 true,
 gQ 32 (.bin .leq (.t 31) (.c (.nat .u8 57))) 28 true,
 aQ 33 (.pick (.t 28) (.t 32) (.c (.d (.bool false))))]
def o_hex_Whole_6 : List AOp := [
 aQ 34 (.mov (.t 5)),
 aQ 35 (.bin .add (.t 34) (.c (.nat .i64 1))),
 aQ 5 (.asg (.t 35))]
def b_hex_Whole_0 : AC := (.seq (.seq (.ops o_hex_Whole_5)
 (.cond (.t 33) .skip (.exit 0)))
 (.trim [0, 5, 6] (.block 1 (.ops o_hex_Whole_6))))
def o_hex_Whole_7 : List AOp := [
 aQ 7 (.asg (.c (.nat .i64 2)))]
def o_hex_Whole_8 : List AOp := [
 aQ 37 (.mov (.t 0)),
 aQ 38 (.mov (.t 5)),
 aQ 39 (.sliceS (.t 37) none (some (.t 38))),
 aQ 40 (.call (.f f_strconv_ParseInt) [.t 39, .c (.nat .i64 10), .c (.nat .i64 64)]),
 aQ 36 (.mov (.t 40)),
 aQ 41 (.extr (.t 36) 0),
 aQ 42 (.extr (.t 36) 1),
 aQ 8 (.asg (.t 41)),
 aQ 9 (.asg (.t 42))]
def o_hex_Whole_9 : List AOp := [
 aQ 44 (.mov (.t 5)),
 aQ 45 (.mov (.t 6)),
 aQ 46 (.bin .eql (.t 44) (.t 45)),
 aQ 43 (.asg (.t 46))]
def o_hex_Whole_10 : List AOp := [
 aQ 48 (.mov (.t 9)),
 aQ 49 (.eqnil 1 true (.t 48)),
 aQ 47 (.asg (.t 49))]
def o_hex_Whole_11 : List AOp := [
 aQ 51 (.mov (.t 5)),
 aQ 52 (.bin .lss (.t 51) (.c (.nat .i64 0))),
 aQ 50 (.asg (.t 52))]
def o_hex_Whole_12 : List AOp := [
 aQ 53 (.mov (.t 7)),
 aQ 2 (.asg (.c (.nat .i64 0))),
 aQ 3 (.asg (.c (.nat .i64 0))),
 aQ 4 (.asg (.t 53))]
def o_hex_Whole_13 : List AOp := [
 aQ 7 (.asg (.c (.nat .i64 3)))]
def o_hex_Whole_14 : List AOp := [
 aQ 54 (.mov (.t 7)),
 aQ 2 (.asg (.c (.nat .i64 0))),
 aQ 3 (.asg (.c (.nat .i64 0))),
 aQ 4 (.asg (.t 54))]
def o_hex_Whole_15 : List AOp := [
 aQ 55 (.mov (.t 8)),
 aQ 56 (.mov (.t 5)),
 aQ 2 (.asg (.t 55)),
 aQ 3 (.asg (.t 56)),
 aQ 4 (.asg (.c (.nat .i64 0)))]
def c_hex_Whole : AC :=
 (.seq (.ops o_hex_Whole_0)
 (.seq (.ops o_hex_Whole_1)
 (.seq (.seq (.ops o_hex_Whole_2)
 (.cond (.t 16) (.ops o_hex_Whole_3) .skip))
 (.seq (.ops o_hex_Whole_4)
 (.seq (.trim [0, 5, 6] (.block 0 (.loop [0, 5, 6] b_hex_Whole_0)))
 (.seq (.ops o_hex_Whole_7)
 (.seq (.ops o_hex_Whole_8)
 (.seq (.trim [5, 8] (.block 2 (.seq (.trim [7] (.block 5 (.seq (.trim [] (.block 4 (.seq (.trim [7] (.block 3 (.seq (.seq (.seq (.ops o_hex_Whole_9)
 (.cond (.t 43) (.exit 3) .skip))
 (.seq (.seq (.ops o_hex_Whole_10)
 (.cond (.t 47) (.exit 4) .skip))
 (.seq (.ops o_hex_Whole_11)
 (.cond (.t 50) (.exit 5) .skip))))
 (.exit 2))))
 (.seq (.seq (.ops o_hex_Whole_12)
 .ret)
 (.exit 2)))))
 (.ops o_hex_Whole_13))))
 (.seq (.seq (.ops o_hex_Whole_14)
 .ret)
 (.exit 2)))))
 (.seq (.ops o_hex_Whole_15)
 .ret)))))))))
def a_hex_Whole : AFn := { body := c_hex_Whole, res := [.tmp 2, .tmp 3, .tmp 4] }
def o_hex_IsName_0 : List AOp := [
 aQ 2 (.asg (.c (.d (.bool false))))]
def o_hex_IsName_1 : List AOp := [
 aQ 3 (.asg (.f f_hex_IsName_1))]
def o_hex_IsName_2 : List AOp := [
 aQ 4 (.mov (.t 0)),
 aQ 5 (.bin .neq (.t 4) (.c (.d (.str [])))),
 aQ 6 (.mov (.t 5)),
 gQ 7 (.mov (.t 0)) 6 true,
 gQ 8 (.idxS (.t 7) (.c (.nat .i64 0))) 6 true,
 gQ 9 (.bin .lss (.t 8) (.c (.nat .u8 48))) 6 true,
 gQ 10 (.mov (.t 9)) 6 true,
 gQ 11 (.mov (.t 0)) 10 false,
 gQ 12 (.idxS (.t 11) (.c (.nat .i64 0))) 10 false,
 gQ 13 (.bin .gtr (.t 12) (.c (.nat .u8 57))) 10 false,
 gQ 14 (.pick (.t 10) (.c (.d (.bool true))) (.t 13)) 6 true,
 aQ 15 (.pick (.t 6) (.t 14) (.c (.d (.bool false)))),
 aQ 16 (.mov (.t 15)),
 gQ 17 (.mov (.t 0)) 16 true,
 gQ 18 (.strBytes (.t 17)) 16 true,
 gQ 19 (.mov (.t 3)) 16 true,
 gQ 20 (.call (.f f_slices_ContainsFunc_byte_byte) [.t 18, .t 19]) 16 true,
 gQ 21 (.un .not (.t 20)) 16 true,
 aQ 22 (.pick (.t 16) (.t 21) (.c (.d (.bool false)))),
 aQ 2 (.asg (.t 22))]
def c_hex_IsName : AC :=
 (.seq (.ops o_hex_IsName_0)
 (.seq (.ops o_hex_IsName_1)
 (.seq (.ops o_hex_IsName_2)
 .ret)))
def a_hex_IsName : AFn := { body := c_hex_IsName, res := [.tmp 2] }
def o_stringslite_IndexByte_0 : List AOp := [
 aQ 4 (.asg (.c (.nat .i64 0)))]
def o_stringslite_IndexByte_1 : List AOp := [
 aQ 5 (.mov (.t 0)),
 aQ 6 (.mov (.t 1)),
 aQ 7 (.call (.f f_bytealg_IndexByteString) [.t 5, .t 6]),
 aQ 4 (.asg (.t 7))]
def c_stringslite_IndexByte : AC :=
 (.seq (.ops o_stringslite_IndexByte_0)
 (.seq (.ops o_stringslite_IndexByte_1)
 .ret))
def a_stringslite_IndexByte : AFn := { body := c_stringslite_IndexByte, res := [.tmp 4] }
def o_slices_IndexFunc_api_SedCmd_api_SedCmd_0 : List AOp := [
 aQ 4 (.asg (.c (.nat .i64 0)))]
def o_slices_IndexFunc_api_SedCmd_api_SedCmd_1 : List AOp := [
 aQ 6 (.mov (.t 0)),
 aQ 7 (.len (.t 6)),
 aQ 8 (.mov (.c (.nat .i64 0)))]
def o_slices_IndexFunc_api_SedCmd_api_SedCmd_2 : List AOp := [
 aQ 9 (.bin .lss (.t 8) (.t 7))]
def o_slices_IndexFunc_api_SedCmd_api_SedCmd_3 : List AOp := [
 aQ 10 (.mov (.t 8)),
 aQ 5 (.asg (.t 10))]
def o_slices_IndexFunc_api_SedCmd_api_SedCmd_4 : List AOp := [
 aQ 11 (.mov (.t 1)),
 aQ 12 (.mov (.t 0)),
 aQ 13 (.mov (.t 5)),
 aQ 14 (.idxA none 13 (.t 12) (.t 13)),
 aQ 15 (.load (some 13) (.t 14)),
 aQ 16 (.call (.t 11) [.t 15])]
def o_slices_IndexFunc_api_SedCmd_api_SedCmd_5 : List AOp := [
 aQ 17 (.mov (.t 5)),
 aQ 4 (.asg (.t 17))]
def o_slices_IndexFunc_api_SedCmd_api_SedCmd_6 : List AOp := [
 aQ 18 (.bin .add (.t 8) (.c (.nat .i64 1))),
 aQ 8 (.mov (.t 18))]
def b_slices_IndexFunc_api_SedCmd_api_SedCmd_0 : AC := (.seq (.ops o_slices_IndexFunc_api_SedCmd_api_SedCmd_2)
 (.seq (.cond (.t 9) .skip (.exit 0))
 (.seq (.trim [0, 1, 7, 8] (.block 1 (.seq (.ops o_slices_IndexFunc_api_SedCmd_api_SedCmd_3)
 (.seq (.ops o_slices_IndexFunc_api_SedCmd_api_SedCmd_4)
 (.cond (.t 16) (.seq (.ops o_slices_IndexFunc_api_SedCmd_api_SedCmd_5)
 .ret) .skip)))))
 (.ops o_slices_IndexFunc_api_SedCmd_api_SedCmd_6))))
def o_slices_IndexFunc_api_SedCmd_api_SedCmd_7 : List AOp := [
 aQ 4 (.asg (.c (.d (.int .i64 (-1)))))]
def c_slices_IndexFunc_api_SedCmd_api_SedCmd : AC :=
 (.seq (.ops o_slices_IndexFunc_api_SedCmd_api_SedCmd_0)
 (.seq (.seq (.ops o_slices_IndexFunc_api_SedCmd_api_SedCmd_1)
 (.trim [] (.block 0 (.loop [0, 1, 7, 8] b_slices_IndexFunc_api_SedCmd_api_SedCmd_0))))
 (.seq (.ops o_slices_IndexFunc_api_SedCmd_api_SedCmd_7)
 .ret)))
def a_slices_IndexFunc_api_SedCmd_api_SedCmd : AFn := { body := c_slices_IndexFunc_api_SedCmd_api_SedCmd, res := [.tmp 4] }
def o_strconv_ParseInt_0 : List AOp := [
 aQ 6 (.asg (.c (.nat .i64 0))),
 aQ 7 (.asg (.c (.d .nilI)))]
def o_strconv_ParseInt_1 : List AOp := [
 aQ 10 (.mov (.t 0)),
 aQ 11 (.mov (.t 1)),
 aQ 12 (.mov (.t 2)),
 aQ 13 (.call (.f f_strconv_ParseInt_x1) [.t 10, .t 11, .t 12]),
 aQ 9 (.mov (.t 13)),
 aQ 14 (.extr (.t 9) 0),
 aQ 15 (.extr (.t 9) 1),
 aQ 8 (.asg (.t 14)),
 aQ 7 (.asg (.t 15))]
def o_strconv_ParseInt_2 : List AOp := [
 aQ 16 (.mov (.t 7)),
 aQ 17 (.eqnil 1 true (.t 16))]
def o_strconv_ParseInt_3 : List AOp := [
 aQ 18 (.mov (.t 8)),
 aQ 19 (.mov (.t 0)),
 aQ 20 (.mov (.t 1)),
 aQ 21 (.mov (.t 2)),
 aQ 22 (.mov (.t 7)),
 aQ 23 (.call (.f f_strconv_toError) [.c (.d (.str [80, 97, 114, 115, 101, 73, 110, 116])), .t 19, .t 20, .t 21, .t 22]),
 aQ 6 (.asg (.t 18)),
 aQ 7 (.asg (.t 23))]
def o_strconv_ParseInt_4 : List AOp := [
 aQ 24 (.mov (.t 8)),
 aQ 6 (.asg (.t 24)),
 aQ 7 (.asg (.c (.d .nilI)))]
def c_strconv_ParseInt : AC :=
 (.seq (.ops o_strconv_ParseInt_0)
 (.seq (.ops o_strconv_ParseInt_1)
 (.seq (.seq (.ops o_strconv_ParseInt_2)
 (.cond (.t 17) (.seq (.ops o_strconv_ParseInt_3)
 .ret) .skip))
 (.seq (.ops o_strconv_ParseInt_4)
 .ret))))
def a_strconv_ParseInt : AFn := { body := c_strconv_ParseInt, res := [.tmp 6, .tmp 7] }
def o_hex_IsName_1_0 : List AOp := [
 aQ 2 (.asg (.c (.d (.bool false))))]
def o_hex_IsName_1_1 : List AOp := [
 aQ 3 (.mov (.t 0)),
 aQ 4 (.bin .neq (.t 3) (.c (.nat .u8 95))),
 aQ 5 (.mov (.t 4)),
 gQ 6 (.mov (.t 0)) 5 true,
 gQ 7 (.bin .lss (.t 6) (.c (.nat .u8 48))) 5 true,
 gQ 8 (.mov (.t 7)) 5 true,
 gQ 9 (.mov (.t 0)) 8 false,
 gQ 10 (.bin .gtr (.t 9) (.c (.nat .u8 57))) 8 false,
 gQ 11 (.pick (.t 8) (.c (.d (.bool true))) (.t 10)) 5 true,
 aQ 12 (.pick (.t 5) (.t 11) (.c (.d (.bool false)))),
 aQ 13 (.mov (.t 12)),
 gQ 14 (.mov (.t 0)) 13 true,
 gQ 15 (.bin .lss (.t 14) (.c (.nat .u8 65))) 13 true,
 gQ 16 (.mov (.t 15)) 13 true,
 gQ 17 (.mov (.t 0)) 16 false,
 gQ 18 (.bin .gtr (.t 17) (.c (.nat .u8 90))) 16 false,
 gQ 19 (.pick (.t 16) (.c (.d (.bool true))) (.t 18)) 13 true,
 aQ 20 (.pick (.t 13) (.t 19) (.c (.d (.bool false)))),
 aQ 21 (.mov (.t 20)),
 gQ 22 (.mov (.t 0)) 21 true,
 gQ 23 (.bin .lss (.t 22) (.c (.nat .u8 97))) 21 true,
 gQ 24 (.mov (.t 23)) 21 true,
 gQ 25 (.mov (.t 0)) 24 false,
 gQ 26 (.bin .gtr (.t 25) (.c (.nat .u8 122))) 24 false,
 gQ 27 (.pick (.t 24) (.c (.d (.bool true))) (.t 26)) 21 true,
 aQ 28 (.pick (.t 21) (.t 27) (.c (.d (.bool false)))),
 aQ 2 (.asg (.t 28))]
def c_hex_IsName_1 : AC :=
 (.seq (.ops o_hex_IsName_1_0)
 (.seq (.ops o_hex_IsName_1_1)
 .ret))
def a_hex_IsName_1 : AFn := { body := c_hex_IsName_1, res := [.tmp 2] }
def o_slices_ContainsFunc_byte_byte_0 : List AOp := [
 aQ 4 (.asg (.c (.d (.bool false))))]
def o_slices_ContainsFunc_byte_byte_1 : List AOp := [
 aQ 5 (.mov (.t 0)),
 aQ 6 (.mov (.t 1)),
 aQ 7 (.call (.f f_slices_IndexFunc_byte_byte) [.t 5, .t 6]),
 aQ 8 (.bin .geq (.t 7) (.c (.nat .i64 0))),
 aQ 4 (.asg (.t 8))]
def c_slices_ContainsFunc_byte_byte : AC :=
 (.seq (.ops o_slices_ContainsFunc_byte_byte_0)
 (.seq (.ops o_slices_ContainsFunc_byte_byte_1)
 .ret))
def a_slices_ContainsFunc_byte_byte : AFn := { body := c_slices_ContainsFunc_byte_byte, res := [.tmp 4] }
def o_strconv_ParseInt_x1_0 : List AOp := [
 aQ 6 (.asg (.c (.nat .i64 0))),
 aQ 7 (.asg (.c (.d .nilI)))]
def o_strconv_ParseInt_x1_1 : List AOp := [
 aQ 12 (.mov (.t 0)),
 aQ 13 (.bin .eql (.t 12) (.c (.d (.str []))))]
def o_strconv_ParseInt_x1_2 : List AOp := [
 aQ 14 (.mkifc 204 (.c (.nat .i64 2))),
 aQ 6 (.asg (.c (.nat .i64 0))),
 aQ 7 (.asg (.t 14))]
def o_strconv_ParseInt_x1_3 : List AOp := [
 aQ 8 (.asg (.c (.d (.bool false))))]
def o_strconv_ParseInt_x1_4 : List AOp := [
 aQ 15 (.mov (.t 0)),
 aQ 16 (.idxS (.t 15) (.c (.nat .i64 0)))]
def o_strconv_ParseInt_x1_5 : List AOp := [
 aQ 18 (.bin .eql (.t 16) (.c (.nat .u8 43))),
 aQ 17 (.asg (.t 18))]
def o_strconv_ParseInt_x1_6 : List AOp := [
 aQ 19 (.mov (.t 0)),
 aQ 20 (.sliceS (.t 19) (some (.c (.nat .i64 1))) none),
 aQ 0 (.asg (.t 20))]
def o_strconv_ParseInt_x1_7 : List AOp := [
 aQ 22 (.bin .eql (.t 16) (.c (.nat .u8 45))),
 aQ 21 (.asg (.t 22))]
def o_strconv_ParseInt_x1_8 : List AOp := [
 aQ 23 (.mov (.t 0)),
 aQ 24 (.sliceS (.t 23) (some (.c (.nat .i64 1))) none),
 aQ 0 (.asg (.t 24))]
def o_strconv_ParseInt_x1_9 : List AOp := [
 aQ 8 (.asg (.c (.d (.bool true))))]
def o_strconv_ParseInt_x1_10 : List AOp := [
 aQ 9 (.asg (.c (.nat .u64 0)))]
def o_strconv_ParseInt_x1_11 : List AOp := [
 aQ 26 (.mov (.t 0)),
 aQ 27 (.mov (.t 1)),
 aQ 28 (.mov (.t 2)),
 aQ 29 (.call (.f f_strconv_ParseUint) [.t 26, .t 27, .t 28]),
 aQ 25 (.mov (.t 29)),
 aQ 30 (.extr (.t 25) 0),
 aQ 31 (.extr (.t 25) 1),
 aQ 9 (.asg (.t 30)),
 aQ 7 (.asg (.t 31))]
def o_strconv_ParseInt_x1_12 : List AOp := [
 aQ 32 (.mov (.t 7)),
 aQ 33 (.eqnil 1 true (.t 32)),
 aQ 34 (.mov (.t 33)),
 gQ 35 (.mov (.t 7)) 34 true,
 gQ 36 (.mkifc 204 (.c (.nat .i64 1))) 34 true,
 gQ 37 (.stuck) 34 true,
 aQ 38 (.pick (.t 34) (.t 37) (.c (.d (.bool false))))]
def o_strconv_ParseInt_x1_13 : List AOp := [
 aQ 39 (.mov (.t 7)),
 aQ 6 (.asg (.c (.nat .i64 0))),
 aQ 7 (.asg (.t 39))]
def o_strconv_ParseInt_x1_14 : List AOp := [
 aQ 40 (.mov (.t 2)),
 aQ 41 (.bin .eql (.t 40) (.c (.nat .i64 0)))]
def o_strconv_ParseInt_x1_15 : List AOp := [
 aQ 2 (.asg (.c (.nat .i64 64)))]
def o_strconv_ParseInt_x1_16 : List AOp := [
 aQ 42 (.mov (.t 2)),
 aQ 43 (.bin .sub (.t 42) (.c (.nat .i64 1))),
 aQ 44 (.toInt .u64 (.t 43)),
 aQ 45 (.bin .shl (.c (.nat .u64 1)) (.t 44)),
 aQ 10 (.asg (.t 45))]
def o_strconv_ParseInt_x1_17 : List AOp := [
 aQ 46 (.mov (.t 8)),
 aQ 47 (.un .not (.t 46)),
 aQ 48 (.mov (.t 47)),
 gQ 49 (.mov (.t 9)) 48 true,
 gQ 50 (.mov (.t 10)) 48 true,
 gQ 51 (.bin .geq (.t 49) (.t 50)) 48 true,
 aQ 52 (.pick (.t 48) (.t 51) (.c (.d (.bool false))))]
def o_strconv_ParseInt_x1_18 : List AOp := [
 aQ 53 (.mov (.t 10)),
 aQ 54 (.bin .sub (.t 53) (.c (.nat .u64 1))),
 aQ 55 (.toInt .i64 (.t 54)),
 aQ 56 (.mkifc 204 (.c (.nat .i64 1))),
 aQ 6 (.asg (.t 55)),
 aQ 7 (.asg (.t 56))]
def o_strconv_ParseInt_x1_19 : List AOp := [
 aQ 57 (.mov (.t 8)),
 aQ 58 (.mov (.t 57)),
 gQ 59 (.mov (.t 9)) 58 true,
 gQ 60 (.mov (.t 10)) 58 true,
 gQ 61 (.bin .gtr (.t 59) (.t 60)) 58 true,
 aQ 62 (.pick (.t 58) (.t 61) (.c (.d (.bool false))))]
def o_strconv_ParseInt_x1_20 : List AOp := [
 aQ 63 (.mov (.t 10)),
 aQ 64 (.toInt .i64 (.t 63)),
 aQ 65 (.un .neg (.t 64)),
 aQ 66 (.mkifc 204 (.c (.nat .i64 1))),
 aQ 6 (.asg (.t 65)),
 aQ 7 (.asg (.t 66))]
def o_strconv_ParseInt_x1_21 : List AOp := [
 aQ 67 (.mov (.t 9)),
 aQ 68 (.toInt .i64 (.t 67)),
 aQ 11 (.asg (.t 68))]
def o_strconv_ParseInt_x1_22 : List AOp := [
 aQ 69 (.mov (.t 8))]
def o_strconv_ParseInt_x1_23 : List AOp := [
 aQ 70 (.mov (.t 11)),
 aQ 71 (.un .neg (.t 70)),
 aQ 11 (.asg (.t 71))]
def o_strconv_ParseInt_x1_24 : List AOp := [
 aQ 72 (.mov (.t 11)),
 aQ 6 (.asg (.t 72)),
 aQ 7 (.asg (.c (.d .nilI)))]
def c_strconv_ParseInt_x1 : AC :=
 (.seq (.ops o_strconv_ParseInt_x1_0)
 (.seq (.seq (.ops o_strconv_ParseInt_x1_1)
 (.cond (.t 13) (.seq (.ops o_strconv_ParseInt_x1_2)
 .ret) .skip))
 (.seq (.ops o_strconv_ParseInt_x1_3)
 (.seq (.seq (.ops o_strconv_ParseInt_x1_4)
 (.trim [0, 1, 2, 8] (.block 0 (.seq (.ops o_strconv_ParseInt_x1_5)
 (.cond (.t 17) (.ops o_strconv_ParseInt_x1_6) (.seq (.ops o_strconv_ParseInt_x1_7)
 (.cond (.t 21) (.seq (.ops o_strconv_ParseInt_x1_8)
 (.ops o_strconv_ParseInt_x1_9)) .skip)))))))
 (.seq (.ops o_strconv_ParseInt_x1_10)
 (.seq (.ops o_strconv_ParseInt_x1_11)
 (.seq (.seq (.ops o_strconv_ParseInt_x1_12)
 (.cond (.t 38) (.seq (.ops o_strconv_ParseInt_x1_13)
 .ret) .skip))
 (.seq (.seq (.ops o_strconv_ParseInt_x1_14)
 (.cond (.t 41) (.ops o_strconv_ParseInt_x1_15) .skip))
 (.seq (.ops o_strconv_ParseInt_x1_16)
 (.seq (.seq (.ops o_strconv_ParseInt_x1_17)
 (.cond (.t 52) (.seq (.ops o_strconv_ParseInt_x1_18)
 .ret) .skip))
 (.seq (.seq (.ops o_strconv_ParseInt_x1_19)
 (.cond (.t 62) (.seq (.ops o_strconv_ParseInt_x1_20)
 .ret) .skip))
 (.seq (.ops o_strconv_ParseInt_x1_21)
 (.seq (.seq (.ops o_strconv_ParseInt_x1_22)
 (.cond (.t 69) (.ops o_strconv_ParseInt_x1_23) .skip))
 (.seq (.ops o_strconv_ParseInt_x1_24)
 .ret))))))))))))))
def a_strconv_ParseInt_x1 : AFn := { body := c_strconv_ParseInt_x1, res := [.tmp 6, .tmp 7] }
def o_slices_IndexFunc_byte_byte_0 : List AOp := [
 aQ 4 (.asg (.c (.nat .i64 0)))]
def o_slices_IndexFunc_byte_byte_1 : List AOp := [
 aQ 6 (.mov (.t 0)),
 aQ 7 (.len (.t 6)),
 aQ 8 (.mov (.c (.nat .i64 0)))]
def o_slices_IndexFunc_byte_byte_2 : List AOp := [
 aQ 9 (.bin .lss (.t 8) (.t 7))]
def o_slices_IndexFunc_byte_byte_3 : List AOp := [
 aQ 10 (.mov (.t 8)),
 aQ 5 (.asg (.t 10))]
def o_slices_IndexFunc_byte_byte_4 : List AOp := [
 aQ 11 (.mov (.t 1)),
 aQ 12 (.mov (.t 0)),
 aQ 13 (.mov (.t 5)),
 aQ 14 (.idxA none 1 (.t 12) (.t 13)),
 aQ 15 (.load none (.t 14)),
 aQ 16 (.call (.t 11) [.t 15])]
def o_slices_IndexFunc_byte_byte_5 : List AOp := [
 aQ 17 (.mov (.t 5)),
 aQ 4 (.asg (.t 17))]
def o_slices_IndexFunc_byte_byte_6 : List AOp := [
 aQ 18 (.bin .add (.t 8) (.c (.nat .i64 1))),
 aQ 8 (.mov (.t 18))]
def b_slices_IndexFunc_byte_byte_0 : AC := (.seq (.ops o_slices_IndexFunc_byte_byte_2)
 (.seq (.cond (.t 9) .skip (.exit 0))
 (.seq (.trim [0, 1, 7, 8] (.block 1 (.seq (.ops o_slices_IndexFunc_byte_byte_3)
 (.seq (.ops o_slices_IndexFunc_byte_byte_4)
 (.cond (.t 16) (.seq (.ops o_slices_IndexFunc_byte_byte_5)
 .ret) .skip)))))
 (.ops o_slices_IndexFunc_byte_byte_6))))
def o_slices_IndexFunc_byte_byte_7 : List AOp := [
 aQ 4 (.asg (.c (.d (.int .i64 (-1)))))]
def c_slices_IndexFunc_byte_byte : AC :=
 (.seq (.ops o_slices_IndexFunc_byte_byte_0)
 (.seq (.seq (.ops o_slices_IndexFunc_byte_byte_1)
 (.trim [] (.block 0 (.loop [0, 1, 7, 8] b_slices_IndexFunc_byte_byte_0))))
 (.seq (.ops o_slices_IndexFunc_byte_byte_7)
 .ret)))
def a_slices_IndexFunc_byte_byte : AFn := { body := c_slices_IndexFunc_byte_byte, res := [.tmp 4] }
def o_strconv_ParseUint_0 : List AOp := [
 aQ 6 (.asg (.c (.nat .u64 0))),
 aQ 7 (.asg (.c (.d .nilI)))]
def o_strconv_ParseUint_1 : List AOp := [
 aQ 18 (.mov (.t 0)),
 aQ 19 (.bin .eql (.t 18) (.c (.d (.str []))))]
def o_strconv_ParseUint_2 : List AOp := [
 aQ 20 (.mkifc 204 (.c (.nat .i64 2))),
 aQ 6 (.asg (.c (.nat .u64 0))),
 aQ 7 (.asg (.t 20))]
def o_strconv_ParseUint_3 : List AOp := [
 aQ 21 (.mov (.t 1)),
 aQ 22 (.bin .eql (.t 21) (.c (.nat .i64 0))),
 aQ 8 (.asg (.t 22))]
def o_strconv_ParseUint_4 : List AOp := [
 aQ 23 (.mov (.t 0)),
 aQ 9 (.asg (.t 23))]
def o_strconv_ParseUint_6 : List AOp := [
 aQ 26 (.mov (.t 1)),
 aQ 27 (.bin .leq (.c (.nat .i64 2)) (.t 26)),
 aQ 28 (.mov (.t 27)),
 gQ 29 (.mov (.t 1)) 28 true,
 gQ 30 (.bin .leq (.t 29) (.c (.nat .i64 36))) 28 true,
 aQ 31 (.pick (.t 28) (.t 30) (.c (.d (.bool false)))),
 aQ 25 (.asg (.t 31))]
def o_strconv_ParseUint_7 : List AOp := [
 aQ 33 (.mov (.t 1)),
 aQ 34 (.bin .eql (.t 33) (.c (.nat .i64 0))),
 aQ 32 (.asg (.t 34))]
def o_strconv_ParseUint_8 : List AOp := [
 aQ 1 (.asg (.c (.nat .i64 10)))]
def o_strconv_ParseUint_9 : List AOp := [
 aQ 35 (.mov (.t 0)),
 aQ 36 (.idxS (.t 35) (.c (.nat .i64 0))),
 aQ 37 (.bin .eql (.t 36) (.c (.nat .u8 48)))]
def o_strconv_ParseUint_12 : List AOp := [
 aQ 41 (.mov (.t 0)),
 aQ 42 (.lenS (.t 41)),
 aQ 43 (.bin .geq (.t 42) (.c (.nat .i64 3))),
 aQ 44 (.mov (.t 43)),
 gQ 45 (.mov (.t 0)) 44 true,
 gQ 46 (.idxS (.t 45) (.c (.nat .i64 1))) 44 true,
 gQ 47 (.call (.f f_strconv_lower) [.t 46]) 44 true,
 gQ 48 (.bin .eql (.t 47) (.c (.nat .u8 98))) 44 true,
 aQ 49 (.pick (.t 44) (.t 48) (.c (.d (.bool false)))),
 aQ 40 (.asg (.t 49))]
def o_strconv_ParseUint_13 : List AOp := [
 aQ 1 (.asg (.c (.nat .i64 2)))]
def o_strconv_ParseUint_14 : List AOp := [
 aQ 50 (.mov (.t 0)),
 aQ 51 (.sliceS (.t 50) (some (.c (.nat .i64 2))) none),
 aQ 0 (.asg (.t 51))]
def o_strconv_ParseUint_15 : List AOp := [
 aQ 53 (.mov (.t 0)),
 aQ 54 (.lenS (.t 53)),
 aQ 55 (.bin .geq (.t 54) (.c (.nat .i64 3))),
 aQ 56 (.mov (.t 55)),
 gQ 57 (.mov (.t 0)) 56 true,
 gQ 58 (.idxS (.t 57) (.c (.nat .i64 1))) 56 true,
 gQ 59 (.call (.f f_strconv_lower) [.t 58]) 56 true,
 gQ 60 (.bin .eql (.t 59) (.c (.nat .u8 111))) 56 true,
 aQ 61 (.pick (.t 56) (.t 60) (.c (.d (.bool false)))),
 aQ 52 (.asg (.t 61))]
def o_strconv_ParseUint_16 : List AOp := [
 aQ 1 (.asg (.c (.nat .i64 8)))]
def o_strconv_ParseUint_17 : List AOp := [
 aQ 62 (.mov (.t 0)),
 aQ 63 (.sliceS (.t 62) (some (.c (.nat .i64 2))) none),
 aQ 0 (.asg (.t 63))]
def o_strconv_ParseUint_18 : List AOp := [
 aQ 65 (.mov (.t 0)),
 aQ 66 (.lenS (.t 65)),
 aQ 67 (.bin .geq (.t 66) (.c (.nat .i64 3))),
 aQ 68 (.mov (.t 67)),
 gQ 69 (.mov (.t 0)) 68 true,
 gQ 70 (.idxS (.t 69) (.c (.nat .i64 1))) 68 true,
 gQ 71 (.call (.f f_strconv_lower) [.t 70]) 68 true,
 gQ 72 (.bin .eql (.t 71) (.c (.nat .u8 120))) 68 true,
 aQ 73 (.pick (.t 68) (.t 72) (.c (.d (.bool false)))),
 aQ 64 (.asg (.t 73))]
def o_strconv_ParseUint_19 : List AOp := [
 aQ 1 (.asg (.c (.nat .i64 16)))]
def o_strconv_ParseUint_20 : List AOp := [
 aQ 74 (.mov (.t 0)),
 aQ 75 (.sliceS (.t 74) (some (.c (.nat .i64 2))) none),
 aQ 0 (.asg (.t 75))]
def o_strconv_ParseUint_10 : List AOp := [
 aQ 1 (.asg (.c (.nat .i64 8)))]
def o_strconv_ParseUint_11 : List AOp := [
 aQ 38 (.mov (.t 0)),
 aQ 39 (.sliceS (.t 38) (some (.c (.nat .i64 1))) none),
 aQ 0 (.asg (.t 39))]
def o_strconv_ParseUint_5 : List AOp := [
 aQ 24 (.mkifc 204 (.c (.nat .i64 3))),
 aQ 6 (.asg (.c (.nat .u64 0))),
 aQ 7 (.asg (.t 24))]
def o_strconv_ParseUint_21 : List AOp := [
 aQ 76 (.mov (.t 2)),
 aQ 77 (.bin .eql (.t 76) (.c (.nat .i64 0)))]
def o_strconv_ParseUint_22 : List AOp := [
 aQ 2 (.asg (.c (.nat .i64 64)))]
def o_strconv_ParseUint_23 : List AOp := [
 aQ 78 (.mov (.t 2)),
 aQ 79 (.bin .lss (.t 78) (.c (.nat .i64 0))),
 aQ 80 (.mov (.t 79)),
 gQ 81 (.mov (.t 2)) 80 false,
 gQ 82 (.bin .gtr (.t 81) (.c (.nat .i64 64))) 80 false,
 aQ 83 (.pick (.t 80) (.c (.d (.bool true))) (.t 82))]
def o_strconv_ParseUint_24 : List AOp := [
 aQ 84 (.mkifc 204 (.c (.nat .i64 4))),
 aQ 6 (.asg (.c (.nat .u64 0))),
 aQ 7 (.asg (.t 84))]
def o_strconv_ParseUint_25 : List AOp := [
 aQ 10 (.asg (.c (.nat .u64 0)))]
def o_strconv_ParseUint_26 : List AOp := [
 aQ 85 (.mov (.t 1))]
def o_strconv_ParseUint_28 : List AOp := [
 aQ 91 (.bin .eql (.t 85) (.c (.nat .i64 10))),
 aQ 90 (.asg (.t 91))]
def o_strconv_ParseUint_29 : List AOp := [
 aQ 10 (.asg (.c (.nat .u64 1844674407370955162)))]
def o_strconv_ParseUint_30 : List AOp := [
 aQ 93 (.bin .eql (.t 85) (.c (.nat .i64 16))),
 aQ 92 (.asg (.t 93))]
def o_strconv_ParseUint_31 : List AOp := [
 aQ 10 (.asg (.c (.nat .u64 1152921504606846976)))]
def o_strconv_ParseUint_27 : List AOp := [
 aQ 86 (.mov (.t 1)),
 aQ 87 (.toInt .u64 (.t 86)),
 aQ 88 (.bin .quo (.c (.nat .u64 18446744073709551615)) (.t 87)),
 aQ 89 (.bin .add (.t 88) (.c (.nat .u64 1))),
 aQ 10 (.asg (.t 89))]
def o_strconv_ParseUint_32 : List AOp := [
 aQ 94 (.mov (.t 2)),
 aQ 95 (.toInt .u64 (.t 94)),
 aQ 96 (.bin .shl (.c (.nat .u64 1)) (.t 95)),
 aQ 97 (.bin .sub (.t 96) (.c (.nat .u64 1))),
 aQ 11 (.asg (.t 97))]
def o_strconv_ParseUint_33 : List AOp := [
 aQ 12 (.asg (.c (.d (.bool false))))]
def o_strconv_ParseUint_34 : List AOp := [
 aQ 13 (.asg (.c (.nat .u64 0)))]
def o_strconv_ParseUint_35 : List AOp := [
 aQ 98 (.mov (.t 0)),
 aQ 99 (.strBytes (.t 98)),
 aQ 100 (.len (.t 99)),
 aQ 101 (.mov (.c (.nat .i64 0)))]
def o_strconv_ParseUint_36 : List AOp := [
 aQ 102 (.bin .lss (.t 101) (.t 100))]
def o_strconv_ParseUint_37 : List AOp := [
 aQ 103 (.idxA none 1 (.t 99) (.t 101)),
 aQ 104 (.load none (.t 103)),
 aQ 15 (.asg (.t 104))]
def o_strconv_ParseUint_38 : List AOp := [
 aQ 16 (.asg (.c (.nat .u8 0)))]
def o_strconv_ParseUint_40 : List AOp := [
 aQ 107 (.mov (.t 15)),
 aQ 108 (.bin .eql (.t 107) (.c (.nat .u8 95))),
 aQ 109 (.mov (.t 108)),
 gQ 110 (.mov (.t 8)) 109 true,
 aQ 111 (.pick (.t 109) (.t 110) (.c (.d (.bool false)))),
 aQ 106 (.asg (.t 111))]
def o_strconv_ParseUint_41 : List AOp := [
 aQ 12 (.asg (.c (.d (.bool true))))]
def o_strconv_ParseUint_42 : List AOp := [
 aQ 113 (.mov (.t 15)),
 aQ 114 (.bin .leq (.c (.nat .u8 48)) (.t 113)),
 aQ 115 (.mov (.t 114)),
 gQ 116 (.mov (.t 15)) 115 true,
 gQ 117 (.bin .leq (.t 116) (.c (.nat .u8 57))) 115 true,
 aQ 118 (.pick (.t 115) (.t 117) (.c (.d (.bool false)))),
 aQ 112 (.asg (.t 118))]
def o_strconv_ParseUint_43 : List AOp := [
 aQ 119 (.mov (.t 15)),
 aQ 120 (.bin .sub (.t 119) (.c (.nat .u8 48))),
 aQ 16 (.asg (.t 120))]
def o_strconv_ParseUint_44 : List AOp := [
 aQ 122 (.mov (.t 15)),
 aQ 123 (.call (.f f_strconv_lower) [.t 122]),
 aQ 124 (.bin .leq (.c (.nat .u8 97)) (.t 123)),
 aQ 125 (.mov (.t 124)),
 gQ 126 (.mov (.t 15)) 125 true,
 gQ 127 (.call (.f f_strconv_lower) [.t 126]) 125 true,
 gQ 128 (.bin .leq (.t 127) (.c (.nat .u8 122))) 125 true,
 aQ 129 (.pick (.t 125) (.t 128) (.c (.d (.bool false)))),
 aQ 121 (.asg (.t 129))]
def o_strconv_ParseUint_45 : List AOp := [
 aQ 130 (.mov (.t 15)),
 aQ 131 (.call (.f f_strconv_lower) [.t 130]),
 aQ 132 (.bin .sub (.t 131) (.c (.nat .u8 97))),
 aQ 133 (.bin .add (.t 132) (.c (.nat .u8 10))),
 aQ 16 (.asg (.t 133))]
def o_strconv_ParseUint_39 : List AOp := [
 aQ 105 (.mkifc 204 (.c (.nat .i64 2))),
 aQ 6 (.asg (.c (.nat .u64 0))),
 aQ 7 (.asg (.t 105))]
def o_strconv_ParseUint_46 : List AOp := [
 aQ 134 (.mov (.t 16)),
 aQ 135 (.mov (.t 1)),
 aQ 136 (.toInt .u8 (.t 135)),
 aQ 137 (.bin .geq (.t 134) (.t 136))]
def o_strconv_ParseUint_47 : List AOp := [
 aQ 138 (.mkifc 204 (.c (.nat .i64 2))),
 aQ 6 (.asg (.c (.nat .u64 0))),
 aQ 7 (.asg (.t 138))]
def o_strconv_ParseUint_48 : List AOp := [
 aQ 139 (.mov (.t 13)),
 aQ 140 (.mov (.t 10)),
 aQ 141 (.bin .geq (.t 139) (.t 140))]
def o_strconv_ParseUint_49 : List AOp := [
 aQ 142 (.mov (.t 11)),
 aQ 143 (.mkifc 204 (.c (.nat .i64 1))),
 aQ 6 (.asg (.t 142)),
 aQ 7 (.asg (.t 143))]
def o_strconv_ParseUint_50 : List AOp := [
 aQ 144 (.mov (.t 13)),
 aQ 145 (.mov (.t 1)),
 aQ 146 (.toInt .u64 (.t 145)),
 aQ 147 (.bin .mul (.t 144) (.t 146)),
 aQ 13 (.asg (.t 147))]
def o_strconv_ParseUint_51 : List AOp := [
 aQ 148 (.mov (.t 13)),
 aQ 149 (.mov (.t 16)),
 aQ 150 (.toInt .u64 (.t 149)),
 aQ 151 (.bin .add (.t 148) (.t 150)),
 aQ 17 (.asg (.t 151))]
def o_strconv_ParseUint_52 : List AOp := [
 aQ 152 (.mov (.t 17)),
 aQ 153 (.mov (.t 13)),
 aQ 154 (.bin .lss (.t 152) (.t 153)),
 aQ 155 (.mov (.t 154)),
 gQ 156 (.mov (.t 17)) 155 false,
 gQ 157 (.mov (.t 11)) 155 false,
 gQ 158 (.bin .gtr (.t 156) (.t 157)) 155 false,
 aQ 159 (.pick (.t 155) (.c (.d (.bool true))) (.t 158))]
def o_strconv_ParseUint_53 : List AOp := [
 aQ 160 (.mov (.t 11)),
 aQ 161 (.mkifc 204 (.c (.nat .i64 1))),
 aQ 6 (.asg (.t 160)),
 aQ 7 (.asg (.t 161))]
def o_strconv_ParseUint_54 : List AOp := [
 aQ 162 (.mov (.t 17)),
 aQ 13 (.asg (.t 162))]
def o_strconv_ParseUint_55 : List AOp := [
 aQ 163 (.bin .add (.t 101) (.c (.nat .i64 1))),
 aQ 101 (.mov (.t 163))]
def b_strconv_ParseUint_0 : AC := (.seq (.ops o_strconv_ParseUint_36)
 (.seq (.cond (.t 102) .skip (.exit 3))
 (.seq (.trim [1, 8, 9, 10, 11, 12, 13, 99, 100, 101] (.block 4 (.seq (.ops o_strconv_ParseUint_37)
 (.seq (.ops o_strconv_ParseUint_38)
 (.seq (.trim [1, 8, 9, 10, 11, 12, 13, 16, 99, 100, 101] (.block 5 (.seq (.ops o_strconv_ParseUint_40)
 (.cond (.t 106) (.seq (.ops o_strconv_ParseUint_41)
 (.exit 4)) (.seq (.ops o_strconv_ParseUint_42)
 (.cond (.t 112) (.ops o_strconv_ParseUint_43) (.seq (.ops o_strconv_ParseUint_44)
 (.cond (.t 121) (.ops o_strconv_ParseUint_45) (.seq (.ops o_strconv_ParseUint_39)
 .ret)))))))))
 (.seq (.seq (.ops o_strconv_ParseUint_46)
 (.cond (.t 137) (.seq (.ops o_strconv_ParseUint_47)
 .ret) .skip))
 (.seq (.seq (.ops o_strconv_ParseUint_48)
 (.cond (.t 141) (.seq (.ops o_strconv_ParseUint_49)
 .ret) .skip))
 (.seq (.ops o_strconv_ParseUint_50)
 (.seq (.ops o_strconv_ParseUint_51)
 (.seq (.seq (.ops o_strconv_ParseUint_52)
 (.cond (.t 159) (.seq (.ops o_strconv_ParseUint_53)
 .ret) .skip))
 (.ops o_strconv_ParseUint_54)))))))))))
 (.ops o_strconv_ParseUint_55))))
def o_strconv_ParseUint_56 : List AOp := [
 aQ 164 (.mov (.t 12)),
 aQ 165 (.mov (.t 164)),
 gQ 166 (.mov (.t 9)) 165 true,
 gQ 167 (.call (.f f_strconv_underscoreOK) [.t 166]) 165 true,
 gQ 168 (.un .not (.t 167)) 165 true,
 aQ 169 (.pick (.t 165) (.t 168) (.c (.d (.bool false))))]
def o_strconv_ParseUint_57 : List AOp := [
 aQ 170 (.mkifc 204 (.c (.nat .i64 2))),
 aQ 6 (.asg (.c (.nat .u64 0))),
 aQ 7 (.asg (.t 170))]
def o_strconv_ParseUint_58 : List AOp := [
 aQ 171 (.mov (.t 13)),
 aQ 6 (.asg (.t 171)),
 aQ 7 (.asg (.c (.d .nilI)))]
def c_strconv_ParseUint : AC :=
 (.seq (.ops o_strconv_ParseUint_0)
 (.seq (.seq (.ops o_strconv_ParseUint_1)
 (.cond (.t 19) (.seq (.ops o_strconv_ParseUint_2)
 .ret) .skip))
 (.seq (.ops o_strconv_ParseUint_3)
 (.seq (.ops o_strconv_ParseUint_4)
 (.seq (.trim [0, 1, 2, 8, 9] (.block 0 (.seq (.ops o_strconv_ParseUint_6)
 (.cond (.t 25) .skip (.seq (.ops o_strconv_ParseUint_7)
 (.cond (.t 32) (.seq (.ops o_strconv_ParseUint_8)
 (.seq (.ops o_strconv_ParseUint_9)
 (.cond (.t 37) (.trim [0, 1, 2, 8, 9] (.block 1 (.seq (.ops o_strconv_ParseUint_12)
 (.cond (.t 40) (.seq (.ops o_strconv_ParseUint_13)
 (.ops o_strconv_ParseUint_14)) (.seq (.ops o_strconv_ParseUint_15)
 (.cond (.t 52) (.seq (.ops o_strconv_ParseUint_16)
 (.ops o_strconv_ParseUint_17)) (.seq (.ops o_strconv_ParseUint_18)
 (.cond (.t 64) (.seq (.ops o_strconv_ParseUint_19)
 (.ops o_strconv_ParseUint_20)) (.seq (.ops o_strconv_ParseUint_10)
 (.ops o_strconv_ParseUint_11)))))))))) .skip))) (.seq (.ops o_strconv_ParseUint_5)
 .ret)))))))
 (.seq (.seq (.ops o_strconv_ParseUint_21)
 (.cond (.t 77) (.ops o_strconv_ParseUint_22) (.seq (.ops o_strconv_ParseUint_23)
 (.cond (.t 83) (.seq (.ops o_strconv_ParseUint_24)
 .ret) .skip))))
 (.seq (.ops o_strconv_ParseUint_25)
 (.seq (.seq (.ops o_strconv_ParseUint_26)
 (.trim [0, 1, 2, 8, 9, 10] (.block 2 (.seq (.ops o_strconv_ParseUint_28)
 (.cond (.t 90) (.ops o_strconv_ParseUint_29) (.seq (.ops o_strconv_ParseUint_30)
 (.cond (.t 92) (.ops o_strconv_ParseUint_31) (.ops o_strconv_ParseUint_27))))))))
 (.seq (.ops o_strconv_ParseUint_32)
 (.seq (.ops o_strconv_ParseUint_33)
 (.seq (.ops o_strconv_ParseUint_34)
 (.seq (.seq (.ops o_strconv_ParseUint_35)
 (.trim [9, 12, 13] (.block 3 (.loop [1, 8, 9, 10, 11, 12, 13, 99, 100, 101] b_strconv_ParseUint_0))))
 (.seq (.seq (.ops o_strconv_ParseUint_56)
 (.cond (.t 169) (.seq (.ops o_strconv_ParseUint_57)
 .ret) .skip))
 (.seq (.ops o_strconv_ParseUint_58)
 .ret))))))))))))))
def a_strconv_ParseUint : AFn := { body := c_strconv_ParseUint, res := [.tmp 6, .tmp 7] }
def o_strconv_lower_0 : List AOp := [
 aQ 2 (.asg (.c (.nat .u8 0)))]
def o_strconv_lower_1 : List AOp := [
 aQ 3 (.mov (.t 0)),
 aQ 4 (.bin .or (.t 3) (.c (.nat .u8 32))),
 aQ 2 (.asg (.t 4))]
def c_strconv_lower : AC :=
 (.seq (.ops o_strconv_lower_0)
 (.seq (.ops o_strconv_lower_1)
 .ret))
def a_strconv_lower : AFn := { body := c_strconv_lower, res := [.tmp 2] }
def tabl : List (Nat × AFn) := [(f_law09_StreamPlain, a_law09_StreamPlain), (f_law09_StreamLines, a_law09_StreamLines), (f_law09_StreamQuits, a_law09_StreamQuits), (f_law09_StreamHolds, a_law09_StreamHolds), (f_law09_shown, a_law09_shown), (f_stream_Run, a_stream_Run), (f_ref07_Same, a_ref07_Same), (f_ref07_Long, a_ref07_Long), (f_stream_Lines, a_stream_Lines), (f_stream_Text, a_stream_Text), (f_stream_machine_does, a_stream_machine_does), (f_stream_machine_burn, a_stream_machine_burn), (f_stream_machine_meant, a_stream_machine_meant), (f_stream_machine_tell, a_stream_machine_tell), (f_strings_TrimSuffix, a_strings_TrimSuffix), (f_sed_Read, a_sed_Read), (f_stream_machine_print, a_stream_machine_print), (f_stream_machine_drop, a_stream_machine_drop), (f_stream_machine_quit, a_stream_machine_quit), (f_stream_machine_copy, a_stream_machine_copy), (f_stream_machine_get, a_stream_machine_get), (f_stream_machine_getMore, a_stream_machine_getMore), (f_stream_machine_change, a_stream_machine_change), (f_stream_machine_label, a_stream_machine_label), (f_stream_machine_tells, a_stream_machine_tells), (f_stream_machine_put, a_stream_machine_put), (f_stringslite_TrimSuffix, a_stringslite_TrimSuffix), (f_sed_wrong, a_sed_wrong), (f_sed_reader_skips, a_sed_reader_skips), (f_sed_reader_command, a_sed_reader_command), (f_sed_named, a_sed_named), (f_stream_machine_fits, a_stream_machine_fits), (f_stringslite_HasSuffix, a_stringslite_HasSuffix), (f_sed_reader_takes, a_sed_reader_takes), (f_sed_reader_addr, a_sed_reader_addr), (f_sed_reader_label, a_sed_reader_label), (f_strings_IndexByte, a_strings_IndexByte), (f_sed_reader_sees, a_sed_reader_sees), (f_slices_ContainsFunc_api_SedCmd_api_SedCmd, a_slices_ContainsFunc_api_SedCmd_api_SedCmd), (f_sed_named_1, a_sed_named_1), (f_hex_Whole, a_hex_Whole), (f_hex_IsName, a_hex_IsName), (f_stringslite_IndexByte, a_stringslite_IndexByte), (f_slices_IndexFunc_api_SedCmd_api_SedCmd, a_slices_IndexFunc_api_SedCmd_api_SedCmd), (f_strconv_ParseInt, a_strconv_ParseInt), (f_hex_IsName_1, a_hex_IsName_1), (f_slices_ContainsFunc_byte_byte, a_slices_ContainsFunc_byte_byte), (f_strconv_ParseInt_x1, a_strconv_ParseInt_x1), (f_slices_IndexFunc_byte_byte, a_slices_IndexFunc_byte_byte), (f_strconv_ParseUint, a_strconv_ParseUint), (f_strconv_lower, a_strconv_lower)]
def tabD : List (Nat × AFn) := [(f_stream_machine_tell, a_stream_machine_tell), (f_stream_machine_print, a_stream_machine_print), (f_stream_machine_drop, a_stream_machine_drop), (f_stream_machine_quit, a_stream_machine_quit), (f_stream_machine_copy, a_stream_machine_copy), (f_stream_machine_get, a_stream_machine_get), (f_stream_machine_getMore, a_stream_machine_getMore), (f_stream_machine_change, a_stream_machine_change), (f_stream_machine_label, a_stream_machine_label), (f_stream_machine_put, a_stream_machine_put), (f_sed_Read_1, a_sed_Read_1), (f_sed_wrong, a_sed_wrong), (f_sed_reader_skips, a_sed_reader_skips)]
end Go.Ab.R09
