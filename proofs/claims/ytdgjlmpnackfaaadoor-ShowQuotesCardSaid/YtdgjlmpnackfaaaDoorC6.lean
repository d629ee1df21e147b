/- A part of the proof: tools. No condition. -/
import Derived.Test.YtdgjlmpnackfaaaDoorL0
set_option linter.all false
namespace Go.Ab.R12
abbrev aQ (d : Nat) (o : AOpk) : AOp := { dst := some d, op := o }
abbrev mQ (d : Nat) (o : AOpk) : AOp := { dst := some d, op := o, may := false }
abbrev gQ (d : Nat) (o : AOpk) (n : Nat) (b : Bool) : AOp := { dst := some d, op := o, guard := some (n, b) }
abbrev hQ (d : Nat) (o : AOpk) (n : Nat) (b : Bool) : AOp := { dst := some d, op := o, guard := some (n, b), may := false }
set_option maxRecDepth 100000
abbrev f_law12_ShowQuotes : Nat := 4
abbrev f_law12_ShowLengths : Nat := 6
abbrev f_law12_shown : Nat := 8
abbrev f_ref11_Read : Nat := 9
abbrev f_show_Quote : Nat := 10
abbrev f_ref12_Quote : Nat := 11
abbrev f_show_Text : Nat := 12
abbrev f_show_Word : Nat := 14
abbrev f_ref11_tree_list : Nat := 17
abbrev f_ref11_tree_fail : Nat := 18
abbrev f_strings_ReplaceAll : Nat := 19
abbrev f_show_joined : Nat := 20
abbrev f_strings_Builder_WriteString : Nat := 22
abbrev f_show_part : Nat := 23
abbrev f_strings_Builder_String : Nat := 24
abbrev f_ref11_tree_seps : Nat := 28
abbrev f_ref11_tree_end : Nat := 29
abbrev f_ref11_tree_c : Nat := 30
abbrev f_ref11_tree_key : Nat := 31
abbrev f_ref11_tree_line : Nat := 32
abbrev f_strings_Replace : Nat := 33
abbrev f_show_command : Nat := 34
abbrev f_strings_Join : Nat := 35
abbrev f_strings_Builder_copyCheck : Nat := 37
abbrev f_ref11_tree_white : Nat := 41
abbrev f_ref11_plain : Nat := 42
abbrev f_ref11_in : Nat := 43
abbrev f_ref11_tree_pipe : Nat := 44
abbrev f_ref11_tree_bars : Nat := 45
abbrev f_strings_Count : Nat := 46
abbrev f_strings_Builder_Grow : Nat := 47
abbrev f_strings_Index : Nat := 48
abbrev f_utf8_DecodeRuneInString : Nat := 49
abbrev f_show_lines : Nat := 50
abbrev f_show_simple : Nat := 51
abbrev f_abi_NoEscape : Nat := 53
abbrev f_ref11_tree_command : Nat := 59
abbrev f_utf8_RuneCountInString : Nat := 60
abbrev f_bytealg_CountString : Nat := 61
abbrev f_strings_Builder_grow : Nat := 62
abbrev f_stringslite_Index : Nat := 63
abbrev f_utf8_decodeRuneInStringSlow : Nat := 64
abbrev f_ref11_tree_simple : Nat := 77
abbrev f_ref11_tree_lines : Nat := 78
abbrev f_ref11_tree_need : Nat := 79
abbrev f_ref11_tree_name : Nat := 80
abbrev f_ref11_tree_words : Nat := 81
abbrev f_bytealg_MakeNoZero : Nat := 82
abbrev f_stringslite_IndexByte : Nat := 83
abbrev f_bytealg_IndexString : Nat := 84
abbrev f_bytealg_Cutover : Nat := 85
abbrev f_bytealg_IndexRabinKarp_string : Nat := 86
abbrev f_ref11_tree_named : Nat := 95
abbrev f_ref11_tree_word : Nat := 96
abbrev f_bytealg_IndexByteString : Nat := 97
abbrev f_bytealg_hashStr_string : Nat := 98
abbrev f_ref01_IsName : Nat := 103
abbrev f_ref11_with : Nat := 104
abbrev f_ref11_tree_byte1 : Nat := 105
abbrev f_ref11_tree_quoted : Nat := 106
abbrev f_ref11_tree_sign : Nat := 107
abbrev f_ref11_tree_double : Nat := 110
abbrev f_ref11_tree_brace : Nat := 111
def o_law12_ShowQuotes_0 : List AOp := [
 aQ 4 (.asg (.c (.d (.bool false))))]
def o_law12_ShowQuotes_1 : List AOp := [
 aQ 10 (.callZ (.f f_law12_shown) []),
 aQ 5 (.asg (.t 10))]
def o_law12_ShowQuotes_2 : List AOp := [
 aQ 11 (.mov (.t 0)),
 aQ 12 (.lenS (.t 11)),
 aQ 13 (.mov (.t 1)),
 aQ 14 (.lenS (.t 13)),
 aQ 15 (.bin .add (.t 12) (.t 14)),
 aQ 16 (.bin .gtr (.t 15) (.c (.nat .i64 2000)))]
def o_law12_ShowQuotes_3 : List AOp := [
 aQ 17 (.mov (.t 5)),
 aQ 4 (.asg (.t 17))]
def o_law12_ShowQuotes_4 : List AOp := [
 aQ 19 (.mov (.t 0)),
 aQ 20 (.call (.f f_show_Quote) [.t 19]),
 aQ 21 (.bin .add (.c (.d (.str [101, 99, 104, 111, 32]))) (.t 20)),
 aQ 22 (.bin .add (.t 21) (.c (.d (.str [32])))),
 aQ 23 (.mov (.t 1)),
 aQ 24 (.call (.f f_show_Quote) [.t 23]),
 aQ 25 (.bin .add (.t 22) (.t 24)),
 aQ 26 (.call (.f f_ref11_Read) [.t 25]),
 aQ 18 (.mov (.t 26)),
 aQ 27 (.extr (.t 18) 0),
 aQ 28 (.extr (.t 18) 1),
 aQ 6 (.asg (.t 27)),
 aQ 7 (.asg (.t 28))]
def o_law12_ShowQuotes_5 : List AOp := [
 aQ 29 (.mov (.t 7)),
 aQ 30 (.bin .neq (.t 29) (.c (.nat .i64 0))),
 aQ 31 (.mov (.t 30)),
 gQ 32 (.mov (.t 6)) 31 false,
 gQ 33 (.len (.t 32)) 31 false,
 gQ 34 (.bin .neq (.t 33) (.c (.nat .i64 1))) 31 false,
 aQ 35 (.pick (.t 31) (.c (.d (.bool true))) (.t 34)),
 aQ 36 (.mov (.t 35)),
 gQ 37 (.mov (.t 6)) 36 false,
 gQ 38 (.idxA none 7 (.t 37) (.c (.nat .i64 0))) 36 false,
 gQ 39 (.fldA 3 (.t 38)) 36 false,
 gQ 40 (.load none (.t 39)) 36 false,
 gQ 41 (.len (.t 40)) 36 false,
 gQ 42 (.bin .neq (.t 41) (.c (.nat .i64 3))) 36 false,
 aQ 43 (.pick (.t 36) (.c (.d (.bool true))) (.t 42))]
def o_law12_ShowQuotes_6 : List AOp := [
 aQ 4 (.asg (.c (.d (.bool false))))]
def o_law12_ShowQuotes_7 : List AOp := [
 aQ 44 (.mov (.t 6)),
 aQ 45 (.idxA none 7 (.t 44) (.c (.nat .i64 0))),
 aQ 46 (.fldA 3 (.t 45)),
 aQ 47 (.load none (.t 46)),
 aQ 48 (.idxA none 1 (.t 47) (.c (.nat .i64 1))),
 aQ 49 (.fldA 0 (.t 48)),
 aQ 50 (.load none (.t 49)),
 aQ 8 (.asg (.t 50))]
def o_law12_ShowQuotes_8 : List AOp := [
 aQ 51 (.mov (.t 6)),
 aQ 52 (.idxA none 7 (.t 51) (.c (.nat .i64 0))),
 aQ 53 (.fldA 3 (.t 52)),
 aQ 54 (.load none (.t 53)),
 aQ 55 (.idxA none 1 (.t 54) (.c (.nat .i64 2))),
 aQ 56 (.fldA 0 (.t 55)),
 aQ 57 (.load none (.t 56)),
 aQ 9 (.asg (.t 57))]
def o_law12_ShowQuotes_9 : List AOp := [
 aQ 58 (.mov (.t 5)),
 aQ 59 (.mov (.t 58)),
 gQ 60 (.mov (.t 8)) 59 true,
 gQ 61 (.len (.t 60)) 59 true,
 gQ 62 (.bin .eql (.t 61) (.c (.nat .i64 1))) 59 true,
 aQ 63 (.pick (.t 59) (.t 62) (.c (.d (.bool false)))),
 aQ 64 (.mov (.t 63)),
 gQ 65 (.mov (.t 8)) 64 true,
 gQ 66 (.idxA none 5 (.t 65) (.c (.nat .i64 0))) 64 true,
 gQ 67 (.fldA 2 (.t 66)) 64 true,
 gQ 68 (.load none (.t 67)) 64 true,
 gQ 69 (.mov (.t 0)) 64 true,
 gQ 70 (.bin .eql (.t 68) (.t 69)) 64 true,
 aQ 71 (.pick (.t 64) (.t 70) (.c (.d (.bool false)))),
 aQ 72 (.mov (.t 71)),
 gQ 73 (.mov (.t 8)) 72 true,
 gQ 74 (.idxA none 5 (.t 73) (.c (.nat .i64 0))) 72 true,
 gQ 75 (.fldA 1 (.t 74)) 72 true,
 gQ 76 (.load none (.t 75)) 72 true,
 aQ 77 (.pick (.t 72) (.t 76) (.c (.d (.bool false)))),
 aQ 78 (.mov (.t 77)),
 gQ 79 (.mov (.t 8)) 78 true,
 gQ 80 (.idxA none 5 (.t 79) (.c (.nat .i64 0))) 78 true,
 gQ 81 (.fldA 0 (.t 80)) 78 true,
 gQ 82 (.load none (.t 81)) 78 true,
 gQ 83 (.bin .eql (.t 82) (.c (.nat .i64 1))) 78 true,
 aQ 84 (.pick (.t 78) (.t 83) (.c (.d (.bool false)))),
 aQ 85 (.mov (.t 84)),
 gQ 86 (.mov (.t 9)) 85 true,
 gQ 87 (.len (.t 86)) 85 true,
 gQ 88 (.bin .eql (.t 87) (.c (.nat .i64 1))) 85 true,
 aQ 89 (.pick (.t 85) (.t 88) (.c (.d (.bool false)))),
 aQ 90 (.mov (.t 89)),
 gQ 91 (.mov (.t 9)) 90 true,
 gQ 92 (.idxA none 5 (.t 91) (.c (.nat .i64 0))) 90 true,
 gQ 93 (.fldA 2 (.t 92)) 90 true,
 gQ 94 (.load none (.t 93)) 90 true,
 gQ 95 (.mov (.t 1)) 90 true,
 gQ 96 (.bin .eql (.t 94) (.t 95)) 90 true,
 aQ 97 (.pick (.t 90) (.t 96) (.c (.d (.bool false)))),
 aQ 98 (.mov (.t 97)),
 gQ 99 (.mov (.t 9)) 98 true,
 gQ 100 (.idxA none 5 (.t 99) (.c (.nat .i64 0))) 98 true,
 gQ 101 (.fldA 1 (.t 100)) 98 true,
 gQ 102 (.load none (.t 101)) 98 true,
 aQ 103 (.pick (.t 98) (.t 102) (.c (.d (.bool false)))),
 aQ 4 (.asg (.t 103))]
def c_law12_ShowQuotes : AC :=
 (.seq (.ops o_law12_ShowQuotes_0)
 (.seq (.ops o_law12_ShowQuotes_1)
 (.seq (.seq (.ops o_law12_ShowQuotes_2)
 (.cond (.t 16) (.seq (.ops o_law12_ShowQuotes_3)
 .ret) .skip))
 (.seq (.ops o_law12_ShowQuotes_4)
 (.seq (.seq (.ops o_law12_ShowQuotes_5)
 (.cond (.t 43) (.seq (.ops o_law12_ShowQuotes_6)
 .ret) .skip))
 (.seq (.ops o_law12_ShowQuotes_7)
 (.seq (.ops o_law12_ShowQuotes_8)
 (.seq (.ops o_law12_ShowQuotes_9)
 .ret))))))))
def a_law12_ShowQuotes : AFn := { body := c_law12_ShowQuotes, res := [.tmp 4] }
def o_law12_ShowLengths_0 : List AOp := [
 aQ 4 (.asg (.c (.d (.bool false))))]
def o_law12_ShowLengths_1 : List AOp := [
 aQ 9 (.callZ (.f f_law12_shown) []),
 aQ 5 (.asg (.t 9))]
def o_law12_ShowLengths_2 : List AOp := [
 aQ 10 (.mov (.t 0)),
 aQ 11 (.lenS (.t 10)),
 aQ 12 (.mov (.t 1)),
 aQ 13 (.lenS (.t 12)),
 aQ 14 (.bin .add (.t 11) (.t 13)),
 aQ 15 (.bin .gtr (.t 14) (.c (.nat .i64 2000)))]
def o_law12_ShowLengths_3 : List AOp := [
 aQ 16 (.mov (.t 5)),
 aQ 4 (.asg (.t 16))]
def o_law12_ShowLengths_4 : List AOp := [
 aQ 6 (.asg (.c (.nat .i64 0)))]
def o_law12_ShowLengths_5 : List AOp := [
 aQ 7 (.asg (.c (.nat .i64 0)))]
def o_law12_ShowLengths_6 : List AOp := [
 aQ 17 (.mov (.t 7)),
 aQ 18 (.mov (.t 0)),
 aQ 19 (.lenS (.t 18)),
 aQ 20 (.bin .lss (.t 17) (.t 19))]
def o_law12_ShowLengths_8 : List AOp := [
 aQ 23 (.mov (.t 0)),
 aQ 24 (.mov (.t 7)),
 aQ 25 (.idxS (.t 23) (.t 24)),
 aQ 26 (.bin .eql (.t 25) (.c (.nat .u8 39)))]
def o_law12_ShowLengths_9 : List AOp := [
 aQ 27 (.mov (.t 6)),
 aQ 28 (.bin .add (.t 27) (.c (.nat .i64 1))),
 aQ 6 (.asg (.t 28))]
def o_law12_ShowLengths_7 : List AOp := [
 aQ 21 (.mov (.t 7)),
 aQ 22 (.bin .add (.t 21) (.c (.nat .i64 1))),
 aQ 7 (.asg (.t 22))]
def b_law12_ShowLengths_0 : AC := (.seq (.seq (.ops o_law12_ShowLengths_6)
 (.cond (.t 20) .skip (.exit 0)))
 (.seq (.trim [0, 1, 5, 6, 7] (.block 1 (.seq (.ops o_law12_ShowLengths_8)
 (.cond (.t 26) (.ops o_law12_ShowLengths_9) .skip))))
 (.ops o_law12_ShowLengths_7)))
def o_law12_ShowLengths_10 : List AOp := [
 aQ 29 (.mov (.t 0)),
 aQ 30 (.call (.f f_show_Quote) [.t 29]),
 aQ 8 (.asg (.t 30))]
def o_law12_ShowLengths_11 : List AOp := [
 aQ 31 (.mov (.t 5)),
 aQ 32 (.mov (.t 31)),
 gQ 33 (.mov (.t 8)) 32 true,
 gQ 34 (.lenS (.t 33)) 32 true,
 gQ 35 (.mov (.t 0)) 32 true,
 gQ 36 (.lenS (.t 35)) 32 true,
 gQ 37 (.bin .add (.t 36) (.c (.nat .i64 2))) 32 true,
 gQ 38 (.mov (.t 6)) 32 true,
 gQ 39 (.bin .mul (.c (.nat .i64 3)) (.t 38)) 32 true,
 gQ 40 (.bin .add (.t 37) (.t 39)) 32 true,
 gQ 41 (.bin .eql (.t 34) (.t 40)) 32 true,
 aQ 42 (.pick (.t 32) (.t 41) (.c (.d (.bool false)))),
 aQ 43 (.mov (.t 42)),
 gQ 44 (.mov (.t 8)) 43 true,
 gQ 45 (.mov (.t 1)) 43 true,
 gQ 46 (.call (.f f_show_Quote) [.t 45]) 43 true,
 gQ 47 (.bin .eql (.t 44) (.t 46)) 43 true,
 gQ 48 (.mov (.t 0)) 43 true,
 gQ 49 (.mov (.t 1)) 43 true,
 gQ 50 (.bin .eql (.t 48) (.t 49)) 43 true,
 gQ 51 (.beq false (.t 47) (.t 50)) 43 true,
 aQ 52 (.pick (.t 43) (.t 51) (.c (.d (.bool false)))),
 aQ 53 (.mov (.t 52)),
 gQ 54 (.mov (.t 8)) 53 true,
 gQ 55 (.mov (.t 0)) 53 true,
 gQ 56 (.call (.f f_ref12_Quote) [.t 55]) 53 true,
 gQ 57 (.bin .eql (.t 54) (.t 56)) 53 true,
 aQ 58 (.pick (.t 53) (.t 57) (.c (.d (.bool false)))),
 aQ 4 (.asg (.t 58))]
def c_law12_ShowLengths : AC :=
 (.seq (.ops o_law12_ShowLengths_0)
 (.seq (.ops o_law12_ShowLengths_1)
 (.seq (.seq (.ops o_law12_ShowLengths_2)
 (.cond (.t 15) (.seq (.ops o_law12_ShowLengths_3)
 .ret) .skip))
 (.seq (.ops o_law12_ShowLengths_4)
 (.seq (.seq (.ops o_law12_ShowLengths_5)
 (.trim [0, 1, 5, 6] (.block 0 (.loop [0, 1, 5, 6, 7] b_law12_ShowLengths_0))))
 (.seq (.ops o_law12_ShowLengths_10)
 (.seq (.ops o_law12_ShowLengths_11)
 .ret)))))))
def a_law12_ShowLengths : AFn := { body := c_law12_ShowLengths, res := [.tmp 4] }
def o_law12_shown_0 : List AOp := [
 aQ 0 (.asg (.c (.d (.bool false))))]
def o_law12_shown_1 : List AOp := [
 aQ 1 (.call (.f f_show_Quote) [.c (.d (.str [97, 39, 98]))]),
 aQ 2 (.bin .eql (.t 1) (.c (.d (.str [39, 97, 39, 92, 39, 39, 98, 39])))),
 aQ 3 (.mov (.t 2)),
 gQ 4 (.mkls 1 [.d (.str [])] [(0, 1, (.c (.d (.str [120]))))]) 3 true,
 gQ 5 (.build [.nil] []) 3 true,
 gQ 6 (.mkls 1 [.nil] [(0, 1, (.t 5))]) 3 true,
 gQ 7 (.build [.nat .i64 0, .nil, .nil, .nil, .nil, .nil, .nil] [(0, 1, (.c (.nat .i64 1))), (1, 1, (.t 4)), (2, 1, (.t 6))]) 3 true,
 gQ 8 (.mkls 7 [.nat .i64 0, .nil, .nil, .nil, .nil, .nil, .nil] [(0, 7, (.t 7))]) 3 true,
 gQ 9 (.call (.f f_show_Text) [.t 8]) 3 true,
 gQ 10 (.bin .eql (.t 9) (.c (.d (.str [120, 61])))) 3 true,
 aQ 11 (.pick (.t 3) (.t 10) (.c (.d (.bool false)))),
 aQ 0 (.asg (.t 11))]
def c_law12_shown : AC :=
 (.seq (.ops o_law12_shown_0)
 (.seq (.ops o_law12_shown_1)
 .ret))
def a_law12_shown : AFn := { body := c_law12_shown, res := [.tmp 0] }
def o_ref11_Read_0 : List AOp := [
 aQ 2 (.asg (.c (.nil))),
 aQ 3 (.asg (.c (.nat .i64 0)))]
def o_ref11_Read_1 : List AOp := [
 aQ 6 (.mov (.t 0)),
 aQ 7 (.lenS (.t 6)),
 aQ 8 (.bin .gtr (.t 7) (.c (.nat .i64 1048576)))]
def o_ref11_Read_2 : List AOp := [
 aQ 2 (.asg (.c (.nil))),
 aQ 3 (.asg (.c (.nat .i64 6)))]
def o_ref11_Read_3 : List AOp := [
 aQ 9 (.mov (.t 0)),
 aQ 10 (.build [.d (.str []), .nat .i64 0, .nat .i64 0, .nat .i64 0] [(0, 1, (.t 9))]),
 aQ 11 (.box (.t 10)),
 aQ 4 (.asg (.t 11))]
def o_ref11_Read_4 : List AOp := [
 aQ 12 (.mov (.t 4)),
 aQ 13 (.call (.f f_ref11_tree_list) [.t 12]),
 aQ 5 (.asg (.t 13))]
def o_ref11_Read_5 : List AOp := [
 aQ 14 (.mov (.t 4)),
 aQ 15 (.nilchk (.t 14)),
 aQ 16 (.fldA 3 (.t 15)),
 aQ 17 (.load none (.t 16)),
 aQ 18 (.bin .eql (.t 17) (.c (.nat .i64 0))),
 aQ 19 (.mov (.t 18)),
 gQ 20 (.mov (.t 4)) 19 true,
 gQ 21 (.nilchk (.t 20)) 19 true,
 gQ 22 (.fldA 1 (.t 21)) 19 true,
 gQ 23 (.load none (.t 22)) 19 true,
 gQ 24 (.mov (.t 0)) 19 true,
 gQ 25 (.lenS (.t 24)) 19 true,
 gQ 26 (.bin .lss (.t 23) (.t 25)) 19 true,
 aQ 27 (.pick (.t 19) (.t 26) (.c (.d (.bool false))))]
def o_ref11_Read_6 : List AOp := [
 aQ 28 (.mov (.t 4)),
 aQ 29 (.call (.f f_ref11_tree_fail) [.t 28, .c (.nat .i64 9)])]
def o_ref11_Read_7 : List AOp := [
 aQ 30 (.mov (.t 4)),
 aQ 31 (.nilchk (.t 30)),
 aQ 32 (.fldA 3 (.t 31)),
 aQ 33 (.load none (.t 32)),
 aQ 34 (.bin .neq (.t 33) (.c (.nat .i64 0)))]
def o_ref11_Read_8 : List AOp := [
 mQ 35 (.mov (.t 4)),
 mQ 36 (.nilchk (.t 35)),
 mQ 37 (.fldA 3 (.t 36)),
 mQ 38 (.load none (.t 37)),
 mQ 2 (.asg (.c (.nil))),
 aQ 3 (.asg (.t 38))]
def o_ref11_Read_9 : List AOp := [
 aQ 39 (.mov (.t 5)),
 aQ 2 (.asg (.t 39)),
 aQ 3 (.asg (.c (.nat .i64 0)))]
def c_ref11_Read : AC :=
 (.seq (.ops o_ref11_Read_0)
 (.seq (.seq (.ops o_ref11_Read_1)
 (.cond (.t 8) (.seq (.ops o_ref11_Read_2)
 .ret) .skip))
 (.seq (.ops o_ref11_Read_3)
 (.seq (.ops o_ref11_Read_4)
 (.seq (.seq (.ops o_ref11_Read_5)
 (.cond (.t 27) (.ops o_ref11_Read_6) .skip))
 (.seq (.seq (.ops o_ref11_Read_7)
 (.cond (.t 34) (.seq (.ops o_ref11_Read_8)
 .ret) .skip))
 (.seq (.ops o_ref11_Read_9)
 .ret)))))))
def a_ref11_Read : AFn := { body := c_ref11_Read, res := [.tmp 2, .tmp 3] }
def o_show_Quote_0 : List AOp := [
 aQ 2 (.asg (.c (.d (.str []))))]
def o_show_Quote_1 : List AOp := [
 aQ 3 (.mov (.t 0)),
 aQ 4 (.call (.f f_strings_ReplaceAll) [.t 3, .c (.d (.str [39])), .c (.d (.str [39, 92, 39, 39]))]),
 aQ 5 (.bin .add (.c (.d (.str [39]))) (.t 4)),
 aQ 6 (.bin .add (.t 5) (.c (.d (.str [39])))),
 aQ 2 (.asg (.t 6))]
def c_show_Quote : AC :=
 (.seq (.ops o_show_Quote_0)
 (.seq (.ops o_show_Quote_1)
 .ret))
def a_show_Quote : AFn := { body := c_show_Quote, res := [.tmp 2] }
def o_ref12_Quote_0 : List AOp := [
 aQ 2 (.asg (.c (.d (.str []))))]
def o_ref12_Quote_1 : List AOp := [
 aQ 3 (.asg (.c (.d (.str [39]))))]
def o_ref12_Quote_2 : List AOp := [
 aQ 4 (.asg (.c (.nat .i64 0)))]
def o_ref12_Quote_3 : List AOp := [
 aQ 5 (.mov (.t 4)),
 aQ 6 (.mov (.t 0)),
 aQ 7 (.lenS (.t 6)),
 aQ 8 (.bin .lss (.t 5) (.t 7))]
def o_ref12_Quote_5 : List AOp := [
 aQ 11 (.mov (.t 0)),
 aQ 12 (.mov (.t 4)),
 aQ 13 (.idxS (.t 11) (.t 12)),
 aQ 14 (.bin .eql (.t 13) (.c (.nat .u8 39)))]
def o_ref12_Quote_6 : List AOp := [
 aQ 15 (.mov (.t 3)),
 aQ 16 (.bin .add (.t 15) (.c (.d (.str [39, 92, 39, 39])))),
 aQ 3 (.asg (.t 16))]
def o_ref12_Quote_7 : List AOp := [
 aQ 17 (.mov (.t 3)),
 aQ 18 (.mov (.t 0)),
 aQ 19 (.mov (.t 4)),
 aQ 20 (.mov (.t 4)),
 aQ 21 (.bin .add (.t 20) (.c (.nat .i64 1))),
 aQ 22 (.sliceS (.t 18) (some (.t 19)) (some (.t 21))),
 aQ 23 (.bin .add (.t 17) (.t 22)),
 aQ 3 (.asg (.t 23))]
def o_ref12_Quote_4 : List AOp := [
 aQ 9 (.mov (.t 4)),
 aQ 10 (.bin .add (.t 9) (.c (.nat .i64 1))),
 aQ 4 (.asg (.t 10))]
def b_ref12_Quote_0 : AC := (.seq (.seq (.ops o_ref12_Quote_3)
 (.cond (.t 8) .skip (.exit 0)))
 (.seq (.trim [0, 3, 4] (.block 1 (.seq (.ops o_ref12_Quote_5)
 (.cond (.t 14) (.ops o_ref12_Quote_6) (.ops o_ref12_Quote_7)))))
 (.ops o_ref12_Quote_4)))
def o_ref12_Quote_8 : List AOp := [
 aQ 24 (.mov (.t 3)),
 aQ 25 (.bin .add (.t 24) (.c (.d (.str [39])))),
 aQ 2 (.asg (.t 25))]
def c_ref12_Quote : AC :=
 (.seq (.ops o_ref12_Quote_0)
 (.seq (.ops o_ref12_Quote_1)
 (.seq (.seq (.ops o_ref12_Quote_2)
 (.trim [3] (.block 0 (.loop [0, 3, 4] b_ref12_Quote_0))))
 (.seq (.ops o_ref12_Quote_8)
 .ret))))
def a_ref12_Quote : AFn := { body := c_ref12_Quote, res := [.tmp 2] }
def o_show_Text_0 : List AOp := [
 aQ 2 (.asg (.c (.d (.str []))))]
def o_show_Text_1 : List AOp := [
 aQ 3 (.mov (.t 0)),
 aQ 4 (.call (.f f_show_joined) [.t 3, .c (.d (.str [10]))]),
 aQ 2 (.asg (.t 4))]
def c_show_Text : AC :=
 (.seq (.ops o_show_Text_0)
 (.seq (.ops o_show_Text_1)
 .ret))
def a_show_Text : AFn := { body := c_show_Text, res := [.tmp 2] }
def o_ref11_tree_list_0 : List AOp := [
 aQ 2 (.asg (.c (.nil)))]
def o_ref11_tree_list_1 : List AOp := [
 aQ 3 (.asg (.c (.nil)))]
def o_ref11_tree_list_2 : List AOp := [
 aQ 7 (.mov (.t 0)),
 aQ 8 (.call (.f f_ref11_tree_seps) [.t 7, .c (.d (.bool false))])]
def o_ref11_tree_list_3 : List AOp := [
 aQ 9 (.mov (.t 0)),
 aQ 10 (.call (.f f_ref11_tree_end) [.t 9]),
 aQ 11 (.un .not (.t 10)),
 aQ 12 (.mov (.t 11)),
 gQ 13 (.mov (.t 0)) 12 true,
 gQ 14 (.call (.f f_ref11_tree_c) [.t 13]) 12 true,
 gQ 15 (.bin .neq (.t 14) (.c (.nat .u8 41))) 12 true,
 aQ 16 (.pick (.t 12) (.t 15) (.c (.d (.bool false))))]
def o_ref11_tree_list_4 : List AOp := [
 aQ 17 (.mov (.t 0)),
 aQ 18 (.call (.f f_ref11_tree_key) [.t 17]),
 aQ 4 (.asg (.t 18))]
def o_ref11_tree_list_5 : List AOp := [
 aQ 19 (.mov (.t 4)),
 aQ 20 (.bin .neq (.t 19) (.c (.d (.str [])))),
 aQ 21 (.mov (.t 20)),
 gQ 22 (.mov (.t 4)) 21 true,
 gQ 23 (.bin .neq (.t 22) (.c (.d (.str [105, 102])))) 21 true,
 aQ 24 (.pick (.t 21) (.t 23) (.c (.d (.bool false)))),
 aQ 25 (.mov (.t 24)),
 gQ 26 (.mov (.t 4)) 25 true,
 gQ 27 (.bin .neq (.t 26) (.c (.d (.str [119, 104, 105, 108, 101])))) 25 true,
 aQ 28 (.pick (.t 25) (.t 27) (.c (.d (.bool false)))),
 aQ 29 (.mov (.t 28)),
 gQ 30 (.mov (.t 4)) 29 true,
 gQ 31 (.bin .neq (.t 30) (.c (.d (.str [102, 111, 114])))) 29 true,
 aQ 32 (.pick (.t 29) (.t 31) (.c (.d (.bool false))))]
def o_ref11_tree_list_6 : List AOp := [
 aQ 33 (.mov (.t 3)),
 aQ 2 (.asg (.t 33))]
def o_ref11_tree_list_7 : List AOp := [
 aQ 34 (.mov (.t 0)),
 aQ 35 (.call (.f f_ref11_tree_line) [.t 34]),
 aQ 5 (.alloc [.nat .i64 0, .nil, .nil, .nil, .nil, .nil, .nil]),
 { dst := none, op := .store 7 (.t 5) (.t 35) }]
def o_ref11_tree_list_8 : List AOp := [
 aQ 36 (.take 3),
 aQ 37 (.load (some 7) (.t 5)),
 aQ 38 (.mkls 7 [.nat .i64 0, .nil, .nil, .nil, .nil, .nil, .nil] [(0, 7, (.t 37))]),
 aQ 39 (.append 7 (.t 36) (.t 38)),
 aQ 3 (.asg (.t 39))]
def o_ref11_tree_list_9 : List AOp := [
 aQ 40 (.mov (.t 0)),
 aQ 41 (.call (.f f_ref11_tree_seps) [.t 40, .c (.d (.bool false))]),
 aQ 6 (.asg (.t 41))]
def o_ref11_tree_list_10 : List AOp := [
 aQ 42 (.mov (.t 6)),
 aQ 43 (.un .not (.t 42))]
def o_ref11_tree_list_11 : List AOp := [
 aQ 44 (.mov (.t 3)),
 aQ 2 (.asg (.t 44))]
def b_ref11_tree_list_0 : AC := (.seq (.seq (.ops o_ref11_tree_list_3)
 (.cond (.t 16) .skip (.exit 0)))
 (.trim [0, 3] (.block 1 (.seq (.ops o_ref11_tree_list_4)
 (.seq (.seq (.ops o_ref11_tree_list_5)
 (.cond (.t 32) (.seq (.ops o_ref11_tree_list_6)
 .ret) .skip))
 (.seq (.ops o_ref11_tree_list_7)
 (.seq (.ops o_ref11_tree_list_8)
 (.seq (.ops o_ref11_tree_list_9)
 (.seq (.ops o_ref11_tree_list_10)
 (.cond (.t 43) (.seq (.ops o_ref11_tree_list_11)
 .ret) .skip))))))))))
def o_ref11_tree_list_12 : List AOp := [
 aQ 45 (.mov (.t 3)),
 aQ 2 (.asg (.t 45))]
def c_ref11_tree_list : AC :=
 (.seq (.ops o_ref11_tree_list_0)
 (.seq (.ops o_ref11_tree_list_1)
 (.seq (.ops o_ref11_tree_list_2)
 (.seq (.trim [3] (.block 0 (.loop [0, 3] b_ref11_tree_list_0)))
 (.seq (.ops o_ref11_tree_list_12)
 .ret)))))
def a_ref11_tree_list : AFn := { body := c_ref11_tree_list, res := [.tmp 2] }
def o_ref11_tree_fail_0 : List AOp := [
 aQ 4 (.mov (.t 0)),
 aQ 5 (.nilchk (.t 4)),
 aQ 6 (.fldA 3 (.t 5)),
 aQ 7 (.load none (.t 6)),
 aQ 8 (.bin .eql (.t 7) (.c (.nat .i64 0)))]
def o_ref11_tree_fail_1 : List AOp := [
 aQ 9 (.mov (.t 0)),
 aQ 10 (.mov (.t 1)),
 aQ 11 (.nilchk (.t 9)),
 aQ 12 (.fldA 3 (.t 11)),
 { dst := none, op := .store 1 (.t 12) (.t 10) }]
def c_ref11_tree_fail : AC :=
 (.seq (.ops o_ref11_tree_fail_0)
 (.cond (.t 8) (.ops o_ref11_tree_fail_1) .skip))
def a_ref11_tree_fail : AFn := { body := c_ref11_tree_fail, res := [] }
def o_show_joined_0 : List AOp := [
 aQ 4 (.asg (.c (.d (.str []))))]
def o_show_joined_1 : List AOp := [
 aQ 5 (.asg (.c (.nil)))]
def o_show_joined_2 : List AOp := [
 aQ 8 (.mov (.t 0)),
 aQ 9 (.len (.t 8)),
 aQ 10 (.mov (.c (.nat .i64 0)))]
def o_show_joined_3 : List AOp := [
 aQ 11 (.bin .lss (.t 10) (.t 9))]
def o_show_joined_4 : List AOp := [
 aQ 12 (.idxA none 7 (.t 8) (.t 10)),
 aQ 13 (.load (some 7) (.t 12)),
 aQ 7 (.alloc [.nat .i64 0, .nil, .nil, .nil, .nil, .nil, .nil]),
 { dst := none, op := .store 7 (.t 7) (.t 13) }]
def o_show_joined_5 : List AOp := [
 aQ 14 (.take 5),
 aQ 15 (.load (some 7) (.t 7)),
 aQ 16 (.call (.f f_show_command) [.t 15]),
 aQ 17 (.mkls 1 [.d (.str [])] [(0, 1, (.t 16))]),
 aQ 18 (.append 1 (.t 14) (.t 17)),
 aQ 5 (.asg (.t 18))]
def o_show_joined_6 : List AOp := [
 aQ 19 (.bin .add (.t 10) (.c (.nat .i64 1))),
 aQ 10 (.mov (.t 19))]
def b_show_joined_0 : AC := (.seq (.ops o_show_joined_3)
 (.seq (.cond (.t 11) .skip (.exit 0))
 (.seq (.trim [1, 5, 8, 9, 10] (.block 1 (.seq (.ops o_show_joined_4)
 (.ops o_show_joined_5))))
 (.ops o_show_joined_6))))
def o_show_joined_7 : List AOp := [
 aQ 20 (.mov (.t 5)),
 aQ 21 (.mov (.t 1)),
 aQ 22 (.call (.f f_strings_Join) [.t 20, .t 21]),
 aQ 4 (.asg (.t 22))]
def c_show_joined : AC :=
 (.seq (.ops o_show_joined_0)
 (.seq (.ops o_show_joined_1)
 (.seq (.seq (.ops o_show_joined_2)
 (.trim [1, 5] (.block 0 (.loop [1, 5, 8, 9, 10] b_show_joined_0))))
 (.seq (.ops o_show_joined_7)
 .ret))))
def a_show_joined : AFn := { body := c_show_joined, res := [.tmp 4] }
def o_strings_Builder_WriteString_0 : List AOp := [
 aQ 4 (.asg (.c (.nat .i64 0))),
 aQ 5 (.asg (.c (.d .nilI)))]
def o_strings_Builder_WriteString_1 : List AOp := [
 aQ 6 (.mov (.t 0)),
 aQ 7 (.call (.f f_strings_Builder_copyCheck) [.t 6])]
def o_strings_Builder_WriteString_2 : List AOp := [
 aQ 8 (.mov (.t 0)),
 aQ 9 (.mov (.t 0)),
 aQ 10 (.nilchk (.t 9)),
 aQ 11 (.fldA 1 (.t 10)),
 aQ 12 (.takeload (.t 11)),
 aQ 13 (.mov (.t 1)),
 aQ 14 (.append 1 (.t 12) (.t 13)),
 aQ 15 (.nilchk (.t 8)),
 aQ 16 (.fldA 1 (.t 15)),
 { dst := none, op := .store 1 (.t 16) (.t 14) }]
def o_strings_Builder_WriteString_3 : List AOp := [
 aQ 17 (.mov (.t 1)),
 aQ 18 (.lenS (.t 17)),
 aQ 4 (.asg (.t 18)),
 aQ 5 (.asg (.c (.d .nilI)))]
def c_strings_Builder_WriteString : AC :=
 (.seq (.ops o_strings_Builder_WriteString_0)
 (.seq (.ops o_strings_Builder_WriteString_1)
 (.seq (.ops o_strings_Builder_WriteString_2)
 (.seq (.ops o_strings_Builder_WriteString_3)
 .ret))))
def a_strings_Builder_WriteString : AFn := { body := c_strings_Builder_WriteString, res := [.tmp 4, .tmp 5] }
def o_strings_Builder_String_0 : List AOp := [
 aQ 2 (.asg (.c (.d (.str []))))]
def c_strings_Builder_String : AC :=
 (.seq (.ops o_strings_Builder_String_0)
 (.seq .hole
 .ret))
def a_strings_Builder_String : AFn := { body := c_strings_Builder_String, res := [.tmp 2] }
def o_ref11_tree_seps_0 : List AOp := [
 aQ 4 (.asg (.c (.d (.bool false))))]
def o_ref11_tree_seps_1 : List AOp := [
 aQ 5 (.asg (.c (.d (.bool false))))]
def o_ref11_tree_seps_2 : List AOp := [
 aQ 6 (.mov (.t 0)),
 aQ 7 (.call (.f f_ref11_tree_white) [.t 6])]
def o_ref11_tree_seps_3 : List AOp := [
 aQ 8 (.mov (.t 0)),
 aQ 9 (.call (.f f_ref11_tree_end) [.t 8]),
 aQ 10 (.un .not (.t 9)),
 aQ 11 (.mov (.t 10)),
 gQ 12 (.mov (.t 0)) 11 true,
 gQ 13 (.call (.f f_ref11_tree_c) [.t 12]) 11 true,
 gQ 14 (.bin .eql (.t 13) (.c (.nat .u8 10))) 11 true,
 gQ 15 (.mov (.t 14)) 11 true,
 gQ 16 (.mov (.t 0)) 15 false,
 gQ 17 (.call (.f f_ref11_tree_c) [.t 16]) 15 false,
 gQ 18 (.bin .eql (.t 17) (.c (.nat .u8 59))) 15 false,
 gQ 19 (.mov (.t 18)) 15 false,
 gQ 20 (.mov (.t 1)) 19 true,
 gQ 21 (.un .not (.t 20)) 19 true,
 gQ 22 (.pick (.t 19) (.t 21) (.c (.d (.bool false)))) 15 false,
 gQ 23 (.pick (.t 15) (.c (.d (.bool true))) (.t 22)) 11 true,
 aQ 24 (.pick (.t 11) (.t 23) (.c (.d (.bool false))))]
def o_ref11_tree_seps_4 : List AOp := [
 aQ 5 (.asg (.c (.d (.bool true))))]
def o_ref11_tree_seps_5 : List AOp := [
 aQ 25 (.mov (.t 0)),
 aQ 26 (.nilchk (.t 25)),
 aQ 27 (.fldA 1 (.t 26)),
 aQ 28 (.load none (.t 27)),
 aQ 29 (.bin .add (.t 28) (.c (.nat .i64 1))),
 aQ 30 (.nilchk (.t 25)),
 aQ 31 (.fldA 1 (.t 30)),
 { dst := none, op := .store 1 (.t 31) (.t 29) }]
def o_ref11_tree_seps_6 : List AOp := [
 aQ 32 (.mov (.t 0)),
 aQ 33 (.call (.f f_ref11_tree_white) [.t 32])]
def b_ref11_tree_seps_0 : AC := (.seq (.seq (.ops o_ref11_tree_seps_3)
 (.cond (.t 24) .skip (.exit 0)))
 (.trim [0, 1, 5] (.block 1 (.seq (.ops o_ref11_tree_seps_4)
 (.seq (.ops o_ref11_tree_seps_5)
 (.ops o_ref11_tree_seps_6))))))
def o_ref11_tree_seps_7 : List AOp := [
 aQ 34 (.mov (.t 5)),
 aQ 4 (.asg (.t 34))]
def c_ref11_tree_seps : AC :=
 (.seq (.ops o_ref11_tree_seps_0)
 (.seq (.ops o_ref11_tree_seps_1)
 (.seq (.ops o_ref11_tree_seps_2)
 (.seq (.trim [5] (.block 0 (.loop [0, 1, 5] b_ref11_tree_seps_0)))
 (.seq (.ops o_ref11_tree_seps_7)
 .ret)))))
def a_ref11_tree_seps : AFn := { body := c_ref11_tree_seps, res := [.tmp 4] }
def o_ref11_tree_end_0 : List AOp := [
 aQ 2 (.asg (.c (.d (.bool false))))]
def o_ref11_tree_end_1 : List AOp := [
 aQ 3 (.mov (.t 0)),
 aQ 4 (.nilchk (.t 3)),
 aQ 5 (.fldA 3 (.t 4)),
 aQ 6 (.load none (.t 5)),
 aQ 7 (.bin .neq (.t 6) (.c (.nat .i64 0))),
 aQ 8 (.mov (.t 7)),
 hQ 9 (.mov (.t 0)) 8 false,
 hQ 10 (.nilchk (.t 9)) 8 false,
 hQ 11 (.fldA 1 (.t 10)) 8 false,
 hQ 12 (.load none (.t 11)) 8 false,
 hQ 13 (.mov (.t 0)) 8 false,
 hQ 14 (.nilchk (.t 13)) 8 false,
 hQ 15 (.fldA 0 (.t 14)) 8 false,
 hQ 16 (.load none (.t 15)) 8 false,
 hQ 17 (.lenS (.t 16)) 8 false,
 gQ 18 (.bin .geq (.t 12) (.t 17)) 8 false,
 aQ 19 (.pick (.t 8) (.c (.d (.bool true))) (.t 18)),
 aQ 2 (.asg (.t 19))]
def c_ref11_tree_end : AC :=
 (.seq (.ops o_ref11_tree_end_0)
 (.seq (.ops o_ref11_tree_end_1)
 .ret))
def a_ref11_tree_end : AFn := { body := c_ref11_tree_end, res := [.tmp 2] }
def o_ref11_tree_c_0 : List AOp := [
 aQ 2 (.asg (.c (.nat .u8 0)))]
def o_ref11_tree_c_1 : List AOp := [
 aQ 3 (.mov (.t 0)),
 aQ 4 (.nilchk (.t 3)),
 aQ 5 (.fldA 3 (.t 4)),
 aQ 6 (.load none (.t 5)),
 aQ 7 (.bin .neq (.t 6) (.c (.nat .i64 0))),
 aQ 8 (.mov (.t 7)),
 hQ 9 (.mov (.t 0)) 8 false,
 hQ 10 (.nilchk (.t 9)) 8 false,
 hQ 11 (.fldA 1 (.t 10)) 8 false,
 hQ 12 (.load none (.t 11)) 8 false,
 hQ 13 (.mov (.t 0)) 8 false,
 hQ 14 (.nilchk (.t 13)) 8 false,
 hQ 15 (.fldA 0 (.t 14)) 8 false,
 hQ 16 (.load none (.t 15)) 8 false,
 hQ 17 (.lenS (.t 16)) 8 false,
 gQ 18 (.bin .geq (.t 12) (.t 17)) 8 false,
 aQ 19 (.pick (.t 8) (.c (.d (.bool true))) (.t 18))]
def o_ref11_tree_c_2 : List AOp := [
 aQ 2 (.asg (.c (.nat .u8 0)))]
def o_ref11_tree_c_3 : List AOp := [
 mQ 20 (.mov (.t 0)),
 mQ 21 (.nilchk (.t 20)),
 mQ 22 (.fldA 0 (.t 21)),
 mQ 23 (.load none (.t 22)),
 mQ 24 (.mov (.t 0)),
 mQ 25 (.nilchk (.t 24)),
 mQ 26 (.fldA 1 (.t 25)),
 mQ 27 (.load none (.t 26)),
 aQ 28 (.idxS (.t 23) (.t 27)),
 aQ 2 (.asg (.t 28))]
def c_ref11_tree_c : AC :=
 (.seq (.ops o_ref11_tree_c_0)
 (.seq (.seq (.ops o_ref11_tree_c_1)
 (.cond (.t 19) (.seq (.ops o_ref11_tree_c_2)
 .ret) .skip))
 (.seq (.ops o_ref11_tree_c_3)
 .ret)))
def a_ref11_tree_c : AFn := { body := c_ref11_tree_c, res := [.tmp 2] }
def o_ref11_tree_key_0 : List AOp := [
 aQ 2 (.asg (.c (.d (.str []))))]
def o_ref11_tree_key_1 : List AOp := [
 aQ 5 (.mov (.t 0)),
 aQ 6 (.nilchk (.t 5)),
 aQ 7 (.fldA 3 (.t 6)),
 aQ 8 (.load none (.t 7)),
 aQ 9 (.bin .neq (.t 8) (.c (.nat .i64 0)))]
def o_ref11_tree_key_2 : List AOp := [
 aQ 2 (.asg (.c (.d (.str []))))]
def o_ref11_tree_key_3 : List AOp := [
 aQ 10 (.mov (.t 0)),
 aQ 11 (.nilchk (.t 10)),
 aQ 12 (.fldA 1 (.t 11)),
 aQ 13 (.load none (.t 12)),
 aQ 3 (.asg (.t 13))]
def o_ref11_tree_key_4 : List AOp := [
 aQ 14 (.mov (.t 3)),
 aQ 15 (.mov (.t 0)),
 aQ 16 (.nilchk (.t 15)),
 aQ 17 (.fldA 0 (.t 16)),
 aQ 18 (.load none (.t 17)),
 aQ 19 (.lenS (.t 18)),
 aQ 20 (.bin .lss (.t 14) (.t 19)),
 aQ 21 (.mov (.t 20)),
 gQ 22 (.mov (.t 0)) 21 true,
 gQ 23 (.nilchk (.t 22)) 21 true,
 gQ 24 (.fldA 0 (.t 23)) 21 true,
 gQ 25 (.load none (.t 24)) 21 true,
 gQ 26 (.mov (.t 3)) 21 true,
 gQ 27 (.idxS (.t 25) (.t 26)) 21 true,
 gQ 28 (.call (.f f_ref11_plain) [.t 27]) 21 true,
 aQ 29 (.pick (.t 21) (.t 28) (.c (.d (.bool false))))]
def o_ref11_tree_key_5 : List AOp := [
 aQ 30 (.mov (.t 3)),
 aQ 31 (.bin .add (.t 30) (.c (.nat .i64 1))),
 aQ 3 (.asg (.t 31))]
def b_ref11_tree_key_0 : AC := (.seq (.seq (.ops o_ref11_tree_key_4)
 (.cond (.t 29) .skip (.exit 0)))
 (.trim [0, 3] (.block 1 (.ops o_ref11_tree_key_5))))
def o_ref11_tree_key_6 : List AOp := [
 aQ 32 (.mov (.t 3)),
 aQ 33 (.mov (.t 0)),
 aQ 34 (.nilchk (.t 33)),
 aQ 35 (.fldA 0 (.t 34)),
 aQ 36 (.load none (.t 35)),
 aQ 37 (.lenS (.t 36)),
 aQ 38 (.bin .lss (.t 32) (.t 37)),
 aQ 39 (.mov (.t 38)),
 gQ 40 (.mov (.t 0)) 39 true,
 gQ 41 (.nilchk (.t 40)) 39 true,
 gQ 42 (.fldA 0 (.t 41)) 39 true,
 gQ 43 (.load none (.t 42)) 39 true,
 gQ 44 (.mov (.t 3)) 39 true,
 gQ 45 (.idxS (.t 43) (.t 44)) 39 true,
 gQ 46 (.call (.f f_ref11_in) [.t 45, .c (.d (.str [39, 34, 36, 92]))]) 39 true,
 aQ 47 (.pick (.t 39) (.t 46) (.c (.d (.bool false))))]
def o_ref11_tree_key_7 : List AOp := [
 aQ 2 (.asg (.c (.d (.str []))))]
def o_ref11_tree_key_8 : List AOp := [
 mQ 48 (.mov (.t 0)),
 mQ 49 (.nilchk (.t 48)),
 mQ 50 (.fldA 0 (.t 49)),
 mQ 51 (.load none (.t 50)),
 mQ 52 (.mov (.t 0)),
 mQ 53 (.nilchk (.t 52)),
 mQ 54 (.fldA 1 (.t 53)),
 mQ 55 (.load none (.t 54)),
 mQ 56 (.mov (.t 3)),
 aQ 57 (.sliceS (.t 51) (some (.t 55)) (some (.t 56))),
 aQ 4 (.asg (.t 57))]
def o_ref11_tree_key_9 : List AOp := [
 aQ 58 (.mov (.t 4)),
 aQ 59 (.bin .eql (.t 58) (.c (.d (.str [105, 102])))),
 aQ 60 (.mov (.t 59)),
 gQ 61 (.mov (.t 4)) 60 false,
 gQ 62 (.bin .eql (.t 61) (.c (.d (.str [116, 104, 101, 110])))) 60 false,
 aQ 63 (.pick (.t 60) (.c (.d (.bool true))) (.t 62)),
 aQ 64 (.mov (.t 63)),
 gQ 65 (.mov (.t 4)) 64 false,
 gQ 66 (.bin .eql (.t 65) (.c (.d (.str [101, 108, 115, 101])))) 64 false,
 aQ 67 (.pick (.t 64) (.c (.d (.bool true))) (.t 66)),
 aQ 68 (.mov (.t 67)),
 gQ 69 (.mov (.t 4)) 68 false,
 gQ 70 (.bin .eql (.t 69) (.c (.d (.str [102, 105])))) 68 false,
 aQ 71 (.pick (.t 68) (.c (.d (.bool true))) (.t 70)),
 aQ 72 (.mov (.t 71)),
 gQ 73 (.mov (.t 4)) 72 false,
 gQ 74 (.bin .eql (.t 73) (.c (.d (.str [119, 104, 105, 108, 101])))) 72 false,
 aQ 75 (.pick (.t 72) (.c (.d (.bool true))) (.t 74)),
 aQ 76 (.mov (.t 75)),
 gQ 77 (.mov (.t 4)) 76 false,
 gQ 78 (.bin .eql (.t 77) (.c (.d (.str [100, 111])))) 76 false,
 aQ 79 (.pick (.t 76) (.c (.d (.bool true))) (.t 78)),
 aQ 80 (.mov (.t 79)),
 gQ 81 (.mov (.t 4)) 80 false,
 gQ 82 (.bin .eql (.t 81) (.c (.d (.str [100, 111, 110, 101])))) 80 false,
 aQ 83 (.pick (.t 80) (.c (.d (.bool true))) (.t 82)),
 aQ 84 (.mov (.t 83)),
 gQ 85 (.mov (.t 4)) 84 false,
 gQ 86 (.bin .eql (.t 85) (.c (.d (.str [102, 111, 114])))) 84 false,
 aQ 87 (.pick (.t 84) (.c (.d (.bool true))) (.t 86)),
 aQ 88 (.mov (.t 87)),
 gQ 89 (.mov (.t 4)) 88 false,
 gQ 90 (.bin .eql (.t 89) (.c (.d (.str [105, 110])))) 88 false,
 aQ 91 (.pick (.t 88) (.c (.d (.bool true))) (.t 90))]
def o_ref11_tree_key_10 : List AOp := [
 aQ 92 (.mov (.t 4)),
 aQ 2 (.asg (.t 92))]
def o_ref11_tree_key_11 : List AOp := [
 aQ 2 (.asg (.c (.d (.str []))))]
def c_ref11_tree_key : AC :=
 (.seq (.ops o_ref11_tree_key_0)
 (.seq (.seq (.ops o_ref11_tree_key_1)
 (.cond (.t 9) (.seq (.ops o_ref11_tree_key_2)
 .ret) .skip))
 (.seq (.ops o_ref11_tree_key_3)
 (.seq (.trim [0, 3] (.block 0 (.loop [0, 3] b_ref11_tree_key_0)))
 (.seq (.seq (.ops o_ref11_tree_key_6)
 (.cond (.t 47) (.seq (.ops o_ref11_tree_key_7)
 .ret) .skip))
 (.seq (.ops o_ref11_tree_key_8)
 (.seq (.seq (.ops o_ref11_tree_key_9)
 (.cond (.t 91) (.seq (.ops o_ref11_tree_key_10)
 .ret) .skip))
 (.seq (.ops o_ref11_tree_key_11)
 .ret))))))))
def a_ref11_tree_key : AFn := { body := c_ref11_tree_key, res := [.tmp 2] }
def o_ref11_tree_line_0 : List AOp := [
 aQ 2 (.alloc [.nat .i64 0, .nil, .nil, .nil, .nil, .nil, .nil])]
def o_ref11_tree_line_1 : List AOp := [
 aQ 4 (.mov (.t 0)),
 aQ 5 (.call (.f f_ref11_tree_pipe) [.t 4]),
 aQ 6 (.mkls 7 [.nat .i64 0, .nil, .nil, .nil, .nil, .nil, .nil] [(0, 7, (.t 5))]),
 aQ 3 (.asg (.t 6))]
def o_ref11_tree_line_2 : List AOp := [
 aQ 7 (.mov (.t 0)),
 aQ 8 (.call (.f f_ref11_tree_bars) [.t 7, .c (.d (.bool true))])]
def o_ref11_tree_line_3 : List AOp := [
 aQ 9 (.mov (.t 0)),
 aQ 10 (.mov (.t 0)),
 aQ 11 (.nilchk (.t 10)),
 aQ 12 (.fldA 1 (.t 11)),
 aQ 13 (.load none (.t 12)),
 aQ 14 (.bin .add (.t 13) (.c (.nat .i64 2))),
 aQ 15 (.nilchk (.t 9)),
 aQ 16 (.fldA 1 (.t 15)),
 { dst := none, op := .store 1 (.t 16) (.t 14) }]
def o_ref11_tree_line_4 : List AOp := [
 aQ 17 (.mov (.t 0)),
 aQ 18 (.call (.f f_ref11_tree_seps) [.t 17, .c (.d (.bool true))])]
def o_ref11_tree_line_5 : List AOp := [
 aQ 19 (.take 3),
 aQ 20 (.mov (.t 0)),
 aQ 21 (.call (.f f_ref11_tree_pipe) [.t 20]),
 aQ 22 (.mkls 7 [.nat .i64 0, .nil, .nil, .nil, .nil, .nil, .nil] [(0, 7, (.t 21))]),
 aQ 23 (.append 7 (.t 19) (.t 22)),
 aQ 3 (.asg (.t 23))]
def b_ref11_tree_line_0 : AC := (.seq (.seq (.ops o_ref11_tree_line_2)
 (.cond (.t 8) .skip (.exit 0)))
 (.trim [0, 2, 3] (.block 1 (.seq (.ops o_ref11_tree_line_3)
 (.seq (.ops o_ref11_tree_line_4)
 (.ops o_ref11_tree_line_5))))))
def o_ref11_tree_line_6 : List AOp := [
 aQ 24 (.mov (.t 3)),
 aQ 25 (.len (.t 24)),
 aQ 26 (.bin .eql (.t 25) (.c (.nat .i64 1)))]
def o_ref11_tree_line_7 : List AOp := [
 aQ 27 (.mov (.t 3)),
 aQ 28 (.idxA none 7 (.t 27) (.c (.nat .i64 0))),
 aQ 29 (.load (some 7) (.t 28)),
 { dst := none, op := .store 7 (.t 2) (.t 29) }]
def o_ref11_tree_line_8 : List AOp := [
 aQ 30 (.mov (.t 3)),
 aQ 31 (.build [.nat .i64 0, .nil, .nil, .nil, .nil, .nil, .nil] [(0, 1, (.c (.nat .i64 3))), (4, 1, (.t 30))]),
 { dst := none, op := .store 7 (.t 2) (.t 31) }]
def c_ref11_tree_line : AC :=
 (.seq (.ops o_ref11_tree_line_0)
 (.seq (.ops o_ref11_tree_line_1)
 (.seq (.trim [2, 3] (.block 0 (.loop [0, 2, 3] b_ref11_tree_line_0)))
 (.seq (.seq (.ops o_ref11_tree_line_6)
 (.cond (.t 26) (.seq (.ops o_ref11_tree_line_7)
 .ret) .skip))
 (.seq (.ops o_ref11_tree_line_8)
 .ret)))))
def a_ref11_tree_line : AFn := { body := c_ref11_tree_line, res := [.cell 2 (some 7)] }
def o_show_command_0 : List AOp := [
 aQ 1 (.box (.t 0)),
 aQ 2 (.asg (.c (.d (.str []))))]
def o_show_command_1 : List AOp := [
 aQ 6 (.fldA 0 (.t 1)),
 aQ 7 (.load none (.t 6))]
def o_show_command_2 : List AOp := [
 aQ 9 (.bin .eql (.t 7) (.c (.nat .i64 2))),
 aQ 8 (.asg (.t 9))]
def o_show_command_3 : List AOp := [
 aQ 10 (.fldA 4 (.t 1)),
 aQ 11 (.load none (.t 10)),
 aQ 12 (.call (.f f_show_joined) [.t 11, .c (.d (.str [32, 124, 32]))]),
 aQ 2 (.asg (.t 12))]
def o_show_command_4 : List AOp := [
 aQ 14 (.bin .eql (.t 7) (.c (.nat .i64 3))),
 aQ 13 (.asg (.t 14))]
def o_show_command_5 : List AOp := [
 aQ 15 (.fldA 4 (.t 1)),
 aQ 16 (.load none (.t 15)),
 aQ 17 (.call (.f f_show_joined) [.t 16, .c (.d (.str [32, 124, 124, 32]))]),
 aQ 2 (.asg (.t 17))]
def o_show_command_6 : List AOp := [
 aQ 19 (.bin .eql (.t 7) (.c (.nat .i64 4))),
 aQ 18 (.asg (.t 19))]
def o_show_command_7 : List AOp := [
 aQ 20 (.fldA 6 (.t 1)),
 aQ 21 (.load none (.t 20)),
 aQ 22 (.len (.t 21)),
 aQ 23 (.bin .eql (.t 22) (.c (.nat .i64 0)))]
def o_show_command_8 : List AOp := [
 mQ 24 (.fldA 4 (.t 1)),
 mQ 25 (.load none (.t 24)),
 mQ 26 (.callQ (.f f_show_Text) [.t 25]),
 mQ 27 (.bin .add (.c (.d (.str [105, 102, 32]))) (.t 26)),
 mQ 28 (.fldA 5 (.t 1)),
 mQ 29 (.load none (.t 28)),
 mQ 30 (.call (.f f_show_Text) [.t 29]),
 aQ 31 (.mkls 1 [.d (.str []), .d (.str []), .d (.str []), .d (.str [])] [(0, 1, (.t 27)), (1, 1, (.c (.d (.str [116, 104, 101, 110])))), (2, 1, (.t 30)), (3, 1, (.c (.d (.str [102, 105]))))]),
 aQ 32 (.call (.f f_show_lines) [.t 31]),
 aQ 2 (.asg (.t 32))]
def o_show_command_9 : List AOp := [
 mQ 33 (.fldA 4 (.t 1)),
 mQ 34 (.load none (.t 33)),
 mQ 35 (.callQ (.f f_show_Text) [.t 34]),
 mQ 36 (.bin .add (.c (.d (.str [105, 102, 32]))) (.t 35)),
 mQ 37 (.fldA 5 (.t 1)),
 mQ 38 (.load none (.t 37)),
 mQ 39 (.callQ (.f f_show_Text) [.t 38]),
 mQ 40 (.fldA 6 (.t 1)),
 mQ 41 (.load none (.t 40)),
 mQ 42 (.call (.f f_show_Text) [.t 41]),
 aQ 43 (.mkls 1 [.d (.str []), .d (.str []), .d (.str []), .d (.str []), .d (.str []), .d (.str [])] [(0, 1, (.t 36)), (1, 1, (.c (.d (.str [116, 104, 101, 110])))), (2, 1, (.t 39)), (3, 1, (.c (.d (.str [101, 108, 115, 101])))), (4, 1, (.t 42)), (5, 1, (.c (.d (.str [102, 105]))))]),
 aQ 44 (.call (.f f_show_lines) [.t 43]),
 aQ 2 (.asg (.t 44))]
def o_show_command_10 : List AOp := [
 aQ 46 (.bin .eql (.t 7) (.c (.nat .i64 5))),
 aQ 45 (.asg (.t 46))]
def o_show_command_11 : List AOp := [
 mQ 47 (.fldA 4 (.t 1)),
 mQ 48 (.load none (.t 47)),
 mQ 49 (.callQ (.f f_show_Text) [.t 48]),
 mQ 50 (.bin .add (.c (.d (.str [119, 104, 105, 108, 101, 32]))) (.t 49)),
 mQ 51 (.fldA 5 (.t 1)),
 mQ 52 (.load none (.t 51)),
 mQ 53 (.call (.f f_show_Text) [.t 52]),
 aQ 54 (.mkls 1 [.d (.str []), .d (.str []), .d (.str []), .d (.str [])] [(0, 1, (.t 50)), (1, 1, (.c (.d (.str [100, 111])))), (2, 1, (.t 53)), (3, 1, (.c (.d (.str [100, 111, 110, 101]))))]),
 aQ 55 (.call (.f f_show_lines) [.t 54]),
 aQ 2 (.asg (.t 55))]
def o_show_command_12 : List AOp := [
 aQ 57 (.bin .eql (.t 7) (.c (.nat .i64 6))),
 aQ 56 (.asg (.t 57))]
def o_show_command_13 : List AOp := [
 aQ 58 (.fldA 1 (.t 1)),
 aQ 59 (.load none (.t 58)),
 aQ 60 (.idxA none 1 (.t 59) (.c (.nat .i64 0))),
 aQ 61 (.load none (.t 60)),
 aQ 62 (.bin .add (.c (.d (.str [102, 111, 114, 32]))) (.t 61)),
 aQ 63 (.bin .add (.t 62) (.c (.d (.str [32, 105, 110])))),
 aQ 3 (.asg (.t 63))]
def o_show_command_14 : List AOp := [
 aQ 64 (.fldA 3 (.t 1)),
 aQ 65 (.load none (.t 64)),
 aQ 66 (.len (.t 65)),
 aQ 67 (.mov (.c (.nat .i64 0)))]
def o_show_command_15 : List AOp := [
 aQ 68 (.bin .lss (.t 67) (.t 66))]
def o_show_command_16 : List AOp := [
 aQ 69 (.idxA none 1 (.t 65) (.t 67)),
 aQ 70 (.load (some 1) (.t 69)),
 aQ 5 (.alloc [.nil]),
 { dst := none, op := .store 1 (.t 5) (.t 70) }]
def o_show_command_17 : List AOp := [
 aQ 71 (.mov (.t 3)),
 aQ 72 (.load (some 1) (.t 5)),
 aQ 73 (.call (.f f_show_Word) [.t 72]),
 aQ 74 (.bin .add (.c (.d (.str [32]))) (.t 73)),
 aQ 75 (.bin .add (.t 71) (.t 74)),
 aQ 3 (.asg (.t 75))]
def o_show_command_18 : List AOp := [
 aQ 76 (.bin .add (.t 67) (.c (.nat .i64 1))),
 aQ 67 (.mov (.t 76))]
def b_show_command_0 : AC := (.seq (.ops o_show_command_15)
 (.seq (.cond (.t 68) .skip (.exit 1))
 (.seq (.trim [1, 3, 65, 66, 67] (.block 2 (.seq (.ops o_show_command_16)
 (.ops o_show_command_17))))
 (.ops o_show_command_18))))
def o_show_command_19 : List AOp := [
 aQ 77 (.mov (.t 3)),
 aQ 78 (.fldA 5 (.t 1)),
 aQ 79 (.load none (.t 78)),
 aQ 80 (.call (.f f_show_Text) [.t 79]),
 aQ 81 (.mkls 1 [.d (.str []), .d (.str []), .d (.str []), .d (.str [])] [(0, 1, (.t 77)), (1, 1, (.c (.d (.str [100, 111])))), (2, 1, (.t 80)), (3, 1, (.c (.d (.str [100, 111, 110, 101]))))]),
 aQ 82 (.call (.f f_show_lines) [.t 81]),
 aQ 2 (.asg (.t 82))]
def o_show_command_20 : List AOp := [
 aQ 83 (.load (some 7) (.t 1)),
 aQ 84 (.call (.f f_show_simple) [.t 83]),
 aQ 2 (.asg (.t 84))]
def c_show_command : AC :=
 (.seq (.ops o_show_command_0)
 (.seq (.seq (.ops o_show_command_1)
 (.trim [1] (.block 0 (.seq (.ops o_show_command_2)
 (.cond (.t 8) (.seq (.ops o_show_command_3)
 .ret) (.seq (.ops o_show_command_4)
 (.cond (.t 13) (.seq (.ops o_show_command_5)
 .ret) (.seq (.ops o_show_command_6)
 (.cond (.t 18) (.seq (.seq (.ops o_show_command_7)
 (.cond (.t 23) (.seq (.ops o_show_command_8)
 .ret) .skip))
 (.seq (.ops o_show_command_9)
 .ret)) (.seq (.ops o_show_command_10)
 (.cond (.t 45) (.seq (.ops o_show_command_11)
 .ret) (.seq (.ops o_show_command_12)
 (.cond (.t 56) (.seq (.ops o_show_command_13)
 (.seq (.seq (.ops o_show_command_14)
 (.trim [1, 3] (.block 1 (.loop [1, 3, 65, 66, 67] b_show_command_0))))
 (.seq (.ops o_show_command_19)
 .ret))) .skip)))))))))))))
 (.seq (.ops o_show_command_20)
 .ret)))
def a_show_command : AFn := { body := c_show_command, res := [.tmp 2] }
def o_strings_Join_0 : List AOp := [
 aQ 4 (.asg (.c (.d (.str []))))]
def o_strings_Join_1 : List AOp := [
 aQ 11 (.mov (.t 0)),
 aQ 12 (.len (.t 11))]
def o_strings_Join_2 : List AOp := [
 aQ 14 (.bin .eql (.t 12) (.c (.nat .i64 0))),
 aQ 13 (.asg (.t 14))]
def o_strings_Join_3 : List AOp := [
 aQ 4 (.asg (.c (.d (.str []))))]
def o_strings_Join_4 : List AOp := [
 aQ 16 (.bin .eql (.t 12) (.c (.nat .i64 1))),
 aQ 15 (.asg (.t 16))]
def o_strings_Join_5 : List AOp := [
 aQ 17 (.mov (.t 0)),
 aQ 18 (.idxA none 1 (.t 17) (.c (.nat .i64 0))),
 aQ 19 (.load none (.t 18)),
 aQ 4 (.asg (.t 19))]
def o_strings_Join_6 : List AOp := [
 aQ 5 (.asg (.c (.nat .i64 0)))]
def o_strings_Join_7 : List AOp := [
 aQ 20 (.mov (.t 1)),
 aQ 21 (.lenS (.t 20)),
 aQ 22 (.bin .gtr (.t 21) (.c (.nat .i64 0)))]
def o_strings_Join_8 : List AOp := [
 aQ 23 (.mov (.t 1)),
 aQ 24 (.lenS (.t 23)),
 aQ 25 (.mov (.t 0)),
 aQ 26 (.len (.t 25)),
 aQ 27 (.bin .sub (.t 26) (.c (.nat .i64 1))),
 aQ 28 (.bin .quo (.c (.nat .i64 9223372036854775807)) (.t 27)),
 aQ 29 (.bin .geq (.t 24) (.t 28))]
def o_strings_Join_9 : List AOp := [
 aQ 30 (.mkifc 9 (.c (.d (.str [115, 116, 114, 105, 110, 103, 115, 58, 32, 74, 111, 105, 110, 32, 111, 117, 116, 112, 117, 116, 32, 108, 101, 110, 103, 116, 104, 32, 111, 118, 101, 114, 102, 108, 111, 119])))),
 { dst := none, op := .panic (.t 30) }]
def o_strings_Join_10 : List AOp := [
 aQ 31 (.mov (.t 5)),
 aQ 32 (.mov (.t 1)),
 aQ 33 (.lenS (.t 32)),
 aQ 34 (.mov (.t 0)),
 aQ 35 (.len (.t 34)),
 aQ 36 (.bin .sub (.t 35) (.c (.nat .i64 1))),
 aQ 37 (.bin .mul (.t 33) (.t 36)),
 aQ 38 (.bin .add (.t 31) (.t 37)),
 aQ 5 (.asg (.t 38))]
def o_strings_Join_11 : List AOp := [
 aQ 39 (.mov (.t 0)),
 aQ 40 (.len (.t 39)),
 aQ 41 (.mov (.c (.nat .i64 0)))]
def o_strings_Join_12 : List AOp := [
 aQ 42 (.bin .lss (.t 41) (.t 40))]
def o_strings_Join_13 : List AOp := [
 aQ 43 (.idxA none 1 (.t 39) (.t 41)),
 aQ 44 (.load none (.t 43)),
 aQ 7 (.asg (.t 44))]
def o_strings_Join_14 : List AOp := [
 aQ 45 (.mov (.t 7)),
 aQ 46 (.lenS (.t 45)),
 aQ 47 (.mov (.t 5)),
 aQ 48 (.bin .sub (.c (.nat .i64 9223372036854775807)) (.t 47)),
 aQ 49 (.bin .gtr (.t 46) (.t 48))]
def o_strings_Join_15 : List AOp := [
 aQ 50 (.mkifc 9 (.c (.d (.str [115, 116, 114, 105, 110, 103, 115, 58, 32, 74, 111, 105, 110, 32, 111, 117, 116, 112, 117, 116, 32, 108, 101, 110, 103, 116, 104, 32, 111, 118, 101, 114, 102, 108, 111, 119])))),
 { dst := none, op := .panic (.t 50) }]
def o_strings_Join_16 : List AOp := [
 aQ 51 (.mov (.t 5)),
 aQ 52 (.mov (.t 7)),
 aQ 53 (.lenS (.t 52)),
 aQ 54 (.bin .add (.t 51) (.t 53)),
 aQ 5 (.asg (.t 54))]
def o_strings_Join_17 : List AOp := [
 aQ 55 (.bin .add (.t 41) (.c (.nat .i64 1))),
 aQ 41 (.mov (.t 55))]
def b_strings_Join_0 : AC := (.seq (.ops o_strings_Join_12)
 (.seq (.cond (.t 42) .skip (.exit 1))
 (.seq (.trim [0, 1, 5, 39, 40, 41] (.block 2 (.seq (.ops o_strings_Join_13)
 (.seq (.seq (.ops o_strings_Join_14)
 (.cond (.t 49) (.ops o_strings_Join_15) .skip))
 (.ops o_strings_Join_16)))))
 (.ops o_strings_Join_17))))
def o_strings_Join_18 : List AOp := [
 aQ 8 (.alloc [.d .nilp, .nil])]
def o_strings_Join_19 : List AOp := [
 aQ 56 (.mov (.t 5)),
 aQ 57 (.call (.f f_strings_Builder_Grow) [.t 8, .t 56])]
def o_strings_Join_20 : List AOp := [
 aQ 58 (.mov (.t 0)),
 aQ 59 (.idxA none 1 (.t 58) (.c (.nat .i64 0))),
 aQ 60 (.load none (.t 59)),
 aQ 61 (.call (.f f_strings_Builder_WriteString) [.t 8, .t 60])]
def o_strings_Join_21 : List AOp := [
 aQ 62 (.mov (.t 0)),
 aQ 63 (.slice 1 (.t 62) (some (.c (.nat .i64 1))) none),
 aQ 64 (.len (.t 63)),
 aQ 65 (.mov (.c (.nat .i64 0)))]
def o_strings_Join_22 : List AOp := [
 aQ 66 (.bin .lss (.t 65) (.t 64))]
def o_strings_Join_23 : List AOp := [
 aQ 67 (.idxA none 1 (.t 63) (.t 65)),
 aQ 68 (.load none (.t 67)),
 aQ 10 (.asg (.t 68))]
def o_strings_Join_24 : List AOp := [
 aQ 69 (.mov (.t 1)),
 aQ 70 (.call (.f f_strings_Builder_WriteString) [.t 8, .t 69])]
def o_strings_Join_25 : List AOp := [
 aQ 71 (.mov (.t 10)),
 aQ 72 (.call (.f f_strings_Builder_WriteString) [.t 8, .t 71])]
def o_strings_Join_26 : List AOp := [
 aQ 73 (.bin .add (.t 65) (.c (.nat .i64 1))),
 aQ 65 (.mov (.t 73))]
def b_strings_Join_1 : AC := (.seq (.ops o_strings_Join_22)
 (.seq (.cond (.t 66) .skip (.exit 3))
 (.seq (.trim [1, 8, 63, 64, 65] (.block 4 (.seq (.ops o_strings_Join_23)
 (.seq (.ops o_strings_Join_24)
 (.ops o_strings_Join_25)))))
 (.ops o_strings_Join_26))))
def o_strings_Join_27 : List AOp := [
 aQ 74 (.call (.f f_strings_Builder_String) [.t 8]),
 aQ 4 (.asg (.t 74))]
def c_strings_Join : AC :=
 (.seq (.ops o_strings_Join_0)
 (.seq (.seq (.ops o_strings_Join_1)
 (.trim [0, 1] (.block 0 (.seq (.ops o_strings_Join_2)
 (.cond (.t 13) (.seq (.ops o_strings_Join_3)
 .ret) (.seq (.ops o_strings_Join_4)
 (.cond (.t 15) (.seq (.ops o_strings_Join_5)
 .ret) .skip)))))))
 (.seq (.ops o_strings_Join_6)
 (.seq (.seq (.ops o_strings_Join_7)
 (.cond (.t 22) (.seq (.seq (.ops o_strings_Join_8)
 (.cond (.t 29) (.ops o_strings_Join_9) .skip))
 (.ops o_strings_Join_10)) .skip))
 (.seq (.seq (.ops o_strings_Join_11)
 (.trim [0, 1, 5] (.block 1 (.loop [0, 1, 5, 39, 40, 41] b_strings_Join_0))))
 (.seq (.ops o_strings_Join_18)
 (.seq (.ops o_strings_Join_19)
 (.seq (.ops o_strings_Join_20)
 (.seq (.seq (.ops o_strings_Join_21)
 (.trim [8] (.block 3 (.loop [1, 8, 63, 64, 65] b_strings_Join_1))))
 (.seq (.ops o_strings_Join_27)
 .ret))))))))))
def a_strings_Join : AFn := { body := c_strings_Join, res := [.tmp 4] }
def o_strings_Builder_copyCheck_0 : List AOp := [
 aQ 2 (.mov (.t 0)),
 aQ 3 (.nilchk (.t 2)),
 aQ 4 (.fldA 0 (.t 3)),
 aQ 5 (.load none (.t 4)),
 aQ 6 (.eqnil 0 false (.t 5))]
def c_strings_Builder_copyCheck : AC :=
 (.seq (.ops o_strings_Builder_copyCheck_0)
 (.cond (.t 6) .hole (.seq .hole
 (.cond (.t 19) .hole .skip))))
def a_strings_Builder_copyCheck : AFn := { body := c_strings_Builder_copyCheck, res := [] }
def o_ref11_tree_white_0 : List AOp := [
 aQ 2 (.mov (.t 0)),
 aQ 3 (.call (.f f_ref11_tree_end) [.t 2]),
 aQ 4 (.un .not (.t 3)),
 aQ 5 (.mov (.t 4)),
 gQ 6 (.mov (.t 0)) 5 true,
 gQ 7 (.call (.f f_ref11_tree_c) [.t 6]) 5 true,
 gQ 8 (.bin .eql (.t 7) (.c (.nat .u8 32))) 5 true,
 gQ 9 (.mov (.t 8)) 5 true,
 gQ 10 (.mov (.t 0)) 9 false,
 gQ 11 (.call (.f f_ref11_tree_c) [.t 10]) 9 false,
 gQ 12 (.bin .eql (.t 11) (.c (.nat .u8 9))) 9 false,
 gQ 13 (.pick (.t 9) (.c (.d (.bool true))) (.t 12)) 5 true,
 aQ 14 (.pick (.t 5) (.t 13) (.c (.d (.bool false))))]
def o_ref11_tree_white_1 : List AOp := [
 aQ 15 (.mov (.t 0)),
 aQ 16 (.nilchk (.t 15)),
 aQ 17 (.fldA 1 (.t 16)),
 aQ 18 (.load none (.t 17)),
 aQ 19 (.bin .add (.t 18) (.c (.nat .i64 1))),
 aQ 20 (.nilchk (.t 15)),
 aQ 21 (.fldA 1 (.t 20)),
 { dst := none, op := .store 1 (.t 21) (.t 19) }]
def b_ref11_tree_white_0 : AC := (.seq (.seq (.ops o_ref11_tree_white_0)
 (.cond (.t 14) .skip (.exit 0)))
 (.trim [0] (.block 1 (.ops o_ref11_tree_white_1))))
def o_ref11_tree_white_2 : List AOp := [
 aQ 22 (.mov (.t 0)),
 aQ 23 (.call (.f f_ref11_tree_end) [.t 22]),
 aQ 24 (.un .not (.t 23)),
 aQ 25 (.mov (.t 24)),
 gQ 26 (.mov (.t 0)) 25 true,
 gQ 27 (.call (.f f_ref11_tree_c) [.t 26]) 25 true,
 gQ 28 (.bin .eql (.t 27) (.c (.nat .u8 35))) 25 true,
 aQ 29 (.pick (.t 25) (.t 28) (.c (.d (.bool false))))]
def o_ref11_tree_white_3 : List AOp := [
 aQ 30 (.mov (.t 0)),
 aQ 31 (.call (.f f_ref11_tree_end) [.t 30]),
 aQ 32 (.un .not (.t 31)),
 aQ 33 (.mov (.t 32)),
 gQ 34 (.mov (.t 0)) 33 true,
 gQ 35 (.call (.f f_ref11_tree_c) [.t 34]) 33 true,
 gQ 36 (.bin .neq (.t 35) (.c (.nat .u8 10))) 33 true,
 aQ 37 (.pick (.t 33) (.t 36) (.c (.d (.bool false))))]
def o_ref11_tree_white_4 : List AOp := [
 aQ 38 (.mov (.t 0)),
 aQ 39 (.nilchk (.t 38)),
 aQ 40 (.fldA 1 (.t 39)),
 aQ 41 (.load none (.t 40)),
 aQ 42 (.bin .add (.t 41) (.c (.nat .i64 1))),
 aQ 43 (.nilchk (.t 38)),
 aQ 44 (.fldA 1 (.t 43)),
 { dst := none, op := .store 1 (.t 44) (.t 42) }]
def b_ref11_tree_white_1 : AC := (.seq (.seq (.ops o_ref11_tree_white_3)
 (.cond (.t 37) .skip (.exit 2)))
 (.trim [0] (.block 3 (.ops o_ref11_tree_white_4))))
def c_ref11_tree_white : AC :=
 (.seq (.trim [0] (.block 0 (.loop [0] b_ref11_tree_white_0)))
 (.seq (.ops o_ref11_tree_white_2)
 (.cond (.t 29) (.trim [] (.block 2 (.loop [0] b_ref11_tree_white_1))) .skip)))
def a_ref11_tree_white : AFn := { body := c_ref11_tree_white, res := [] }
def o_ref11_plain_0 : List AOp := [
 aQ 2 (.asg (.c (.d (.bool false))))]
def o_ref11_plain_1 : List AOp := [
 aQ 3 (.mov (.t 0)),
 aQ 4 (.call (.f f_ref11_in) [.t 3, .c (.d (.str [32, 9, 10, 59, 124, 38, 60, 62, 40, 41, 34, 39, 96, 36, 92, 42, 63, 91, 93, 123, 125, 126]))]),
 aQ 5 (.un .not (.t 4)),
 aQ 2 (.asg (.t 5))]
def c_ref11_plain : AC :=
 (.seq (.ops o_ref11_plain_0)
 (.seq (.ops o_ref11_plain_1)
 .ret))
def a_ref11_plain : AFn := { body := c_ref11_plain, res := [.tmp 2] }
def o_ref11_in_0 : List AOp := [
 aQ 4 (.asg (.c (.d (.bool false))))]
def o_ref11_in_1 : List AOp := [
 aQ 5 (.asg (.c (.nat .i64 0)))]
def o_ref11_in_2 : List AOp := [
 aQ 6 (.mov (.t 5)),
 aQ 7 (.mov (.t 1)),
 aQ 8 (.lenS (.t 7)),
 aQ 9 (.bin .lss (.t 6) (.t 8))]
def o_ref11_in_4 : List AOp := [
 aQ 12 (.mov (.t 1)),
 aQ 13 (.mov (.t 5)),
 aQ 14 (.idxS (.t 12) (.t 13)),
 aQ 15 (.mov (.t 0)),
 aQ 16 (.bin .eql (.t 14) (.t 15))]
def o_ref11_in_5 : List AOp := [
 aQ 4 (.asg (.c (.d (.bool true))))]
def o_ref11_in_3 : List AOp := [
 aQ 10 (.mov (.t 5)),
 aQ 11 (.bin .add (.t 10) (.c (.nat .i64 1))),
 aQ 5 (.asg (.t 11))]
def b_ref11_in_0 : AC := (.seq (.seq (.ops o_ref11_in_2)
 (.cond (.t 9) .skip (.exit 0)))
 (.seq (.trim [0, 1, 5] (.block 1 (.seq (.ops o_ref11_in_4)
 (.cond (.t 16) (.seq (.ops o_ref11_in_5)
 .ret) .skip))))
 (.ops o_ref11_in_3)))
def o_ref11_in_6 : List AOp := [
 aQ 4 (.asg (.c (.d (.bool false))))]
def c_ref11_in : AC :=
 (.seq (.ops o_ref11_in_0)
 (.seq (.seq (.ops o_ref11_in_1)
 (.trim [] (.block 0 (.loop [0, 1, 5] b_ref11_in_0))))
 (.seq (.ops o_ref11_in_6)
 .ret)))
def a_ref11_in : AFn := { body := c_ref11_in, res := [.tmp 4] }
def o_ref11_tree_pipe_0 : List AOp := [
 aQ 2 (.alloc [.nat .i64 0, .nil, .nil, .nil, .nil, .nil, .nil])]
def o_ref11_tree_pipe_1 : List AOp := [
 aQ 4 (.mov (.t 0)),
 aQ 5 (.call (.f f_ref11_tree_command) [.t 4]),
 aQ 6 (.mkls 7 [.nat .i64 0, .nil, .nil, .nil, .nil, .nil, .nil] [(0, 7, (.t 5))]),
 aQ 3 (.asg (.t 6))]
def o_ref11_tree_pipe_2 : List AOp := [
 aQ 7 (.mov (.t 0)),
 aQ 8 (.call (.f f_ref11_tree_bars) [.t 7, .c (.d (.bool false))])]
def o_ref11_tree_pipe_3 : List AOp := [
 aQ 9 (.mov (.t 3)),
 aQ 10 (.mov (.t 3)),
 aQ 11 (.len (.t 10)),
 aQ 12 (.bin .sub (.t 11) (.c (.nat .i64 1))),
 aQ 13 (.idxA none 7 (.t 9) (.t 12)),
 aQ 14 (.fldA 0 (.t 13)),
 aQ 15 (.load none (.t 14)),
 aQ 16 (.bin .neq (.t 15) (.c (.nat .i64 1))),
 aQ 17 (.mov (.t 16)),
 gQ 18 (.mov (.t 3)) 17 false,
 gQ 19 (.mov (.t 3)) 17 false,
 gQ 20 (.len (.t 19)) 17 false,
 gQ 21 (.bin .sub (.t 20) (.c (.nat .i64 1))) 17 false,
 gQ 22 (.idxA none 7 (.t 18) (.t 21)) 17 false,
 gQ 23 (.fldA 1 (.t 22)) 17 false,
 gQ 24 (.load none (.t 23)) 17 false,
 gQ 25 (.len (.t 24)) 17 false,
 gQ 26 (.bin .gtr (.t 25) (.c (.nat .i64 0))) 17 false,
 aQ 27 (.pick (.t 17) (.c (.d (.bool true))) (.t 26))]
def o_ref11_tree_pipe_4 : List AOp := [
 aQ 28 (.mov (.t 0)),
 aQ 29 (.call (.f f_ref11_tree_fail) [.t 28, .c (.nat .i64 9)])]
def o_ref11_tree_pipe_5 : List AOp := [
 aQ 30 (.mov (.t 0)),
 aQ 31 (.nilchk (.t 30)),
 aQ 32 (.fldA 1 (.t 31)),
 aQ 33 (.load none (.t 32)),
 aQ 34 (.bin .add (.t 33) (.c (.nat .i64 1))),
 aQ 35 (.nilchk (.t 30)),
 aQ 36 (.fldA 1 (.t 35)),
 { dst := none, op := .store 1 (.t 36) (.t 34) }]
def o_ref11_tree_pipe_6 : List AOp := [
 aQ 37 (.mov (.t 0)),
 aQ 38 (.call (.f f_ref11_tree_seps) [.t 37, .c (.d (.bool true))])]
def o_ref11_tree_pipe_7 : List AOp := [
 aQ 39 (.take 3),
 aQ 40 (.mov (.t 0)),
 aQ 41 (.call (.f f_ref11_tree_command) [.t 40]),
 aQ 42 (.mkls 7 [.nat .i64 0, .nil, .nil, .nil, .nil, .nil, .nil] [(0, 7, (.t 41))]),
 aQ 43 (.append 7 (.t 39) (.t 42)),
 aQ 3 (.asg (.t 43))]
def o_ref11_tree_pipe_8 : List AOp := [
 aQ 44 (.mov (.t 3)),
 aQ 45 (.mov (.t 3)),
 aQ 46 (.len (.t 45)),
 aQ 47 (.bin .sub (.t 46) (.c (.nat .i64 1))),
 aQ 48 (.idxA none 7 (.t 44) (.t 47)),
 aQ 49 (.fldA 0 (.t 48)),
 aQ 50 (.load none (.t 49)),
 aQ 51 (.bin .neq (.t 50) (.c (.nat .i64 1))),
 aQ 52 (.mov (.t 51)),
 gQ 53 (.mov (.t 3)) 52 false,
 gQ 54 (.mov (.t 3)) 52 false,
 gQ 55 (.len (.t 54)) 52 false,
 gQ 56 (.bin .sub (.t 55) (.c (.nat .i64 1))) 52 false,
 gQ 57 (.idxA none 7 (.t 53) (.t 56)) 52 false,
 gQ 58 (.fldA 1 (.t 57)) 52 false,
 gQ 59 (.load none (.t 58)) 52 false,
 gQ 60 (.len (.t 59)) 52 false,
 gQ 61 (.bin .gtr (.t 60) (.c (.nat .i64 0))) 52 false,
 aQ 62 (.pick (.t 52) (.c (.d (.bool true))) (.t 61))]
def o_ref11_tree_pipe_9 : List AOp := [
 aQ 63 (.mov (.t 0)),
 aQ 64 (.call (.f f_ref11_tree_fail) [.t 63, .c (.nat .i64 9)])]
def b_ref11_tree_pipe_0 : AC := (.seq (.seq (.ops o_ref11_tree_pipe_2)
 (.cond (.t 8) .skip (.exit 0)))
 (.trim [0, 2, 3] (.block 1 (.seq (.seq (.ops o_ref11_tree_pipe_3)
 (.cond (.t 27) (.seq (.ops o_ref11_tree_pipe_4)
 (.exit 0)) .skip))
 (.seq (.ops o_ref11_tree_pipe_5)
 (.seq (.ops o_ref11_tree_pipe_6)
 (.seq (.ops o_ref11_tree_pipe_7)
 (.seq (.ops o_ref11_tree_pipe_8)
 (.cond (.t 62) (.ops o_ref11_tree_pipe_9) .skip)))))))))
def o_ref11_tree_pipe_10 : List AOp := [
 aQ 65 (.mov (.t 3)),
 aQ 66 (.len (.t 65)),
 aQ 67 (.bin .eql (.t 66) (.c (.nat .i64 1)))]
def o_ref11_tree_pipe_11 : List AOp := [
 aQ 68 (.mov (.t 3)),
 aQ 69 (.idxA none 7 (.t 68) (.c (.nat .i64 0))),
 aQ 70 (.load (some 7) (.t 69)),
 { dst := none, op := .store 7 (.t 2) (.t 70) }]
def o_ref11_tree_pipe_12 : List AOp := [
 aQ 71 (.mov (.t 3)),
 aQ 72 (.build [.nat .i64 0, .nil, .nil, .nil, .nil, .nil, .nil] [(0, 1, (.c (.nat .i64 2))), (4, 1, (.t 71))]),
 { dst := none, op := .store 7 (.t 2) (.t 72) }]
def c_ref11_tree_pipe : AC :=
 (.seq (.ops o_ref11_tree_pipe_0)
 (.seq (.ops o_ref11_tree_pipe_1)
 (.seq (.trim [2, 3] (.block 0 (.loop [0, 2, 3] b_ref11_tree_pipe_0)))
 (.seq (.seq (.ops o_ref11_tree_pipe_10)
 (.cond (.t 67) (.seq (.ops o_ref11_tree_pipe_11)
 .ret) .skip))
 (.seq (.ops o_ref11_tree_pipe_12)
 .ret)))))
def a_ref11_tree_pipe : AFn := { body := c_ref11_tree_pipe, res := [.cell 2 (some 7)] }
def o_ref11_tree_bars_0 : List AOp := [
 aQ 4 (.asg (.c (.d (.bool false))))]
def o_ref11_tree_bars_1 : List AOp := [
 aQ 6 (.mov (.t 0)),
 aQ 7 (.call (.f f_ref11_tree_white) [.t 6])]
def o_ref11_tree_bars_2 : List AOp := [
 aQ 8 (.mov (.t 0)),
 aQ 9 (.call (.f f_ref11_tree_end) [.t 8]),
 aQ 10 (.mov (.t 9)),
 gQ 11 (.mov (.t 0)) 10 false,
 gQ 12 (.call (.f f_ref11_tree_c) [.t 11]) 10 false,
 gQ 13 (.bin .neq (.t 12) (.c (.nat .u8 124))) 10 false,
 aQ 14 (.pick (.t 10) (.c (.d (.bool true))) (.t 13))]
def o_ref11_tree_bars_3 : List AOp := [
 aQ 4 (.asg (.c (.d (.bool false))))]
def o_ref11_tree_bars_4 : List AOp := [
 mQ 15 (.mov (.t 0)),
 mQ 16 (.nilchk (.t 15)),
 mQ 17 (.fldA 1 (.t 16)),
 mQ 18 (.load none (.t 17)),
 mQ 19 (.bin .add (.t 18) (.c (.nat .i64 1))),
 mQ 20 (.mov (.t 0)),
 mQ 21 (.nilchk (.t 20)),
 mQ 22 (.fldA 0 (.t 21)),
 mQ 23 (.load none (.t 22)),
 mQ 24 (.lenS (.t 23)),
 aQ 25 (.bin .lss (.t 19) (.t 24)),
 aQ 26 (.mov (.t 25)),
 hQ 27 (.mov (.t 0)) 26 true,
 hQ 28 (.nilchk (.t 27)) 26 true,
 hQ 29 (.fldA 0 (.t 28)) 26 true,
 hQ 30 (.load none (.t 29)) 26 true,
 hQ 31 (.mov (.t 0)) 26 true,
 hQ 32 (.nilchk (.t 31)) 26 true,
 hQ 33 (.fldA 1 (.t 32)) 26 true,
 hQ 34 (.load none (.t 33)) 26 true,
 hQ 35 (.bin .add (.t 34) (.c (.nat .i64 1))) 26 true,
 gQ 36 (.idxS (.t 30) (.t 35)) 26 true,
 gQ 37 (.bin .eql (.t 36) (.c (.nat .u8 124))) 26 true,
 aQ 38 (.pick (.t 26) (.t 37) (.c (.d (.bool false)))),
 aQ 5 (.asg (.t 38))]
def o_ref11_tree_bars_5 : List AOp := [
 aQ 39 (.mov (.t 5)),
 aQ 40 (.mov (.t 1)),
 aQ 41 (.beq false (.t 39) (.t 40)),
 aQ 4 (.asg (.t 41))]
def c_ref11_tree_bars : AC :=
 (.seq (.ops o_ref11_tree_bars_0)
 (.seq (.ops o_ref11_tree_bars_1)
 (.seq (.seq (.ops o_ref11_tree_bars_2)
 (.cond (.t 14) (.seq (.ops o_ref11_tree_bars_3)
 .ret) .skip))
 (.seq (.ops o_ref11_tree_bars_4)
 (.seq (.ops o_ref11_tree_bars_5)
 .ret)))))
def a_ref11_tree_bars : AFn := { body := c_ref11_tree_bars, res := [.tmp 4] }
def o_strings_Builder_Grow_0 : List AOp := [
 aQ 4 (.mov (.t 0)),
 aQ 5 (.call (.f f_strings_Builder_copyCheck) [.t 4])]
def o_strings_Builder_Grow_1 : List AOp := [
 aQ 6 (.mov (.t 1)),
 aQ 7 (.bin .lss (.t 6) (.c (.nat .i64 0)))]
def o_strings_Builder_Grow_2 : List AOp := [
 aQ 8 (.mkifc 9 (.c (.d (.str [115, 116, 114, 105, 110, 103, 115, 46, 66, 117, 105, 108, 100, 101, 114, 46, 71, 114, 111, 119, 58, 32, 110, 101, 103, 97, 116, 105, 118, 101, 32, 99, 111, 117, 110, 116])))),
 { dst := none, op := .panic (.t 8) }]
def o_strings_Builder_Grow_4 : List AOp := [
 aQ 22 (.mov (.t 0)),
 aQ 23 (.mov (.t 1)),
 aQ 24 (.call (.f f_strings_Builder_grow) [.t 22, .t 23])]
def c_strings_Builder_Grow : AC :=
 (.seq (.ops o_strings_Builder_Grow_0)
 (.seq (.seq (.ops o_strings_Builder_Grow_1)
 (.cond (.t 7) (.ops o_strings_Builder_Grow_2) .skip))
 (.seq .hole
 (.cond (.t 21) (.ops o_strings_Builder_Grow_4) .skip))))
def a_strings_Builder_Grow : AFn := { body := c_strings_Builder_Grow, res := [] }
def o_show_lines_0 : List AOp := [
 aQ 2 (.asg (.c (.d (.str []))))]
def o_show_lines_1 : List AOp := [
 aQ 3 (.mov (.t 0)),
 aQ 4 (.call (.f f_strings_Join) [.t 3, .c (.d (.str [10]))]),
 aQ 2 (.asg (.t 4))]
def c_show_lines : AC :=
 (.seq (.ops o_show_lines_0)
 (.seq (.ops o_show_lines_1)
 .ret))
def a_show_lines : AFn := { body := c_show_lines, res := [.tmp 2] }
def o_show_simple_0 : List AOp := [
 aQ 1 (.box (.t 0)),
 aQ 2 (.asg (.c (.d (.str []))))]
def o_show_simple_1 : List AOp := [
 aQ 3 (.asg (.c (.nil)))]
def o_show_simple_2 : List AOp := [
 aQ 8 (.fldA 1 (.t 1)),
 aQ 9 (.load none (.t 8)),
 aQ 10 (.len (.t 9)),
 aQ 11 (.mov (.c (.nat .i64 0)))]
def o_show_simple_3 : List AOp := [
 aQ 12 (.bin .lss (.t 11) (.t 10))]
def o_show_simple_4 : List AOp := [
 aQ 13 (.mov (.t 11)),
 aQ 14 (.idxA none 1 (.t 9) (.t 11)),
 aQ 15 (.load none (.t 14)),
 aQ 4 (.asg (.t 13)),
 aQ 5 (.asg (.t 15))]
def o_show_simple_5 : List AOp := [
 aQ 16 (.take 3),
 aQ 17 (.mov (.t 5)),
 aQ 18 (.bin .add (.t 17) (.c (.d (.str [61])))),
 aQ 19 (.fldA 2 (.t 1)),
 aQ 20 (.load none (.t 19)),
 aQ 21 (.mov (.t 4)),
 aQ 22 (.idxA none 1 (.t 20) (.t 21)),
 aQ 23 (.load (some 1) (.t 22)),
 aQ 24 (.call (.f f_show_Word) [.t 23]),
 aQ 25 (.bin .add (.t 18) (.t 24)),
 aQ 26 (.mkls 1 [.d (.str [])] [(0, 1, (.t 25))]),
 aQ 27 (.append 1 (.t 16) (.t 26)),
 aQ 3 (.asg (.t 27))]
def o_show_simple_6 : List AOp := [
 aQ 28 (.bin .add (.t 11) (.c (.nat .i64 1))),
 aQ 11 (.mov (.t 28))]
def b_show_simple_0 : AC := (.seq (.ops o_show_simple_3)
 (.seq (.cond (.t 12) .skip (.exit 0))
 (.seq (.trim [1, 3, 9, 10, 11] (.block 1 (.seq (.ops o_show_simple_4)
 (.ops o_show_simple_5))))
 (.ops o_show_simple_6))))
def o_show_simple_7 : List AOp := [
 aQ 29 (.fldA 3 (.t 1)),
 aQ 30 (.load none (.t 29)),
 aQ 31 (.len (.t 30)),
 aQ 32 (.mov (.c (.nat .i64 0)))]
def o_show_simple_8 : List AOp := [
 aQ 33 (.bin .lss (.t 32) (.t 31))]
def o_show_simple_9 : List AOp := [
 aQ 34 (.idxA none 1 (.t 30) (.t 32)),
 aQ 35 (.load (some 1) (.t 34)),
 aQ 7 (.alloc [.nil]),
 { dst := none, op := .store 1 (.t 7) (.t 35) }]
def o_show_simple_10 : List AOp := [
 aQ 36 (.take 3),
 aQ 37 (.load (some 1) (.t 7)),
 aQ 38 (.call (.f f_show_Word) [.t 37]),
 aQ 39 (.mkls 1 [.d (.str [])] [(0, 1, (.t 38))]),
 aQ 40 (.append 1 (.t 36) (.t 39)),
 aQ 3 (.asg (.t 40))]
def o_show_simple_11 : List AOp := [
 aQ 41 (.bin .add (.t 32) (.c (.nat .i64 1))),
 aQ 32 (.mov (.t 41))]
def b_show_simple_1 : AC := (.seq (.ops o_show_simple_8)
 (.seq (.cond (.t 33) .skip (.exit 2))
 (.seq (.trim [3, 30, 31, 32] (.block 3 (.seq (.ops o_show_simple_9)
 (.ops o_show_simple_10))))
 (.ops o_show_simple_11))))
def o_show_simple_12 : List AOp := [
 aQ 42 (.mov (.t 3)),
 aQ 43 (.call (.f f_strings_Join) [.t 42, .c (.d (.str [32]))]),
 aQ 2 (.asg (.t 43))]
def c_show_simple : AC :=
 (.seq (.ops o_show_simple_0)
 (.seq (.ops o_show_simple_1)
 (.seq (.seq (.ops o_show_simple_2)
 (.trim [1, 3] (.block 0 (.loop [1, 3, 9, 10, 11] b_show_simple_0))))
 (.seq (.seq (.ops o_show_simple_7)
 (.trim [3] (.block 2 (.loop [3, 30, 31, 32] b_show_simple_1))))
 (.seq (.ops o_show_simple_12)
 .ret)))))
def a_show_simple : AFn := { body := c_show_simple, res := [.tmp 2] }
def o_ref11_tree_command_0 : List AOp := [
 aQ 2 (.alloc [.nat .i64 0, .nil, .nil, .nil, .nil, .nil, .nil])]
def o_ref11_tree_command_1 : List AOp := [
 aQ 6 (.mov (.t 0)),
 aQ 7 (.call (.f f_ref11_tree_white) [.t 6])]
def o_ref11_tree_command_2 : List AOp := [
 aQ 8 (.mov (.t 0)),
 aQ 9 (.call (.f f_ref11_tree_key) [.t 8]),
 aQ 3 (.asg (.t 9))]
def o_ref11_tree_command_3 : List AOp := [
 aQ 10 (.mov (.t 3)),
 aQ 11 (.bin .eql (.t 10) (.c (.d (.str []))))]
def o_ref11_tree_command_4 : List AOp := [
 aQ 12 (.mov (.t 0)),
 aQ 13 (.call (.f f_ref11_tree_simple) [.t 12]),
 { dst := none, op := .store 7 (.t 2) (.t 13) }]
def o_ref11_tree_command_5 : List AOp := [
 aQ 14 (.mov (.t 3)),
 aQ 15 (.bin .neq (.t 14) (.c (.d (.str [105, 102])))),
 aQ 16 (.mov (.t 15)),
 gQ 17 (.mov (.t 3)) 16 true,
 gQ 18 (.bin .neq (.t 17) (.c (.d (.str [119, 104, 105, 108, 101])))) 16 true,
 aQ 19 (.pick (.t 16) (.t 18) (.c (.d (.bool false)))),
 aQ 20 (.mov (.t 19)),
 gQ 21 (.mov (.t 3)) 20 true,
 gQ 22 (.bin .neq (.t 21) (.c (.d (.str [102, 111, 114])))) 20 true,
 aQ 23 (.pick (.t 20) (.t 22) (.c (.d (.bool false))))]
def o_ref11_tree_command_6 : List AOp := [
 aQ 24 (.mov (.t 0)),
 aQ 25 (.call (.f f_ref11_tree_fail) [.t 24, .c (.nat .i64 9)])]
def o_ref11_tree_command_7 : List AOp := [
 aQ 26 (.build [.nat .i64 0, .nil, .nil, .nil, .nil, .nil, .nil] []),
 { dst := none, op := .store 7 (.t 2) (.t 26) }]
def o_ref11_tree_command_8 : List AOp := [
 aQ 27 (.mov (.t 0)),
 aQ 28 (.nilchk (.t 27)),
 aQ 29 (.fldA 2 (.t 28)),
 aQ 30 (.load none (.t 29)),
 aQ 31 (.bin .eql (.t 30) (.c (.nat .i64 30)))]
def o_ref11_tree_command_9 : List AOp := [
 aQ 32 (.mov (.t 0)),
 aQ 33 (.call (.f f_ref11_tree_fail) [.t 32, .c (.nat .i64 7)])]
def o_ref11_tree_command_10 : List AOp := [
 aQ 34 (.build [.nat .i64 0, .nil, .nil, .nil, .nil, .nil, .nil] []),
 { dst := none, op := .store 7 (.t 2) (.t 34) }]
def o_ref11_tree_command_11 : List AOp := [
 aQ 35 (.mov (.t 0)),
 aQ 36 (.nilchk (.t 35)),
 aQ 37 (.fldA 2 (.t 36)),
 aQ 38 (.load none (.t 37)),
 aQ 39 (.bin .add (.t 38) (.c (.nat .i64 1))),
 aQ 40 (.nilchk (.t 35)),
 aQ 41 (.fldA 2 (.t 40)),
 { dst := none, op := .store 1 (.t 41) (.t 39) }]
def o_ref11_tree_command_12 : List AOp := [
 aQ 42 (.mov (.t 0)),
 aQ 43 (.mov (.t 0)),
 aQ 44 (.nilchk (.t 43)),
 aQ 45 (.fldA 1 (.t 44)),
 aQ 46 (.load none (.t 45)),
 aQ 47 (.mov (.t 3)),
 aQ 48 (.lenS (.t 47)),
 aQ 49 (.bin .add (.t 46) (.t 48)),
 aQ 50 (.nilchk (.t 42)),
 aQ 51 (.fldA 1 (.t 50)),
 { dst := none, op := .store 1 (.t 51) (.t 49) }]
def o_ref11_tree_command_13 : List AOp := [
 aQ 52 (.build [.nat .i64 0, .nil, .nil, .nil, .nil, .nil, .nil] []),
 aQ 4 (.alloc [.nat .i64 0, .nil, .nil, .nil, .nil, .nil, .nil]),
 { dst := none, op := .store 7 (.t 4) (.t 52) }]
def o_ref11_tree_command_14 : List AOp := [
 aQ 53 (.mov (.t 3)),
 aQ 54 (.bin .eql (.t 53) (.c (.d (.str [105, 102]))))]
def o_ref11_tree_command_15 : List AOp := [
 aQ 55 (.fldA 0 (.t 4)),
 { dst := none, op := .store 1 (.t 55) (.c (.nat .i64 4)) }]
def o_ref11_tree_command_16 : List AOp := [
 aQ 56 (.mov (.t 0)),
 aQ 57 (.call (.f f_ref11_tree_lines) [.t 56]),
 aQ 58 (.fldA 4 (.t 4)),
 { dst := none, op := .store 1 (.t 58) (.t 57) }]
def o_ref11_tree_command_17 : List AOp := [
 aQ 59 (.mov (.t 0)),
 aQ 60 (.call (.f f_ref11_tree_need) [.t 59, .c (.d (.str [116, 104, 101, 110]))])]
def o_ref11_tree_command_18 : List AOp := [
 aQ 61 (.mov (.t 0)),
 aQ 62 (.call (.f f_ref11_tree_lines) [.t 61]),
 aQ 63 (.fldA 5 (.t 4)),
 { dst := none, op := .store 1 (.t 63) (.t 62) }]
def o_ref11_tree_command_19 : List AOp := [
 aQ 64 (.mov (.t 0)),
 aQ 65 (.call (.f f_ref11_tree_white) [.t 64])]
def o_ref11_tree_command_20 : List AOp := [
 aQ 66 (.mov (.t 0)),
 aQ 67 (.call (.f f_ref11_tree_key) [.t 66]),
 aQ 68 (.bin .eql (.t 67) (.c (.d (.str [101, 108, 115, 101]))))]
def o_ref11_tree_command_21 : List AOp := [
 aQ 69 (.mov (.t 0)),
 aQ 70 (.call (.f f_ref11_tree_need) [.t 69, .c (.d (.str [101, 108, 115, 101]))])]
def o_ref11_tree_command_22 : List AOp := [
 aQ 71 (.mov (.t 0)),
 aQ 72 (.call (.f f_ref11_tree_lines) [.t 71]),
 aQ 73 (.fldA 6 (.t 4)),
 { dst := none, op := .store 1 (.t 73) (.t 72) }]
def o_ref11_tree_command_23 : List AOp := [
 aQ 74 (.mov (.t 0)),
 aQ 75 (.call (.f f_ref11_tree_need) [.t 74, .c (.d (.str [102, 105]))])]
def o_ref11_tree_command_24 : List AOp := [
 aQ 76 (.mov (.t 3)),
 aQ 77 (.bin .eql (.t 76) (.c (.d (.str [119, 104, 105, 108, 101]))))]
def o_ref11_tree_command_25 : List AOp := [
 aQ 78 (.fldA 0 (.t 4)),
 { dst := none, op := .store 1 (.t 78) (.c (.nat .i64 5)) }]
def o_ref11_tree_command_26 : List AOp := [
 aQ 79 (.mov (.t 0)),
 aQ 80 (.call (.f f_ref11_tree_lines) [.t 79]),
 aQ 81 (.fldA 4 (.t 4)),
 { dst := none, op := .store 1 (.t 81) (.t 80) }]
def o_ref11_tree_command_27 : List AOp := [
 aQ 82 (.mov (.t 0)),
 aQ 83 (.call (.f f_ref11_tree_need) [.t 82, .c (.d (.str [100, 111]))])]
def o_ref11_tree_command_28 : List AOp := [
 aQ 84 (.mov (.t 0)),
 aQ 85 (.call (.f f_ref11_tree_lines) [.t 84]),
 aQ 86 (.fldA 5 (.t 4)),
 { dst := none, op := .store 1 (.t 86) (.t 85) }]
def o_ref11_tree_command_29 : List AOp := [
 aQ 87 (.mov (.t 0)),
 aQ 88 (.call (.f f_ref11_tree_need) [.t 87, .c (.d (.str [100, 111, 110, 101]))])]
def o_ref11_tree_command_30 : List AOp := [
 aQ 89 (.fldA 0 (.t 4)),
 { dst := none, op := .store 1 (.t 89) (.c (.nat .i64 6)) }]
def o_ref11_tree_command_31 : List AOp := [
 aQ 90 (.mov (.t 0)),
 aQ 91 (.call (.f f_ref11_tree_white) [.t 90])]
def o_ref11_tree_command_32 : List AOp := [
 aQ 92 (.mov (.t 0)),
 aQ 93 (.call (.f f_ref11_tree_name) [.t 92]),
 aQ 94 (.mkls 1 [.d (.str [])] [(0, 1, (.t 93))]),
 aQ 95 (.fldA 1 (.t 4)),
 { dst := none, op := .store 1 (.t 95) (.t 94) }]
def o_ref11_tree_command_33 : List AOp := [
 aQ 96 (.mov (.t 0)),
 aQ 97 (.call (.f f_ref11_tree_c) [.t 96]),
 aQ 98 (.bin .neq (.t 97) (.c (.nat .u8 32))),
 aQ 99 (.mov (.t 98)),
 gQ 100 (.mov (.t 0)) 99 true,
 gQ 101 (.call (.f f_ref11_tree_c) [.t 100]) 99 true,
 gQ 102 (.bin .neq (.t 101) (.c (.nat .u8 9))) 99 true,
 aQ 103 (.pick (.t 99) (.t 102) (.c (.d (.bool false))))]
def o_ref11_tree_command_34 : List AOp := [
 aQ 104 (.mov (.t 0)),
 aQ 105 (.call (.f f_ref11_tree_fail) [.t 104, .c (.nat .i64 9)])]
def o_ref11_tree_command_35 : List AOp := [
 aQ 106 (.mov (.t 0)),
 aQ 107 (.call (.f f_ref11_tree_need) [.t 106, .c (.d (.str [105, 110]))])]
def o_ref11_tree_command_36 : List AOp := [
 aQ 108 (.mov (.t 0)),
 aQ 109 (.call (.f f_ref11_tree_words) [.t 108]),
 aQ 110 (.fldA 3 (.t 4)),
 { dst := none, op := .store 1 (.t 110) (.t 109) }]
def o_ref11_tree_command_37 : List AOp := [
 aQ 111 (.mov (.t 0)),
 aQ 112 (.call (.f f_ref11_tree_seps) [.t 111, .c (.d (.bool false))]),
 aQ 5 (.asg (.t 112))]
def o_ref11_tree_command_38 : List AOp := [
 aQ 113 (.mov (.t 5)),
 aQ 114 (.un .not (.t 113))]
def o_ref11_tree_command_39 : List AOp := [
 aQ 115 (.mov (.t 0)),
 aQ 116 (.call (.f f_ref11_tree_fail) [.t 115, .c (.nat .i64 9)])]
def o_ref11_tree_command_40 : List AOp := [
 aQ 117 (.mov (.t 0)),
 aQ 118 (.call (.f f_ref11_tree_need) [.t 117, .c (.d (.str [100, 111]))])]
def o_ref11_tree_command_41 : List AOp := [
 aQ 119 (.mov (.t 0)),
 aQ 120 (.call (.f f_ref11_tree_lines) [.t 119]),
 aQ 121 (.fldA 5 (.t 4)),
 { dst := none, op := .store 1 (.t 121) (.t 120) }]
def o_ref11_tree_command_42 : List AOp := [
 aQ 122 (.mov (.t 0)),
 aQ 123 (.call (.f f_ref11_tree_need) [.t 122, .c (.d (.str [100, 111, 110, 101]))])]
def o_ref11_tree_command_43 : List AOp := [
 aQ 124 (.mov (.t 0)),
 aQ 125 (.nilchk (.t 124)),
 aQ 126 (.fldA 2 (.t 125)),
 aQ 127 (.load none (.t 126)),
 aQ 128 (.bin .sub (.t 127) (.c (.nat .i64 1))),
 aQ 129 (.nilchk (.t 124)),
 aQ 130 (.fldA 2 (.t 129)),
 { dst := none, op := .store 1 (.t 130) (.t 128) }]
def o_ref11_tree_command_44 : List AOp := [
 aQ 131 (.load (some 7) (.t 4)),
 { dst := none, op := .store 7 (.t 2) (.t 131) }]
def c_ref11_tree_command : AC :=
 (.seq (.ops o_ref11_tree_command_0)
 (.seq (.ops o_ref11_tree_command_1)
 (.seq (.ops o_ref11_tree_command_2)
 (.seq (.seq (.ops o_ref11_tree_command_3)
 (.cond (.t 11) (.seq (.ops o_ref11_tree_command_4)
 .ret) .skip))
 (.seq (.seq (.ops o_ref11_tree_command_5)
 (.cond (.t 23) (.seq (.ops o_ref11_tree_command_6)
 (.seq (.ops o_ref11_tree_command_7)
 .ret)) .skip))
 (.seq (.seq (.ops o_ref11_tree_command_8)
 (.cond (.t 31) (.seq (.ops o_ref11_tree_command_9)
 (.seq (.ops o_ref11_tree_command_10)
 .ret)) .skip))
 (.seq (.ops o_ref11_tree_command_11)
 (.seq (.ops o_ref11_tree_command_12)
 (.seq (.ops o_ref11_tree_command_13)
 (.seq (.seq (.ops o_ref11_tree_command_14)
 (.cond (.t 54) (.seq (.ops o_ref11_tree_command_15)
 (.seq (.ops o_ref11_tree_command_16)
 (.seq (.ops o_ref11_tree_command_17)
 (.seq (.ops o_ref11_tree_command_18)
 (.seq (.ops o_ref11_tree_command_19)
 (.seq (.seq (.ops o_ref11_tree_command_20)
 (.cond (.t 68) (.seq (.ops o_ref11_tree_command_21)
 (.ops o_ref11_tree_command_22)) .skip))
 (.ops o_ref11_tree_command_23))))))) (.seq (.ops o_ref11_tree_command_24)
 (.cond (.t 77) (.seq (.ops o_ref11_tree_command_25)
 (.seq (.ops o_ref11_tree_command_26)
 (.seq (.ops o_ref11_tree_command_27)
 (.seq (.ops o_ref11_tree_command_28)
 (.ops o_ref11_tree_command_29))))) (.seq (.ops o_ref11_tree_command_30)
 (.seq (.ops o_ref11_tree_command_31)
 (.seq (.ops o_ref11_tree_command_32)
 (.seq (.seq (.ops o_ref11_tree_command_33)
 (.cond (.t 103) (.ops o_ref11_tree_command_34) .skip))
 (.seq (.ops o_ref11_tree_command_35)
 (.seq (.ops o_ref11_tree_command_36)
 (.seq (.ops o_ref11_tree_command_37)
 (.seq (.seq (.ops o_ref11_tree_command_38)
 (.cond (.t 114) (.ops o_ref11_tree_command_39) .skip))
 (.seq (.ops o_ref11_tree_command_40)
 (.seq (.ops o_ref11_tree_command_41)
 (.ops o_ref11_tree_command_42)))))))))))))))
 (.seq (.ops o_ref11_tree_command_43)
 (.seq (.ops o_ref11_tree_command_44)
 .ret))))))))))))
def a_ref11_tree_command : AFn := { body := c_ref11_tree_command, res := [.cell 2 (some 7)] }
def o_strings_Builder_grow_1 : List AOp := [
 aQ 20 (.mov (.t 4)),
 aQ 21 (.mov (.t 0)),
 aQ 22 (.nilchk (.t 21)),
 aQ 23 (.fldA 1 (.t 22)),
 aQ 24 (.load none (.t 23)),
 aQ 25 (.copy (.t 20) (.t 24))]
def o_strings_Builder_grow_2 : List AOp := [
 aQ 26 (.mov (.t 0)),
 aQ 27 (.mov (.t 4)),
 aQ 28 (.nilchk (.t 26)),
 aQ 29 (.fldA 1 (.t 28)),
 { dst := none, op := .store 1 (.t 29) (.t 27) }]
def c_strings_Builder_grow : AC :=
 (.seq .hole
 (.seq (.ops o_strings_Builder_grow_1)
 (.ops o_strings_Builder_grow_2)))
def a_strings_Builder_grow : AFn := { body := c_strings_Builder_grow, res := [] }
def o_ref11_tree_simple_0 : List AOp := [
 aQ 2 (.alloc [.nat .i64 0, .nil, .nil, .nil, .nil, .nil, .nil])]
def o_ref11_tree_simple_1 : List AOp := [
 aQ 5 (.build [.nat .i64 0, .nil, .nil, .nil, .nil, .nil, .nil] [(0, 1, (.c (.nat .i64 1)))]),
 aQ 3 (.alloc [.nat .i64 0, .nil, .nil, .nil, .nil, .nil, .nil]),
 { dst := none, op := .store 7 (.t 3) (.t 5) }]
def o_ref11_tree_simple_2 : List AOp := [
 aQ 6 (.mov (.t 0)),
 aQ 7 (.call (.f f_ref11_tree_end) [.t 6]),
 aQ 8 (.un .not (.t 7))]
def o_ref11_tree_simple_3 : List AOp := [
 aQ 9 (.mov (.t 0)),
 aQ 10 (.mov (.t 0)),
 aQ 11 (.nilchk (.t 10)),
 aQ 12 (.fldA 1 (.t 11)),
 aQ 13 (.load none (.t 12)),
 aQ 14 (.call (.f f_ref11_tree_named) [.t 9, .t 13]),
 aQ 4 (.asg (.t 14))]
def o_ref11_tree_simple_4 : List AOp := [
 aQ 15 (.mov (.t 4)),
 aQ 16 (.bin .eql (.t 15) (.c (.nat .i64 0))),
 aQ 17 (.mov (.t 16)),
 hQ 18 (.mov (.t 0)) 17 false,
 hQ 19 (.nilchk (.t 18)) 17 false,
 hQ 20 (.fldA 1 (.t 19)) 17 false,
 hQ 21 (.load none (.t 20)) 17 false,
 hQ 22 (.mov (.t 4)) 17 false,
 hQ 23 (.bin .add (.t 21) (.t 22)) 17 false,
 hQ 24 (.mov (.t 0)) 17 false,
 hQ 25 (.nilchk (.t 24)) 17 false,
 hQ 26 (.fldA 0 (.t 25)) 17 false,
 hQ 27 (.load none (.t 26)) 17 false,
 hQ 28 (.lenS (.t 27)) 17 false,
 gQ 29 (.bin .geq (.t 23) (.t 28)) 17 false,
 aQ 30 (.pick (.t 17) (.c (.d (.bool true))) (.t 29)),
 aQ 31 (.mov (.t 30)),
 hQ 32 (.mov (.t 0)) 31 false,
 hQ 33 (.nilchk (.t 32)) 31 false,
 hQ 34 (.fldA 0 (.t 33)) 31 false,
 hQ 35 (.load none (.t 34)) 31 false,
 hQ 36 (.mov (.t 0)) 31 false,
 hQ 37 (.nilchk (.t 36)) 31 false,
 hQ 38 (.fldA 1 (.t 37)) 31 false,
 hQ 39 (.load none (.t 38)) 31 false,
 hQ 40 (.mov (.t 4)) 31 false,
 hQ 41 (.bin .add (.t 39) (.t 40)) 31 false,
 gQ 42 (.idxS (.t 35) (.t 41)) 31 false,
 gQ 43 (.bin .neq (.t 42) (.c (.nat .u8 61))) 31 false,
 aQ 44 (.pick (.t 31) (.c (.d (.bool true))) (.t 43))]
def o_ref11_tree_simple_5 : List AOp := [
 mQ 45 (.fldA 1 (.t 3)),
 mQ 46 (.takeload (.t 45)),
 mQ 47 (.mov (.t 0)),
 mQ 48 (.nilchk (.t 47)),
 mQ 49 (.fldA 0 (.t 48)),
 mQ 50 (.load none (.t 49)),
 mQ 51 (.mov (.t 0)),
 mQ 52 (.nilchk (.t 51)),
 mQ 53 (.fldA 1 (.t 52)),
 mQ 54 (.load none (.t 53)),
 mQ 55 (.mov (.t 0)),
 mQ 56 (.nilchk (.t 55)),
 mQ 57 (.fldA 1 (.t 56)),
 mQ 58 (.load none (.t 57)),
 mQ 59 (.mov (.t 4)),
 mQ 60 (.bin .add (.t 58) (.t 59)),
 mQ 61 (.sliceS (.t 50) (some (.t 54)) (some (.t 60))),
 mQ 62 (.mkls 1 [.d (.str [])] [(0, 1, (.t 61))]),
 aQ 63 (.append 1 (.t 46) (.t 62)),
 aQ 64 (.fldA 1 (.t 3)),
 { dst := none, op := .store 1 (.t 64) (.t 63) }]
def o_ref11_tree_simple_6 : List AOp := [
 aQ 65 (.mov (.t 0)),
 aQ 66 (.mov (.t 0)),
 aQ 67 (.nilchk (.t 66)),
 aQ 68 (.fldA 1 (.t 67)),
 aQ 69 (.load none (.t 68)),
 aQ 70 (.mov (.t 4)),
 aQ 71 (.bin .add (.t 69) (.t 70)),
 aQ 72 (.bin .add (.t 71) (.c (.nat .i64 1))),
 aQ 73 (.nilchk (.t 65)),
 aQ 74 (.fldA 1 (.t 73)),
 { dst := none, op := .store 1 (.t 74) (.t 72) }]
def o_ref11_tree_simple_7 : List AOp := [
 mQ 75 (.fldA 2 (.t 3)),
 mQ 76 (.takeload (.t 75)),
 mQ 77 (.mov (.t 0)),
 mQ 78 (.callQ (.f f_ref11_tree_word) [.t 77]),
 mQ 79 (.build [.nil] [(0, 1, (.t 78))]),
 mQ 80 (.mkls 1 [.nil] [(0, 1, (.t 79))]),
 aQ 81 (.append 1 (.t 76) (.t 80)),
 aQ 82 (.fldA 2 (.t 3)),
 { dst := none, op := .store 1 (.t 82) (.t 81) }]
def o_ref11_tree_simple_8 : List AOp := [
 aQ 83 (.mov (.t 0)),
 aQ 84 (.call (.f f_ref11_tree_white) [.t 83])]
def b_ref11_tree_simple_0 : AC := (.seq (.seq (.ops o_ref11_tree_simple_2)
 (.cond (.t 8) .skip (.exit 0)))
 (.trim [0, 2, 3] (.block 1 (.seq (.ops o_ref11_tree_simple_3)
 (.seq (.seq (.ops o_ref11_tree_simple_4)
 (.cond (.t 44) (.exit 0) .skip))
 (.seq (.ops o_ref11_tree_simple_5)
 (.seq (.ops o_ref11_tree_simple_6)
 (.seq .hole
 (.ops o_ref11_tree_simple_8)))))))))
def o_ref11_tree_simple_9 : List AOp := [
 aQ 85 (.mov (.t 0)),
 aQ 86 (.call (.f f_ref11_tree_key) [.t 85]),
 aQ 87 (.bin .neq (.t 86) (.c (.d (.str []))))]
def o_ref11_tree_simple_10 : List AOp := [
 aQ 88 (.mov (.t 0)),
 aQ 89 (.call (.f f_ref11_tree_fail) [.t 88, .c (.nat .i64 9)])]
def o_ref11_tree_simple_11 : List AOp := [
 aQ 90 (.mov (.t 0)),
 aQ 91 (.call (.f f_ref11_tree_words) [.t 90]),
 aQ 92 (.fldA 3 (.t 3)),
 { dst := none, op := .store 1 (.t 92) (.t 91) }]
def o_ref11_tree_simple_12 : List AOp := [
 aQ 93 (.fldA 1 (.t 3)),
 aQ 94 (.load none (.t 93)),
 aQ 95 (.len (.t 94)),
 aQ 96 (.fldA 3 (.t 3)),
 aQ 97 (.load none (.t 96)),
 aQ 98 (.len (.t 97)),
 aQ 99 (.bin .add (.t 95) (.t 98)),
 aQ 100 (.bin .eql (.t 99) (.c (.nat .i64 0)))]
def o_ref11_tree_simple_13 : List AOp := [
 aQ 101 (.mov (.t 0)),
 aQ 102 (.call (.f f_ref11_tree_fail) [.t 101, .c (.nat .i64 9)])]
def o_ref11_tree_simple_14 : List AOp := [
 aQ 103 (.load (some 7) (.t 3)),
 { dst := none, op := .store 7 (.t 2) (.t 103) }]
def c_ref11_tree_simple : AC :=
 (.seq (.ops o_ref11_tree_simple_0)
 (.seq (.ops o_ref11_tree_simple_1)
 (.seq (.trim [0, 2, 3] (.block 0 (.loop [0, 2, 3] b_ref11_tree_simple_0)))
 (.seq (.seq (.ops o_ref11_tree_simple_9)
 (.cond (.t 87) (.ops o_ref11_tree_simple_10) .skip))
 (.seq (.ops o_ref11_tree_simple_11)
 (.seq (.seq (.ops o_ref11_tree_simple_12)
 (.cond (.t 100) (.ops o_ref11_tree_simple_13) .skip))
 (.seq (.ops o_ref11_tree_simple_14)
 .ret)))))))
def a_ref11_tree_simple : AFn := { body := c_ref11_tree_simple, res := [.cell 2 (some 7)] }
def o_ref11_tree_lines_0 : List AOp := [
 aQ 2 (.asg (.c (.nil)))]
def o_ref11_tree_lines_1 : List AOp := [
 aQ 4 (.mov (.t 0)),
 aQ 5 (.call (.f f_ref11_tree_list) [.t 4]),
 aQ 3 (.asg (.t 5))]
def o_ref11_tree_lines_2 : List AOp := [
 aQ 6 (.mov (.t 3)),
 aQ 7 (.len (.t 6)),
 aQ 8 (.bin .eql (.t 7) (.c (.nat .i64 0)))]
def o_ref11_tree_lines_3 : List AOp := [
 aQ 9 (.mov (.t 0)),
 aQ 10 (.call (.f f_ref11_tree_fail) [.t 9, .c (.nat .i64 9)])]
def o_ref11_tree_lines_4 : List AOp := [
 aQ 11 (.mov (.t 3)),
 aQ 2 (.asg (.t 11))]
def c_ref11_tree_lines : AC :=
 (.seq (.ops o_ref11_tree_lines_0)
 (.seq (.ops o_ref11_tree_lines_1)
 (.seq (.seq (.ops o_ref11_tree_lines_2)
 (.cond (.t 8) (.ops o_ref11_tree_lines_3) .skip))
 (.seq (.ops o_ref11_tree_lines_4)
 .ret))))
def a_ref11_tree_lines : AFn := { body := c_ref11_tree_lines, res := [.tmp 2] }
def o_ref11_tree_need_0 : List AOp := [
 aQ 4 (.mov (.t 0)),
 aQ 5 (.call (.f f_ref11_tree_white) [.t 4])]
def o_ref11_tree_need_1 : List AOp := [
 aQ 6 (.mov (.t 0)),
 aQ 7 (.call (.f f_ref11_tree_key) [.t 6]),
 aQ 8 (.mov (.t 1)),
 aQ 9 (.bin .neq (.t 7) (.t 8))]
def o_ref11_tree_need_2 : List AOp := [
 aQ 10 (.mov (.t 0)),
 aQ 11 (.call (.f f_ref11_tree_fail) [.t 10, .c (.nat .i64 9)])]
def o_ref11_tree_need_3 : List AOp := [
 aQ 12 (.mov (.t 0)),
 aQ 13 (.mov (.t 0)),
 aQ 14 (.nilchk (.t 13)),
 aQ 15 (.fldA 1 (.t 14)),
 aQ 16 (.load none (.t 15)),
 aQ 17 (.mov (.t 1)),
 aQ 18 (.lenS (.t 17)),
 aQ 19 (.bin .add (.t 16) (.t 18)),
 aQ 20 (.nilchk (.t 12)),
 aQ 21 (.fldA 1 (.t 20)),
 { dst := none, op := .store 1 (.t 21) (.t 19) }]
def c_ref11_tree_need : AC :=
 (.seq (.ops o_ref11_tree_need_0)
 (.seq (.seq (.ops o_ref11_tree_need_1)
 (.cond (.t 9) (.seq (.ops o_ref11_tree_need_2)
 .ret) .skip))
 (.ops o_ref11_tree_need_3)))
def a_ref11_tree_need : AFn := { body := c_ref11_tree_need, res := [] }
def o_ref11_tree_name_0 : List AOp := [
 aQ 2 (.asg (.c (.d (.str []))))]
def o_ref11_tree_name_1 : List AOp := [
 aQ 5 (.mov (.t 0)),
 aQ 6 (.call (.f f_ref11_tree_end) [.t 5])]
def o_ref11_tree_name_2 : List AOp := [
 aQ 7 (.mov (.t 0)),
 aQ 8 (.call (.f f_ref11_tree_fail) [.t 7, .c (.nat .i64 9)])]
def o_ref11_tree_name_3 : List AOp := [
 aQ 2 (.asg (.c (.d (.str []))))]
def o_ref11_tree_name_4 : List AOp := [
 aQ 9 (.mov (.t 0)),
 aQ 10 (.mov (.t 0)),
 aQ 11 (.nilchk (.t 10)),
 aQ 12 (.fldA 1 (.t 11)),
 aQ 13 (.load none (.t 12)),
 aQ 14 (.call (.f f_ref11_tree_named) [.t 9, .t 13]),
 aQ 3 (.asg (.t 14))]
def o_ref11_tree_name_5 : List AOp := [
 aQ 15 (.mov (.t 3)),
 aQ 16 (.bin .eql (.t 15) (.c (.nat .i64 0)))]
def o_ref11_tree_name_6 : List AOp := [
 aQ 17 (.mov (.t 0)),
 aQ 18 (.call (.f f_ref11_tree_fail) [.t 17, .c (.nat .i64 9)])]
def o_ref11_tree_name_7 : List AOp := [
 mQ 19 (.mov (.t 0)),
 mQ 20 (.nilchk (.t 19)),
 mQ 21 (.fldA 0 (.t 20)),
 mQ 22 (.load none (.t 21)),
 mQ 23 (.mov (.t 0)),
 mQ 24 (.nilchk (.t 23)),
 mQ 25 (.fldA 1 (.t 24)),
 mQ 26 (.load none (.t 25)),
 mQ 27 (.mov (.t 0)),
 mQ 28 (.nilchk (.t 27)),
 mQ 29 (.fldA 1 (.t 28)),
 mQ 30 (.load none (.t 29)),
 mQ 31 (.mov (.t 3)),
 mQ 32 (.bin .add (.t 30) (.t 31)),
 aQ 33 (.sliceS (.t 22) (some (.t 26)) (some (.t 32))),
 aQ 4 (.asg (.t 33))]
def o_ref11_tree_name_8 : List AOp := [
 aQ 34 (.mov (.t 0)),
 aQ 35 (.mov (.t 0)),
 aQ 36 (.nilchk (.t 35)),
 aQ 37 (.fldA 1 (.t 36)),
 aQ 38 (.load none (.t 37)),
 aQ 39 (.mov (.t 3)),
 aQ 40 (.bin .add (.t 38) (.t 39)),
 aQ 41 (.nilchk (.t 34)),
 aQ 42 (.fldA 1 (.t 41)),
 { dst := none, op := .store 1 (.t 42) (.t 40) }]
def o_ref11_tree_name_9 : List AOp := [
 aQ 43 (.mov (.t 4)),
 aQ 2 (.asg (.t 43))]
def c_ref11_tree_name : AC :=
 (.seq (.ops o_ref11_tree_name_0)
 (.seq (.seq (.ops o_ref11_tree_name_1)
 (.cond (.t 6) (.seq (.ops o_ref11_tree_name_2)
 (.seq (.ops o_ref11_tree_name_3)
 .ret)) .skip))
 (.seq (.ops o_ref11_tree_name_4)
 (.seq (.seq (.ops o_ref11_tree_name_5)
 (.cond (.t 16) (.ops o_ref11_tree_name_6) .skip))
 (.seq (.ops o_ref11_tree_name_7)
 (.seq (.ops o_ref11_tree_name_8)
 (.seq (.ops o_ref11_tree_name_9)
 .ret)))))))
def a_ref11_tree_name : AFn := { body := c_ref11_tree_name, res := [.tmp 2] }
def o_ref11_tree_words_0 : List AOp := [
 aQ 2 (.asg (.c (.nil)))]
def o_ref11_tree_words_1 : List AOp := [
 aQ 3 (.asg (.c (.nil)))]
def o_ref11_tree_words_2 : List AOp := [
 aQ 5 (.mov (.t 0)),
 aQ 6 (.call (.f f_ref11_tree_white) [.t 5])]
def o_ref11_tree_words_3 : List AOp := [
 aQ 7 (.mov (.t 0)),
 aQ 8 (.call (.f f_ref11_tree_word) [.t 7]),
 aQ 4 (.asg (.t 8))]
def o_ref11_tree_words_4 : List AOp := [
 aQ 9 (.mov (.t 4)),
 aQ 10 (.len (.t 9)),
 aQ 11 (.bin .eql (.t 10) (.c (.nat .i64 0))),
 aQ 12 (.mov (.t 11)),
 gQ 13 (.mov (.t 0)) 12 false,
 gQ 14 (.nilchk (.t 13)) 12 false,
 gQ 15 (.fldA 3 (.t 14)) 12 false,
 gQ 16 (.load none (.t 15)) 12 false,
 gQ 17 (.bin .neq (.t 16) (.c (.nat .i64 0))) 12 false,
 aQ 18 (.pick (.t 12) (.c (.d (.bool true))) (.t 17))]
def o_ref11_tree_words_5 : List AOp := [
 aQ 19 (.mov (.t 3)),
 aQ 2 (.asg (.t 19))]
def o_ref11_tree_words_6 : List AOp := [
 aQ 20 (.take 3),
 aQ 21 (.mov (.t 4)),
 aQ 22 (.build [.nil] [(0, 1, (.t 21))]),
 aQ 23 (.mkls 1 [.nil] [(0, 1, (.t 22))]),
 aQ 24 (.append 1 (.t 20) (.t 23)),
 aQ 3 (.asg (.t 24))]
def b_ref11_tree_words_0 : AC := (.trim [0, 3] (.block 1 (.seq (.ops o_ref11_tree_words_2)
 (.seq (.ops o_ref11_tree_words_3)
 (.seq (.seq (.ops o_ref11_tree_words_4)
 (.cond (.t 18) (.seq (.ops o_ref11_tree_words_5)
 .ret) .skip))
 (.ops o_ref11_tree_words_6))))))
def c_ref11_tree_words : AC :=
 (.seq (.ops o_ref11_tree_words_0)
 (.seq (.ops o_ref11_tree_words_1)
 (.trim [2] (.block 0 (.loop [0, 3] b_ref11_tree_words_0)))))
def a_ref11_tree_words : AFn := { body := c_ref11_tree_words, res := [.tmp 2] }
def o_ref11_tree_named_0 : List AOp := [
 aQ 4 (.asg (.c (.nat .i64 0)))]
def o_ref11_tree_named_1 : List AOp := [
 aQ 5 (.asg (.c (.nat .i64 0)))]
def o_ref11_tree_named_2 : List AOp := [
 aQ 6 (.mov (.t 1)),
 aQ 7 (.mov (.t 5)),
 aQ 8 (.bin .add (.t 6) (.t 7)),
 aQ 9 (.mov (.t 0)),
 aQ 10 (.nilchk (.t 9)),
 aQ 11 (.fldA 0 (.t 10)),
 aQ 12 (.load none (.t 11)),
 aQ 13 (.lenS (.t 12)),
 aQ 14 (.bin .lss (.t 8) (.t 13)),
 aQ 15 (.mov (.t 14)),
 gQ 16 (.mov (.t 0)) 15 true,
 gQ 17 (.nilchk (.t 16)) 15 true,
 gQ 18 (.fldA 0 (.t 17)) 15 true,
 gQ 19 (.load none (.t 18)) 15 true,
 gQ 20 (.mov (.t 1)) 15 true,
 gQ 21 (.mov (.t 1)) 15 true,
 gQ 22 (.mov (.t 5)) 15 true,
 gQ 23 (.bin .add (.t 21) (.t 22)) 15 true,
 gQ 24 (.bin .add (.t 23) (.c (.nat .i64 1))) 15 true,
 gQ 25 (.sliceS (.t 19) (some (.t 20)) (some (.t 24))) 15 true,
 gQ 26 (.call (.f f_ref01_IsName) [.t 25]) 15 true,
 aQ 27 (.pick (.t 15) (.t 26) (.c (.d (.bool false))))]
def o_ref11_tree_named_3 : List AOp := [
 aQ 28 (.mov (.t 5)),
 aQ 29 (.bin .add (.t 28) (.c (.nat .i64 1))),
 aQ 5 (.asg (.t 29))]
def b_ref11_tree_named_0 : AC := (.seq (.seq (.ops o_ref11_tree_named_2)
 (.cond (.t 27) .skip (.exit 0)))
 (.trim [0, 1, 5] (.block 1 (.ops o_ref11_tree_named_3))))
def o_ref11_tree_named_4 : List AOp := [
 aQ 30 (.mov (.t 5)),
 aQ 4 (.asg (.t 30))]
def c_ref11_tree_named : AC :=
 (.seq (.ops o_ref11_tree_named_0)
 (.seq (.ops o_ref11_tree_named_1)
 (.seq (.trim [5] (.block 0 (.loop [0, 1, 5] b_ref11_tree_named_0)))
 (.seq (.ops o_ref11_tree_named_4)
 .ret))))
def a_ref11_tree_named : AFn := { body := c_ref11_tree_named, res := [.tmp 4] }
def o_ref11_tree_word_0 : List AOp := [
 aQ 2 (.asg (.c (.nil)))]
def o_ref11_tree_word_1 : List AOp := [
 aQ 3 (.asg (.c (.nil)))]
def o_ref11_tree_word_2 : List AOp := [
 aQ 8 (.mov (.t 0)),
 aQ 9 (.call (.f f_ref11_tree_end) [.t 8]),
 aQ 10 (.un .not (.t 9))]
def o_ref11_tree_word_3 : List AOp := [
 aQ 11 (.mov (.t 0)),
 aQ 12 (.call (.f f_ref11_tree_c) [.t 11]),
 aQ 4 (.asg (.t 12))]
def o_ref11_tree_word_4 : List AOp := [
 aQ 13 (.mov (.t 4)),
 aQ 14 (.call (.f f_ref11_plain) [.t 13])]
def o_ref11_tree_word_5 : List AOp := [
 aQ 15 (.mov (.t 3)),
 aQ 16 (.mov (.t 4)),
 aQ 17 (.mkls 1 [.nat .u8 0] [(0, 1, (.t 16))]),
 aQ 18 (.bytesStr (.t 17)),
 aQ 19 (.build [.nat .i64 0, .d (.bool false), .d (.str []), .d (.str []), .nil] [(0, 1, (.c (.nat .i64 1))), (2, 1, (.t 18))]),
 aQ 20 (.call (.f f_ref11_with) [.t 15, .t 19]),
 aQ 3 (.asg (.t 20))]
def o_ref11_tree_word_6 : List AOp := [
 aQ 21 (.mov (.t 0)),
 aQ 22 (.nilchk (.t 21)),
 aQ 23 (.fldA 1 (.t 22)),
 aQ 24 (.load none (.t 23)),
 aQ 25 (.bin .add (.t 24) (.c (.nat .i64 1))),
 aQ 26 (.nilchk (.t 21)),
 aQ 27 (.fldA 1 (.t 26)),
 { dst := none, op := .store 1 (.t 27) (.t 25) }]
def o_ref11_tree_word_7 : List AOp := [
 aQ 28 (.mov (.t 4))]
def o_ref11_tree_word_9 : List AOp := [
 aQ 31 (.bin .eql (.t 28) (.c (.nat .u8 39))),
 aQ 30 (.asg (.t 31))]
def o_ref11_tree_word_10 : List AOp := [
 aQ 32 (.mov (.t 0)),
 aQ 33 (.nilchk (.t 32)),
 aQ 34 (.fldA 1 (.t 33)),
 aQ 35 (.load none (.t 34)),
 aQ 36 (.bin .add (.t 35) (.c (.nat .i64 1))),
 aQ 37 (.nilchk (.t 32)),
 aQ 38 (.fldA 1 (.t 37)),
 { dst := none, op := .store 1 (.t 38) (.t 36) }]
def o_ref11_tree_word_11 : List AOp := [
 aQ 39 (.build [.nat .i64 0, .d (.bool false), .d (.str []), .d (.str []), .nil] [(0, 1, (.c (.nat .i64 1))), (1, 1, (.c (.d (.bool true))))]),
 aQ 5 (.alloc [.nat .i64 0, .d (.bool false), .d (.str []), .d (.str []), .nil]),
 { dst := none, op := .store 5 (.t 5) (.t 39) }]
def o_ref11_tree_word_12 : List AOp := [
 aQ 40 (.mov (.t 0)),
 aQ 41 (.call (.f f_ref11_tree_end) [.t 40]),
 aQ 42 (.un .not (.t 41)),
 aQ 43 (.mov (.t 42)),
 gQ 44 (.mov (.t 0)) 43 true,
 gQ 45 (.call (.f f_ref11_tree_c) [.t 44]) 43 true,
 gQ 46 (.bin .neq (.t 45) (.c (.nat .u8 39))) 43 true,
 aQ 47 (.pick (.t 43) (.t 46) (.c (.d (.bool false))))]
def o_ref11_tree_word_13 : List AOp := [
 mQ 48 (.fldA 2 (.t 5)),
 mQ 49 (.load none (.t 48)),
 mQ 50 (.mov (.t 0)),
 mQ 51 (.callQ (.f f_ref11_tree_c) [.t 50]),
 mQ 52 (.mkls 1 [.nat .u8 0] [(0, 1, (.t 51))]),
 mQ 53 (.bytesStr (.t 52)),
 aQ 54 (.bin .add (.t 49) (.t 53)),
 aQ 55 (.fldA 2 (.t 5)),
 { dst := none, op := .store 1 (.t 55) (.t 54) }]
def o_ref11_tree_word_14 : List AOp := [
 aQ 56 (.mov (.t 0)),
 aQ 57 (.nilchk (.t 56)),
 aQ 58 (.fldA 1 (.t 57)),
 aQ 59 (.load none (.t 58)),
 aQ 60 (.bin .add (.t 59) (.c (.nat .i64 1))),
 aQ 61 (.nilchk (.t 56)),
 aQ 62 (.fldA 1 (.t 61)),
 { dst := none, op := .store 1 (.t 62) (.t 60) }]
def b_ref11_tree_word_0 : AC := (.seq (.seq (.ops o_ref11_tree_word_12)
 (.cond (.t 47) .skip (.exit 3)))
 (.trim [0, 3, 5] (.block 4 (.seq (.ops o_ref11_tree_word_13)
 (.ops o_ref11_tree_word_14)))))
def o_ref11_tree_word_15 : List AOp := [
 aQ 63 (.mov (.t 0)),
 aQ 64 (.call (.f f_ref11_tree_byte1) [.t 63, .c (.nat .u8 39)])]
def o_ref11_tree_word_16 : List AOp := [
 aQ 65 (.mov (.t 3)),
 aQ 66 (.load (some 5) (.t 5)),
 aQ 67 (.call (.f f_ref11_with) [.t 65, .t 66]),
 aQ 3 (.asg (.t 67))]
def o_ref11_tree_word_17 : List AOp := [
 aQ 69 (.bin .eql (.t 28) (.c (.nat .u8 34))),
 aQ 68 (.asg (.t 69))]
def o_ref11_tree_word_18 : List AOp := [
 aQ 70 (.mov (.t 0)),
 aQ 71 (.nilchk (.t 70)),
 aQ 72 (.fldA 1 (.t 71)),
 aQ 73 (.load none (.t 72)),
 aQ 74 (.bin .add (.t 73) (.c (.nat .i64 1))),
 aQ 75 (.nilchk (.t 70)),
 aQ 76 (.fldA 1 (.t 75)),
 { dst := none, op := .store 1 (.t 76) (.t 74) }]
def o_ref11_tree_word_19 : List AOp := [
 aQ 77 (.mov (.t 0)),
 aQ 78 (.call (.f f_ref11_tree_quoted) [.t 77]),
 aQ 6 (.asg (.t 78))]
def o_ref11_tree_word_20 : List AOp := [
 aQ 7 (.asg (.c (.nat .i64 0)))]
def o_ref11_tree_word_21 : List AOp := [
 aQ 79 (.mov (.t 7)),
 aQ 80 (.mov (.t 6)),
 aQ 81 (.len (.t 80)),
 aQ 82 (.bin .lss (.t 79) (.t 81))]
def o_ref11_tree_word_23 : List AOp := [
 aQ 85 (.mov (.t 3)),
 aQ 86 (.mov (.t 6)),
 aQ 87 (.mov (.t 7)),
 aQ 88 (.idxA none 5 (.t 86) (.t 87)),
 aQ 89 (.load (some 5) (.t 88)),
 aQ 90 (.call (.f f_ref11_with) [.t 85, .t 89]),
 aQ 3 (.asg (.t 90))]
def o_ref11_tree_word_22 : List AOp := [
 aQ 83 (.mov (.t 7)),
 aQ 84 (.bin .add (.t 83) (.c (.nat .i64 1))),
 aQ 7 (.asg (.t 84))]
def b_ref11_tree_word_1 : AC := (.seq (.seq (.ops o_ref11_tree_word_21)
 (.cond (.t 82) .skip (.exit 5)))
 (.seq (.trim [0, 3, 6, 7] (.block 6 (.ops o_ref11_tree_word_23)))
 (.ops o_ref11_tree_word_22)))
def o_ref11_tree_word_24 : List AOp := [
 aQ 92 (.bin .eql (.t 28) (.c (.nat .u8 92))),
 aQ 91 (.asg (.t 92))]
def o_ref11_tree_word_25 : List AOp := [
 aQ 93 (.mov (.t 0)),
 aQ 94 (.nilchk (.t 93)),
 aQ 95 (.fldA 1 (.t 94)),
 aQ 96 (.load none (.t 95)),
 aQ 97 (.bin .add (.t 96) (.c (.nat .i64 1))),
 aQ 98 (.nilchk (.t 93)),
 aQ 99 (.fldA 1 (.t 98)),
 { dst := none, op := .store 1 (.t 99) (.t 97) }]
def o_ref11_tree_word_26 : List AOp := [
 aQ 100 (.mov (.t 0)),
 aQ 101 (.call (.f f_ref11_tree_end) [.t 100]),
 aQ 102 (.mov (.t 101)),
 gQ 103 (.mov (.t 0)) 102 false,
 gQ 104 (.call (.f f_ref11_tree_c) [.t 103]) 102 false,
 gQ 105 (.bin .eql (.t 104) (.c (.nat .u8 10))) 102 false,
 aQ 106 (.pick (.t 102) (.c (.d (.bool true))) (.t 105))]
def o_ref11_tree_word_27 : List AOp := [
 aQ 107 (.mov (.t 0)),
 aQ 108 (.call (.f f_ref11_tree_fail) [.t 107, .c (.nat .i64 9)])]
def o_ref11_tree_word_28 : List AOp := [
 aQ 2 (.asg (.c (.nil)))]
def o_ref11_tree_word_29 : List AOp := [
 aQ 109 (.mov (.t 3)),
 aQ 110 (.mov (.t 0)),
 aQ 111 (.call (.f f_ref11_tree_c) [.t 110]),
 aQ 112 (.mkls 1 [.nat .u8 0] [(0, 1, (.t 111))]),
 aQ 113 (.bytesStr (.t 112)),
 aQ 114 (.build [.nat .i64 0, .d (.bool false), .d (.str []), .d (.str []), .nil] [(0, 1, (.c (.nat .i64 1))), (1, 1, (.c (.d (.bool true)))), (2, 1, (.t 113))]),
 aQ 115 (.call (.f f_ref11_with) [.t 109, .t 114]),
 aQ 3 (.asg (.t 115))]
def o_ref11_tree_word_30 : List AOp := [
 aQ 116 (.mov (.t 0)),
 aQ 117 (.nilchk (.t 116)),
 aQ 118 (.fldA 1 (.t 117)),
 aQ 119 (.load none (.t 118)),
 aQ 120 (.bin .add (.t 119) (.c (.nat .i64 1))),
 aQ 121 (.nilchk (.t 116)),
 aQ 122 (.fldA 1 (.t 121)),
 { dst := none, op := .store 1 (.t 122) (.t 120) }]
def o_ref11_tree_word_31 : List AOp := [
 aQ 124 (.bin .eql (.t 28) (.c (.nat .u8 36))),
 aQ 123 (.asg (.t 124))]
def o_ref11_tree_word_32 : List AOp := [
 aQ 125 (.mov (.t 0)),
 aQ 126 (.nilchk (.t 125)),
 aQ 127 (.fldA 1 (.t 126)),
 aQ 128 (.load none (.t 127)),
 aQ 129 (.bin .add (.t 128) (.c (.nat .i64 1))),
 aQ 130 (.nilchk (.t 125)),
 aQ 131 (.fldA 1 (.t 130)),
 { dst := none, op := .store 1 (.t 131) (.t 129) }]
def o_ref11_tree_word_33 : List AOp := [
 aQ 132 (.take 3),
 aQ 133 (.mov (.t 0)),
 aQ 134 (.call (.f f_ref11_tree_sign) [.t 133]),
 aQ 135 (.mkls 5 [.nat .i64 0, .d (.bool false), .d (.str []), .d (.str []), .nil] [(0, 5, (.t 134))]),
 aQ 136 (.append 5 (.t 132) (.t 135)),
 aQ 3 (.asg (.t 136))]
def o_ref11_tree_word_8 : List AOp := [
 aQ 29 (.mov (.t 3)),
 aQ 2 (.asg (.t 29))]
def b_ref11_tree_word_2 : AC := (.seq (.seq (.ops o_ref11_tree_word_2)
 (.cond (.t 10) .skip (.exit 0)))
 (.trim [0, 3] (.block 1 (.seq (.ops o_ref11_tree_word_3)
 (.seq (.seq (.ops o_ref11_tree_word_4)
 (.cond (.t 14) (.seq (.ops o_ref11_tree_word_5)
 (.seq (.ops o_ref11_tree_word_6)
 (.exit 1))) .skip))
 (.seq (.ops o_ref11_tree_word_7)
 (.trim [0, 3] (.block 2 (.seq (.ops o_ref11_tree_word_9)
 (.cond (.t 30) (.seq (.ops o_ref11_tree_word_10)
 (.seq (.ops o_ref11_tree_word_11)
 (.seq (.trim [0, 3, 5] (.block 3 (.loop [0, 3, 5] b_ref11_tree_word_0)))
 (.seq (.ops o_ref11_tree_word_15)
 (.ops o_ref11_tree_word_16))))) (.seq (.ops o_ref11_tree_word_17)
 (.cond (.t 68) (.seq (.ops o_ref11_tree_word_18)
 (.seq (.ops o_ref11_tree_word_19)
 (.seq (.ops o_ref11_tree_word_20)
 (.trim [0, 3] (.block 5 (.loop [0, 3, 6, 7] b_ref11_tree_word_1)))))) (.seq (.ops o_ref11_tree_word_24)
 (.cond (.t 91) (.seq (.ops o_ref11_tree_word_25)
 (.seq (.seq (.ops o_ref11_tree_word_26)
 (.cond (.t 106) (.seq (.ops o_ref11_tree_word_27)
 (.seq (.ops o_ref11_tree_word_28)
 .ret)) .skip))
 (.seq (.ops o_ref11_tree_word_29)
 (.ops o_ref11_tree_word_30)))) (.seq (.ops o_ref11_tree_word_31)
 (.cond (.t 123) (.seq (.ops o_ref11_tree_word_32)
 (.ops o_ref11_tree_word_33)) (.seq (.ops o_ref11_tree_word_8)
 .ret)))))))))))))))))
def o_ref11_tree_word_34 : List AOp := [
 aQ 137 (.mov (.t 3)),
 aQ 2 (.asg (.t 137))]
def c_ref11_tree_word : AC :=
 (.seq (.ops o_ref11_tree_word_0)
 (.seq (.ops o_ref11_tree_word_1)
 (.seq (.trim [3] (.block 0 (.loop [0, 3] b_ref11_tree_word_2)))
 (.seq (.ops o_ref11_tree_word_34)
 .ret))))
def a_ref11_tree_word : AFn := { body := c_ref11_tree_word, res := [.tmp 2] }
def o_ref01_IsName_0 : List AOp := [
 aQ 2 (.asg (.c (.d (.bool false))))]
def o_ref01_IsName_1 : List AOp := [
 aQ 3 (.asg (.c (.nat .i64 0)))]
def o_ref01_IsName_2 : List AOp := [
 aQ 6 (.mov (.t 3)),
 aQ 7 (.mov (.t 0)),
 aQ 8 (.lenS (.t 7)),
 aQ 9 (.bin .lss (.t 6) (.t 8))]
def o_ref01_IsName_4 : List AOp := [
 aQ 12 (.mov (.t 0)),
 aQ 13 (.mov (.t 3)),
 aQ 14 (.idxS (.t 12) (.t 13)),
 aQ 4 (.asg (.t 14))]
def o_ref01_IsName_5 : List AOp := [
 aQ 15 (.mov (.t 4)),
 aQ 16 (.bin .geq (.t 15) (.c (.nat .u8 65))),
 aQ 17 (.mov (.t 16)),
 gQ 18 (.mov (.t 4)) 17 true,
 gQ 19 (.bin .leq (.t 18) (.c (.nat .u8 90))) 17 true,
 aQ 20 (.pick (.t 17) (.t 19) (.c (.d (.bool false)))),
 aQ 21 (.mov (.t 20)),
 gQ 22 (.mov (.t 4)) 21 false,
 gQ 23 (.bin .geq (.t 22) (.c (.nat .u8 97))) 21 false,
 gQ 24 (.mov (.t 23)) 21 false,
 gQ 25 (.mov (.t 4)) 24 true,
 gQ 26 (.bin .leq (.t 25) (.c (.nat .u8 122))) 24 true,
 gQ 27 (.pick (.t 24) (.t 26) (.c (.d (.bool false)))) 21 false,
 aQ 28 (.pick (.t 21) (.c (.d (.bool true))) (.t 27)),
 aQ 29 (.mov (.t 28)),
 gQ 30 (.mov (.t 4)) 29 false,
 gQ 31 (.bin .eql (.t 30) (.c (.nat .u8 95))) 29 false,
 aQ 32 (.pick (.t 29) (.c (.d (.bool true))) (.t 31)),
 aQ 5 (.asg (.t 32))]
def o_ref01_IsName_6 : List AOp := [
 aQ 33 (.mov (.t 5)),
 aQ 34 (.un .not (.t 33)),
 aQ 35 (.mov (.t 34)),
 gQ 36 (.mov (.t 3)) 35 true,
 gQ 37 (.bin .eql (.t 36) (.c (.nat .i64 0))) 35 true,
 gQ 38 (.mov (.t 37)) 35 true,
 gQ 39 (.mov (.t 4)) 38 false,
 gQ 40 (.bin .lss (.t 39) (.c (.nat .u8 48))) 38 false,
 gQ 41 (.pick (.t 38) (.c (.d (.bool true))) (.t 40)) 35 true,
 gQ 42 (.mov (.t 41)) 35 true,
 gQ 43 (.mov (.t 4)) 42 false,
 gQ 44 (.bin .gtr (.t 43) (.c (.nat .u8 57))) 42 false,
 gQ 45 (.pick (.t 42) (.c (.d (.bool true))) (.t 44)) 35 true,
 aQ 46 (.pick (.t 35) (.t 45) (.c (.d (.bool false))))]
def o_ref01_IsName_7 : List AOp := [
 aQ 2 (.asg (.c (.d (.bool false))))]
def o_ref01_IsName_3 : List AOp := [
 aQ 10 (.mov (.t 3)),
 aQ 11 (.bin .add (.t 10) (.c (.nat .i64 1))),
 aQ 3 (.asg (.t 11))]
def b_ref01_IsName_0 : AC := (.seq (.seq (.ops o_ref01_IsName_2)
 (.cond (.t 9) .skip (.exit 0)))
 (.seq (.trim [0, 3] (.block 1 (.seq (.ops o_ref01_IsName_4)
 (.seq (.ops o_ref01_IsName_5)
 (.seq (.ops o_ref01_IsName_6)
 (.cond (.t 46) (.seq (.ops o_ref01_IsName_7)
 .ret) .skip))))))
 (.ops o_ref01_IsName_3)))
def o_ref01_IsName_8 : List AOp := [
 aQ 47 (.mov (.t 0)),
 aQ 48 (.lenS (.t 47)),
 aQ 49 (.bin .gtr (.t 48) (.c (.nat .i64 0))),
 aQ 2 (.asg (.t 49))]
def c_ref01_IsName : AC :=
 (.seq (.ops o_ref01_IsName_0)
 (.seq (.seq (.ops o_ref01_IsName_1)
 (.trim [0] (.block 0 (.loop [0, 3] b_ref01_IsName_0))))
 (.seq (.ops o_ref01_IsName_8)
 .ret)))
def a_ref01_IsName : AFn := { body := c_ref01_IsName, res := [.tmp 2] }
def o_ref11_with_0 : List AOp := [
 aQ 3 (.box (.t 1)),
 aQ 4 (.asg (.c (.nil)))]
def o_ref11_with_1 : List AOp := [
 aQ 7 (.mov (.t 0)),
 aQ 8 (.len (.t 7)),
 aQ 5 (.asg (.t 8))]
def o_ref11_with_2 : List AOp := [
 aQ 9 (.mov (.t 5)),
 aQ 10 (.bin .gtr (.t 9) (.c (.nat .i64 0))),
 aQ 11 (.mov (.t 10)),
 gQ 12 (.fldA 0 (.t 3)) 11 true,
 gQ 13 (.load none (.t 12)) 11 true,
 gQ 14 (.bin .eql (.t 13) (.c (.nat .i64 1))) 11 true,
 aQ 15 (.pick (.t 11) (.t 14) (.c (.d (.bool false)))),
 aQ 16 (.mov (.t 15)),
 hQ 17 (.mov (.t 0)) 16 true,
 hQ 18 (.mov (.t 5)) 16 true,
 hQ 19 (.bin .sub (.t 18) (.c (.nat .i64 1))) 16 true,
 gQ 20 (.idxA none 5 (.t 17) (.t 19)) 16 true,
 gQ 21 (.fldA 0 (.t 20)) 16 true,
 gQ 22 (.load none (.t 21)) 16 true,
 gQ 23 (.bin .eql (.t 22) (.c (.nat .i64 1))) 16 true,
 aQ 24 (.pick (.t 16) (.t 23) (.c (.d (.bool false)))),
 aQ 25 (.mov (.t 24)),
 hQ 26 (.mov (.t 0)) 25 true,
 hQ 27 (.mov (.t 5)) 25 true,
 hQ 28 (.bin .sub (.t 27) (.c (.nat .i64 1))) 25 true,
 hQ 29 (.idxA none 5 (.t 26) (.t 28)) 25 true,
 hQ 30 (.fldA 1 (.t 29)) 25 true,
 hQ 31 (.load none (.t 30)) 25 true,
 hQ 32 (.fldA 1 (.t 3)) 25 true,
 hQ 33 (.load none (.t 32)) 25 true,
 gQ 34 (.beq false (.t 31) (.t 33)) 25 true,
 aQ 35 (.pick (.t 25) (.t 34) (.c (.d (.bool false))))]
def o_ref11_with_3 : List AOp := [
 aQ 36 (.mkls 5 [] []),
 aQ 37 (.mov (.t 0)),
 aQ 38 (.mov (.t 5)),
 aQ 39 (.bin .sub (.t 38) (.c (.nat .i64 1))),
 aQ 40 (.slice 5 (.t 37) none (some (.t 39))),
 aQ 41 (.append 5 (.t 36) (.t 40)),
 aQ 6 (.asg (.t 41))]
def o_ref11_with_4 : List AOp := [
 mQ 42 (.mov (.t 0)),
 mQ 43 (.mov (.t 5)),
 mQ 44 (.bin .sub (.t 43) (.c (.nat .i64 1))),
 mQ 45 (.idxA none 5 (.t 42) (.t 44)),
 mQ 46 (.fldA 2 (.t 45)),
 mQ 47 (.load none (.t 46)),
 mQ 48 (.fldA 2 (.t 3)),
 mQ 49 (.load none (.t 48)),
 aQ 50 (.bin .add (.t 47) (.t 49)),
 aQ 51 (.fldA 2 (.t 3)),
 { dst := none, op := .store 1 (.t 51) (.t 50) }]
def o_ref11_with_5 : List AOp := [
 aQ 52 (.take 6),
 aQ 53 (.load (some 5) (.t 3)),
 aQ 54 (.mkls 5 [.nat .i64 0, .d (.bool false), .d (.str []), .d (.str []), .nil] [(0, 5, (.t 53))]),
 aQ 55 (.append 5 (.t 52) (.t 54)),
 aQ 4 (.asg (.t 55))]
def o_ref11_with_6 : List AOp := [
 aQ 56 (.take 0),
 aQ 57 (.load (some 5) (.t 3)),
 aQ 58 (.mkls 5 [.nat .i64 0, .d (.bool false), .d (.str []), .d (.str []), .nil] [(0, 5, (.t 57))]),
 aQ 59 (.append 5 (.t 56) (.t 58)),
 aQ 4 (.asg (.t 59))]
def c_ref11_with : AC :=
 (.seq (.ops o_ref11_with_0)
 (.seq (.ops o_ref11_with_1)
 (.seq (.seq (.ops o_ref11_with_2)
 (.cond (.t 35) (.seq (.ops o_ref11_with_3)
 (.seq (.ops o_ref11_with_4)
 (.seq (.ops o_ref11_with_5)
 .ret))) .skip))
 (.seq (.ops o_ref11_with_6)
 .ret))))
def a_ref11_with : AFn := { body := c_ref11_with, res := [.tmp 4] }
def o_ref11_tree_byte1_0 : List AOp := [
 aQ 4 (.mov (.t 0)),
 aQ 5 (.call (.f f_ref11_tree_end) [.t 4]),
 aQ 6 (.mov (.t 5)),
 gQ 7 (.mov (.t 0)) 6 false,
 gQ 8 (.call (.f f_ref11_tree_c) [.t 7]) 6 false,
 gQ 9 (.mov (.t 1)) 6 false,
 gQ 10 (.bin .neq (.t 8) (.t 9)) 6 false,
 aQ 11 (.pick (.t 6) (.c (.d (.bool true))) (.t 10))]
def o_ref11_tree_byte1_1 : List AOp := [
 aQ 12 (.mov (.t 0)),
 aQ 13 (.call (.f f_ref11_tree_fail) [.t 12, .c (.nat .i64 9)])]
def o_ref11_tree_byte1_2 : List AOp := [
 aQ 14 (.mov (.t 0)),
 aQ 15 (.nilchk (.t 14)),
 aQ 16 (.fldA 1 (.t 15)),
 aQ 17 (.load none (.t 16)),
 aQ 18 (.bin .add (.t 17) (.c (.nat .i64 1))),
 aQ 19 (.nilchk (.t 14)),
 aQ 20 (.fldA 1 (.t 19)),
 { dst := none, op := .store 1 (.t 20) (.t 18) }]
def c_ref11_tree_byte1 : AC :=
 (.seq (.seq (.ops o_ref11_tree_byte1_0)
 (.cond (.t 11) (.seq (.ops o_ref11_tree_byte1_1)
 .ret) .skip))
 (.ops o_ref11_tree_byte1_2))
def a_ref11_tree_byte1 : AFn := { body := c_ref11_tree_byte1, res := [] }
def o_ref11_tree_quoted_0 : List AOp := [
 aQ 2 (.asg (.c (.nil)))]
def o_ref11_tree_quoted_1 : List AOp := [
 aQ 3 (.asg (.c (.nil)))]
def o_ref11_tree_quoted_2 : List AOp := [
 aQ 6 (.mov (.t 0)),
 aQ 7 (.call (.f f_ref11_tree_end) [.t 6]),
 aQ 8 (.un .not (.t 7)),
 aQ 9 (.mov (.t 8)),
 gQ 10 (.mov (.t 0)) 9 true,
 gQ 11 (.call (.f f_ref11_tree_c) [.t 10]) 9 true,
 gQ 12 (.bin .neq (.t 11) (.c (.nat .u8 34))) 9 true,
 aQ 13 (.pick (.t 9) (.t 12) (.c (.d (.bool false))))]
def o_ref11_tree_quoted_3 : List AOp := [
 aQ 14 (.build [.nat .i64 0, .d (.bool false), .d (.str []), .d (.str []), .nil] [(0, 1, (.c (.nat .i64 1))), (1, 1, (.c (.d (.bool true))))]),
 aQ 4 (.alloc [.nat .i64 0, .d (.bool false), .d (.str []), .d (.str []), .nil]),
 { dst := none, op := .store 5 (.t 4) (.t 14) }]
def o_ref11_tree_quoted_4 : List AOp := [
 aQ 15 (.mov (.t 0)),
 aQ 16 (.call (.f f_ref11_tree_c) [.t 15]),
 aQ 5 (.asg (.t 16))]
def o_ref11_tree_quoted_5 : List AOp := [
 aQ 17 (.mov (.t 0)),
 aQ 18 (.nilchk (.t 17)),
 aQ 19 (.fldA 1 (.t 18)),
 aQ 20 (.load none (.t 19)),
 aQ 21 (.bin .add (.t 20) (.c (.nat .i64 1))),
 aQ 22 (.nilchk (.t 17)),
 aQ 23 (.fldA 1 (.t 22)),
 { dst := none, op := .store 1 (.t 23) (.t 21) }]
def o_ref11_tree_quoted_6 : List AOp := [
 aQ 24 (.mov (.t 5)),
 aQ 25 (.bin .eql (.t 24) (.c (.nat .u8 96)))]
def o_ref11_tree_quoted_7 : List AOp := [
 aQ 26 (.mov (.t 0)),
 aQ 27 (.call (.f f_ref11_tree_fail) [.t 26, .c (.nat .i64 9)])]
def o_ref11_tree_quoted_8 : List AOp := [
 aQ 28 (.mov (.t 5)),
 aQ 29 (.bin .eql (.t 28) (.c (.nat .u8 36)))]
def o_ref11_tree_quoted_9 : List AOp := [
 aQ 30 (.mov (.t 0)),
 aQ 31 (.call (.f f_ref11_tree_sign) [.t 30]),
 { dst := none, op := .store 5 (.t 4) (.t 31) }]
def o_ref11_tree_quoted_10 : List AOp := [
 aQ 32 (.fldA 1 (.t 4)),
 { dst := none, op := .store 1 (.t 32) (.c (.d (.bool true))) }]
def o_ref11_tree_quoted_11 : List AOp := [
 aQ 33 (.mov (.t 5)),
 aQ 34 (.bin .eql (.t 33) (.c (.nat .u8 92)))]
def o_ref11_tree_quoted_12 : List AOp := [
 aQ 35 (.mov (.t 0)),
 aQ 36 (.call (.f f_ref11_tree_end) [.t 35]),
 aQ 37 (.mov (.t 36)),
 gQ 38 (.mov (.t 0)) 37 false,
 gQ 39 (.call (.f f_ref11_tree_c) [.t 38]) 37 false,
 gQ 40 (.call (.f f_ref11_in) [.t 39, .c (.d (.str [34, 36, 92, 96]))]) 37 false,
 gQ 41 (.un .not (.t 40)) 37 false,
 aQ 42 (.pick (.t 37) (.c (.d (.bool true))) (.t 41))]
def o_ref11_tree_quoted_13 : List AOp := [
 aQ 43 (.mov (.t 0)),
 aQ 44 (.call (.f f_ref11_tree_fail) [.t 43, .c (.nat .i64 9)])]
def o_ref11_tree_quoted_14 : List AOp := [
 aQ 2 (.asg (.c (.nil)))]
def o_ref11_tree_quoted_15 : List AOp := [
 aQ 45 (.mov (.t 0)),
 aQ 46 (.call (.f f_ref11_tree_c) [.t 45]),
 aQ 47 (.mkls 1 [.nat .u8 0] [(0, 1, (.t 46))]),
 aQ 48 (.bytesStr (.t 47)),
 aQ 49 (.fldA 2 (.t 4)),
 { dst := none, op := .store 1 (.t 49) (.t 48) }]
def o_ref11_tree_quoted_16 : List AOp := [
 aQ 50 (.mov (.t 0)),
 aQ 51 (.nilchk (.t 50)),
 aQ 52 (.fldA 1 (.t 51)),
 aQ 53 (.load none (.t 52)),
 aQ 54 (.bin .add (.t 53) (.c (.nat .i64 1))),
 aQ 55 (.nilchk (.t 50)),
 aQ 56 (.fldA 1 (.t 55)),
 { dst := none, op := .store 1 (.t 56) (.t 54) }]
def o_ref11_tree_quoted_17 : List AOp := [
 aQ 57 (.mov (.t 5)),
 aQ 58 (.mkls 1 [.nat .u8 0] [(0, 1, (.t 57))]),
 aQ 59 (.bytesStr (.t 58)),
 aQ 60 (.fldA 2 (.t 4)),
 { dst := none, op := .store 1 (.t 60) (.t 59) }]
def o_ref11_tree_quoted_18 : List AOp := [
 aQ 61 (.mov (.t 3)),
 aQ 62 (.load (some 5) (.t 4)),
 aQ 63 (.call (.f f_ref11_with) [.t 61, .t 62]),
 aQ 3 (.asg (.t 63))]
def b_ref11_tree_quoted_0 : AC := (.seq (.seq (.ops o_ref11_tree_quoted_2)
 (.cond (.t 13) .skip (.exit 0)))
 (.trim [0, 3] (.block 1 (.seq (.ops o_ref11_tree_quoted_3)
 (.seq (.ops o_ref11_tree_quoted_4)
 (.seq (.ops o_ref11_tree_quoted_5)
 (.seq (.seq (.ops o_ref11_tree_quoted_6)
 (.cond (.t 25) (.ops o_ref11_tree_quoted_7) (.seq (.ops o_ref11_tree_quoted_8)
 (.cond (.t 29) (.seq (.ops o_ref11_tree_quoted_9)
 (.ops o_ref11_tree_quoted_10)) (.seq (.ops o_ref11_tree_quoted_11)
 (.cond (.t 34) (.seq (.seq (.ops o_ref11_tree_quoted_12)
 (.cond (.t 42) (.seq (.ops o_ref11_tree_quoted_13)
 (.seq (.ops o_ref11_tree_quoted_14)
 .ret)) .skip))
 (.seq (.ops o_ref11_tree_quoted_15)
 (.ops o_ref11_tree_quoted_16))) (.ops o_ref11_tree_quoted_17)))))))
 (.ops o_ref11_tree_quoted_18))))))))
def o_ref11_tree_quoted_19 : List AOp := [
 aQ 64 (.mov (.t 0)),
 aQ 65 (.call (.f f_ref11_tree_byte1) [.t 64, .c (.nat .u8 34)])]
def o_ref11_tree_quoted_20 : List AOp := [
 aQ 66 (.mov (.t 3)),
 aQ 67 (.len (.t 66)),
 aQ 68 (.bin .eql (.t 67) (.c (.nat .i64 0)))]
def o_ref11_tree_quoted_21 : List AOp := [
 aQ 69 (.build [.nat .i64 0, .d (.bool false), .d (.str []), .d (.str []), .nil] [(0, 1, (.c (.nat .i64 1))), (1, 1, (.c (.d (.bool true))))]),
 aQ 70 (.mkls 5 [.nat .i64 0, .d (.bool false), .d (.str []), .d (.str []), .nil] [(0, 5, (.t 69))]),
 aQ 2 (.asg (.t 70))]
def o_ref11_tree_quoted_22 : List AOp := [
 aQ 71 (.mov (.t 3)),
 aQ 2 (.asg (.t 71))]
def c_ref11_tree_quoted : AC :=
 (.seq (.ops o_ref11_tree_quoted_0)
 (.seq (.ops o_ref11_tree_quoted_1)
 (.seq (.trim [0, 3] (.block 0 (.loop [0, 3] b_ref11_tree_quoted_0)))
 (.seq (.ops o_ref11_tree_quoted_19)
 (.seq (.seq (.ops o_ref11_tree_quoted_20)
 (.cond (.t 68) (.seq (.ops o_ref11_tree_quoted_21)
 .ret) .skip))
 (.seq (.ops o_ref11_tree_quoted_22)
 .ret))))))
def a_ref11_tree_quoted : AFn := { body := c_ref11_tree_quoted, res := [.tmp 2] }
def o_ref11_tree_sign_0 : List AOp := [
 aQ 2 (.alloc [.nat .i64 0, .d (.bool false), .d (.str []), .d (.str []), .nil])]
def o_ref11_tree_sign_1 : List AOp := [
 aQ 4 (.mov (.t 0)),
 aQ 5 (.call (.f f_ref11_tree_c) [.t 4]),
 aQ 6 (.bin .eql (.t 5) (.c (.nat .u8 40))),
 aQ 7 (.mov (.t 6)),
 hQ 8 (.mov (.t 0)) 7 true,
 hQ 9 (.nilchk (.t 8)) 7 true,
 hQ 10 (.fldA 1 (.t 9)) 7 true,
 hQ 11 (.load none (.t 10)) 7 true,
 hQ 12 (.bin .add (.t 11) (.c (.nat .i64 1))) 7 true,
 hQ 13 (.mov (.t 0)) 7 true,
 hQ 14 (.nilchk (.t 13)) 7 true,
 hQ 15 (.fldA 0 (.t 14)) 7 true,
 hQ 16 (.load none (.t 15)) 7 true,
 hQ 17 (.lenS (.t 16)) 7 true,
 gQ 18 (.bin .lss (.t 12) (.t 17)) 7 true,
 aQ 19 (.pick (.t 7) (.t 18) (.c (.d (.bool false)))),
 aQ 20 (.mov (.t 19)),
 hQ 21 (.mov (.t 0)) 20 true,
 hQ 22 (.nilchk (.t 21)) 20 true,
 hQ 23 (.fldA 0 (.t 22)) 20 true,
 hQ 24 (.load none (.t 23)) 20 true,
 hQ 25 (.mov (.t 0)) 20 true,
 hQ 26 (.nilchk (.t 25)) 20 true,
 hQ 27 (.fldA 1 (.t 26)) 20 true,
 hQ 28 (.load none (.t 27)) 20 true,
 hQ 29 (.bin .add (.t 28) (.c (.nat .i64 1))) 20 true,
 gQ 30 (.idxS (.t 24) (.t 29)) 20 true,
 gQ 31 (.bin .eql (.t 30) (.c (.nat .u8 40))) 20 true,
 aQ 32 (.pick (.t 20) (.t 31) (.c (.d (.bool false))))]
def o_ref11_tree_sign_2 : List AOp := [
 aQ 33 (.mov (.t 0)),
 aQ 34 (.mov (.t 0)),
 aQ 35 (.nilchk (.t 34)),
 aQ 36 (.fldA 1 (.t 35)),
 aQ 37 (.load none (.t 36)),
 aQ 38 (.bin .add (.t 37) (.c (.nat .i64 2))),
 aQ 39 (.nilchk (.t 33)),
 aQ 40 (.fldA 1 (.t 39)),
 { dst := none, op := .store 1 (.t 40) (.t 38) }]
def o_ref11_tree_sign_3 : List AOp := [
 aQ 41 (.mov (.t 0)),
 aQ 42 (.call (.f f_ref11_tree_double) [.t 41]),
 { dst := none, op := .store 5 (.t 2) (.t 42) }]
def o_ref11_tree_sign_4 : List AOp := [
 aQ 43 (.mov (.t 0)),
 aQ 44 (.call (.f f_ref11_tree_c) [.t 43]),
 aQ 45 (.bin .eql (.t 44) (.c (.nat .u8 40)))]
def o_ref11_tree_sign_5 : List AOp := [
 aQ 46 (.mov (.t 0)),
 aQ 47 (.nilchk (.t 46)),
 aQ 48 (.fldA 2 (.t 47)),
 aQ 49 (.load none (.t 48)),
 aQ 50 (.bin .eql (.t 49) (.c (.nat .i64 30)))]
def o_ref11_tree_sign_6 : List AOp := [
 aQ 51 (.mov (.t 0)),
 aQ 52 (.nilchk (.t 51)),
 aQ 53 (.fldA 1 (.t 52)),
 aQ 54 (.load none (.t 53)),
 aQ 55 (.bin .add (.t 54) (.c (.nat .i64 1))),
 aQ 56 (.nilchk (.t 51)),
 aQ 57 (.fldA 1 (.t 56)),
 { dst := none, op := .store 1 (.t 57) (.t 55) }]
def o_ref11_tree_sign_7 : List AOp := [
 aQ 58 (.mov (.t 0)),
 aQ 59 (.call (.f f_ref11_tree_fail) [.t 58, .c (.nat .i64 7)])]
def o_ref11_tree_sign_8 : List AOp := [
 aQ 60 (.build [.nat .i64 0, .d (.bool false), .d (.str []), .d (.str []), .nil] []),
 { dst := none, op := .store 5 (.t 2) (.t 60) }]
def o_ref11_tree_sign_9 : List AOp := [
 aQ 61 (.mov (.t 0)),
 aQ 62 (.nilchk (.t 61)),
 aQ 63 (.fldA 2 (.t 62)),
 aQ 64 (.load none (.t 63)),
 aQ 65 (.bin .add (.t 64) (.c (.nat .i64 1))),
 aQ 66 (.nilchk (.t 61)),
 aQ 67 (.fldA 2 (.t 66)),
 { dst := none, op := .store 1 (.t 67) (.t 65) }]
def o_ref11_tree_sign_10 : List AOp := [
 aQ 68 (.mov (.t 0)),
 aQ 69 (.nilchk (.t 68)),
 aQ 70 (.fldA 1 (.t 69)),
 aQ 71 (.load none (.t 70)),
 aQ 72 (.bin .add (.t 71) (.c (.nat .i64 1))),
 aQ 73 (.nilchk (.t 68)),
 aQ 74 (.fldA 1 (.t 73)),
 { dst := none, op := .store 1 (.t 74) (.t 72) }]
def o_ref11_tree_sign_11 : List AOp := [
 aQ 75 (.mov (.t 0)),
 aQ 76 (.call (.f f_ref11_tree_list) [.t 75]),
 aQ 3 (.asg (.t 76))]
def o_ref11_tree_sign_12 : List AOp := [
 aQ 77 (.mov (.t 0)),
 aQ 78 (.nilchk (.t 77)),
 aQ 79 (.fldA 2 (.t 78)),
 aQ 80 (.load none (.t 79)),
 aQ 81 (.bin .sub (.t 80) (.c (.nat .i64 1))),
 aQ 82 (.nilchk (.t 77)),
 aQ 83 (.fldA 2 (.t 82)),
 { dst := none, op := .store 1 (.t 83) (.t 81) }]
def o_ref11_tree_sign_13 : List AOp := [
 aQ 84 (.mov (.t 0)),
 aQ 85 (.call (.f f_ref11_tree_byte1) [.t 84, .c (.nat .u8 41)])]
def o_ref11_tree_sign_14 : List AOp := [
 aQ 86 (.mov (.t 3)),
 aQ 87 (.build [.nat .i64 0, .d (.bool false), .d (.str []), .d (.str []), .nil] [(0, 1, (.c (.nat .i64 7))), (4, 1, (.t 86))]),
 { dst := none, op := .store 5 (.t 2) (.t 87) }]
def o_ref11_tree_sign_15 : List AOp := [
 aQ 88 (.mov (.t 0)),
 aQ 89 (.call (.f f_ref11_tree_c) [.t 88]),
 aQ 90 (.bin .eql (.t 89) (.c (.nat .u8 123)))]
def o_ref11_tree_sign_16 : List AOp := [
 aQ 91 (.mov (.t 0)),
 aQ 92 (.nilchk (.t 91)),
 aQ 93 (.fldA 1 (.t 92)),
 aQ 94 (.load none (.t 93)),
 aQ 95 (.bin .add (.t 94) (.c (.nat .i64 1))),
 aQ 96 (.nilchk (.t 91)),
 aQ 97 (.fldA 1 (.t 96)),
 { dst := none, op := .store 1 (.t 97) (.t 95) }]
def o_ref11_tree_sign_17 : List AOp := [
 aQ 98 (.mov (.t 0)),
 aQ 99 (.call (.f f_ref11_tree_brace) [.t 98]),
 { dst := none, op := .store 5 (.t 2) (.t 99) }]
def o_ref11_tree_sign_18 : List AOp := [
 aQ 100 (.mov (.t 0)),
 aQ 101 (.call (.f f_ref11_tree_name) [.t 100]),
 aQ 102 (.build [.nat .i64 0, .d (.bool false), .d (.str []), .d (.str []), .nil] [(0, 1, (.c (.nat .i64 2))), (2, 1, (.t 101))]),
 { dst := none, op := .store 5 (.t 2) (.t 102) }]
def c_ref11_tree_sign : AC :=
 (.seq (.ops o_ref11_tree_sign_0)
 (.seq (.seq (.ops o_ref11_tree_sign_1)
 (.cond (.t 32) (.seq (.ops o_ref11_tree_sign_2)
 (.seq (.ops o_ref11_tree_sign_3)
 .ret)) .skip))
 (.seq (.seq (.ops o_ref11_tree_sign_4)
 (.cond (.t 45) (.seq (.seq (.ops o_ref11_tree_sign_5)
 (.cond (.t 50) (.seq (.ops o_ref11_tree_sign_6)
 (.seq (.ops o_ref11_tree_sign_7)
 (.seq (.ops o_ref11_tree_sign_8)
 .ret))) .skip))
 (.seq (.ops o_ref11_tree_sign_9)
 (.seq (.ops o_ref11_tree_sign_10)
 (.seq (.ops o_ref11_tree_sign_11)
 (.seq (.ops o_ref11_tree_sign_12)
 (.seq (.ops o_ref11_tree_sign_13)
 (.seq (.ops o_ref11_tree_sign_14)
 .ret))))))) .skip))
 (.seq (.seq (.ops o_ref11_tree_sign_15)
 (.cond (.t 90) (.seq (.ops o_ref11_tree_sign_16)
 (.seq (.ops o_ref11_tree_sign_17)
 .ret)) .skip))
 (.seq (.ops o_ref11_tree_sign_18)
 .ret)))))
def a_ref11_tree_sign : AFn := { body := c_ref11_tree_sign, res := [.cell 2 (some 5)] }
def o_ref11_tree_double_0 : List AOp := [
 aQ 2 (.alloc [.nat .i64 0, .d (.bool false), .d (.str []), .d (.str []), .nil])]
def o_ref11_tree_double_1 : List AOp := [
 aQ 5 (.build [.nat .i64 0, .d (.bool false), .d (.str []), .d (.str []), .nil] [(0, 1, (.c (.nat .i64 8)))]),
 aQ 3 (.alloc [.nat .i64 0, .d (.bool false), .d (.str []), .d (.str []), .nil]),
 { dst := none, op := .store 5 (.t 3) (.t 5) }]
def o_ref11_tree_double_2 : List AOp := [
 aQ 4 (.asg (.c (.nat .i64 0)))]
def o_ref11_tree_double_3 : List AOp := [
 aQ 6 (.mov (.t 0)),
 aQ 7 (.call (.f f_ref11_tree_end) [.t 6]),
 aQ 8 (.un .not (.t 7)),
 aQ 9 (.mov (.t 8)),
 gQ 10 (.mov (.t 0)) 9 true,
 gQ 11 (.call (.f f_ref11_tree_c) [.t 10]) 9 true,
 gQ 12 (.call (.f f_ref11_in) [.t 11, .c (.d (.str [39, 34, 36, 92, 96]))]) 9 true,
 gQ 13 (.un .not (.t 12)) 9 true,
 aQ 14 (.pick (.t 9) (.t 13) (.c (.d (.bool false)))),
 aQ 15 (.mov (.t 14)),
 gQ 16 (.mov (.t 0)) 15 true,
 gQ 17 (.call (.f f_ref11_tree_c) [.t 16]) 15 true,
 gQ 18 (.bin .neq (.t 17) (.c (.nat .u8 41))) 15 true,
 gQ 19 (.mov (.t 18)) 15 true,
 gQ 20 (.mov (.t 4)) 19 false,
 gQ 21 (.bin .gtr (.t 20) (.c (.nat .i64 0))) 19 false,
 gQ 22 (.pick (.t 19) (.c (.d (.bool true))) (.t 21)) 15 true,
 aQ 23 (.pick (.t 15) (.t 22) (.c (.d (.bool false))))]
def o_ref11_tree_double_4 : List AOp := [
 aQ 24 (.mov (.t 0)),
 aQ 25 (.call (.f f_ref11_tree_c) [.t 24]),
 aQ 26 (.bin .eql (.t 25) (.c (.nat .u8 40)))]
def o_ref11_tree_double_5 : List AOp := [
 aQ 27 (.mov (.t 4)),
 aQ 28 (.bin .add (.t 27) (.c (.nat .i64 1))),
 aQ 4 (.asg (.t 28))]
def o_ref11_tree_double_6 : List AOp := [
 aQ 29 (.mov (.t 0)),
 aQ 30 (.call (.f f_ref11_tree_c) [.t 29]),
 aQ 31 (.bin .eql (.t 30) (.c (.nat .u8 41)))]
def o_ref11_tree_double_7 : List AOp := [
 aQ 32 (.mov (.t 4)),
 aQ 33 (.bin .sub (.t 32) (.c (.nat .i64 1))),
 aQ 4 (.asg (.t 33))]
def o_ref11_tree_double_8 : List AOp := [
 mQ 34 (.fldA 2 (.t 3)),
 mQ 35 (.load none (.t 34)),
 mQ 36 (.mov (.t 0)),
 mQ 37 (.callQ (.f f_ref11_tree_c) [.t 36]),
 mQ 38 (.mkls 1 [.nat .u8 0] [(0, 1, (.t 37))]),
 mQ 39 (.bytesStr (.t 38)),
 aQ 40 (.bin .add (.t 35) (.t 39)),
 aQ 41 (.fldA 2 (.t 3)),
 { dst := none, op := .store 1 (.t 41) (.t 40) }]
def o_ref11_tree_double_9 : List AOp := [
 aQ 42 (.mov (.t 0)),
 aQ 43 (.nilchk (.t 42)),
 aQ 44 (.fldA 1 (.t 43)),
 aQ 45 (.load none (.t 44)),
 aQ 46 (.bin .add (.t 45) (.c (.nat .i64 1))),
 aQ 47 (.nilchk (.t 42)),
 aQ 48 (.fldA 1 (.t 47)),
 { dst := none, op := .store 1 (.t 48) (.t 46) }]
def b_ref11_tree_double_0 : AC := (.seq (.seq (.ops o_ref11_tree_double_3)
 (.cond (.t 23) .skip (.exit 0)))
 (.trim [0, 2, 3, 4] (.block 1 (.seq (.seq (.ops o_ref11_tree_double_4)
 (.cond (.t 26) (.ops o_ref11_tree_double_5) .skip))
 (.seq (.seq (.ops o_ref11_tree_double_6)
 (.cond (.t 31) (.ops o_ref11_tree_double_7) .skip))
 (.seq (.ops o_ref11_tree_double_8)
 (.ops o_ref11_tree_double_9)))))))
def o_ref11_tree_double_10 : List AOp := [
 aQ 49 (.mov (.t 0)),
 aQ 50 (.call (.f f_ref11_tree_byte1) [.t 49, .c (.nat .u8 41)])]
def o_ref11_tree_double_11 : List AOp := [
 aQ 51 (.mov (.t 0)),
 aQ 52 (.call (.f f_ref11_tree_byte1) [.t 51, .c (.nat .u8 41)])]
def o_ref11_tree_double_12 : List AOp := [
 aQ 53 (.load (some 5) (.t 3)),
 { dst := none, op := .store 5 (.t 2) (.t 53) }]
def c_ref11_tree_double : AC :=
 (.seq (.ops o_ref11_tree_double_0)
 (.seq (.ops o_ref11_tree_double_1)
 (.seq (.ops o_ref11_tree_double_2)
 (.seq (.trim [0, 2, 3] (.block 0 (.loop [0, 2, 3, 4] b_ref11_tree_double_0)))
 (.seq (.ops o_ref11_tree_double_10)
 (.seq (.ops o_ref11_tree_double_11)
 (.seq (.ops o_ref11_tree_double_12)
 .ret)))))))
def a_ref11_tree_double : AFn := { body := c_ref11_tree_double, res := [.cell 2 (some 5)] }
def o_ref11_tree_brace_0 : List AOp := [
 aQ 2 (.alloc [.nat .i64 0, .d (.bool false), .d (.str []), .d (.str []), .nil])]
def o_ref11_tree_brace_1 : List AOp := [
 aQ 5 (.mov (.t 0)),
 aQ 6 (.call (.f f_ref11_tree_c) [.t 5]),
 aQ 7 (.bin .eql (.t 6) (.c (.nat .u8 35)))]
def o_ref11_tree_brace_2 : List AOp := [
 aQ 8 (.mov (.t 0)),
 aQ 9 (.nilchk (.t 8)),
 aQ 10 (.fldA 1 (.t 9)),
 aQ 11 (.load none (.t 10)),
 aQ 12 (.bin .add (.t 11) (.c (.nat .i64 1))),
 aQ 13 (.nilchk (.t 8)),
 aQ 14 (.fldA 1 (.t 13)),
 { dst := none, op := .store 1 (.t 14) (.t 12) }]
def o_ref11_tree_brace_3 : List AOp := [
 aQ 15 (.mov (.t 0)),
 aQ 16 (.call (.f f_ref11_tree_name) [.t 15]),
 aQ 3 (.asg (.t 16))]
def o_ref11_tree_brace_4 : List AOp := [
 aQ 17 (.mov (.t 0)),
 aQ 18 (.call (.f f_ref11_tree_byte1) [.t 17, .c (.nat .u8 125)])]
def o_ref11_tree_brace_5 : List AOp := [
 aQ 19 (.mov (.t 3)),
 aQ 20 (.build [.nat .i64 0, .d (.bool false), .d (.str []), .d (.str []), .nil] [(0, 1, (.c (.nat .i64 4))), (2, 1, (.t 19))]),
 { dst := none, op := .store 5 (.t 2) (.t 20) }]
def o_ref11_tree_brace_6 : List AOp := [
 aQ 21 (.mov (.t 0)),
 aQ 22 (.call (.f f_ref11_tree_name) [.t 21]),
 aQ 23 (.build [.nat .i64 0, .d (.bool false), .d (.str []), .d (.str []), .nil] [(0, 1, (.c (.nat .i64 2))), (2, 1, (.t 22))]),
 aQ 4 (.alloc [.nat .i64 0, .d (.bool false), .d (.str []), .d (.str []), .nil]),
 { dst := none, op := .store 5 (.t 4) (.t 23) }]
def o_ref11_tree_brace_7 : List AOp := [
 aQ 24 (.mov (.t 0)),
 aQ 25 (.call (.f f_ref11_tree_c) [.t 24])]
def o_ref11_tree_brace_8 : List AOp := [
 aQ 27 (.bin .eql (.t 25) (.c (.nat .u8 58))),
 aQ 26 (.asg (.t 27))]
def o_ref11_tree_brace_9 : List AOp := [
 aQ 28 (.mov (.t 0)),
 aQ 29 (.nilchk (.t 28)),
 aQ 30 (.fldA 1 (.t 29)),
 aQ 31 (.load none (.t 30)),
 aQ 32 (.bin .add (.t 31) (.c (.nat .i64 1))),
 aQ 33 (.nilchk (.t 28)),
 aQ 34 (.fldA 1 (.t 33)),
 { dst := none, op := .store 1 (.t 34) (.t 32) }]
def o_ref11_tree_brace_10 : List AOp := [
 aQ 35 (.mov (.t 0)),
 aQ 36 (.call (.f f_ref11_tree_byte1) [.t 35, .c (.nat .u8 45)])]
def o_ref11_tree_brace_11 : List AOp := [
 aQ 37 (.fldA 0 (.t 4)),
 { dst := none, op := .store 1 (.t 37) (.c (.nat .i64 3)) }]
def o_ref11_tree_brace_12 : List AOp := [
 aQ 39 (.bin .eql (.t 25) (.c (.nat .u8 35))),
 aQ 38 (.asg (.t 39))]
def o_ref11_tree_brace_13 : List AOp := [
 aQ 40 (.mov (.t 0)),
 aQ 41 (.nilchk (.t 40)),
 aQ 42 (.fldA 1 (.t 41)),
 aQ 43 (.load none (.t 42)),
 aQ 44 (.bin .add (.t 43) (.c (.nat .i64 1))),
 aQ 45 (.nilchk (.t 40)),
 aQ 46 (.fldA 1 (.t 45)),
 { dst := none, op := .store 1 (.t 46) (.t 44) }]
def o_ref11_tree_brace_14 : List AOp := [
 aQ 47 (.fldA 0 (.t 4)),
 { dst := none, op := .store 1 (.t 47) (.c (.nat .i64 5)) }]
def o_ref11_tree_brace_15 : List AOp := [
 aQ 49 (.bin .eql (.t 25) (.c (.nat .u8 37))),
 aQ 48 (.asg (.t 49))]
def o_ref11_tree_brace_16 : List AOp := [
 aQ 50 (.mov (.t 0)),
 aQ 51 (.nilchk (.t 50)),
 aQ 52 (.fldA 1 (.t 51)),
 aQ 53 (.load none (.t 52)),
 aQ 54 (.bin .add (.t 53) (.c (.nat .i64 1))),
 aQ 55 (.nilchk (.t 50)),
 aQ 56 (.fldA 1 (.t 55)),
 { dst := none, op := .store 1 (.t 56) (.t 54) }]
def o_ref11_tree_brace_17 : List AOp := [
 aQ 57 (.fldA 0 (.t 4)),
 { dst := none, op := .store 1 (.t 57) (.c (.nat .i64 6)) }]
def o_ref11_tree_brace_18 : List AOp := [
 aQ 58 (.fldA 0 (.t 4)),
 aQ 59 (.load none (.t 58)),
 aQ 60 (.bin .neq (.t 59) (.c (.nat .i64 2)))]
def o_ref11_tree_brace_19 : List AOp := [
 aQ 61 (.mov (.t 0)),
 aQ 62 (.call (.f f_ref11_tree_end) [.t 61]),
 aQ 63 (.un .not (.t 62)),
 aQ 64 (.mov (.t 63)),
 gQ 65 (.mov (.t 0)) 64 true,
 gQ 66 (.call (.f f_ref11_tree_c) [.t 65]) 64 true,
 gQ 67 (.call (.f f_ref11_in) [.t 66, .c (.d (.str [125, 39, 34, 36, 92, 96, 10]))]) 64 true,
 gQ 68 (.un .not (.t 67)) 64 true,
 aQ 69 (.pick (.t 64) (.t 68) (.c (.d (.bool false))))]
def o_ref11_tree_brace_20 : List AOp := [
 mQ 70 (.fldA 3 (.t 4)),
 mQ 71 (.load none (.t 70)),
 mQ 72 (.mov (.t 0)),
 mQ 73 (.callQ (.f f_ref11_tree_c) [.t 72]),
 mQ 74 (.mkls 1 [.nat .u8 0] [(0, 1, (.t 73))]),
 mQ 75 (.bytesStr (.t 74)),
 aQ 76 (.bin .add (.t 71) (.t 75)),
 aQ 77 (.fldA 3 (.t 4)),
 { dst := none, op := .store 1 (.t 77) (.t 76) }]
def o_ref11_tree_brace_21 : List AOp := [
 aQ 78 (.mov (.t 0)),
 aQ 79 (.nilchk (.t 78)),
 aQ 80 (.fldA 1 (.t 79)),
 aQ 81 (.load none (.t 80)),
 aQ 82 (.bin .add (.t 81) (.c (.nat .i64 1))),
 aQ 83 (.nilchk (.t 78)),
 aQ 84 (.fldA 1 (.t 83)),
 { dst := none, op := .store 1 (.t 84) (.t 82) }]
def b_ref11_tree_brace_0 : AC := (.seq (.seq (.ops o_ref11_tree_brace_19)
 (.cond (.t 69) .skip (.exit 1)))
 (.trim [0, 2, 4] (.block 2 (.seq (.ops o_ref11_tree_brace_20)
 (.ops o_ref11_tree_brace_21)))))
def o_ref11_tree_brace_22 : List AOp := [
 aQ 85 (.mov (.t 0)),
 aQ 86 (.call (.f f_ref11_tree_byte1) [.t 85, .c (.nat .u8 125)])]
def o_ref11_tree_brace_23 : List AOp := [
 aQ 87 (.load (some 5) (.t 4)),
 { dst := none, op := .store 5 (.t 2) (.t 87) }]
def c_ref11_tree_brace : AC :=
 (.seq (.ops o_ref11_tree_brace_0)
 (.seq (.seq (.ops o_ref11_tree_brace_1)
 (.cond (.t 7) (.seq (.ops o_ref11_tree_brace_2)
 (.seq (.ops o_ref11_tree_brace_3)
 (.seq (.ops o_ref11_tree_brace_4)
 (.seq (.ops o_ref11_tree_brace_5)
 .ret)))) .skip))
 (.seq (.ops o_ref11_tree_brace_6)
 (.seq (.seq (.ops o_ref11_tree_brace_7)
 (.trim [0, 2, 4] (.block 0 (.seq (.ops o_ref11_tree_brace_8)
 (.cond (.t 26) (.seq (.ops o_ref11_tree_brace_9)
 (.seq (.ops o_ref11_tree_brace_10)
 (.ops o_ref11_tree_brace_11))) (.seq (.ops o_ref11_tree_brace_12)
 (.cond (.t 38) (.seq (.ops o_ref11_tree_brace_13)
 (.ops o_ref11_tree_brace_14)) (.seq (.ops o_ref11_tree_brace_15)
 (.cond (.t 48) (.seq (.ops o_ref11_tree_brace_16)
 (.ops o_ref11_tree_brace_17)) .skip)))))))))
 (.seq (.seq (.ops o_ref11_tree_brace_18)
 (.cond (.t 60) (.trim [0, 2, 4] (.block 1 (.loop [0, 2, 4] b_ref11_tree_brace_0))) .skip))
 (.seq (.ops o_ref11_tree_brace_22)
 (.seq (.ops o_ref11_tree_brace_23)
 .ret)))))))
def a_ref11_tree_brace : AFn := { body := c_ref11_tree_brace, res := [.cell 2 (some 5)] }
def tabl : List (Nat × AFn) := [(f_law12_ShowQuotes, a_law12_ShowQuotes), (f_law12_ShowLengths, a_law12_ShowLengths), (f_law12_shown, a_law12_shown), (f_ref11_Read, a_ref11_Read), (f_show_Quote, a_show_Quote), (f_ref12_Quote, a_ref12_Quote), (f_show_Text, a_show_Text), (f_ref11_tree_list, a_ref11_tree_list), (f_ref11_tree_fail, a_ref11_tree_fail), (f_show_joined, a_show_joined), (f_strings_Builder_WriteString, a_strings_Builder_WriteString), (f_strings_Builder_String, a_strings_Builder_String), (f_ref11_tree_seps, a_ref11_tree_seps), (f_ref11_tree_end, a_ref11_tree_end), (f_ref11_tree_c, a_ref11_tree_c), (f_ref11_tree_key, a_ref11_tree_key), (f_ref11_tree_line, a_ref11_tree_line), (f_show_command, a_show_command), (f_strings_Join, a_strings_Join), (f_strings_Builder_copyCheck, a_strings_Builder_copyCheck), (f_ref11_tree_white, a_ref11_tree_white), (f_ref11_plain, a_ref11_plain), (f_ref11_in, a_ref11_in), (f_ref11_tree_pipe, a_ref11_tree_pipe), (f_ref11_tree_bars, a_ref11_tree_bars), (f_strings_Builder_Grow, a_strings_Builder_Grow), (f_show_lines, a_show_lines), (f_show_simple, a_show_simple), (f_ref11_tree_command, a_ref11_tree_command), (f_strings_Builder_grow, a_strings_Builder_grow), (f_ref11_tree_simple, a_ref11_tree_simple), (f_ref11_tree_lines, a_ref11_tree_lines), (f_ref11_tree_need, a_ref11_tree_need), (f_ref11_tree_name, a_ref11_tree_name), (f_ref11_tree_words, a_ref11_tree_words), (f_ref11_tree_named, a_ref11_tree_named), (f_ref11_tree_word, a_ref11_tree_word), (f_ref01_IsName, a_ref01_IsName), (f_ref11_with, a_ref11_with), (f_ref11_tree_byte1, a_ref11_tree_byte1), (f_ref11_tree_quoted, a_ref11_tree_quoted), (f_ref11_tree_sign, a_ref11_tree_sign), (f_ref11_tree_double, a_ref11_tree_double), (f_ref11_tree_brace, a_ref11_tree_brace)]
def tabD : List (Nat × AFn) := [(f_ref11_tree_fail, a_ref11_tree_fail), (f_strings_Builder_copyCheck, a_strings_Builder_copyCheck), (f_ref11_tree_white, a_ref11_tree_white), (f_strings_Builder_Grow, a_strings_Builder_Grow), (f_strings_Builder_grow, a_strings_Builder_grow), (f_ref11_tree_need, a_ref11_tree_need), (f_ref11_tree_byte1, a_ref11_tree_byte1)]
end Go.Ab.R12
