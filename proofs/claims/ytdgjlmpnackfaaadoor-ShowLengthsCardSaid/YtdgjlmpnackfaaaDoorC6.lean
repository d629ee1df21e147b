/- A part of the proof: tools. No condition. -/
import Derived.Test.YtdgjlmpnackfaaaDoorL0
set_option linter.all false
namespace Go.Ab.R12
abbrev aQ (d : Nat) (o : AOpk) : AOp := { dst := some d, op := o }
abbrev mQ (d : Nat) (o : AOpk) : AOp := { dst := some d, op := o, may := false }
abbrev gQ (d : Nat) (o : AOpk) (n : Nat) (b : Bool) : AOp := { dst := some d, op := o, guard := some (n, b) }
abbrev hQ (d : Nat) (o : AOpk) (n : Nat) (b : Bool) : AOp := { dst := some d, op := o, guard := some (n, b), may := false }
set_option maxRecDepth 100000
abbrev f_law12_ShowLengths : Nat := 6
abbrev f_law12_shown : Nat := 8
abbrev f_show_Quote : Nat := 10
abbrev f_ref12_Quote : Nat := 11
abbrev f_show_Text : Nat := 12
abbrev f_show_Word : Nat := 14
abbrev f_strings_ReplaceAll : Nat := 19
abbrev f_show_joined : Nat := 20
abbrev f_strings_Builder_WriteString : Nat := 22
abbrev f_show_part : Nat := 23
abbrev f_strings_Builder_String : Nat := 24
abbrev f_strings_Replace : Nat := 33
abbrev f_show_command : Nat := 34
abbrev f_strings_Join : Nat := 35
abbrev f_strings_Builder_copyCheck : Nat := 37
abbrev f_strings_Count : Nat := 46
abbrev f_strings_Builder_Grow : Nat := 47
abbrev f_strings_Index : Nat := 48
abbrev f_utf8_DecodeRuneInString : Nat := 49
abbrev f_show_lines : Nat := 50
abbrev f_show_simple : Nat := 51
abbrev f_abi_NoEscape : Nat := 53
abbrev f_utf8_RuneCountInString : Nat := 60
abbrev f_bytealg_CountString : Nat := 61
abbrev f_strings_Builder_grow : Nat := 62
abbrev f_stringslite_Index : Nat := 63
abbrev f_utf8_decodeRuneInStringSlow : Nat := 64
abbrev f_bytealg_MakeNoZero : Nat := 82
abbrev f_stringslite_IndexByte : Nat := 83
abbrev f_bytealg_IndexString : Nat := 84
abbrev f_bytealg_Cutover : Nat := 85
abbrev f_bytealg_IndexRabinKarp_string : Nat := 86
abbrev f_bytealg_IndexByteString : Nat := 97
abbrev f_bytealg_hashStr_string : Nat := 98
def o_law12_ShowLengths_0 : List AOp := [
 aQ 4 (.asg (.c (.d (.bool false))))]
def o_law12_ShowLengths_1 : List AOp := [
 aQ 9 (.callZ (.f f_law12_shown) []),
 aQ 5 (.asg (.t 9))]
def o_law12_ShowLengths_2 : List AOp := [
 aQ 10 (.mov (.t 0)),
 aQ 11 (.lenS (.t 10)),
 aQ 12 (.mov (.t 1)),
 aQ 13 (.lenS (.t 12)),
 aQ 14 (.bin .add (.t 11) (.t 13)),
 aQ 15 (.bin .gtr (.t 14) (.c (.nat .i64 2000)))]
def o_law12_ShowLengths_3 : List AOp := [
 aQ 16 (.mov (.t 5)),
 aQ 4 (.asg (.t 16))]
def o_law12_ShowLengths_4 : List AOp := [
 aQ 6 (.asg (.c (.nat .i64 0)))]
def o_law12_ShowLengths_5 : List AOp := [
 aQ 7 (.asg (.c (.nat .i64 0)))]
def o_law12_ShowLengths_6 : List AOp := [
 aQ 17 (.mov (.t 7)),
 aQ 18 (.mov (.t 0)),
 aQ 19 (.lenS (.t 18)),
 aQ 20 (.bin .lss (.t 17) (.t 19))]
def o_law12_ShowLengths_8 : List AOp := [
 aQ 23 (.mov (.t 0)),
 aQ 24 (.mov (.t 7)),
 aQ 25 (.idxS (.t 23) (.t 24)),
 aQ 26 (.bin .eql (.t 25) (.c (.nat .u8 39)))]
def o_law12_ShowLengths_9 : List AOp := [
 aQ 27 (.mov (.t 6)),
 aQ 28 (.bin .add (.t 27) (.c (.nat .i64 1))),
 aQ 6 (.asg (.t 28))]
def o_law12_ShowLengths_7 : List AOp := [
 aQ 21 (.mov (.t 7)),
 aQ 22 (.bin .add (.t 21) (.c (.nat .i64 1))),
 aQ 7 (.asg (.t 22))]
def b_law12_ShowLengths_0 : AC := (.seq (.seq (.ops o_law12_ShowLengths_6)
 (.cond (.t 20) .skip (.exit 0)))
 (.seq (.trim [0, 1, 5, 6, 7] (.block 1 (.seq (.ops o_law12_ShowLengths_8)
 (.cond (.t 26) (.ops o_law12_ShowLengths_9) .skip))))
 (.ops o_law12_ShowLengths_7)))
def o_law12_ShowLengths_10 : List AOp := [
 aQ 29 (.mov (.t 0)),
 aQ 30 (.call (.f f_show_Quote) [.t 29]),
 aQ 8 (.asg (.t 30))]
def o_law12_ShowLengths_11 : List AOp := [
 aQ 31 (.mov (.t 5)),
 aQ 32 (.mov (.t 31)),
 gQ 33 (.mov (.t 8)) 32 true,
 gQ 34 (.lenS (.t 33)) 32 true,
 gQ 35 (.mov (.t 0)) 32 true,
 gQ 36 (.lenS (.t 35)) 32 true,
 gQ 37 (.bin .add (.t 36) (.c (.nat .i64 2))) 32 true,
 gQ 38 (.mov (.t 6)) 32 true,
 gQ 39 (.bin .mul (.c (.nat .i64 3)) (.t 38)) 32 true,
 gQ 40 (.bin .add (.t 37) (.t 39)) 32 true,
 gQ 41 (.bin .eql (.t 34) (.t 40)) 32 true,
 aQ 42 (.pick (.t 32) (.t 41) (.c (.d (.bool false)))),
 aQ 43 (.mov (.t 42)),
 gQ 44 (.mov (.t 8)) 43 true,
 gQ 45 (.mov (.t 1)) 43 true,
 gQ 46 (.call (.f f_show_Quote) [.t 45]) 43 true,
 gQ 47 (.bin .eql (.t 44) (.t 46)) 43 true,
 gQ 48 (.mov (.t 0)) 43 true,
 gQ 49 (.mov (.t 1)) 43 true,
 gQ 50 (.bin .eql (.t 48) (.t 49)) 43 true,
 gQ 51 (.beq false (.t 47) (.t 50)) 43 true,
 aQ 52 (.pick (.t 43) (.t 51) (.c (.d (.bool false)))),
 aQ 53 (.mov (.t 52)),
 gQ 54 (.mov (.t 8)) 53 true,
 gQ 55 (.mov (.t 0)) 53 true,
 gQ 56 (.call (.f f_ref12_Quote) [.t 55]) 53 true,
 gQ 57 (.bin .eql (.t 54) (.t 56)) 53 true,
 aQ 58 (.pick (.t 53) (.t 57) (.c (.d (.bool false)))),
 aQ 4 (.asg (.t 58))]
def c_law12_ShowLengths : AC :=
 (.seq (.ops o_law12_ShowLengths_0)
 (.seq (.ops o_law12_ShowLengths_1)
 (.seq (.seq (.ops o_law12_ShowLengths_2)
 (.cond (.t 15) (.seq (.ops o_law12_ShowLengths_3)
 .ret) .skip))
 (.seq (.ops o_law12_ShowLengths_4)
 (.seq (.seq (.ops o_law12_ShowLengths_5)
 (.trim [0, 1, 5, 6] (.block 0 (.loop [0, 1, 5, 6, 7] b_law12_ShowLengths_0))))
 (.seq (.ops o_law12_ShowLengths_10)
 (.seq (.ops o_law12_ShowLengths_11)
 .ret)))))))
def a_law12_ShowLengths : AFn := { body := c_law12_ShowLengths, res := [.tmp 4] }
def o_law12_shown_0 : List AOp := [
 aQ 0 (.asg (.c (.d (.bool false))))]
def o_law12_shown_1 : List AOp := [
 aQ 1 (.call (.f f_show_Quote) [.c (.d (.str [97, 39, 98]))]),
 aQ 2 (.bin .eql (.t 1) (.c (.d (.str [39, 97, 39, 92, 39, 39, 98, 39])))),
 aQ 3 (.mov (.t 2)),
 gQ 4 (.mkls 1 [.d (.str [])] [(0, 1, (.c (.d (.str [120]))))]) 3 true,
 gQ 5 (.build [.nil] []) 3 true,
 gQ 6 (.mkls 1 [.nil] [(0, 1, (.t 5))]) 3 true,
 gQ 7 (.build [.nat .i64 0, .nil, .nil, .nil, .nil, .nil, .nil] [(0, 1, (.c (.nat .i64 1))), (1, 1, (.t 4)), (2, 1, (.t 6))]) 3 true,
 gQ 8 (.mkls 7 [.nat .i64 0, .nil, .nil, .nil, .nil, .nil, .nil] [(0, 7, (.t 7))]) 3 true,
 gQ 9 (.call (.f f_show_Text) [.t 8]) 3 true,
 gQ 10 (.bin .eql (.t 9) (.c (.d (.str [120, 61])))) 3 true,
 aQ 11 (.pick (.t 3) (.t 10) (.c (.d (.bool false)))),
 aQ 0 (.asg (.t 11))]
def c_law12_shown : AC :=
 (.seq (.ops o_law12_shown_0)
 (.seq (.ops o_law12_shown_1)
 .ret))
def a_law12_shown : AFn := { body := c_law12_shown, res := [.tmp 0] }
def o_show_Quote_0 : List AOp := [
 aQ 2 (.asg (.c (.d (.str []))))]
def o_show_Quote_1 : List AOp := [
 aQ 3 (.mov (.t 0)),
 aQ 4 (.call (.f f_strings_ReplaceAll) [.t 3, .c (.d (.str [39])), .c (.d (.str [39, 92, 39, 39]))]),
 aQ 5 (.bin .add (.c (.d (.str [39]))) (.t 4)),
 aQ 6 (.bin .add (.t 5) (.c (.d (.str [39])))),
 aQ 2 (.asg (.t 6))]
def c_show_Quote : AC :=
 (.seq (.ops o_show_Quote_0)
 (.seq (.ops o_show_Quote_1)
 .ret))
def a_show_Quote : AFn := { body := c_show_Quote, res := [.tmp 2] }
def o_ref12_Quote_0 : List AOp := [
 aQ 2 (.asg (.c (.d (.str []))))]
def o_ref12_Quote_1 : List AOp := [
 aQ 3 (.asg (.c (.d (.str [39]))))]
def o_ref12_Quote_2 : List AOp := [
 aQ 4 (.asg (.c (.nat .i64 0)))]
def o_ref12_Quote_3 : List AOp := [
 aQ 5 (.mov (.t 4)),
 aQ 6 (.mov (.t 0)),
 aQ 7 (.lenS (.t 6)),
 aQ 8 (.bin .lss (.t 5) (.t 7))]
def o_ref12_Quote_5 : List AOp := [
 aQ 11 (.mov (.t 0)),
 aQ 12 (.mov (.t 4)),
 aQ 13 (.idxS (.t 11) (.t 12)),
 aQ 14 (.bin .eql (.t 13) (.c (.nat .u8 39)))]
def o_ref12_Quote_6 : List AOp := [
 aQ 15 (.mov (.t 3)),
 aQ 16 (.bin .add (.t 15) (.c (.d (.str [39, 92, 39, 39])))),
 aQ 3 (.asg (.t 16))]
def o_ref12_Quote_7 : List AOp := [
 aQ 17 (.mov (.t 3)),
 aQ 18 (.mov (.t 0)),
 aQ 19 (.mov (.t 4)),
 aQ 20 (.mov (.t 4)),
 aQ 21 (.bin .add (.t 20) (.c (.nat .i64 1))),
 aQ 22 (.sliceS (.t 18) (some (.t 19)) (some (.t 21))),
 aQ 23 (.bin .add (.t 17) (.t 22)),
 aQ 3 (.asg (.t 23))]
def o_ref12_Quote_4 : List AOp := [
 aQ 9 (.mov (.t 4)),
 aQ 10 (.bin .add (.t 9) (.c (.nat .i64 1))),
 aQ 4 (.asg (.t 10))]
def b_ref12_Quote_0 : AC := (.seq (.seq (.ops o_ref12_Quote_3)
 (.cond (.t 8) .skip (.exit 0)))
 (.seq (.trim [0, 3, 4] (.block 1 (.seq (.ops o_ref12_Quote_5)
 (.cond (.t 14) (.ops o_ref12_Quote_6) (.ops o_ref12_Quote_7)))))
 (.ops o_ref12_Quote_4)))
def o_ref12_Quote_8 : List AOp := [
 aQ 24 (.mov (.t 3)),
 aQ 25 (.bin .add (.t 24) (.c (.d (.str [39])))),
 aQ 2 (.asg (.t 25))]
def c_ref12_Quote : AC :=
 (.seq (.ops o_ref12_Quote_0)
 (.seq (.ops o_ref12_Quote_1)
 (.seq (.seq (.ops o_ref12_Quote_2)
 (.trim [3] (.block 0 (.loop [0, 3, 4] b_ref12_Quote_0))))
 (.seq (.ops o_ref12_Quote_8)
 .ret))))
def a_ref12_Quote : AFn := { body := c_ref12_Quote, res := [.tmp 2] }
def o_show_Text_0 : List AOp := [
 aQ 2 (.asg (.c (.d (.str []))))]
def o_show_Text_1 : List AOp := [
 aQ 3 (.mov (.t 0)),
 aQ 4 (.call (.f f_show_joined) [.t 3, .c (.d (.str [10]))]),
 aQ 2 (.asg (.t 4))]
def c_show_Text : AC :=
 (.seq (.ops o_show_Text_0)
 (.seq (.ops o_show_Text_1)
 .ret))
def a_show_Text : AFn := { body := c_show_Text, res := [.tmp 2] }
def o_show_joined_0 : List AOp := [
 aQ 4 (.asg (.c (.d (.str []))))]
def o_show_joined_1 : List AOp := [
 aQ 5 (.asg (.c (.nil)))]
def o_show_joined_2 : List AOp := [
 aQ 8 (.mov (.t 0)),
 aQ 9 (.len (.t 8)),
 aQ 10 (.mov (.c (.nat .i64 0)))]
def o_show_joined_3 : List AOp := [
 aQ 11 (.bin .lss (.t 10) (.t 9))]
def o_show_joined_4 : List AOp := [
 aQ 12 (.idxA none 7 (.t 8) (.t 10)),
 aQ 13 (.load (some 7) (.t 12)),
 aQ 7 (.alloc [.nat .i64 0, .nil, .nil, .nil, .nil, .nil, .nil]),
 { dst := none, op := .store 7 (.t 7) (.t 13) }]
def o_show_joined_5 : List AOp := [
 aQ 14 (.take 5),
 aQ 15 (.load (some 7) (.t 7)),
 aQ 16 (.call (.f f_show_command) [.t 15]),
 aQ 17 (.mkls 1 [.d (.str [])] [(0, 1, (.t 16))]),
 aQ 18 (.append 1 (.t 14) (.t 17)),
 aQ 5 (.asg (.t 18))]
def o_show_joined_6 : List AOp := [
 aQ 19 (.bin .add (.t 10) (.c (.nat .i64 1))),
 aQ 10 (.mov (.t 19))]
def b_show_joined_0 : AC := (.seq (.ops o_show_joined_3)
 (.seq (.cond (.t 11) .skip (.exit 0))
 (.seq (.trim [1, 5, 8, 9, 10] (.block 1 (.seq (.ops o_show_joined_4)
 (.ops o_show_joined_5))))
 (.ops o_show_joined_6))))
def o_show_joined_7 : List AOp := [
 aQ 20 (.mov (.t 5)),
 aQ 21 (.mov (.t 1)),
 aQ 22 (.call (.f f_strings_Join) [.t 20, .t 21]),
 aQ 4 (.asg (.t 22))]
def c_show_joined : AC :=
 (.seq (.ops o_show_joined_0)
 (.seq (.ops o_show_joined_1)
 (.seq (.seq (.ops o_show_joined_2)
 (.trim [1, 5] (.block 0 (.loop [1, 5, 8, 9, 10] b_show_joined_0))))
 (.seq (.ops o_show_joined_7)
 .ret))))
def a_show_joined : AFn := { body := c_show_joined, res := [.tmp 4] }
def o_strings_Builder_WriteString_0 : List AOp := [
 aQ 4 (.asg (.c (.nat .i64 0))),
 aQ 5 (.asg (.c (.d .nilI)))]
def o_strings_Builder_WriteString_1 : List AOp := [
 aQ 6 (.mov (.t 0)),
 aQ 7 (.call (.f f_strings_Builder_copyCheck) [.t 6])]
def o_strings_Builder_WriteString_2 : List AOp := [
 aQ 8 (.mov (.t 0)),
 aQ 9 (.mov (.t 0)),
 aQ 10 (.nilchk (.t 9)),
 aQ 11 (.fldA 1 (.t 10)),
 aQ 12 (.takeload (.t 11)),
 aQ 13 (.mov (.t 1)),
 aQ 14 (.append 1 (.t 12) (.t 13)),
 aQ 15 (.nilchk (.t 8)),
 aQ 16 (.fldA 1 (.t 15)),
 { dst := none, op := .store 1 (.t 16) (.t 14) }]
def o_strings_Builder_WriteString_3 : List AOp := [
 aQ 17 (.mov (.t 1)),
 aQ 18 (.lenS (.t 17)),
 aQ 4 (.asg (.t 18)),
 aQ 5 (.asg (.c (.d .nilI)))]
def c_strings_Builder_WriteString : AC :=
 (.seq (.ops o_strings_Builder_WriteString_0)
 (.seq (.ops o_strings_Builder_WriteString_1)
 (.seq (.ops o_strings_Builder_WriteString_2)
 (.seq (.ops o_strings_Builder_WriteString_3)
 .ret))))
def a_strings_Builder_WriteString : AFn := { body := c_strings_Builder_WriteString, res := [.tmp 4, .tmp 5] }
def o_strings_Builder_String_0 : List AOp := [
 aQ 2 (.asg (.c (.d (.str []))))]
def c_strings_Builder_String : AC :=
 (.seq (.ops o_strings_Builder_String_0)
 (.seq .hole
 .ret))
def a_strings_Builder_String : AFn := { body := c_strings_Builder_String, res := [.tmp 2] }
def o_show_command_0 : List AOp := [
 aQ 1 (.box (.t 0)),
 aQ 2 (.asg (.c (.d (.str []))))]
def o_show_command_1 : List AOp := [
 aQ 6 (.fldA 0 (.t 1)),
 aQ 7 (.load none (.t 6))]
def o_show_command_2 : List AOp := [
 aQ 9 (.bin .eql (.t 7) (.c (.nat .i64 2))),
 aQ 8 (.asg (.t 9))]
def o_show_command_3 : List AOp := [
 aQ 10 (.fldA 4 (.t 1)),
 aQ 11 (.load none (.t 10)),
 aQ 12 (.call (.f f_show_joined) [.t 11, .c (.d (.str [32, 124, 32]))]),
 aQ 2 (.asg (.t 12))]
def o_show_command_4 : List AOp := [
 aQ 14 (.bin .eql (.t 7) (.c (.nat .i64 3))),
 aQ 13 (.asg (.t 14))]
def o_show_command_5 : List AOp := [
 aQ 15 (.fldA 4 (.t 1)),
 aQ 16 (.load none (.t 15)),
 aQ 17 (.call (.f f_show_joined) [.t 16, .c (.d (.str [32, 124, 124, 32]))]),
 aQ 2 (.asg (.t 17))]
def o_show_command_6 : List AOp := [
 aQ 19 (.bin .eql (.t 7) (.c (.nat .i64 4))),
 aQ 18 (.asg (.t 19))]
def o_show_command_7 : List AOp := [
 aQ 20 (.fldA 6 (.t 1)),
 aQ 21 (.load none (.t 20)),
 aQ 22 (.len (.t 21)),
 aQ 23 (.bin .eql (.t 22) (.c (.nat .i64 0)))]
def o_show_command_8 : List AOp := [
 mQ 24 (.fldA 4 (.t 1)),
 mQ 25 (.load none (.t 24)),
 mQ 26 (.callQ (.f f_show_Text) [.t 25]),
 mQ 27 (.bin .add (.c (.d (.str [105, 102, 32]))) (.t 26)),
 mQ 28 (.fldA 5 (.t 1)),
 mQ 29 (.load none (.t 28)),
 mQ 30 (.call (.f f_show_Text) [.t 29]),
 aQ 31 (.mkls 1 [.d (.str []), .d (.str []), .d (.str []), .d (.str [])] [(0, 1, (.t 27)), (1, 1, (.c (.d (.str [116, 104, 101, 110])))), (2, 1, (.t 30)), (3, 1, (.c (.d (.str [102, 105]))))]),
 aQ 32 (.call (.f f_show_lines) [.t 31]),
 aQ 2 (.asg (.t 32))]
def o_show_command_9 : List AOp := [
 mQ 33 (.fldA 4 (.t 1)),
 mQ 34 (.load none (.t 33)),
 mQ 35 (.callQ (.f f_show_Text) [.t 34]),
 mQ 36 (.bin .add (.c (.d (.str [105, 102, 32]))) (.t 35)),
 mQ 37 (.fldA 5 (.t 1)),
 mQ 38 (.load none (.t 37)),
 mQ 39 (.callQ (.f f_show_Text) [.t 38]),
 mQ 40 (.fldA 6 (.t 1)),
 mQ 41 (.load none (.t 40)),
 mQ 42 (.call (.f f_show_Text) [.t 41]),
 aQ 43 (.mkls 1 [.d (.str []), .d (.str []), .d (.str []), .d (.str []), .d (.str []), .d (.str [])] [(0, 1, (.t 36)), (1, 1, (.c (.d (.str [116, 104, 101, 110])))), (2, 1, (.t 39)), (3, 1, (.c (.d (.str [101, 108, 115, 101])))), (4, 1, (.t 42)), (5, 1, (.c (.d (.str [102, 105]))))]),
 aQ 44 (.call (.f f_show_lines) [.t 43]),
 aQ 2 (.asg (.t 44))]
def o_show_command_10 : List AOp := [
 aQ 46 (.bin .eql (.t 7) (.c (.nat .i64 5))),
 aQ 45 (.asg (.t 46))]
def o_show_command_11 : List AOp := [
 mQ 47 (.fldA 4 (.t 1)),
 mQ 48 (.load none (.t 47)),
 mQ 49 (.callQ (.f f_show_Text) [.t 48]),
 mQ 50 (.bin .add (.c (.d (.str [119, 104, 105, 108, 101, 32]))) (.t 49)),
 mQ 51 (.fldA 5 (.t 1)),
 mQ 52 (.load none (.t 51)),
 mQ 53 (.call (.f f_show_Text) [.t 52]),
 aQ 54 (.mkls 1 [.d (.str []), .d (.str []), .d (.str []), .d (.str [])] [(0, 1, (.t 50)), (1, 1, (.c (.d (.str [100, 111])))), (2, 1, (.t 53)), (3, 1, (.c (.d (.str [100, 111, 110, 101]))))]),
 aQ 55 (.call (.f f_show_lines) [.t 54]),
 aQ 2 (.asg (.t 55))]
def o_show_command_12 : List AOp := [
 aQ 57 (.bin .eql (.t 7) (.c (.nat .i64 6))),
 aQ 56 (.asg (.t 57))]
def o_show_command_13 : List AOp := [
 aQ 58 (.fldA 1 (.t 1)),
 aQ 59 (.load none (.t 58)),
 aQ 60 (.idxA none 1 (.t 59) (.c (.nat .i64 0))),
 aQ 61 (.load none (.t 60)),
 aQ 62 (.bin .add (.c (.d (.str [102, 111, 114, 32]))) (.t 61)),
 aQ 63 (.bin .add (.t 62) (.c (.d (.str [32, 105, 110])))),
 aQ 3 (.asg (.t 63))]
def o_show_command_14 : List AOp := [
 aQ 64 (.fldA 3 (.t 1)),
 aQ 65 (.load none (.t 64)),
 aQ 66 (.len (.t 65)),
 aQ 67 (.mov (.c (.nat .i64 0)))]
def o_show_command_15 : List AOp := [
 aQ 68 (.bin .lss (.t 67) (.t 66))]
def o_show_command_16 : List AOp := [
 aQ 69 (.idxA none 1 (.t 65) (.t 67)),
 aQ 70 (.load (some 1) (.t 69)),
 aQ 5 (.alloc [.nil]),
 { dst := none, op := .store 1 (.t 5) (.t 70) }]
def o_show_command_17 : List AOp := [
 aQ 71 (.mov (.t 3)),
 aQ 72 (.load (some 1) (.t 5)),
 aQ 73 (.call (.f f_show_Word) [.t 72]),
 aQ 74 (.bin .add (.c (.d (.str [32]))) (.t 73)),
 aQ 75 (.bin .add (.t 71) (.t 74)),
 aQ 3 (.asg (.t 75))]
def o_show_command_18 : List AOp := [
 aQ 76 (.bin .add (.t 67) (.c (.nat .i64 1))),
 aQ 67 (.mov (.t 76))]
def b_show_command_0 : AC := (.seq (.ops o_show_command_15)
 (.seq (.cond (.t 68) .skip (.exit 1))
 (.seq (.trim [1, 3, 65, 66, 67] (.block 2 (.seq (.ops o_show_command_16)
 (.ops o_show_command_17))))
 (.ops o_show_command_18))))
def o_show_command_19 : List AOp := [
 aQ 77 (.mov (.t 3)),
 aQ 78 (.fldA 5 (.t 1)),
 aQ 79 (.load none (.t 78)),
 aQ 80 (.call (.f f_show_Text) [.t 79]),
 aQ 81 (.mkls 1 [.d (.str []), .d (.str []), .d (.str []), .d (.str [])] [(0, 1, (.t 77)), (1, 1, (.c (.d (.str [100, 111])))), (2, 1, (.t 80)), (3, 1, (.c (.d (.str [100, 111, 110, 101]))))]),
 aQ 82 (.call (.f f_show_lines) [.t 81]),
 aQ 2 (.asg (.t 82))]
def o_show_command_20 : List AOp := [
 aQ 83 (.load (some 7) (.t 1)),
 aQ 84 (.call (.f f_show_simple) [.t 83]),
 aQ 2 (.asg (.t 84))]
def c_show_command : AC :=
 (.seq (.ops o_show_command_0)
 (.seq (.seq (.ops o_show_command_1)
 (.trim [1] (.block 0 (.seq (.ops o_show_command_2)
 (.cond (.t 8) (.seq (.ops o_show_command_3)
 .ret) (.seq (.ops o_show_command_4)
 (.cond (.t 13) (.seq (.ops o_show_command_5)
 .ret) (.seq (.ops o_show_command_6)
 (.cond (.t 18) (.seq (.seq (.ops o_show_command_7)
 (.cond (.t 23) (.seq (.ops o_show_command_8)
 .ret) .skip))
 (.seq (.ops o_show_command_9)
 .ret)) (.seq (.ops o_show_command_10)
 (.cond (.t 45) (.seq (.ops o_show_command_11)
 .ret) (.seq (.ops o_show_command_12)
 (.cond (.t 56) (.seq (.ops o_show_command_13)
 (.seq (.seq (.ops o_show_command_14)
 (.trim [1, 3] (.block 1 (.loop [1, 3, 65, 66, 67] b_show_command_0))))
 (.seq (.ops o_show_command_19)
 .ret))) .skip)))))))))))))
 (.seq (.ops o_show_command_20)
 .ret)))
def a_show_command : AFn := { body := c_show_command, res := [.tmp 2] }
def o_strings_Join_0 : List AOp := [
 aQ 4 (.asg (.c (.d (.str []))))]
def o_strings_Join_1 : List AOp := [
 aQ 11 (.mov (.t 0)),
 aQ 12 (.len (.t 11))]
def o_strings_Join_2 : List AOp := [
 aQ 14 (.bin .eql (.t 12) (.c (.nat .i64 0))),
 aQ 13 (.asg (.t 14))]
def o_strings_Join_3 : List AOp := [
 aQ 4 (.asg (.c (.d (.str []))))]
def o_strings_Join_4 : List AOp := [
 aQ 16 (.bin .eql (.t 12) (.c (.nat .i64 1))),
 aQ 15 (.asg (.t 16))]
def o_strings_Join_5 : List AOp := [
 aQ 17 (.mov (.t 0)),
 aQ 18 (.idxA none 1 (.t 17) (.c (.nat .i64 0))),
 aQ 19 (.load none (.t 18)),
 aQ 4 (.asg (.t 19))]
def o_strings_Join_6 : List AOp := [
 aQ 5 (.asg (.c (.nat .i64 0)))]
def o_strings_Join_7 : List AOp := [
 aQ 20 (.mov (.t 1)),
 aQ 21 (.lenS (.t 20)),
 aQ 22 (.bin .gtr (.t 21) (.c (.nat .i64 0)))]
def o_strings_Join_8 : List AOp := [
 aQ 23 (.mov (.t 1)),
 aQ 24 (.lenS (.t 23)),
 aQ 25 (.mov (.t 0)),
 aQ 26 (.len (.t 25)),
 aQ 27 (.bin .sub (.t 26) (.c (.nat .i64 1))),
 aQ 28 (.bin .quo (.c (.nat .i64 9223372036854775807)) (.t 27)),
 aQ 29 (.bin .geq (.t 24) (.t 28))]
def o_strings_Join_9 : List AOp := [
 aQ 30 (.mkifc 9 (.c (.d (.str [115, 116, 114, 105, 110, 103, 115, 58, 32, 74, 111, 105, 110, 32, 111, 117, 116, 112, 117, 116, 32, 108, 101, 110, 103, 116, 104, 32, 111, 118, 101, 114, 102, 108, 111, 119])))),
 { dst := none, op := .panic (.t 30) }]
def o_strings_Join_10 : List AOp := [
 aQ 31 (.mov (.t 5)),
 aQ 32 (.mov (.t 1)),
 aQ 33 (.lenS (.t 32)),
 aQ 34 (.mov (.t 0)),
 aQ 35 (.len (.t 34)),
 aQ 36 (.bin .sub (.t 35) (.c (.nat .i64 1))),
 aQ 37 (.bin .mul (.t 33) (.t 36)),
 aQ 38 (.bin .add (.t 31) (.t 37)),
 aQ 5 (.asg (.t 38))]
def o_strings_Join_11 : List AOp := [
 aQ 39 (.mov (.t 0)),
 aQ 40 (.len (.t 39)),
 aQ 41 (.mov (.c (.nat .i64 0)))]
def o_strings_Join_12 : List AOp := [
 aQ 42 (.bin .lss (.t 41) (.t 40))]
def o_strings_Join_13 : List AOp := [
 aQ 43 (.idxA none 1 (.t 39) (.t 41)),
 aQ 44 (.load none (.t 43)),
 aQ 7 (.asg (.t 44))]
def o_strings_Join_14 : List AOp := [
 aQ 45 (.mov (.t 7)),
 aQ 46 (.lenS (.t 45)),
 aQ 47 (.mov (.t 5)),
 aQ 48 (.bin .sub (.c (.nat .i64 9223372036854775807)) (.t 47)),
 aQ 49 (.bin .gtr (.t 46) (.t 48))]
def o_strings_Join_15 : List AOp := [
 aQ 50 (.mkifc 9 (.c (.d (.str [115, 116, 114, 105, 110, 103, 115, 58, 32, 74, 111, 105, 110, 32, 111, 117, 116, 112, 117, 116, 32, 108, 101, 110, 103, 116, 104, 32, 111, 118, 101, 114, 102, 108, 111, 119])))),
 { dst := none, op := .panic (.t 50) }]
def o_strings_Join_16 : List AOp := [
 aQ 51 (.mov (.t 5)),
 aQ 52 (.mov (.t 7)),
 aQ 53 (.lenS (.t 52)),
 aQ 54 (.bin .add (.t 51) (.t 53)),
 aQ 5 (.asg (.t 54))]
def o_strings_Join_17 : List AOp := [
 aQ 55 (.bin .add (.t 41) (.c (.nat .i64 1))),
 aQ 41 (.mov (.t 55))]
def b_strings_Join_0 : AC := (.seq (.ops o_strings_Join_12)
 (.seq (.cond (.t 42) .skip (.exit 1))
 (.seq (.trim [0, 1, 5, 39, 40, 41] (.block 2 (.seq (.ops o_strings_Join_13)
 (.seq (.seq (.ops o_strings_Join_14)
 (.cond (.t 49) (.ops o_strings_Join_15) .skip))
 (.ops o_strings_Join_16)))))
 (.ops o_strings_Join_17))))
def o_strings_Join_18 : List AOp := [
 aQ 8 (.alloc [.d .nilp, .nil])]
def o_strings_Join_19 : List AOp := [
 aQ 56 (.mov (.t 5)),
 aQ 57 (.call (.f f_strings_Builder_Grow) [.t 8, .t 56])]
def o_strings_Join_20 : List AOp := [
 aQ 58 (.mov (.t 0)),
 aQ 59 (.idxA none 1 (.t 58) (.c (.nat .i64 0))),
 aQ 60 (.load none (.t 59)),
 aQ 61 (.call (.f f_strings_Builder_WriteString) [.t 8, .t 60])]
def o_strings_Join_21 : List AOp := [
 aQ 62 (.mov (.t 0)),
 aQ 63 (.slice 1 (.t 62) (some (.c (.nat .i64 1))) none),
 aQ 64 (.len (.t 63)),
 aQ 65 (.mov (.c (.nat .i64 0)))]
def o_strings_Join_22 : List AOp := [
 aQ 66 (.bin .lss (.t 65) (.t 64))]
def o_strings_Join_23 : List AOp := [
 aQ 67 (.idxA none 1 (.t 63) (.t 65)),
 aQ 68 (.load none (.t 67)),
 aQ 10 (.asg (.t 68))]
def o_strings_Join_24 : List AOp := [
 aQ 69 (.mov (.t 1)),
 aQ 70 (.call (.f f_strings_Builder_WriteString) [.t 8, .t 69])]
def o_strings_Join_25 : List AOp := [
 aQ 71 (.mov (.t 10)),
 aQ 72 (.call (.f f_strings_Builder_WriteString) [.t 8, .t 71])]
def o_strings_Join_26 : List AOp := [
 aQ 73 (.bin .add (.t 65) (.c (.nat .i64 1))),
 aQ 65 (.mov (.t 73))]
def b_strings_Join_1 : AC := (.seq (.ops o_strings_Join_22)
 (.seq (.cond (.t 66) .skip (.exit 3))
 (.seq (.trim [1, 8, 63, 64, 65] (.block 4 (.seq (.ops o_strings_Join_23)
 (.seq (.ops o_strings_Join_24)
 (.ops o_strings_Join_25)))))
 (.ops o_strings_Join_26))))
def o_strings_Join_27 : List AOp := [
 aQ 74 (.call (.f f_strings_Builder_String) [.t 8]),
 aQ 4 (.asg (.t 74))]
def c_strings_Join : AC :=
 (.seq (.ops o_strings_Join_0)
 (.seq (.seq (.ops o_strings_Join_1)
 (.trim [0, 1] (.block 0 (.seq (.ops o_strings_Join_2)
 (.cond (.t 13) (.seq (.ops o_strings_Join_3)
 .ret) (.seq (.ops o_strings_Join_4)
 (.cond (.t 15) (.seq (.ops o_strings_Join_5)
 .ret) .skip)))))))
 (.seq (.ops o_strings_Join_6)
 (.seq (.seq (.ops o_strings_Join_7)
 (.cond (.t 22) (.seq (.seq (.ops o_strings_Join_8)
 (.cond (.t 29) (.ops o_strings_Join_9) .skip))
 (.ops o_strings_Join_10)) .skip))
 (.seq (.seq (.ops o_strings_Join_11)
 (.trim [0, 1, 5] (.block 1 (.loop [0, 1, 5, 39, 40, 41] b_strings_Join_0))))
 (.seq (.ops o_strings_Join_18)
 (.seq (.ops o_strings_Join_19)
 (.seq (.ops o_strings_Join_20)
 (.seq (.seq (.ops o_strings_Join_21)
 (.trim [8] (.block 3 (.loop [1, 8, 63, 64, 65] b_strings_Join_1))))
 (.seq (.ops o_strings_Join_27)
 .ret))))))))))
def a_strings_Join : AFn := { body := c_strings_Join, res := [.tmp 4] }
def o_strings_Builder_copyCheck_0 : List AOp := [
 aQ 2 (.mov (.t 0)),
 aQ 3 (.nilchk (.t 2)),
 aQ 4 (.fldA 0 (.t 3)),
 aQ 5 (.load none (.t 4)),
 aQ 6 (.eqnil 0 false (.t 5))]
def c_strings_Builder_copyCheck : AC :=
 (.seq (.ops o_strings_Builder_copyCheck_0)
 (.cond (.t 6) .hole (.seq .hole
 (.cond (.t 19) .hole .skip))))
def a_strings_Builder_copyCheck : AFn := { body := c_strings_Builder_copyCheck, res := [] }
def o_strings_Builder_Grow_0 : List AOp := [
 aQ 4 (.mov (.t 0)),
 aQ 5 (.call (.f f_strings_Builder_copyCheck) [.t 4])]
def o_strings_Builder_Grow_1 : List AOp := [
 aQ 6 (.mov (.t 1)),
 aQ 7 (.bin .lss (.t 6) (.c (.nat .i64 0)))]
def o_strings_Builder_Grow_2 : List AOp := [
 aQ 8 (.mkifc 9 (.c (.d (.str [115, 116, 114, 105, 110, 103, 115, 46, 66, 117, 105, 108, 100, 101, 114, 46, 71, 114, 111, 119, 58, 32, 110, 101, 103, 97, 116, 105, 118, 101, 32, 99, 111, 117, 110, 116])))),
 { dst := none, op := .panic (.t 8) }]
def o_strings_Builder_Grow_4 : List AOp := [
 aQ 22 (.mov (.t 0)),
 aQ 23 (.mov (.t 1)),
 aQ 24 (.call (.f f_strings_Builder_grow) [.t 22, .t 23])]
def c_strings_Builder_Grow : AC :=
 (.seq (.ops o_strings_Builder_Grow_0)
 (.seq (.seq (.ops o_strings_Builder_Grow_1)
 (.cond (.t 7) (.ops o_strings_Builder_Grow_2) .skip))
 (.seq .hole
 (.cond (.t 21) (.ops o_strings_Builder_Grow_4) .skip))))
def a_strings_Builder_Grow : AFn := { body := c_strings_Builder_Grow, res := [] }
def o_show_lines_0 : List AOp := [
 aQ 2 (.asg (.c (.d (.str []))))]
def o_show_lines_1 : List AOp := [
 aQ 3 (.mov (.t 0)),
 aQ 4 (.call (.f f_strings_Join) [.t 3, .c (.d (.str [10]))]),
 aQ 2 (.asg (.t 4))]
def c_show_lines : AC :=
 (.seq (.ops o_show_lines_0)
 (.seq (.ops o_show_lines_1)
 .ret))
def a_show_lines : AFn := { body := c_show_lines, res := [.tmp 2] }
def o_show_simple_0 : List AOp := [
 aQ 1 (.box (.t 0)),
 aQ 2 (.asg (.c (.d (.str []))))]
def o_show_simple_1 : List AOp := [
 aQ 3 (.asg (.c (.nil)))]
def o_show_simple_2 : List AOp := [
 aQ 8 (.fldA 1 (.t 1)),
 aQ 9 (.load none (.t 8)),
 aQ 10 (.len (.t 9)),
 aQ 11 (.mov (.c (.nat .i64 0)))]
def o_show_simple_3 : List AOp := [
 aQ 12 (.bin .lss (.t 11) (.t 10))]
def o_show_simple_4 : List AOp := [
 aQ 13 (.mov (.t 11)),
 aQ 14 (.idxA none 1 (.t 9) (.t 11)),
 aQ 15 (.load none (.t 14)),
 aQ 4 (.asg (.t 13)),
 aQ 5 (.asg (.t 15))]
def o_show_simple_5 : List AOp := [
 aQ 16 (.take 3),
 aQ 17 (.mov (.t 5)),
 aQ 18 (.bin .add (.t 17) (.c (.d (.str [61])))),
 aQ 19 (.fldA 2 (.t 1)),
 aQ 20 (.load none (.t 19)),
 aQ 21 (.mov (.t 4)),
 aQ 22 (.idxA none 1 (.t 20) (.t 21)),
 aQ 23 (.load (some 1) (.t 22)),
 aQ 24 (.call (.f f_show_Word) [.t 23]),
 aQ 25 (.bin .add (.t 18) (.t 24)),
 aQ 26 (.mkls 1 [.d (.str [])] [(0, 1, (.t 25))]),
 aQ 27 (.append 1 (.t 16) (.t 26)),
 aQ 3 (.asg (.t 27))]
def o_show_simple_6 : List AOp := [
 aQ 28 (.bin .add (.t 11) (.c (.nat .i64 1))),
 aQ 11 (.mov (.t 28))]
def b_show_simple_0 : AC := (.seq (.ops o_show_simple_3)
 (.seq (.cond (.t 12) .skip (.exit 0))
 (.seq (.trim [1, 3, 9, 10, 11] (.block 1 (.seq (.ops o_show_simple_4)
 (.ops o_show_simple_5))))
 (.ops o_show_simple_6))))
def o_show_simple_7 : List AOp := [
 aQ 29 (.fldA 3 (.t 1)),
 aQ 30 (.load none (.t 29)),
 aQ 31 (.len (.t 30)),
 aQ 32 (.mov (.c (.nat .i64 0)))]
def o_show_simple_8 : List AOp := [
 aQ 33 (.bin .lss (.t 32) (.t 31))]
def o_show_simple_9 : List AOp := [
 aQ 34 (.idxA none 1 (.t 30) (.t 32)),
 aQ 35 (.load (some 1) (.t 34)),
 aQ 7 (.alloc [.nil]),
 { dst := none, op := .store 1 (.t 7) (.t 35) }]
def o_show_simple_10 : List AOp := [
 aQ 36 (.take 3),
 aQ 37 (.load (some 1) (.t 7)),
 aQ 38 (.call (.f f_show_Word) [.t 37]),
 aQ 39 (.mkls 1 [.d (.str [])] [(0, 1, (.t 38))]),
 aQ 40 (.append 1 (.t 36) (.t 39)),
 aQ 3 (.asg (.t 40))]
def o_show_simple_11 : List AOp := [
 aQ 41 (.bin .add (.t 32) (.c (.nat .i64 1))),
 aQ 32 (.mov (.t 41))]
def b_show_simple_1 : AC := (.seq (.ops o_show_simple_8)
 (.seq (.cond (.t 33) .skip (.exit 2))
 (.seq (.trim [3, 30, 31, 32] (.block 3 (.seq (.ops o_show_simple_9)
 (.ops o_show_simple_10))))
 (.ops o_show_simple_11))))
def o_show_simple_12 : List AOp := [
 aQ 42 (.mov (.t 3)),
 aQ 43 (.call (.f f_strings_Join) [.t 42, .c (.d (.str [32]))]),
 aQ 2 (.asg (.t 43))]
def c_show_simple : AC :=
 (.seq (.ops o_show_simple_0)
 (.seq (.ops o_show_simple_1)
 (.seq (.seq (.ops o_show_simple_2)
 (.trim [1, 3] (.block 0 (.loop [1, 3, 9, 10, 11] b_show_simple_0))))
 (.seq (.seq (.ops o_show_simple_7)
 (.trim [3] (.block 2 (.loop [3, 30, 31, 32] b_show_simple_1))))
 (.seq (.ops o_show_simple_12)
 .ret)))))
def a_show_simple : AFn := { body := c_show_simple, res := [.tmp 2] }
def o_strings_Builder_grow_1 : List AOp := [
 aQ 20 (.mov (.t 4)),
 aQ 21 (.mov (.t 0)),
 aQ 22 (.nilchk (.t 21)),
 aQ 23 (.fldA 1 (.t 22)),
 aQ 24 (.load none (.t 23)),
 aQ 25 (.copy (.t 20) (.t 24))]
def o_strings_Builder_grow_2 : List AOp := [
 aQ 26 (.mov (.t 0)),
 aQ 27 (.mov (.t 4)),
 aQ 28 (.nilchk (.t 26)),
 aQ 29 (.fldA 1 (.t 28)),
 { dst := none, op := .store 1 (.t 29) (.t 27) }]
def c_strings_Builder_grow : AC :=
 (.seq .hole
 (.seq (.ops o_strings_Builder_grow_1)
 (.ops o_strings_Builder_grow_2)))
def a_strings_Builder_grow : AFn := { body := c_strings_Builder_grow, res := [] }
def tabl : List (Nat × AFn) := [(f_law12_ShowLengths, a_law12_ShowLengths), (f_law12_shown, a_law12_shown), (f_show_Quote, a_show_Quote), (f_ref12_Quote, a_ref12_Quote), (f_show_Text, a_show_Text), (f_show_joined, a_show_joined), (f_strings_Builder_WriteString, a_strings_Builder_WriteString), (f_strings_Builder_String, a_strings_Builder_String), (f_show_command, a_show_command), (f_strings_Join, a_strings_Join), (f_strings_Builder_copyCheck, a_strings_Builder_copyCheck), (f_strings_Builder_Grow, a_strings_Builder_Grow), (f_show_lines, a_show_lines), (f_show_simple, a_show_simple), (f_strings_Builder_grow, a_strings_Builder_grow)]
def tabD : List (Nat × AFn) := [(f_strings_Builder_copyCheck, a_strings_Builder_copyCheck), (f_strings_Builder_Grow, a_strings_Builder_Grow), (f_strings_Builder_grow, a_strings_Builder_grow)]
end Go.Ab.R12
