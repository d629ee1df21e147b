/- A part of the proof: tools. No condition. -/
import Derived.Test.YtghchmemjjpcbaaL0
set_option linter.all false
namespace Go.Ab.R05j
abbrev aQ (d : Nat) (o : AOpk) : AOp := { dst := some d, op := o }
abbrev mQ (d : Nat) (o : AOpk) : AOp := { dst := some d, op := o, may := false }
abbrev gQ (d : Nat) (o : AOpk) (n : Nat) (b : Bool) : AOp := { dst := some d, op := o, guard := some (n, b) }
abbrev hQ (d : Nat) (o : AOpk) (n : Nat) (b : Bool) : AOp := { dst := some d, op := o, guard := some (n, b), may := false }
set_option maxRecDepth 100000
abbrev f_law05_RegexJoins : Nat := 7
abbrev f_law05_shown : Nat := 9
abbrev f_regex_Read : Nat := 10
abbrev f_regex_Text : Nat := 13
abbrev f_ref05_Right : Nat := 14
abbrev f_regex_Join : Nat := 18
abbrev f_regex_Lit : Nat := 19
abbrev f_regex_Read_1 : Nat := 23
abbrev f_regex_reader_all : Nat := 24
abbrev f_regex_Text_1 : Nat := 27
abbrev f_slices_Contains_int_int : Nat := 28
abbrev f_regex_Text_2 : Nat := 29
abbrev f_regex_setText : Nat := 30
abbrev f_ref05_begin : Nat := 31
abbrev f_ref05_many : Nat := 32
abbrev f_slices_Clone_api_Re_api_Re : Nat := 35
abbrev f_regex_kids : Nat := 36
abbrev f_class_One : Nat := 37
abbrev f_regex_reader_cat : Nat := 39
abbrev f_regex_reader_sees : Nat := 40
abbrev f_regex_reader_put : Nat := 41
abbrev f_slices_Index_int_int : Nat := 45
abbrev f_regex_dot : Nat := 46
abbrev f_class_Count : Nat := 47
abbrev f_class_Text : Nat := 48
abbrev f_class_Span : Nat := 51
abbrev f_regex_reader_piece : Nat := 56
abbrev f_class_Not : Nat := 58
abbrev f_bits_OnesCount64 : Nat := 59
abbrev f_class_runs : Nat := 60
abbrev f_class_Plain : Nat := 61
abbrev f_regex_reader_atom : Nat := 63
abbrev f_strings_IndexByte : Nat := 64
abbrev f_class_runs_1 : Nat := 66
abbrev f_class_Has : Nat := 67
abbrev f_class_isWord : Nat := 68
abbrev f_hex_Hex : Nat := 69
abbrev f_regex_reader_group : Nat := 70
abbrev f_class_Read : Nat := 71
abbrev f_class_Sign : Nat := 72
abbrev f_stringslite_IndexByte : Nat := 73
abbrev f_class_Read_1 : Nat := 76
abbrev f_class_Or : Nat := 77
abbrev f_hex_Digit : Nat := 78
abbrev f_bytealg_IndexByteString : Nat := 79
def o_law05_RegexJoins_0 : List AOp := [
 aQ 6 (.asg (.c (.d (.bool false))))]
def o_law05_RegexJoins_1 : List AOp := [
 aQ 14 (.callZ (.f f_law05_shown) []),
 aQ 7 (.asg (.t 14))]
def o_law05_RegexJoins_2 : List AOp := [
 aQ 15 (.mov (.t 0)),
 aQ 16 (.len (.t 15)),
 aQ 17 (.bin .gtr (.t 16) (.c (.nat .i64 300))),
 aQ 18 (.mov (.t 17)),
 gQ 19 (.mov (.t 1)) 18 false,
 gQ 20 (.len (.t 19)) 18 false,
 gQ 21 (.bin .gtr (.t 20) (.c (.nat .i64 300))) 18 false,
 aQ 22 (.pick (.t 18) (.c (.d (.bool true))) (.t 21)),
 aQ 23 (.mov (.t 22)),
 gQ 24 (.mov (.t 2)) 23 false,
 gQ 25 (.lenS (.t 24)) 23 false,
 gQ 26 (.bin .gtr (.t 25) (.c (.nat .i64 500))) 23 false,
 aQ 27 (.pick (.t 23) (.c (.d (.bool true))) (.t 26)),
 aQ 28 (.mov (.t 27)),
 gQ 29 (.mov (.t 0)) 28 false,
 gQ 30 (.call (.f f_ref05_Right) [.t 29]) 28 false,
 gQ 31 (.un .not (.t 30)) 28 false,
 aQ 32 (.pick (.t 28) (.c (.d (.bool true))) (.t 31)),
 aQ 33 (.mov (.t 32)),
 gQ 34 (.mov (.t 1)) 33 false,
 gQ 35 (.call (.f f_ref05_Right) [.t 34]) 33 false,
 gQ 36 (.un .not (.t 35)) 33 false,
 aQ 37 (.pick (.t 33) (.c (.d (.bool true))) (.t 36))]
def o_law05_RegexJoins_3 : List AOp := [
 aQ 38 (.mov (.t 7)),
 aQ 6 (.asg (.t 38))]
def o_law05_RegexJoins_4 : List AOp := [
 aQ 40 (.mov (.t 0)),
 aQ 41 (.mov (.t 1)),
 aQ 42 (.call (.f f_regex_Join) [.t 40, .t 41, .c (.nat .i64 2)]),
 aQ 39 (.mov (.t 42)),
 aQ 43 (.extr (.t 39) 0),
 aQ 44 (.extr (.t 39) 1),
 aQ 8 (.asg (.t 43)),
 aQ 9 (.asg (.t 44))]
def o_law05_RegexJoins_5 : List AOp := [
 aQ 46 (.mov (.t 0)),
 aQ 47 (.mov (.t 1)),
 aQ 48 (.call (.f f_regex_Join) [.t 46, .t 47, .c (.nat .i64 3)]),
 aQ 45 (.mov (.t 48)),
 aQ 49 (.extr (.t 45) 0),
 aQ 50 (.extr (.t 45) 1),
 aQ 10 (.asg (.t 49)),
 aQ 11 (.asg (.t 50))]
def o_law05_RegexJoins_6 : List AOp := [
 aQ 52 (.mov (.t 2)),
 aQ 53 (.call (.f f_regex_Lit) [.t 52]),
 aQ 51 (.mov (.t 53)),
 aQ 54 (.extr (.t 51) 0),
 aQ 55 (.extr (.t 51) 1),
 aQ 12 (.asg (.t 54)),
 aQ 13 (.asg (.t 55))]
def o_law05_RegexJoins_7 : List AOp := [
 aQ 56 (.mov (.t 9)),
 aQ 57 (.bin .neq (.t 56) (.c (.nat .i64 0))),
 aQ 58 (.mov (.t 57)),
 gQ 59 (.mov (.t 11)) 58 false,
 gQ 60 (.bin .neq (.t 59) (.c (.nat .i64 0))) 58 false,
 aQ 61 (.pick (.t 58) (.c (.d (.bool true))) (.t 60)),
 aQ 62 (.mov (.t 61)),
 gQ 63 (.mov (.t 13)) 62 false,
 gQ 64 (.bin .neq (.t 63) (.c (.nat .i64 0))) 62 false,
 aQ 65 (.pick (.t 62) (.c (.d (.bool true))) (.t 64))]
def o_law05_RegexJoins_8 : List AOp := [
 aQ 6 (.asg (.c (.d (.bool false))))]
def o_law05_RegexJoins_9 : List AOp := [
 aQ 66 (.mov (.t 7)),
 aQ 67 (.mov (.t 66)),
 gQ 68 (.mov (.t 8)) 67 true,
 gQ 69 (.call (.f f_ref05_Right) [.t 68]) 67 true,
 aQ 70 (.pick (.t 67) (.t 69) (.c (.d (.bool false)))),
 aQ 71 (.mov (.t 70)),
 gQ 72 (.mov (.t 10)) 71 true,
 gQ 73 (.call (.f f_ref05_Right) [.t 72]) 71 true,
 aQ 74 (.pick (.t 71) (.t 73) (.c (.d (.bool false)))),
 aQ 75 (.mov (.t 74)),
 gQ 76 (.mov (.t 8)) 75 true,
 gQ 77 (.len (.t 76)) 75 true,
 gQ 78 (.mov (.t 0)) 75 true,
 gQ 79 (.len (.t 78)) 75 true,
 gQ 80 (.mov (.t 1)) 75 true,
 gQ 81 (.len (.t 80)) 75 true,
 gQ 82 (.bin .add (.t 79) (.t 81)) 75 true,
 gQ 83 (.bin .add (.t 82) (.c (.nat .i64 1))) 75 true,
 gQ 84 (.bin .eql (.t 77) (.t 83)) 75 true,
 aQ 85 (.pick (.t 75) (.t 84) (.c (.d (.bool false)))),
 aQ 86 (.mov (.t 85)),
 gQ 87 (.mov (.t 10)) 86 true,
 gQ 88 (.len (.t 87)) 86 true,
 gQ 89 (.mov (.t 8)) 86 true,
 gQ 90 (.len (.t 89)) 86 true,
 gQ 91 (.bin .eql (.t 88) (.t 90)) 86 true,
 aQ 92 (.pick (.t 86) (.t 91) (.c (.d (.bool false)))),
 aQ 93 (.mov (.t 92)),
 gQ 94 (.mov (.t 12)) 93 true,
 gQ 95 (.call (.f f_ref05_Right) [.t 94]) 93 true,
 aQ 96 (.pick (.t 93) (.t 95) (.c (.d (.bool false)))),
 aQ 6 (.asg (.t 96))]
def c_law05_RegexJoins : AC :=
 (.seq (.ops o_law05_RegexJoins_0)
 (.seq (.ops o_law05_RegexJoins_1)
 (.seq (.seq (.ops o_law05_RegexJoins_2)
 (.cond (.t 37) (.seq (.ops o_law05_RegexJoins_3)
 .ret) .skip))
 (.seq (.ops o_law05_RegexJoins_4)
 (.seq (.ops o_law05_RegexJoins_5)
 (.seq (.ops o_law05_RegexJoins_6)
 (.seq (.seq (.ops o_law05_RegexJoins_7)
 (.cond (.t 65) (.seq (.ops o_law05_RegexJoins_8)
 .ret) .skip))
 (.seq (.ops o_law05_RegexJoins_9)
 .ret))))))))
def a_law05_RegexJoins : AFn := { body := c_law05_RegexJoins, res := [.tmp 6] }
def o_law05_shown_0 : List AOp := [
 aQ 0 (.asg (.c (.d (.bool false))))]
def o_law05_shown_1 : List AOp := [
 aQ 4 (.call (.f f_regex_Read) [.c (.d (.str [97, 124, 98, 42]))]),
 aQ 3 (.mov (.t 4)),
 aQ 5 (.extr (.t 3) 0),
 aQ 6 (.extr (.t 3) 1),
 aQ 1 (.asg (.t 5)),
 aQ 2 (.asg (.t 6))]
def o_law05_shown_2 : List AOp := [
 aQ 7 (.mov (.t 2)),
 aQ 8 (.bin .eql (.t 7) (.c (.nat .i64 0))),
 aQ 9 (.mov (.t 8)),
 gQ 10 (.mov (.t 1)) 9 true,
 gQ 11 (.len (.t 10)) 9 true,
 gQ 12 (.bin .eql (.t 11) (.c (.nat .i64 4))) 9 true,
 aQ 13 (.pick (.t 9) (.t 12) (.c (.d (.bool false)))),
 aQ 14 (.mov (.t 13)),
 gQ 15 (.mov (.t 1)) 14 true,
 gQ 16 (.idxA none 7 (.t 15) (.c (.nat .i64 2))) 14 true,
 gQ 17 (.fldA 0 (.t 16)) 14 true,
 gQ 18 (.load none (.t 17)) 14 true,
 gQ 19 (.bin .eql (.t 18) (.c (.nat .i64 4))) 14 true,
 aQ 20 (.pick (.t 14) (.t 19) (.c (.d (.bool false)))),
 aQ 21 (.mov (.t 20)),
 gQ 22 (.mov (.t 1)) 21 true,
 gQ 23 (.idxA none 7 (.t 22) (.c (.nat .i64 3))) 21 true,
 gQ 24 (.fldA 0 (.t 23)) 21 true,
 gQ 25 (.load none (.t 24)) 21 true,
 gQ 26 (.bin .eql (.t 25) (.c (.nat .i64 3))) 21 true,
 aQ 27 (.pick (.t 21) (.t 26) (.c (.d (.bool false)))),
 aQ 28 (.mov (.t 27)),
 gQ 29 (.mov (.t 1)) 28 true,
 gQ 30 (.idxA none 7 (.t 29) (.c (.nat .i64 3))) 28 true,
 gQ 31 (.fldA 5 (.t 30)) 28 true,
 gQ 32 (.load (some 2) (.t 31)) 28 true,
 gQ 33 (.build [.nat .i64 0, .nat .i64 0] [(0, 1, (.c (.nat .i64 0))), (1, 1, (.c (.nat .i64 2)))]) 28 true,
 gQ 34 (.eqc false [.int .i64, .int .i64] (.t 32) (.t 33)) 28 true,
 aQ 35 (.pick (.t 28) (.t 34) (.c (.d (.bool false)))),
 aQ 36 (.mov (.t 35)),
 gQ 37 (.mov (.t 1)) 36 true,
 gQ 38 (.call (.f f_regex_Text) [.t 37]) 36 true,
 gQ 39 (.bin .eql (.t 38) (.c (.d (.str [97, 124, 98, 42])))) 36 true,
 aQ 40 (.pick (.t 36) (.t 39) (.c (.d (.bool false)))),
 aQ 0 (.asg (.t 40))]
def c_law05_shown : AC :=
 (.seq (.ops o_law05_shown_0)
 (.seq (.ops o_law05_shown_1)
 (.seq (.ops o_law05_shown_2)
 .ret)))
def a_law05_shown : AFn := { body := c_law05_shown, res := [.tmp 0] }
def o_regex_Read_0 : List AOp := [
 aQ 2 (.alloc [.nil]),
 aQ 3 (.alloc [.nat .i64 0])]
def o_regex_Read_1 : List AOp := [
 aQ 5 (.mkfn (.func f_regex_Read_1) [] [.t 2, .t 3]),
 { dst := none, op := .defer (.t 5) [] }]
def o_regex_Read_2 : List AOp := [
 aQ 6 (.mov (.t 0)),
 aQ 7 (.build [.d (.str []), .nat .i64 0, .nat .i64 0, .nil] [(0, 1, (.t 6))]),
 aQ 8 (.box (.t 7)),
 aQ 4 (.asg (.t 8))]
def o_regex_Read_3 : List AOp := [
 aQ 9 (.mov (.t 4)),
 aQ 10 (.call (.f f_regex_reader_all) [.t 9])]
def o_regex_Read_4 : List AOp := [
 aQ 11 (.mov (.t 4)),
 aQ 12 (.nilchk (.t 11)),
 aQ 13 (.fldA 1 (.t 12)),
 aQ 14 (.load none (.t 13)),
 aQ 15 (.mov (.t 0)),
 aQ 16 (.lenS (.t 15)),
 aQ 17 (.bin .lss (.t 14) (.t 16))]
def o_regex_Read_5 : List AOp := [
 { dst := none, op := .store 1 (.t 2) (.c (.nil)) },
 { dst := none, op := .store 1 (.t 3) (.c (.nat .i64 9)) }]
def o_regex_Read_6 : List AOp := [
 aQ 18 (.mov (.t 4)),
 aQ 19 (.nilchk (.t 18)),
 aQ 20 (.fldA 3 (.t 19)),
 aQ 21 (.load none (.t 20)),
 { dst := none, op := .store 1 (.t 2) (.t 21) },
 { dst := none, op := .store 1 (.t 3) (.c (.nat .i64 0)) }]
def c_regex_Read : AC :=
 (.seq (.ops o_regex_Read_0)
 (.seq (.ops o_regex_Read_1)
 (.seq (.ops o_regex_Read_2)
 (.seq (.ops o_regex_Read_3)
 (.seq (.seq (.ops o_regex_Read_4)
 (.cond (.t 17) (.seq (.ops o_regex_Read_5)
 .ret) .skip))
 (.seq (.ops o_regex_Read_6)
 .ret))))))
def a_regex_Read : AFn := { body := c_regex_Read, res := [.cell 2 none, .cell 3 none] }
def o_regex_Text_0 : List AOp := [
 aQ 1 (.box (.t 0)),
 aQ 2 (.asg (.c (.d (.str []))))]
def o_regex_Text_1 : List AOp := [
 aQ 3 (.alloc [.d .nilF])]
def o_regex_Text_2 : List AOp := [
 aQ 5 (.mkfn (.func f_regex_Text_1) [] [.t 1, .t 3]),
 aQ 4 (.alloc [.d .nilF]),
 { dst := none, op := .store 1 (.t 4) (.t 5) }]
def o_regex_Text_3 : List AOp := [
 aQ 6 (.mkfn (.func f_regex_Text_2) [] [.t 1, .t 4, .t 3]),
 { dst := none, op := .store 1 (.t 3) (.t 6) }]
def o_regex_Text_4 : List AOp := [
 aQ 7 (.load none (.t 3)),
 aQ 8 (.load none (.t 1)),
 aQ 9 (.len (.t 8)),
 aQ 10 (.bin .sub (.t 9) (.c (.nat .i64 1))),
 aQ 11 (.call (.t 7) [.t 10]),
 aQ 2 (.asg (.t 11))]
def c_regex_Text : AC :=
 (.seq (.ops o_regex_Text_0)
 (.seq (.ops o_regex_Text_1)
 (.seq (.ops o_regex_Text_2)
 (.seq (.ops o_regex_Text_3)
 (.seq (.ops o_regex_Text_4)
 .ret)))))
def a_regex_Text : AFn := { body := c_regex_Text, res := [.tmp 2] }
def o_ref05_Right_0 : List AOp := [
 aQ 2 (.asg (.c (.d (.bool false))))]
def o_ref05_Right_1 : List AOp := [
 aQ 3 (.mov (.t 0)),
 aQ 4 (.len (.t 3)),
 aQ 5 (.bin .leq (.t 4) (.c (.nat .i64 2000))),
 aQ 6 (.mov (.t 5)),
 gQ 7 (.mov (.t 0)) 6 true,
 gQ 8 (.len (.t 7)) 6 true,
 gQ 9 (.bin .gtr (.t 8) (.c (.nat .i64 0))) 6 true,
 aQ 10 (.pick (.t 6) (.t 9) (.c (.d (.bool false)))),
 aQ 11 (.mov (.t 10)),
 gQ 12 (.mov (.t 0)) 11 true,
 gQ 13 (.mov (.t 0)) 11 true,
 gQ 14 (.len (.t 13)) 11 true,
 gQ 15 (.bin .sub (.t 14) (.c (.nat .i64 1))) 11 true,
 gQ 16 (.call (.f f_ref05_begin) [.t 12, .t 15]) 11 true,
 gQ 17 (.bin .eql (.t 16) (.c (.nat .i64 0))) 11 true,
 aQ 18 (.pick (.t 11) (.t 17) (.c (.d (.bool false)))),
 aQ 2 (.asg (.t 18))]
def c_ref05_Right : AC :=
 (.seq (.ops o_ref05_Right_0)
 (.seq (.ops o_ref05_Right_1)
 .ret))
def a_ref05_Right : AFn := { body := c_ref05_Right, res := [.tmp 2] }
def o_regex_Join_0 : List AOp := [
 aQ 6 (.asg (.c (.nil))),
 aQ 7 (.asg (.c (.nat .i64 0)))]
def o_regex_Join_1 : List AOp := [
 aQ 13 (.mov (.t 2)),
 aQ 14 (.bin .neq (.t 13) (.c (.nat .i64 2))),
 aQ 15 (.mov (.t 14)),
 gQ 16 (.mov (.t 2)) 15 true,
 gQ 17 (.bin .neq (.t 16) (.c (.nat .i64 3))) 15 true,
 aQ 18 (.pick (.t 15) (.t 17) (.c (.d (.bool false)))),
 aQ 12 (.asg (.t 18))]
def o_regex_Join_2 : List AOp := [
 aQ 6 (.asg (.c (.nil))),
 aQ 7 (.asg (.c (.nat .i64 1)))]
def o_regex_Join_3 : List AOp := [
 aQ 20 (.mov (.t 0)),
 aQ 21 (.len (.t 20)),
 aQ 22 (.mov (.t 1)),
 aQ 23 (.len (.t 22)),
 aQ 24 (.bin .add (.t 21) (.t 23)),
 aQ 25 (.bin .add (.t 24) (.c (.nat .i64 1))),
 aQ 26 (.bin .gtr (.t 25) (.c (.nat .i64 2000))),
 aQ 19 (.asg (.t 26))]
def o_regex_Join_4 : List AOp := [
 aQ 6 (.asg (.c (.nil))),
 aQ 7 (.asg (.c (.nat .i64 6)))]
def o_regex_Join_5 : List AOp := [
 aQ 27 (.mov (.t 0)),
 aQ 28 (.call (.f f_slices_Clone_api_Re_api_Re) [.t 27]),
 aQ 8 (.asg (.t 28))]
def o_regex_Join_6 : List AOp := [
 aQ 29 (.mov (.t 1)),
 aQ 30 (.len (.t 29)),
 aQ 31 (.mov (.c (.nat .i64 0)))]
def o_regex_Join_7 : List AOp := [
 aQ 32 (.bin .lss (.t 31) (.t 30))]
def o_regex_Join_8 : List AOp := [
 aQ 33 (.idxA none 7 (.t 29) (.t 31)),
 aQ 34 (.load (some 7) (.t 33)),
 aQ 10 (.alloc [.nat .i64 0, .nat .u64 0, .nat .u64 0, .nat .u64 0, .nat .u64 0, .nat .i64 0, .nat .i64 0]),
 { dst := none, op := .store 7 (.t 10) (.t 34) }]
def o_regex_Join_9 : List AOp := [
 aQ 35 (.fldA 0 (.t 10)),
 aQ 36 (.load none (.t 35)),
 aQ 37 (.call (.f f_regex_kids) [.t 36]),
 aQ 38 (.mov (.c (.nat .i64 0)))]
def o_regex_Join_10 : List AOp := [
 aQ 39 (.bin .lss (.t 38) (.t 37))]
def o_regex_Join_11 : List AOp := [
 aQ 40 (.mov (.t 38)),
 aQ 11 (.asg (.t 40))]
def o_regex_Join_12 : List AOp := [
 aQ 41 (.mov (.t 11)),
 aQ 42 (.fldA 5 (.t 10)),
 aQ 43 (.idxA (some 2) 1 (.t 42) (.t 41)),
 aQ 44 (.load none (.t 43)),
 aQ 45 (.mov (.t 0)),
 aQ 46 (.len (.t 45)),
 aQ 47 (.bin .add (.t 44) (.t 46)),
 aQ 48 (.fldA 5 (.t 10)),
 aQ 49 (.idxA (some 2) 1 (.t 48) (.t 41)),
 { dst := none, op := .store 1 (.t 49) (.t 47) }]
def o_regex_Join_13 : List AOp := [
 aQ 50 (.bin .add (.t 38) (.c (.nat .i64 1))),
 aQ 38 (.mov (.t 50))]
def b_regex_Join_0 : AC := (.seq (.ops o_regex_Join_10)
 (.seq (.cond (.t 39) .skip (.exit 3))
 (.seq (.trim [0, 2, 8, 10, 29, 30, 31, 37, 38] (.block 4 (.seq (.ops o_regex_Join_11)
 (.ops o_regex_Join_12))))
 (.ops o_regex_Join_13))))
def o_regex_Join_14 : List AOp := [
 aQ 51 (.take 8),
 aQ 52 (.load (some 7) (.t 10)),
 aQ 53 (.mkls 7 [.nat .i64 0, .nat .u64 0, .nat .u64 0, .nat .u64 0, .nat .u64 0, .nat .i64 0, .nat .i64 0] [(0, 7, (.t 52))]),
 aQ 54 (.append 7 (.t 51) (.t 53)),
 aQ 8 (.asg (.t 54))]
def o_regex_Join_15 : List AOp := [
 aQ 55 (.bin .add (.t 31) (.c (.nat .i64 1))),
 aQ 31 (.mov (.t 55))]
def b_regex_Join_1 : AC := (.seq (.ops o_regex_Join_7)
 (.seq (.cond (.t 32) .skip (.exit 1))
 (.seq (.trim [0, 2, 8, 29, 30, 31] (.block 2 (.seq (.ops o_regex_Join_8)
 (.seq (.seq (.ops o_regex_Join_9)
 (.trim [0, 2, 8, 10, 29, 30, 31] (.block 3 (.loop [0, 2, 8, 10, 29, 30, 31, 37, 38] b_regex_Join_0))))
 (.ops o_regex_Join_14)))))
 (.ops o_regex_Join_15))))
def o_regex_Join_16 : List AOp := [
 aQ 56 (.take 8),
 aQ 57 (.mov (.t 2)),
 aQ 58 (.mov (.t 0)),
 aQ 59 (.len (.t 58)),
 aQ 60 (.bin .sub (.t 59) (.c (.nat .i64 1))),
 aQ 61 (.mov (.t 8)),
 aQ 62 (.len (.t 61)),
 aQ 63 (.bin .sub (.t 62) (.c (.nat .i64 1))),
 aQ 64 (.build [.nat .i64 0, .nat .i64 0] [(0, 1, (.t 60)), (1, 1, (.t 63))]),
 aQ 65 (.build [.nat .i64 0, .nat .u64 0, .nat .u64 0, .nat .u64 0, .nat .u64 0, .nat .i64 0, .nat .i64 0] [(0, 1, (.t 57)), (5, 2, (.t 64))]),
 aQ 66 (.mkls 7 [.nat .i64 0, .nat .u64 0, .nat .u64 0, .nat .u64 0, .nat .u64 0, .nat .i64 0, .nat .i64 0] [(0, 7, (.t 65))]),
 aQ 67 (.append 7 (.t 56) (.t 66)),
 aQ 6 (.asg (.t 67)),
 aQ 7 (.asg (.c (.nat .i64 0)))]
def c_regex_Join : AC :=
 (.seq (.ops o_regex_Join_0)
 (.seq (.trim [0, 1, 2] (.block 0 (.seq (.ops o_regex_Join_1)
 (.cond (.t 12) (.seq (.ops o_regex_Join_2)
 .ret) (.seq (.ops o_regex_Join_3)
 (.cond (.t 19) (.seq (.ops o_regex_Join_4)
 .ret) .skip))))))
 (.seq (.ops o_regex_Join_5)
 (.seq (.seq (.ops o_regex_Join_6)
 (.trim [0, 2, 8] (.block 1 (.loop [0, 2, 8, 29, 30, 31] b_regex_Join_1))))
 (.seq (.ops o_regex_Join_16)
 .ret)))))
def a_regex_Join : AFn := { body := c_regex_Join, res := [.tmp 6, .tmp 7] }
def o_regex_Lit_0 : List AOp := [
 aQ 2 (.asg (.c (.nil))),
 aQ 3 (.asg (.c (.nat .i64 0)))]
def o_regex_Lit_1 : List AOp := [
 aQ 7 (.mov (.t 0)),
 aQ 8 (.bin .eql (.t 7) (.c (.d (.str []))))]
def o_regex_Lit_2 : List AOp := [
 aQ 9 (.build [.nat .i64 0, .nat .u64 0, .nat .u64 0, .nat .u64 0, .nat .u64 0, .nat .i64 0, .nat .i64 0] []),
 aQ 10 (.mkls 7 [.nat .i64 0, .nat .u64 0, .nat .u64 0, .nat .u64 0, .nat .u64 0, .nat .i64 0, .nat .i64 0] [(0, 7, (.t 9))]),
 aQ 2 (.asg (.t 10)),
 aQ 3 (.asg (.c (.nat .i64 0)))]
def o_regex_Lit_3 : List AOp := [
 aQ 11 (.mov (.t 0)),
 aQ 12 (.lenS (.t 11)),
 aQ 13 (.bin .mul (.c (.nat .i64 2)) (.t 12)),
 aQ 14 (.bin .sub (.t 13) (.c (.nat .i64 1))),
 aQ 15 (.bin .gtr (.t 14) (.c (.nat .i64 2000)))]
def o_regex_Lit_4 : List AOp := [
 aQ 2 (.asg (.c (.nil))),
 aQ 3 (.asg (.c (.nat .i64 6)))]
def o_regex_Lit_5 : List AOp := [
 aQ 4 (.asg (.c (.nil)))]
def o_regex_Lit_6 : List AOp := [
 aQ 16 (.mov (.t 0)),
 aQ 17 (.strBytes (.t 16)),
 aQ 18 (.len (.t 17)),
 aQ 19 (.mov (.c (.nat .i64 0)))]
def o_regex_Lit_7 : List AOp := [
 aQ 20 (.bin .lss (.t 19) (.t 18))]
def o_regex_Lit_8 : List AOp := [
 aQ 21 (.mov (.t 19)),
 aQ 22 (.idxA none 1 (.t 17) (.t 19)),
 aQ 23 (.load none (.t 22)),
 aQ 5 (.asg (.t 21)),
 aQ 6 (.asg (.t 23))]
def o_regex_Lit_9 : List AOp := [
 aQ 24 (.take 4),
 aQ 25 (.mov (.t 6)),
 aQ 26 (.call (.f f_class_One) [.t 25]),
 aQ 27 (.build [.nat .i64 0, .nat .u64 0, .nat .u64 0, .nat .u64 0, .nat .u64 0, .nat .i64 0, .nat .i64 0] [(0, 1, (.c (.nat .i64 1))), (1, 4, (.t 26))]),
 aQ 28 (.mkls 7 [.nat .i64 0, .nat .u64 0, .nat .u64 0, .nat .u64 0, .nat .u64 0, .nat .i64 0, .nat .i64 0] [(0, 7, (.t 27))]),
 aQ 29 (.append 7 (.t 24) (.t 28)),
 aQ 4 (.asg (.t 29))]
def o_regex_Lit_10 : List AOp := [
 aQ 30 (.mov (.t 5)),
 aQ 31 (.bin .gtr (.t 30) (.c (.nat .i64 0)))]
def o_regex_Lit_11 : List AOp := [
 aQ 32 (.take 4),
 aQ 33 (.mov (.t 4)),
 aQ 34 (.len (.t 33)),
 aQ 35 (.bin .sub (.t 34) (.c (.nat .i64 2))),
 aQ 36 (.mov (.t 4)),
 aQ 37 (.len (.t 36)),
 aQ 38 (.bin .sub (.t 37) (.c (.nat .i64 1))),
 aQ 39 (.build [.nat .i64 0, .nat .i64 0] [(0, 1, (.t 35)), (1, 1, (.t 38))]),
 aQ 40 (.build [.nat .i64 0, .nat .u64 0, .nat .u64 0, .nat .u64 0, .nat .u64 0, .nat .i64 0, .nat .i64 0] [(0, 1, (.c (.nat .i64 2))), (5, 2, (.t 39))]),
 aQ 41 (.mkls 7 [.nat .i64 0, .nat .u64 0, .nat .u64 0, .nat .u64 0, .nat .u64 0, .nat .i64 0, .nat .i64 0] [(0, 7, (.t 40))]),
 aQ 42 (.append 7 (.t 32) (.t 41)),
 aQ 4 (.asg (.t 42))]
def o_regex_Lit_12 : List AOp := [
 aQ 43 (.bin .add (.t 19) (.c (.nat .i64 1))),
 aQ 19 (.mov (.t 43))]
def b_regex_Lit_0 : AC := (.seq (.ops o_regex_Lit_7)
 (.seq (.cond (.t 20) .skip (.exit 0))
 (.seq (.trim [4, 17, 18, 19] (.block 1 (.seq (.ops o_regex_Lit_8)
 (.seq (.ops o_regex_Lit_9)
 (.seq (.ops o_regex_Lit_10)
 (.cond (.t 31) (.ops o_regex_Lit_11) .skip))))))
 (.ops o_regex_Lit_12))))
def o_regex_Lit_13 : List AOp := [
 aQ 44 (.mov (.t 4)),
 aQ 2 (.asg (.t 44)),
 aQ 3 (.asg (.c (.nat .i64 0)))]
def c_regex_Lit : AC :=
 (.seq (.ops o_regex_Lit_0)
 (.seq (.seq (.ops o_regex_Lit_1)
 (.cond (.t 8) (.seq (.ops o_regex_Lit_2)
 .ret) .skip))
 (.seq (.seq (.ops o_regex_Lit_3)
 (.cond (.t 15) (.seq (.ops o_regex_Lit_4)
 .ret) .skip))
 (.seq (.ops o_regex_Lit_5)
 (.seq (.seq (.ops o_regex_Lit_6)
 (.trim [4] (.block 0 (.loop [4, 17, 18, 19] b_regex_Lit_0))))
 (.seq (.ops o_regex_Lit_13)
 .ret))))))
def a_regex_Lit : AFn := { body := c_regex_Lit, res := [.tmp 2, .tmp 3] }
def o_regex_Read_1_0 : List AOp := [
 aQ 5 (.recover),
 aQ 2 (.asg (.t 5))]
def o_regex_Read_1_1 : List AOp := [
 aQ 6 (.mov (.t 2)),
 aQ 7 (.eqnil 1 true (.t 6))]
def o_regex_Read_1_2 : List AOp := [
 aQ 9 (.mov (.t 2)),
 aQ 10 (.assertT 50 (.agg [.nat .i64 0]) (.t 9)),
 aQ 8 (.mov (.t 10)),
 aQ 11 (.extr (.t 8) 0),
 aQ 12 (.extr (.t 8) 1),
 aQ 3 (.alloc [.nat .i64 0]),
 { dst := none, op := .store 1 (.t 3) (.t 11) },
 aQ 4 (.asg (.t 12))]
def o_regex_Read_1_3 : List AOp := [
 aQ 13 (.mov (.t 4)),
 aQ 14 (.un .not (.t 13))]
def o_regex_Read_1_4 : List AOp := [
 aQ 15 (.mov (.t 2)),
 { dst := none, op := .panic (.t 15) }]
def o_regex_Read_1_5 : List AOp := [
 mQ 16 (.fldA 0 (.t 3)),
 mQ 17 (.loadB none (.t 16) (.t 3)),
 { dst := none, op := .storeW 1 (.t 0) (.c (.nil)) [.t 3], may := false },
 { dst := none, op := .store 1 (.t 1) (.t 17) }]
def c_regex_Read_1 : AC :=
 (.seq (.ops o_regex_Read_1_0)
 (.seq (.ops o_regex_Read_1_1)
 (.cond (.t 7) (.seq (.ops o_regex_Read_1_2)
 (.seq (.seq (.ops o_regex_Read_1_3)
 (.cond (.t 14) (.ops o_regex_Read_1_4) .skip))
 (.ops o_regex_Read_1_5))) .skip)))
def a_regex_Read_1 : AFn := { body := c_regex_Read_1, res := [] }
def o_regex_reader_all_0 : List AOp := [
 aQ 2 (.asg (.c (.nat .i64 0)))]
def o_regex_reader_all_1 : List AOp := [
 aQ 5 (.mov (.t 0)),
 aQ 6 (.call (.f f_regex_reader_cat) [.t 5]),
 aQ 3 (.asg (.t 6))]
def o_regex_reader_all_2 : List AOp := [
 aQ 7 (.mov (.t 0)),
 aQ 8 (.call (.f f_regex_reader_sees) [.t 7, .c (.nat .u8 124)])]
def o_regex_reader_all_3 : List AOp := [
 aQ 9 (.mov (.t 0)),
 aQ 10 (.nilchk (.t 9)),
 aQ 11 (.fldA 1 (.t 10)),
 aQ 12 (.load none (.t 11)),
 aQ 13 (.bin .add (.t 12) (.c (.nat .i64 1))),
 aQ 14 (.nilchk (.t 9)),
 aQ 15 (.fldA 1 (.t 14)),
 { dst := none, op := .store 1 (.t 15) (.t 13) }]
def o_regex_reader_all_4 : List AOp := [
 aQ 16 (.mov (.t 0)),
 aQ 17 (.call (.f f_regex_reader_cat) [.t 16]),
 aQ 4 (.asg (.t 17))]
def o_regex_reader_all_5 : List AOp := [
 aQ 18 (.mov (.t 0)),
 aQ 19 (.mov (.t 3)),
 aQ 20 (.mov (.t 4)),
 aQ 21 (.build [.nat .i64 0, .nat .i64 0] [(0, 1, (.t 19)), (1, 1, (.t 20))]),
 aQ 22 (.build [.nat .i64 0, .nat .u64 0, .nat .u64 0, .nat .u64 0, .nat .u64 0, .nat .i64 0, .nat .i64 0] [(0, 1, (.c (.nat .i64 3))), (5, 2, (.t 21))]),
 aQ 23 (.call (.f f_regex_reader_put) [.t 18, .t 22]),
 aQ 3 (.asg (.t 23))]
def b_regex_reader_all_0 : AC := (.seq (.seq (.ops o_regex_reader_all_2)
 (.cond (.t 8) .skip (.exit 0)))
 (.trim [0, 3] (.block 1 (.seq (.ops o_regex_reader_all_3)
 (.seq (.ops o_regex_reader_all_4)
 (.ops o_regex_reader_all_5))))))
def o_regex_reader_all_6 : List AOp := [
 aQ 24 (.mov (.t 3)),
 aQ 2 (.asg (.t 24))]
def c_regex_reader_all : AC :=
 (.seq (.ops o_regex_reader_all_0)
 (.seq (.ops o_regex_reader_all_1)
 (.seq (.trim [3] (.block 0 (.loop [0, 3] b_regex_reader_all_0)))
 (.seq (.ops o_regex_reader_all_6)
 .ret))))
def a_regex_reader_all : AFn := { body := c_regex_reader_all, res := [.tmp 2] }
def o_regex_Text_1_0 : List AOp := [
 aQ 6 (.asg (.c (.d (.str []))))]
def o_regex_Text_1_1 : List AOp := [
 aQ 7 (.mov (.t 1)),
 aQ 8 (.load none (.t 2)),
 aQ 9 (.mov (.t 0)),
 aQ 10 (.idxA none 7 (.t 8) (.t 9)),
 aQ 11 (.fldA 0 (.t 10)),
 aQ 12 (.load none (.t 11)),
 aQ 13 (.call (.f f_slices_Contains_int_int) [.t 7, .t 12])]
def o_regex_Text_1_2 : List AOp := [
 aQ 14 (.load none (.t 3)),
 aQ 15 (.mov (.t 0)),
 aQ 16 (.call (.t 14) [.t 15]),
 aQ 17 (.bin .add (.c (.d (.str [40]))) (.t 16)),
 aQ 18 (.bin .add (.t 17) (.c (.d (.str [41])))),
 aQ 6 (.asg (.t 18))]
def o_regex_Text_1_3 : List AOp := [
 aQ 19 (.load none (.t 3)),
 aQ 20 (.mov (.t 0)),
 aQ 21 (.call (.t 19) [.t 20]),
 aQ 6 (.asg (.t 21))]
def c_regex_Text_1 : AC :=
 (.seq (.ops o_regex_Text_1_0)
 (.seq (.seq (.ops o_regex_Text_1_1)
 (.cond (.t 13) (.seq (.ops o_regex_Text_1_2)
 .ret) .skip))
 (.seq (.ops o_regex_Text_1_3)
 .ret)))
def a_regex_Text_1 : AFn := { body := c_regex_Text_1, res := [.tmp 6] }
def o_slices_Contains_int_int_0 : List AOp := [
 aQ 4 (.asg (.c (.d (.bool false))))]
def o_slices_Contains_int_int_1 : List AOp := [
 aQ 5 (.mov (.t 0)),
 aQ 6 (.mov (.t 1)),
 aQ 7 (.call (.f f_slices_Index_int_int) [.t 5, .t 6]),
 aQ 8 (.bin .geq (.t 7) (.c (.nat .i64 0))),
 aQ 4 (.asg (.t 8))]
def c_slices_Contains_int_int : AC :=
 (.seq (.ops o_slices_Contains_int_int_0)
 (.seq (.ops o_slices_Contains_int_int_1)
 .ret))
def a_slices_Contains_int_int : AFn := { body := c_slices_Contains_int_int, res := [.tmp 4] }
def o_regex_Text_2_0 : List AOp := [
 aQ 5 (.asg (.c (.d (.str []))))]
def o_regex_Text_2_1 : List AOp := [
 aQ 7 (.load none (.t 1)),
 aQ 8 (.mov (.t 0)),
 aQ 9 (.idxA none 7 (.t 7) (.t 8)),
 aQ 10 (.load (some 7) (.t 9)),
 aQ 6 (.alloc [.nat .i64 0, .nat .u64 0, .nat .u64 0, .nat .u64 0, .nat .u64 0, .nat .i64 0, .nat .i64 0]),
 { dst := none, op := .store 7 (.t 6) (.t 10) }]
def o_regex_Text_2_2 : List AOp := [
 aQ 11 (.fldA 0 (.t 6)),
 aQ 12 (.load none (.t 11))]
def o_regex_Text_2_3 : List AOp := [
 aQ 14 (.bin .eql (.t 12) (.c (.nat .i64 0))),
 aQ 13 (.asg (.t 14))]
def o_regex_Text_2_4 : List AOp := [
 aQ 5 (.asg (.c (.d (.str [40, 41]))))]
def o_regex_Text_2_5 : List AOp := [
 aQ 16 (.bin .eql (.t 12) (.c (.nat .i64 1))),
 aQ 15 (.asg (.t 16))]
def o_regex_Text_2_6 : List AOp := [
 aQ 17 (.fldA 1 (.t 6)),
 aQ 18 (.load (some 4) (.t 17)),
 aQ 19 (.call (.f f_regex_setText) [.t 18]),
 aQ 5 (.asg (.t 19))]
def o_regex_Text_2_7 : List AOp := [
 aQ 21 (.bin .eql (.t 12) (.c (.nat .i64 7))),
 aQ 20 (.asg (.t 21))]
def o_regex_Text_2_8 : List AOp := [
 aQ 5 (.asg (.c (.d (.str [94]))))]
def o_regex_Text_2_9 : List AOp := [
 aQ 23 (.bin .eql (.t 12) (.c (.nat .i64 8))),
 aQ 22 (.asg (.t 23))]
def o_regex_Text_2_10 : List AOp := [
 aQ 5 (.asg (.c (.d (.str [36]))))]
def o_regex_Text_2_11 : List AOp := [
 aQ 25 (.bin .eql (.t 12) (.c (.nat .i64 2))),
 aQ 24 (.asg (.t 25))]
def o_regex_Text_2_12 : List AOp := [
 mQ 26 (.load none (.t 2)),
 mQ 27 (.fldA 5 (.t 6)),
 mQ 28 (.idxA (some 2) 1 (.t 27) (.c (.nat .i64 0))),
 mQ 29 (.load none (.t 28)),
 mQ 30 (.mkls 1 [.nat .i64 0] [(0, 1, (.c (.nat .i64 3)))]),
 mQ 31 (.callQ (.t 26) [.t 29, .t 30]),
 mQ 32 (.load none (.t 2)),
 mQ 33 (.fldA 5 (.t 6)),
 mQ 34 (.idxA (some 2) 1 (.t 33) (.c (.nat .i64 1))),
 mQ 35 (.load none (.t 34)),
 mQ 36 (.mkls 1 [.nat .i64 0, .nat .i64 0] [(0, 1, (.c (.nat .i64 3))), (1, 1, (.c (.nat .i64 2)))]),
 aQ 37 (.call (.t 32) [.t 35, .t 36]),
 aQ 38 (.bin .add (.t 31) (.t 37)),
 aQ 5 (.asg (.t 38))]
def o_regex_Text_2_13 : List AOp := [
 aQ 40 (.bin .eql (.t 12) (.c (.nat .i64 3))),
 aQ 39 (.asg (.t 40))]
def o_regex_Text_2_14 : List AOp := [
 mQ 41 (.load none (.t 3)),
 mQ 42 (.fldA 5 (.t 6)),
 mQ 43 (.idxA (some 2) 1 (.t 42) (.c (.nat .i64 0))),
 mQ 44 (.load none (.t 43)),
 mQ 45 (.callQ (.t 41) [.t 44]),
 mQ 46 (.bin .add (.t 45) (.c (.d (.str [124])))),
 mQ 47 (.load none (.t 2)),
 mQ 48 (.fldA 5 (.t 6)),
 mQ 49 (.idxA (some 2) 1 (.t 48) (.c (.nat .i64 1))),
 mQ 50 (.load none (.t 49)),
 mQ 51 (.mkls 1 [.nat .i64 0] [(0, 1, (.c (.nat .i64 3)))]),
 mQ 52 (.call (.t 47) [.t 50, .t 51]),
 aQ 53 (.bin .add (.t 46) (.t 52)),
 aQ 5 (.asg (.t 53))]
def o_regex_Text_2_15 : List AOp := [
 mQ 54 (.load none (.t 2)),
 mQ 55 (.fldA 5 (.t 6)),
 mQ 56 (.idxA (some 2) 1 (.t 55) (.c (.nat .i64 0))),
 mQ 57 (.load none (.t 56)),
 mQ 58 (.mkls 1 [.nat .i64 0, .nat .i64 0] [(0, 1, (.c (.nat .i64 3))), (1, 1, (.c (.nat .i64 2)))]),
 mQ 59 (.callQ (.t 54) [.t 57, .t 58]),
 mQ 60 (.fldA 0 (.t 6)),
 mQ 61 (.load none (.t 60)),
 mQ 62 (.bin .sub (.t 61) (.c (.nat .i64 4))),
 mQ 63 (.fldA 0 (.t 6)),
 mQ 64 (.load none (.t 63)),
 mQ 65 (.bin .sub (.t 64) (.c (.nat .i64 4))),
 mQ 66 (.bin .add (.t 65) (.c (.nat .i64 1))),
 mQ 67 (.sliceS (.c (.d (.str [42, 43, 63]))) (some (.t 62)) (some (.t 66))),
 aQ 68 (.bin .add (.t 59) (.t 67)),
 aQ 5 (.asg (.t 68))]
def c_regex_Text_2 : AC :=
 (.seq (.ops o_regex_Text_2_0)
 (.seq (.ops o_regex_Text_2_1)
 (.seq (.seq (.ops o_regex_Text_2_2)
 (.trim [2, 6] (.block 0 (.seq (.ops o_regex_Text_2_3)
 (.cond (.t 13) (.seq (.ops o_regex_Text_2_4)
 .ret) (.seq (.ops o_regex_Text_2_5)
 (.cond (.t 15) (.seq (.ops o_regex_Text_2_6)
 .ret) (.seq (.ops o_regex_Text_2_7)
 (.cond (.t 20) (.seq (.ops o_regex_Text_2_8)
 .ret) (.seq (.ops o_regex_Text_2_9)
 (.cond (.t 22) (.seq (.ops o_regex_Text_2_10)
 .ret) (.seq (.ops o_regex_Text_2_11)
 (.cond (.t 24) (.seq (.ops o_regex_Text_2_12)
 .ret) (.seq (.ops o_regex_Text_2_13)
 (.cond (.t 39) (.seq (.ops o_regex_Text_2_14)
 .ret) .skip)))))))))))))))
 (.seq (.ops o_regex_Text_2_15)
 .ret))))
def a_regex_Text_2 : AFn := { body := c_regex_Text_2, res := [.tmp 5] }
def o_regex_setText_0 : List AOp := [
 aQ 1 (.box (.t 0)),
 aQ 2 (.asg (.c (.d (.str []))))]
def o_regex_setText_1 : List AOp := [
 mQ 5 (.load (some 4) (.t 1)),
 mQ 6 (.callZ (.f f_regex_dot) []),
 aQ 7 (.eqc false [.int .u64, .int .u64, .int .u64, .int .u64] (.t 5) (.t 6)),
 aQ 4 (.asg (.t 7))]
def o_regex_setText_2 : List AOp := [
 aQ 2 (.asg (.c (.d (.str [46]))))]
def o_regex_setText_3 : List AOp := [
 aQ 9 (.load (some 4) (.t 1)),
 aQ 10 (.call (.f f_class_Count) [.t 9]),
 aQ 11 (.bin .eql (.t 10) (.c (.nat .i64 0))),
 aQ 8 (.asg (.t 11))]
def o_regex_setText_4 : List AOp := [
 aQ 2 (.asg (.c (.d (.str [91, 94, 92, 120, 48, 48, 45, 92, 120, 102, 102, 93]))))]
def o_regex_setText_5 : List AOp := [
 aQ 13 (.load (some 4) (.t 1)),
 aQ 14 (.call (.f f_class_Count) [.t 13]),
 aQ 15 (.bin .neq (.t 14) (.c (.nat .i64 1))),
 aQ 12 (.asg (.t 15))]
def o_regex_setText_6 : List AOp := [
 aQ 16 (.load (some 4) (.t 1)),
 aQ 17 (.call (.f f_class_Text) [.t 16]),
 aQ 2 (.asg (.t 17))]
def o_regex_setText_7 : List AOp := [
 aQ 18 (.load (some 4) (.t 1)),
 aQ 19 (.call (.f f_class_Text) [.t 18]),
 aQ 3 (.asg (.t 19))]
def o_regex_setText_8 : List AOp := [
 aQ 20 (.mov (.t 3)),
 aQ 21 (.mov (.t 3)),
 aQ 22 (.lenS (.t 21)),
 aQ 23 (.bin .sub (.t 22) (.c (.nat .i64 1))),
 aQ 24 (.sliceS (.t 20) (some (.c (.nat .i64 1))) (some (.t 23))),
 aQ 2 (.asg (.t 24))]
def c_regex_setText : AC :=
 (.seq (.ops o_regex_setText_0)
 (.seq (.trim [1] (.block 0 (.seq (.ops o_regex_setText_1)
 (.cond (.t 4) (.seq (.ops o_regex_setText_2)
 .ret) (.seq (.ops o_regex_setText_3)
 (.cond (.t 8) (.seq (.ops o_regex_setText_4)
 .ret) (.seq (.ops o_regex_setText_5)
 (.cond (.t 12) (.seq (.ops o_regex_setText_6)
 .ret) .skip))))))))
 (.seq (.ops o_regex_setText_7)
 (.seq (.ops o_regex_setText_8)
 .ret))))
def a_regex_setText : AFn := { body := c_regex_setText, res := [.tmp 2] }
def o_ref05_begin_0 : List AOp := [
 aQ 4 (.asg (.c (.nat .i64 0)))]
def o_ref05_begin_1 : List AOp := [
 aQ 8 (.mov (.t 1)),
 aQ 9 (.bin .lss (.t 8) (.c (.nat .i64 0)))]
def o_ref05_begin_2 : List AOp := [
 aQ 4 (.asg (.c (.d (.int .i64 (-1)))))]
def o_ref05_begin_3 : List AOp := [
 aQ 10 (.mov (.t 0)),
 aQ 11 (.mov (.t 1)),
 aQ 12 (.idxA none 7 (.t 10) (.t 11)),
 aQ 13 (.load (some 7) (.t 12)),
 aQ 5 (.alloc [.nat .i64 0, .nat .u64 0, .nat .u64 0, .nat .u64 0, .nat .u64 0, .nat .i64 0, .nat .i64 0]),
 { dst := none, op := .store 7 (.t 5) (.t 13) }]
def o_ref05_begin_4 : List AOp := [
 aQ 14 (.fldA 0 (.t 5)),
 aQ 15 (.load none (.t 14)),
 aQ 16 (.call (.f f_ref05_many) [.t 15]),
 aQ 6 (.asg (.t 16))]
def o_ref05_begin_5 : List AOp := [
 aQ 17 (.mov (.t 6)),
 aQ 18 (.bin .lss (.t 17) (.c (.nat .i64 0))),
 aQ 19 (.mov (.t 18)),
 gQ 20 (.fldA 0 (.t 5)) 19 false,
 gQ 21 (.load none (.t 20)) 19 false,
 gQ 22 (.bin .neq (.t 21) (.c (.nat .i64 1))) 19 false,
 gQ 23 (.mov (.t 22)) 19 false,
 gQ 24 (.fldA 1 (.t 5)) 23 true,
 gQ 25 (.load (some 4) (.t 24)) 23 true,
 gQ 26 (.build [.nat .u64 0, .nat .u64 0, .nat .u64 0, .nat .u64 0] []) 23 true,
 gQ 27 (.eqc true [.int .u64, .int .u64, .int .u64, .int .u64] (.t 25) (.t 26)) 23 true,
 gQ 28 (.pick (.t 23) (.t 27) (.c (.d (.bool false)))) 19 false,
 aQ 29 (.pick (.t 19) (.c (.d (.bool true))) (.t 28))]
def o_ref05_begin_6 : List AOp := [
 aQ 4 (.asg (.c (.d (.int .i64 (-1)))))]
def o_ref05_begin_7 : List AOp := [
 aQ 30 (.mov (.t 6)),
 aQ 31 (.bin .eql (.t 30) (.c (.nat .i64 0)))]
def o_ref05_begin_8 : List AOp := [
 aQ 32 (.fldA 5 (.t 5)),
 aQ 33 (.load (some 2) (.t 32)),
 aQ 34 (.build [.nat .i64 0, .nat .i64 0] [(0, 1, (.c (.nat .i64 0))), (1, 1, (.c (.nat .i64 0)))]),
 aQ 35 (.eqc true [.int .i64, .int .i64] (.t 33) (.t 34))]
def o_ref05_begin_9 : List AOp := [
 aQ 4 (.asg (.c (.d (.int .i64 (-1)))))]
def o_ref05_begin_10 : List AOp := [
 aQ 36 (.mov (.t 1)),
 aQ 4 (.asg (.t 36))]
def o_ref05_begin_11 : List AOp := [
 aQ 37 (.mov (.t 6)),
 aQ 38 (.bin .eql (.t 37) (.c (.nat .i64 1)))]
def o_ref05_begin_12 : List AOp := [
 aQ 39 (.fldA 5 (.t 5)),
 aQ 40 (.load (some 2) (.t 39)),
 aQ 41 (.mov (.t 1)),
 aQ 42 (.bin .sub (.t 41) (.c (.nat .i64 1))),
 aQ 43 (.build [.nat .i64 0, .nat .i64 0] [(0, 1, (.t 42)), (1, 1, (.c (.nat .i64 0)))]),
 aQ 44 (.eqc true [.int .i64, .int .i64] (.t 40) (.t 43))]
def o_ref05_begin_13 : List AOp := [
 aQ 4 (.asg (.c (.d (.int .i64 (-1)))))]
def o_ref05_begin_14 : List AOp := [
 aQ 45 (.mov (.t 0)),
 aQ 46 (.mov (.t 1)),
 aQ 47 (.bin .sub (.t 46) (.c (.nat .i64 1))),
 aQ 48 (.call (.f f_ref05_begin) [.t 45, .t 47]),
 aQ 4 (.asg (.t 48))]
def o_ref05_begin_15 : List AOp := [
 aQ 49 (.mov (.t 0)),
 aQ 50 (.mov (.t 1)),
 aQ 51 (.bin .sub (.t 50) (.c (.nat .i64 1))),
 aQ 52 (.call (.f f_ref05_begin) [.t 49, .t 51]),
 aQ 7 (.asg (.t 52))]
def o_ref05_begin_16 : List AOp := [
 aQ 53 (.mov (.t 7)),
 aQ 54 (.bin .lss (.t 53) (.c (.nat .i64 1))),
 aQ 55 (.mov (.t 54)),
 gQ 56 (.fldA 5 (.t 5)) 55 false,
 gQ 57 (.load (some 2) (.t 56)) 55 false,
 gQ 58 (.mov (.t 7)) 55 false,
 gQ 59 (.bin .sub (.t 58) (.c (.nat .i64 1))) 55 false,
 gQ 60 (.mov (.t 1)) 55 false,
 gQ 61 (.bin .sub (.t 60) (.c (.nat .i64 1))) 55 false,
 gQ 62 (.build [.nat .i64 0, .nat .i64 0] [(0, 1, (.t 59)), (1, 1, (.t 61))]) 55 false,
 gQ 63 (.eqc true [.int .i64, .int .i64] (.t 57) (.t 62)) 55 false,
 aQ 64 (.pick (.t 55) (.c (.d (.bool true))) (.t 63))]
def o_ref05_begin_17 : List AOp := [
 aQ 4 (.asg (.c (.d (.int .i64 (-1)))))]
def o_ref05_begin_18 : List AOp := [
 aQ 65 (.mov (.t 0)),
 aQ 66 (.mov (.t 7)),
 aQ 67 (.bin .sub (.t 66) (.c (.nat .i64 1))),
 aQ 68 (.call (.f f_ref05_begin) [.t 65, .t 67]),
 aQ 4 (.asg (.t 68))]
def c_ref05_begin : AC :=
 (.seq (.ops o_ref05_begin_0)
 (.seq (.seq (.ops o_ref05_begin_1)
 (.cond (.t 9) (.seq (.ops o_ref05_begin_2)
 .ret) .skip))
 (.seq (.ops o_ref05_begin_3)
 (.seq (.ops o_ref05_begin_4)
 (.seq (.seq (.ops o_ref05_begin_5)
 (.cond (.t 29) (.seq (.ops o_ref05_begin_6)
 .ret) .skip))
 (.seq (.seq (.ops o_ref05_begin_7)
 (.cond (.t 31) (.seq (.seq (.ops o_ref05_begin_8)
 (.cond (.t 35) (.seq (.ops o_ref05_begin_9)
 .ret) .skip))
 (.seq (.ops o_ref05_begin_10)
 .ret)) .skip))
 (.seq (.seq (.ops o_ref05_begin_11)
 (.cond (.t 38) (.seq (.seq (.ops o_ref05_begin_12)
 (.cond (.t 44) (.seq (.ops o_ref05_begin_13)
 .ret) .skip))
 (.seq (.ops o_ref05_begin_14)
 .ret)) .skip))
 (.seq (.ops o_ref05_begin_15)
 (.seq (.seq (.ops o_ref05_begin_16)
 (.cond (.t 64) (.seq (.ops o_ref05_begin_17)
 .ret) .skip))
 (.seq (.ops o_ref05_begin_18)
 .ret))))))))))
def a_ref05_begin : AFn := { body := c_ref05_begin, res := [.tmp 4] }
def o_ref05_many_0 : List AOp := [
 aQ 2 (.asg (.c (.nat .i64 0)))]
def o_ref05_many_1 : List AOp := [
 aQ 3 (.mov (.t 0)),
 aQ 4 (.bin .eql (.t 3) (.c (.nat .i64 2))),
 aQ 5 (.mov (.t 4)),
 gQ 6 (.mov (.t 0)) 5 false,
 gQ 7 (.bin .eql (.t 6) (.c (.nat .i64 3))) 5 false,
 aQ 8 (.pick (.t 5) (.c (.d (.bool true))) (.t 7))]
def o_ref05_many_2 : List AOp := [
 aQ 2 (.asg (.c (.nat .i64 2)))]
def o_ref05_many_3 : List AOp := [
 aQ 9 (.mov (.t 0)),
 aQ 10 (.bin .geq (.t 9) (.c (.nat .i64 4))),
 aQ 11 (.mov (.t 10)),
 gQ 12 (.mov (.t 0)) 11 true,
 gQ 13 (.bin .leq (.t 12) (.c (.nat .i64 6))) 11 true,
 aQ 14 (.pick (.t 11) (.t 13) (.c (.d (.bool false))))]
def o_ref05_many_4 : List AOp := [
 aQ 2 (.asg (.c (.nat .i64 1)))]
def o_ref05_many_5 : List AOp := [
 aQ 15 (.mov (.t 0)),
 aQ 16 (.bin .eql (.t 15) (.c (.nat .i64 0))),
 aQ 17 (.mov (.t 16)),
 gQ 18 (.mov (.t 0)) 17 false,
 gQ 19 (.bin .eql (.t 18) (.c (.nat .i64 1))) 17 false,
 aQ 20 (.pick (.t 17) (.c (.d (.bool true))) (.t 19)),
 aQ 21 (.mov (.t 20)),
 gQ 22 (.mov (.t 0)) 21 false,
 gQ 23 (.bin .eql (.t 22) (.c (.nat .i64 7))) 21 false,
 aQ 24 (.pick (.t 21) (.c (.d (.bool true))) (.t 23)),
 aQ 25 (.mov (.t 24)),
 gQ 26 (.mov (.t 0)) 25 false,
 gQ 27 (.bin .eql (.t 26) (.c (.nat .i64 8))) 25 false,
 aQ 28 (.pick (.t 25) (.c (.d (.bool true))) (.t 27))]
def o_ref05_many_6 : List AOp := [
 aQ 2 (.asg (.c (.nat .i64 0)))]
def o_ref05_many_7 : List AOp := [
 aQ 2 (.asg (.c (.d (.int .i64 (-1)))))]
def c_ref05_many : AC :=
 (.seq (.ops o_ref05_many_0)
 (.seq (.seq (.ops o_ref05_many_1)
 (.cond (.t 8) (.seq (.ops o_ref05_many_2)
 .ret) .skip))
 (.seq (.seq (.ops o_ref05_many_3)
 (.cond (.t 14) (.seq (.ops o_ref05_many_4)
 .ret) .skip))
 (.seq (.seq (.ops o_ref05_many_5)
 (.cond (.t 28) (.seq (.ops o_ref05_many_6)
 .ret) .skip))
 (.seq (.ops o_ref05_many_7)
 .ret)))))
def a_ref05_many : AFn := { body := c_ref05_many, res := [.tmp 2] }
def o_slices_Clone_api_Re_api_Re_0 : List AOp := [
 aQ 2 (.asg (.c (.nil)))]
def o_slices_Clone_api_Re_api_Re_1 : List AOp := [
 aQ 3 (.mov (.t 0)),
 aQ 4 (.eqnil 3 false (.t 3))]
def o_slices_Clone_api_Re_api_Re_2 : List AOp := [
 aQ 2 (.asg (.c (.nil)))]
def o_slices_Clone_api_Re_api_Re_3 : List AOp := [
 aQ 5 (.mkls 7 [] []),
 aQ 6 (.mov (.t 0)),
 aQ 7 (.append 7 (.t 5) (.t 6)),
 aQ 2 (.asg (.t 7))]
def c_slices_Clone_api_Re_api_Re : AC :=
 (.seq (.ops o_slices_Clone_api_Re_api_Re_0)
 (.seq (.seq (.ops o_slices_Clone_api_Re_api_Re_1)
 (.cond (.t 4) (.seq (.ops o_slices_Clone_api_Re_api_Re_2)
 .ret) .skip))
 (.seq (.ops o_slices_Clone_api_Re_api_Re_3)
 .ret)))
def a_slices_Clone_api_Re_api_Re : AFn := { body := c_slices_Clone_api_Re_api_Re, res := [.tmp 2], keep := true }
def o_regex_kids_0 : List AOp := [
 aQ 2 (.asg (.c (.nat .i64 0)))]
def o_regex_kids_1 : List AOp := [
 aQ 3 (.mov (.t 0))]
def o_regex_kids_2 : List AOp := [
 aQ 5 (.bin .eql (.t 3) (.c (.nat .i64 0))),
 aQ 4 (.asg (.t 5))]
def o_regex_kids_3 : List AOp := [
 aQ 6 (.bin .eql (.t 3) (.c (.nat .i64 1))),
 aQ 4 (.asg (.t 6))]
def o_regex_kids_4 : List AOp := [
 aQ 7 (.bin .eql (.t 3) (.c (.nat .i64 7))),
 aQ 4 (.asg (.t 7))]
def o_regex_kids_5 : List AOp := [
 aQ 8 (.bin .eql (.t 3) (.c (.nat .i64 8))),
 aQ 4 (.asg (.t 8))]
def o_regex_kids_6 : List AOp := [
 aQ 2 (.asg (.c (.nat .i64 0)))]
def o_regex_kids_7 : List AOp := [
 aQ 10 (.bin .eql (.t 3) (.c (.nat .i64 4))),
 aQ 9 (.asg (.t 10))]
def o_regex_kids_8 : List AOp := [
 aQ 11 (.bin .eql (.t 3) (.c (.nat .i64 5))),
 aQ 9 (.asg (.t 11))]
def o_regex_kids_9 : List AOp := [
 aQ 12 (.bin .eql (.t 3) (.c (.nat .i64 6))),
 aQ 9 (.asg (.t 12))]
def o_regex_kids_10 : List AOp := [
 aQ 2 (.asg (.c (.nat .i64 1)))]
def o_regex_kids_11 : List AOp := [
 aQ 14 (.bin .eql (.t 3) (.c (.nat .i64 2))),
 aQ 13 (.asg (.t 14))]
def o_regex_kids_12 : List AOp := [
 aQ 15 (.bin .eql (.t 3) (.c (.nat .i64 3))),
 aQ 13 (.asg (.t 15))]
def o_regex_kids_13 : List AOp := [
 aQ 2 (.asg (.c (.nat .i64 2)))]
def o_regex_kids_14 : List AOp := [
 aQ 2 (.asg (.c (.d (.int .i64 (-1)))))]
def c_regex_kids : AC :=
 (.seq (.ops o_regex_kids_0)
 (.seq (.seq (.ops o_regex_kids_1)
 (.trim [] (.block 0 (.seq (.seq (.ops o_regex_kids_2)
 (.cond (.t 4) .skip (.seq (.ops o_regex_kids_3)
 (.cond (.t 4) .skip (.seq (.ops o_regex_kids_4)
 (.cond (.t 4) .skip (.ops o_regex_kids_5)))))))
 (.cond (.t 4) (.seq (.ops o_regex_kids_6)
 .ret) (.seq (.seq (.ops o_regex_kids_7)
 (.cond (.t 9) .skip (.seq (.ops o_regex_kids_8)
 (.cond (.t 9) .skip (.ops o_regex_kids_9)))))
 (.cond (.t 9) (.seq (.ops o_regex_kids_10)
 .ret) (.seq (.seq (.ops o_regex_kids_11)
 (.cond (.t 13) .skip (.ops o_regex_kids_12)))
 (.cond (.t 13) (.seq (.ops o_regex_kids_13)
 .ret) .skip)))))))))
 (.seq (.ops o_regex_kids_14)
 .ret)))
def a_regex_kids : AFn := { body := c_regex_kids, res := [.tmp 2] }
def o_class_One_0 : List AOp := [
 aQ 2 (.alloc [.nat .u64 0, .nat .u64 0, .nat .u64 0, .nat .u64 0])]
def o_class_One_1 : List AOp := [
 aQ 3 (.mov (.t 0)),
 aQ 4 (.mov (.t 0)),
 aQ 5 (.call (.f f_class_Span) [.t 3, .t 4]),
 { dst := none, op := .store 4 (.t 2) (.t 5) }]
def c_class_One : AC :=
 (.seq (.ops o_class_One_0)
 (.seq (.ops o_class_One_1)
 .ret))
def a_class_One : AFn := { body := c_class_One, res := [.cell 2 (some 4)] }
def o_regex_reader_cat_0 : List AOp := [
 aQ 2 (.asg (.c (.nat .i64 0)))]
def o_regex_reader_cat_1 : List AOp := [
 aQ 3 (.asg (.c (.d (.int .i64 (-1)))))]
def o_regex_reader_cat_2 : List AOp := [
 mQ 5 (.mov (.t 0)),
 mQ 6 (.nilchk (.t 5)),
 mQ 7 (.fldA 1 (.t 6)),
 mQ 8 (.load none (.t 7)),
 mQ 9 (.mov (.t 0)),
 mQ 10 (.nilchk (.t 9)),
 mQ 11 (.fldA 0 (.t 10)),
 mQ 12 (.load none (.t 11)),
 mQ 13 (.lenS (.t 12)),
 aQ 14 (.bin .lss (.t 8) (.t 13)),
 aQ 15 (.mov (.t 14)),
 gQ 16 (.mov (.t 0)) 15 true,
 gQ 17 (.call (.f f_regex_reader_sees) [.t 16, .c (.nat .u8 124)]) 15 true,
 gQ 18 (.un .not (.t 17)) 15 true,
 aQ 19 (.pick (.t 15) (.t 18) (.c (.d (.bool false)))),
 aQ 20 (.mov (.t 19)),
 gQ 21 (.mov (.t 0)) 20 true,
 gQ 22 (.call (.f f_regex_reader_sees) [.t 21, .c (.nat .u8 41)]) 20 true,
 gQ 23 (.un .not (.t 22)) 20 true,
 aQ 24 (.pick (.t 20) (.t 23) (.c (.d (.bool false))))]
def o_regex_reader_cat_3 : List AOp := [
 aQ 25 (.mov (.t 0)),
 aQ 26 (.call (.f f_regex_reader_piece) [.t 25]),
 aQ 4 (.asg (.t 26))]
def o_regex_reader_cat_4 : List AOp := [
 aQ 27 (.mov (.t 3)),
 aQ 28 (.bin .geq (.t 27) (.c (.nat .i64 0)))]
def o_regex_reader_cat_5 : List AOp := [
 aQ 29 (.mov (.t 0)),
 aQ 30 (.mov (.t 3)),
 aQ 31 (.mov (.t 4)),
 aQ 32 (.build [.nat .i64 0, .nat .i64 0] [(0, 1, (.t 30)), (1, 1, (.t 31))]),
 aQ 33 (.build [.nat .i64 0, .nat .u64 0, .nat .u64 0, .nat .u64 0, .nat .u64 0, .nat .i64 0, .nat .i64 0] [(0, 1, (.c (.nat .i64 2))), (5, 2, (.t 32))]),
 aQ 34 (.call (.f f_regex_reader_put) [.t 29, .t 33]),
 aQ 4 (.asg (.t 34))]
def o_regex_reader_cat_6 : List AOp := [
 aQ 35 (.mov (.t 4)),
 aQ 3 (.asg (.t 35))]
def b_regex_reader_cat_0 : AC := (.seq (.seq (.ops o_regex_reader_cat_2)
 (.cond (.t 24) .skip (.exit 0)))
 (.trim [0, 3] (.block 1 (.seq (.ops o_regex_reader_cat_3)
 (.seq (.seq (.ops o_regex_reader_cat_4)
 (.cond (.t 28) (.ops o_regex_reader_cat_5) .skip))
 (.ops o_regex_reader_cat_6))))))
def o_regex_reader_cat_7 : List AOp := [
 aQ 36 (.mov (.t 3)),
 aQ 37 (.bin .lss (.t 36) (.c (.nat .i64 0)))]
def o_regex_reader_cat_8 : List AOp := [
 aQ 38 (.mov (.t 0)),
 aQ 39 (.build [.nat .i64 0, .nat .u64 0, .nat .u64 0, .nat .u64 0, .nat .u64 0, .nat .i64 0, .nat .i64 0] []),
 aQ 40 (.call (.f f_regex_reader_put) [.t 38, .t 39]),
 aQ 2 (.asg (.t 40))]
def o_regex_reader_cat_9 : List AOp := [
 aQ 41 (.mov (.t 3)),
 aQ 2 (.asg (.t 41))]
def c_regex_reader_cat : AC :=
 (.seq (.ops o_regex_reader_cat_0)
 (.seq (.ops o_regex_reader_cat_1)
 (.seq (.trim [0, 3] (.block 0 (.loop [0, 3] b_regex_reader_cat_0)))
 (.seq (.seq (.ops o_regex_reader_cat_7)
 (.cond (.t 37) (.seq (.ops o_regex_reader_cat_8)
 .ret) .skip))
 (.seq (.ops o_regex_reader_cat_9)
 .ret)))))
def a_regex_reader_cat : AFn := { body := c_regex_reader_cat, res := [.tmp 2] }
def o_regex_reader_sees_0 : List AOp := [
 aQ 4 (.asg (.c (.d (.bool false))))]
def o_regex_reader_sees_1 : List AOp := [
 mQ 5 (.mov (.t 0)),
 mQ 6 (.nilchk (.t 5)),
 mQ 7 (.fldA 1 (.t 6)),
 mQ 8 (.load none (.t 7)),
 mQ 9 (.mov (.t 0)),
 mQ 10 (.nilchk (.t 9)),
 mQ 11 (.fldA 0 (.t 10)),
 mQ 12 (.load none (.t 11)),
 mQ 13 (.lenS (.t 12)),
 aQ 14 (.bin .lss (.t 8) (.t 13)),
 aQ 15 (.mov (.t 14)),
 hQ 16 (.mov (.t 0)) 15 true,
 hQ 17 (.nilchk (.t 16)) 15 true,
 hQ 18 (.fldA 0 (.t 17)) 15 true,
 hQ 19 (.load none (.t 18)) 15 true,
 hQ 20 (.mov (.t 0)) 15 true,
 hQ 21 (.nilchk (.t 20)) 15 true,
 hQ 22 (.fldA 1 (.t 21)) 15 true,
 hQ 23 (.load none (.t 22)) 15 true,
 hQ 24 (.idxS (.t 19) (.t 23)) 15 true,
 hQ 25 (.mov (.t 1)) 15 true,
 gQ 26 (.bin .eql (.t 24) (.t 25)) 15 true,
 aQ 27 (.pick (.t 15) (.t 26) (.c (.d (.bool false)))),
 aQ 4 (.asg (.t 27))]
def c_regex_reader_sees : AC :=
 (.seq (.ops o_regex_reader_sees_0)
 (.seq (.ops o_regex_reader_sees_1)
 .ret))
def a_regex_reader_sees : AFn := { body := c_regex_reader_sees, res := [.tmp 4] }
def o_regex_reader_put_0 : List AOp := [
 aQ 3 (.box (.t 1)),
 aQ 4 (.asg (.c (.nat .i64 0)))]
def o_regex_reader_put_1 : List AOp := [
 aQ 5 (.mov (.t 0)),
 aQ 6 (.nilchk (.t 5)),
 aQ 7 (.fldA 3 (.t 6)),
 aQ 8 (.load none (.t 7)),
 aQ 9 (.len (.t 8)),
 aQ 10 (.bin .geq (.t 9) (.c (.nat .i64 2000)))]
def o_regex_reader_put_2 : List AOp := [
 aQ 11 (.build [.nat .i64 0] [(0, 1, (.c (.nat .i64 6)))]),
 aQ 12 (.mkifc 50 (.t 11)),
 { dst := none, op := .panic (.t 12) }]
def o_regex_reader_put_3 : List AOp := [
 mQ 13 (.mov (.t 0)),
 mQ 14 (.mov (.t 0)),
 mQ 15 (.nilchk (.t 14)),
 mQ 16 (.fldA 3 (.t 15)),
 mQ 17 (.takeload (.t 16)),
 mQ 18 (.load (some 7) (.t 3)),
 mQ 19 (.mkls 7 [.nat .i64 0, .nat .u64 0, .nat .u64 0, .nat .u64 0, .nat .u64 0, .nat .i64 0, .nat .i64 0] [(0, 7, (.t 18))]),
 mQ 20 (.append 7 (.t 17) (.t 19)),
 aQ 21 (.nilchk (.t 13)),
 aQ 22 (.fldA 3 (.t 21)),
 { dst := none, op := .store 1 (.t 22) (.t 20) }]
def o_regex_reader_put_4 : List AOp := [
 aQ 23 (.mov (.t 0)),
 aQ 24 (.nilchk (.t 23)),
 aQ 25 (.fldA 3 (.t 24)),
 aQ 26 (.load none (.t 25)),
 aQ 27 (.len (.t 26)),
 aQ 28 (.bin .sub (.t 27) (.c (.nat .i64 1))),
 aQ 4 (.asg (.t 28))]
def c_regex_reader_put : AC :=
 (.seq (.ops o_regex_reader_put_0)
 (.seq (.seq (.ops o_regex_reader_put_1)
 (.cond (.t 10) (.ops o_regex_reader_put_2) .skip))
 (.seq (.ops o_regex_reader_put_3)
 (.seq (.ops o_regex_reader_put_4)
 .ret))))
def a_regex_reader_put : AFn := { body := c_regex_reader_put, res := [.tmp 4] }
def o_slices_Index_int_int_0 : List AOp := [
 aQ 4 (.asg (.c (.nat .i64 0)))]
def o_slices_Index_int_int_1 : List AOp := [
 aQ 6 (.mov (.t 0)),
 aQ 7 (.len (.t 6)),
 aQ 8 (.mov (.c (.nat .i64 0)))]
def o_slices_Index_int_int_2 : List AOp := [
 aQ 9 (.bin .lss (.t 8) (.t 7))]
def o_slices_Index_int_int_3 : List AOp := [
 aQ 10 (.mov (.t 8)),
 aQ 5 (.asg (.t 10))]
def o_slices_Index_int_int_4 : List AOp := [
 aQ 11 (.mov (.t 1)),
 aQ 12 (.mov (.t 0)),
 aQ 13 (.mov (.t 5)),
 aQ 14 (.idxA none 1 (.t 12) (.t 13)),
 aQ 15 (.load none (.t 14)),
 aQ 16 (.bin .eql (.t 11) (.t 15))]
def o_slices_Index_int_int_5 : List AOp := [
 aQ 17 (.mov (.t 5)),
 aQ 4 (.asg (.t 17))]
def o_slices_Index_int_int_6 : List AOp := [
 aQ 18 (.bin .add (.t 8) (.c (.nat .i64 1))),
 aQ 8 (.mov (.t 18))]
def b_slices_Index_int_int_0 : AC := (.seq (.ops o_slices_Index_int_int_2)
 (.seq (.cond (.t 9) .skip (.exit 0))
 (.seq (.trim [0, 1, 7, 8] (.block 1 (.seq (.ops o_slices_Index_int_int_3)
 (.seq (.ops o_slices_Index_int_int_4)
 (.cond (.t 16) (.seq (.ops o_slices_Index_int_int_5)
 .ret) .skip)))))
 (.ops o_slices_Index_int_int_6))))
def o_slices_Index_int_int_7 : List AOp := [
 aQ 4 (.asg (.c (.d (.int .i64 (-1)))))]
def c_slices_Index_int_int : AC :=
 (.seq (.ops o_slices_Index_int_int_0)
 (.seq (.seq (.ops o_slices_Index_int_int_1)
 (.trim [] (.block 0 (.loop [0, 1, 7, 8] b_slices_Index_int_int_0))))
 (.seq (.ops o_slices_Index_int_int_7)
 .ret)))
def a_slices_Index_int_int : AFn := { body := c_slices_Index_int_int, res := [.tmp 4] }
def o_regex_dot_0 : List AOp := [
 aQ 0 (.alloc [.nat .u64 0, .nat .u64 0, .nat .u64 0, .nat .u64 0])]
def o_regex_dot_1 : List AOp := [
 aQ 1 (.call (.f f_class_One) [.c (.nat .u8 10)]),
 aQ 2 (.call (.f f_class_Not) [.t 1]),
 { dst := none, op := .store 4 (.t 0) (.t 2) }]
def c_regex_dot : AC :=
 (.seq (.ops o_regex_dot_0)
 (.seq (.ops o_regex_dot_1)
 .ret))
def a_regex_dot : AFn := { body := c_regex_dot, res := [.cell 0 (some 4)] }
def o_class_Count_0 : List AOp := [
 aQ 1 (.box (.t 0)),
 aQ 2 (.asg (.c (.nat .i64 0)))]
def o_class_Count_1 : List AOp := [
 aQ 3 (.asg (.c (.nat .i64 0)))]
def o_class_Count_2 : List AOp := [
 aQ 6 (.load (some 4) (.t 1)),
 aQ 7 (.mov (.c (.nat .i64 0)))]
def o_class_Count_3 : List AOp := [
 aQ 8 (.bin .lss (.t 7) (.c (.nat .i64 4)))]
def o_class_Count_4 : List AOp := [
 aQ 9 (.idxV 4 1 none (.t 6) (.t 7)),
 aQ 5 (.asg (.t 9))]
def o_class_Count_5 : List AOp := [
 aQ 10 (.mov (.t 3)),
 aQ 11 (.mov (.t 5)),
 aQ 12 (.call (.f f_bits_OnesCount64) [.t 11]),
 aQ 13 (.bin .add (.t 10) (.t 12)),
 aQ 3 (.asg (.t 13))]
def o_class_Count_6 : List AOp := [
 aQ 14 (.bin .add (.t 7) (.c (.nat .i64 1))),
 aQ 7 (.mov (.t 14))]
def b_class_Count_0 : AC := (.seq (.ops o_class_Count_3)
 (.seq (.cond (.t 8) .skip (.exit 0))
 (.seq (.trim [3, 6, 7] (.block 1 (.seq (.ops o_class_Count_4)
 (.ops o_class_Count_5))))
 (.ops o_class_Count_6))))
def o_class_Count_7 : List AOp := [
 aQ 15 (.mov (.t 3)),
 aQ 2 (.asg (.t 15))]
def c_class_Count : AC :=
 (.seq (.ops o_class_Count_0)
 (.seq (.ops o_class_Count_1)
 (.seq (.seq (.ops o_class_Count_2)
 (.trim [3] (.block 0 (.loop [3, 6, 7] b_class_Count_0))))
 (.seq (.ops o_class_Count_7)
 .ret))))
def a_class_Count : AFn := { body := c_class_Count, res := [.tmp 2] }
def o_class_Text_0 : List AOp := [
 aQ 1 (.box (.t 0)),
 aQ 2 (.asg (.c (.d (.str []))))]
def o_class_Text_1 : List AOp := [
 aQ 3 (.alloc [.d (.str [])]),
 { dst := none, op := .store 1 (.t 3) (.c (.d (.str [91]))) }]
def o_class_Text_2 : List AOp := [
 aQ 6 (.load (some 4) (.t 1)),
 aQ 7 (.call (.f f_class_runs) [.t 6])]
def o_class_Text_5 : List AOp := [
 mQ 10 (.load none (.t 3)),
 mQ 11 (.mov (.t 4)),
 mQ 12 (.callZ (.f f_class_Plain) [.t 11]),
 aQ 13 (.bin .add (.t 10) (.t 12)),
 { dst := none, op := .store 1 (.t 3) (.t 13) }]
def o_class_Text_6 : List AOp := [
 aQ 15 (.mov (.t 5)),
 aQ 16 (.toInt .i64 (.t 15)),
 aQ 17 (.mov (.t 4)),
 aQ 18 (.toInt .i64 (.t 17)),
 aQ 19 (.bin .add (.t 18) (.c (.nat .i64 1))),
 aQ 20 (.bin .gtr (.t 16) (.t 19)),
 aQ 14 (.asg (.t 20))]
def o_class_Text_7 : List AOp := [
 mQ 21 (.load none (.t 3)),
 mQ 22 (.mov (.t 5)),
 mQ 23 (.callZ (.f f_class_Plain) [.t 22]),
 mQ 24 (.bin .add (.c (.d (.str [45]))) (.t 23)),
 aQ 25 (.bin .add (.t 21) (.t 24)),
 { dst := none, op := .store 1 (.t 3) (.t 25) }]
def o_class_Text_8 : List AOp := [
 aQ 27 (.mov (.t 5)),
 aQ 28 (.mov (.t 4)),
 aQ 29 (.bin .gtr (.t 27) (.t 28)),
 aQ 26 (.asg (.t 29))]
def o_class_Text_9 : List AOp := [
 mQ 30 (.load none (.t 3)),
 mQ 31 (.mov (.t 5)),
 mQ 32 (.callZ (.f f_class_Plain) [.t 31]),
 aQ 33 (.bin .add (.t 30) (.t 32)),
 { dst := none, op := .store 1 (.t 3) (.t 33) }]
def r_class_Text_0 : AC := (.trim [3] (.block 1 (.seq (.ops o_class_Text_5)
 (.trim [3] (.block 2 (.seq (.ops o_class_Text_6)
 (.cond (.t 14) (.ops o_class_Text_7) (.seq (.ops o_class_Text_8)
 (.cond (.t 26) (.ops o_class_Text_9) .skip)))))))))
def o_class_Text_10 : List AOp := [
 aQ 34 (.load none (.t 3)),
 aQ 35 (.bin .add (.t 34) (.c (.d (.str [93])))),
 aQ 2 (.asg (.t 35))]
def c_class_Text : AC :=
 (.seq (.ops o_class_Text_0)
 (.seq (.ops o_class_Text_1)
 (.seq (.seq (.ops o_class_Text_2)
 (.trim [3] (.block 0 .hole)))
 (.seq (.ops o_class_Text_10)
 .ret))))
def a_class_Text : AFn := { body := c_class_Text, res := [.tmp 2] }
def o_class_Span_0 : List AOp := [
 aQ 4 (.alloc [.nat .u64 0, .nat .u64 0, .nat .u64 0, .nat .u64 0])]
def o_class_Span_1 : List AOp := [
 aQ 5 (.alloc [.nat .u64 0, .nat .u64 0, .nat .u64 0, .nat .u64 0])]
def o_class_Span_2 : List AOp := [
 aQ 7 (.mov (.t 0)),
 aQ 8 (.toInt .i64 (.t 7)),
 aQ 6 (.asg (.t 8))]
def o_class_Span_3 : List AOp := [
 aQ 9 (.mov (.t 6)),
 aQ 10 (.mov (.t 1)),
 aQ 11 (.toInt .i64 (.t 10)),
 aQ 12 (.bin .leq (.t 9) (.t 11))]
def o_class_Span_5 : List AOp := [
 mQ 15 (.mov (.t 6)),
 mQ 16 (.bin .quo (.t 15) (.c (.nat .i64 64))),
 mQ 17 (.idxA (some 4) 1 (.t 5) (.t 16)),
 mQ 18 (.load none (.t 17)),
 mQ 19 (.mov (.t 6)),
 mQ 20 (.bin .rem (.t 19) (.c (.nat .i64 64))),
 mQ 21 (.bin .shl (.c (.nat .u64 1)) (.t 20)),
 aQ 22 (.bin .or (.t 18) (.t 21)),
 aQ 23 (.idxA (some 4) 1 (.t 5) (.t 16)),
 { dst := none, op := .store 1 (.t 23) (.t 22) }]
def o_class_Span_4 : List AOp := [
 aQ 13 (.mov (.t 6)),
 aQ 14 (.bin .add (.t 13) (.c (.nat .i64 1))),
 aQ 6 (.asg (.t 14))]
def b_class_Span_0 : AC := (.seq (.seq (.ops o_class_Span_3)
 (.cond (.t 12) .skip (.exit 0)))
 (.seq (.trim [1, 4, 5, 6] (.block 1 (.ops o_class_Span_5)))
 (.ops o_class_Span_4)))
def o_class_Span_6 : List AOp := [
 aQ 24 (.load (some 4) (.t 5)),
 { dst := none, op := .store 4 (.t 4) (.t 24) }]
def c_class_Span : AC :=
 (.seq (.ops o_class_Span_0)
 (.seq (.ops o_class_Span_1)
 (.seq (.seq (.ops o_class_Span_2)
 (.trim [4, 5] (.block 0 (.loop [1, 4, 5, 6] b_class_Span_0))))
 (.seq (.ops o_class_Span_6)
 .ret))))
def a_class_Span : AFn := { body := c_class_Span, res := [.cell 4 (some 4)] }
def o_regex_reader_piece_0 : List AOp := [
 aQ 2 (.asg (.c (.nat .i64 0)))]
def o_regex_reader_piece_1 : List AOp := [
 aQ 5 (.mov (.t 0)),
 aQ 6 (.call (.f f_regex_reader_atom) [.t 5]),
 aQ 3 (.asg (.t 6))]
def o_regex_reader_piece_2 : List AOp := [
 mQ 7 (.mov (.t 0)),
 mQ 8 (.nilchk (.t 7)),
 mQ 9 (.fldA 1 (.t 8)),
 mQ 10 (.load none (.t 9)),
 mQ 11 (.mov (.t 0)),
 mQ 12 (.nilchk (.t 11)),
 mQ 13 (.fldA 0 (.t 12)),
 mQ 14 (.load none (.t 13)),
 mQ 15 (.lenS (.t 14)),
 aQ 16 (.bin .lss (.t 10) (.t 15))]
def o_regex_reader_piece_3 : List AOp := [
 mQ 17 (.mov (.t 0)),
 mQ 18 (.nilchk (.t 17)),
 mQ 19 (.fldA 0 (.t 18)),
 mQ 20 (.load none (.t 19)),
 mQ 21 (.mov (.t 0)),
 mQ 22 (.nilchk (.t 21)),
 mQ 23 (.fldA 1 (.t 22)),
 mQ 24 (.load none (.t 23)),
 aQ 25 (.idxS (.t 20) (.t 24)),
 aQ 26 (.call (.f f_strings_IndexByte) [.c (.d (.str [42, 43, 63])), .t 25]),
 aQ 4 (.asg (.t 26))]
def o_regex_reader_piece_4 : List AOp := [
 aQ 27 (.mov (.t 4)),
 aQ 28 (.bin .lss (.t 27) (.c (.nat .i64 0)))]
def o_regex_reader_piece_5 : List AOp := [
 aQ 29 (.mov (.t 0)),
 aQ 30 (.nilchk (.t 29)),
 aQ 31 (.fldA 1 (.t 30)),
 aQ 32 (.load none (.t 31)),
 aQ 33 (.bin .add (.t 32) (.c (.nat .i64 1))),
 aQ 34 (.nilchk (.t 29)),
 aQ 35 (.fldA 1 (.t 34)),
 { dst := none, op := .store 1 (.t 35) (.t 33) }]
def o_regex_reader_piece_6 : List AOp := [
 aQ 36 (.mov (.t 0)),
 aQ 37 (.mov (.t 4)),
 aQ 38 (.bin .add (.c (.nat .i64 4)) (.t 37)),
 aQ 39 (.mov (.t 3)),
 aQ 40 (.build [.nat .i64 0, .nat .i64 0] [(0, 1, (.t 39))]),
 aQ 41 (.build [.nat .i64 0, .nat .u64 0, .nat .u64 0, .nat .u64 0, .nat .u64 0, .nat .i64 0, .nat .i64 0] [(0, 1, (.t 38)), (5, 2, (.t 40))]),
 aQ 42 (.call (.f f_regex_reader_put) [.t 36, .t 41]),
 aQ 3 (.asg (.t 42))]
def b_regex_reader_piece_0 : AC := (.seq (.seq (.ops o_regex_reader_piece_2)
 (.cond (.t 16) .skip (.exit 0)))
 (.trim [0, 3] (.block 1 (.seq (.ops o_regex_reader_piece_3)
 (.seq (.seq (.ops o_regex_reader_piece_4)
 (.cond (.t 28) (.exit 0) .skip))
 (.seq (.ops o_regex_reader_piece_5)
 (.ops o_regex_reader_piece_6)))))))
def o_regex_reader_piece_7 : List AOp := [
 aQ 43 (.mov (.t 3)),
 aQ 2 (.asg (.t 43))]
def c_regex_reader_piece : AC :=
 (.seq (.ops o_regex_reader_piece_0)
 (.seq (.ops o_regex_reader_piece_1)
 (.seq (.trim [3] (.block 0 (.loop [0, 3] b_regex_reader_piece_0)))
 (.seq (.ops o_regex_reader_piece_7)
 .ret))))
def a_regex_reader_piece : AFn := { body := c_regex_reader_piece, res := [.tmp 2] }
def o_class_Not_0 : List AOp := [
 aQ 1 (.box (.t 0)),
 aQ 2 (.alloc [.nat .u64 0, .nat .u64 0, .nat .u64 0, .nat .u64 0])]
def o_class_Not_1 : List AOp := [
 aQ 4 (.mov (.c (.nat .i64 0)))]
def o_class_Not_2 : List AOp := [
 aQ 5 (.bin .lss (.t 4) (.c (.nat .i64 4)))]
def o_class_Not_3 : List AOp := [
 aQ 6 (.mov (.t 4)),
 aQ 3 (.asg (.t 6))]
def o_class_Not_4 : List AOp := [
 aQ 7 (.mov (.t 3)),
 aQ 8 (.mov (.t 3)),
 aQ 9 (.idxA (some 4) 1 (.t 1) (.t 8)),
 aQ 10 (.load none (.t 9)),
 aQ 11 (.un .xor (.t 10)),
 aQ 12 (.idxA (some 4) 1 (.t 1) (.t 7)),
 { dst := none, op := .store 1 (.t 12) (.t 11) }]
def o_class_Not_5 : List AOp := [
 aQ 13 (.bin .add (.t 4) (.c (.nat .i64 1))),
 aQ 4 (.mov (.t 13))]
def b_class_Not_0 : AC := (.seq (.ops o_class_Not_2)
 (.seq (.cond (.t 5) .skip (.exit 0))
 (.seq (.trim [1, 2, 4] (.block 1 (.seq (.ops o_class_Not_3)
 (.ops o_class_Not_4))))
 (.ops o_class_Not_5))))
def o_class_Not_6 : List AOp := [
 aQ 14 (.load (some 4) (.t 1)),
 { dst := none, op := .store 4 (.t 2) (.t 14) }]
def c_class_Not : AC :=
 (.seq (.ops o_class_Not_0)
 (.seq (.seq (.ops o_class_Not_1)
 (.trim [1, 2] (.block 0 (.loop [1, 2, 4] b_class_Not_0))))
 (.seq (.ops o_class_Not_6)
 .ret)))
def a_class_Not : AFn := { body := c_class_Not, res := [.cell 2 (some 4)] }
def o_bits_OnesCount64_0 : List AOp := [
 aQ 2 (.asg (.c (.nat .i64 0)))]
def o_bits_OnesCount64_1 : List AOp := [
 aQ 3 (.mov (.t 0)),
 aQ 4 (.bin .shr (.t 3) (.c (.nat .u64 1))),
 aQ 5 (.bin .and (.t 4) (.c (.nat .u64 6148914691236517205))),
 aQ 6 (.mov (.t 0)),
 aQ 7 (.bin .and (.t 6) (.c (.nat .u64 6148914691236517205))),
 aQ 8 (.bin .add (.t 5) (.t 7)),
 aQ 0 (.asg (.t 8))]
def o_bits_OnesCount64_2 : List AOp := [
 aQ 9 (.mov (.t 0)),
 aQ 10 (.bin .shr (.t 9) (.c (.nat .u64 2))),
 aQ 11 (.bin .and (.t 10) (.c (.nat .u64 3689348814741910323))),
 aQ 12 (.mov (.t 0)),
 aQ 13 (.bin .and (.t 12) (.c (.nat .u64 3689348814741910323))),
 aQ 14 (.bin .add (.t 11) (.t 13)),
 aQ 0 (.asg (.t 14))]
def o_bits_OnesCount64_3 : List AOp := [
 aQ 15 (.mov (.t 0)),
 aQ 16 (.bin .shr (.t 15) (.c (.nat .u64 4))),
 aQ 17 (.mov (.t 0)),
 aQ 18 (.bin .add (.t 16) (.t 17)),
 aQ 19 (.bin .and (.t 18) (.c (.nat .u64 1085102592571150095))),
 aQ 0 (.asg (.t 19))]
def o_bits_OnesCount64_4 : List AOp := [
 aQ 20 (.mov (.t 0)),
 aQ 21 (.mov (.t 0)),
 aQ 22 (.bin .shr (.t 21) (.c (.nat .u64 8))),
 aQ 23 (.bin .add (.t 20) (.t 22)),
 aQ 0 (.asg (.t 23))]
def o_bits_OnesCount64_5 : List AOp := [
 aQ 24 (.mov (.t 0)),
 aQ 25 (.mov (.t 0)),
 aQ 26 (.bin .shr (.t 25) (.c (.nat .u64 16))),
 aQ 27 (.bin .add (.t 24) (.t 26)),
 aQ 0 (.asg (.t 27))]
def o_bits_OnesCount64_6 : List AOp := [
 aQ 28 (.mov (.t 0)),
 aQ 29 (.mov (.t 0)),
 aQ 30 (.bin .shr (.t 29) (.c (.nat .u64 32))),
 aQ 31 (.bin .add (.t 28) (.t 30)),
 aQ 0 (.asg (.t 31))]
def o_bits_OnesCount64_7 : List AOp := [
 aQ 32 (.mov (.t 0)),
 aQ 33 (.toInt .i64 (.t 32)),
 aQ 34 (.bin .and (.t 33) (.c (.nat .i64 127))),
 aQ 2 (.asg (.t 34))]
def c_bits_OnesCount64 : AC :=
 (.seq (.ops o_bits_OnesCount64_0)
 (.seq (.ops o_bits_OnesCount64_1)
 (.seq (.ops o_bits_OnesCount64_2)
 (.seq (.ops o_bits_OnesCount64_3)
 (.seq (.ops o_bits_OnesCount64_4)
 (.seq (.ops o_bits_OnesCount64_5)
 (.seq (.ops o_bits_OnesCount64_6)
 (.seq (.ops o_bits_OnesCount64_7)
 .ret))))))))
def a_bits_OnesCount64 : AFn := { body := c_bits_OnesCount64, res := [.tmp 2] }
def o_class_runs_0 : List AOp := [
 aQ 1 (.box (.t 0)),
 aQ 2 (.asg (.c (.d .nilF)))]
def o_class_runs_1 : List AOp := [
 aQ 3 (.mkfn (.func f_class_runs_1) [] [.t 1]),
 aQ 2 (.asg (.t 3))]
def c_class_runs : AC :=
 (.seq (.ops o_class_runs_0)
 (.seq (.ops o_class_runs_1)
 .ret))
def a_class_runs : AFn := { body := c_class_runs, res := [.tmp 2] }
def o_class_Plain_0 : List AOp := [
 aQ 2 (.asg (.c (.d (.str []))))]
def o_class_Plain_1 : List AOp := [
 aQ 3 (.mov (.t 0)),
 aQ 4 (.call (.f f_class_isWord) [.t 3])]
def o_class_Plain_2 : List AOp := [
 aQ 5 (.mov (.t 0)),
 aQ 6 (.mkls 1 [.nat .u8 0] [(0, 1, (.t 5))]),
 aQ 7 (.bytesStr (.t 6)),
 aQ 2 (.asg (.t 7))]
def o_class_Plain_3 : List AOp := [
 aQ 8 (.mov (.t 0)),
 aQ 9 (.mkls 1 [.nat .u8 0] [(0, 1, (.t 8))]),
 aQ 10 (.bytesStr (.t 9)),
 aQ 11 (.call (.f f_hex_Hex) [.t 10]),
 aQ 12 (.bin .add (.c (.d (.str [92]))) (.t 11)),
 aQ 2 (.asg (.t 12))]
def c_class_Plain : AC :=
 (.seq (.ops o_class_Plain_0)
 (.seq (.seq (.ops o_class_Plain_1)
 (.cond (.t 4) (.seq (.ops o_class_Plain_2)
 .ret) .skip))
 (.seq (.ops o_class_Plain_3)
 .ret)))
def a_class_Plain : AFn := { body := c_class_Plain, res := [.tmp 2] }
def o_regex_reader_atom_0 : List AOp := [
 aQ 2 (.asg (.c (.nat .i64 0)))]
def o_regex_reader_atom_1 : List AOp := [
 mQ 12 (.mov (.t 0)),
 mQ 13 (.nilchk (.t 12)),
 mQ 14 (.fldA 0 (.t 13)),
 mQ 15 (.load none (.t 14)),
 mQ 16 (.mov (.t 0)),
 mQ 17 (.nilchk (.t 16)),
 mQ 18 (.fldA 1 (.t 17)),
 mQ 19 (.load none (.t 18)),
 aQ 20 (.idxS (.t 15) (.t 19)),
 aQ 3 (.asg (.t 20))]
def o_regex_reader_atom_2 : List AOp := [
 aQ 21 (.build [.nat .i64 0, .nat .u64 0, .nat .u64 0, .nat .u64 0, .nat .u64 0, .nat .i64 0, .nat .i64 0] [(0, 1, (.c (.nat .i64 1)))]),
 aQ 4 (.alloc [.nat .i64 0, .nat .u64 0, .nat .u64 0, .nat .u64 0, .nat .u64 0, .nat .i64 0, .nat .i64 0]),
 { dst := none, op := .store 7 (.t 4) (.t 21) }]
def o_regex_reader_atom_3 : List AOp := [
 aQ 5 (.asg (.c (.nat .i64 1)))]
def o_regex_reader_atom_8 : List AOp := [
 aQ 45 (.mov (.t 3)),
 aQ 46 (.bin .eql (.t 45) (.c (.nat .u8 40))),
 aQ 44 (.asg (.t 46))]
def o_regex_reader_atom_9 : List AOp := [
 aQ 47 (.mov (.t 0)),
 aQ 48 (.call (.f f_regex_reader_group) [.t 47]),
 aQ 2 (.asg (.t 48))]
def o_regex_reader_atom_10 : List AOp := [
 aQ 50 (.mov (.t 3)),
 aQ 51 (.bin .eql (.t 50) (.c (.nat .u8 46))),
 aQ 49 (.asg (.t 51))]
def o_regex_reader_atom_11 : List AOp := [
 aQ 52 (.call (.f f_regex_dot) []),
 aQ 53 (.fldA 1 (.t 4)),
 { dst := none, op := .store 4 (.t 53) (.t 52) }]
def o_regex_reader_atom_12 : List AOp := [
 aQ 55 (.mov (.t 3)),
 aQ 56 (.bin .eql (.t 55) (.c (.nat .u8 94))),
 aQ 54 (.asg (.t 56))]
def o_regex_reader_atom_13 : List AOp := [
 aQ 57 (.build [.nat .i64 0, .nat .u64 0, .nat .u64 0, .nat .u64 0, .nat .u64 0, .nat .i64 0, .nat .i64 0] [(0, 1, (.c (.nat .i64 7)))]),
 { dst := none, op := .store 7 (.t 4) (.t 57) }]
def o_regex_reader_atom_14 : List AOp := [
 aQ 59 (.mov (.t 3)),
 aQ 60 (.bin .eql (.t 59) (.c (.nat .u8 36))),
 aQ 58 (.asg (.t 60))]
def o_regex_reader_atom_15 : List AOp := [
 aQ 61 (.build [.nat .i64 0, .nat .u64 0, .nat .u64 0, .nat .u64 0, .nat .u64 0, .nat .i64 0, .nat .i64 0] [(0, 1, (.c (.nat .i64 8)))]),
 { dst := none, op := .store 7 (.t 4) (.t 61) }]
def o_regex_reader_atom_16 : List AOp := [
 aQ 63 (.mov (.t 3)),
 aQ 64 (.bin .eql (.t 63) (.c (.nat .u8 91))),
 aQ 62 (.asg (.t 64))]
def o_regex_reader_atom_17 : List AOp := [
 mQ 66 (.mov (.t 0)),
 mQ 67 (.nilchk (.t 66)),
 mQ 68 (.fldA 0 (.t 67)),
 mQ 69 (.load none (.t 68)),
 mQ 70 (.mov (.t 0)),
 mQ 71 (.nilchk (.t 70)),
 mQ 72 (.fldA 1 (.t 71)),
 mQ 73 (.load none (.t 72)),
 mQ 74 (.sliceS (.t 69) (some (.t 73)) none),
 mQ 75 (.callZ (.f f_class_Read) [.t 74]),
 mQ 65 (.mov (.t 75)),
 mQ 76 (.extr (.t 65) 0),
 mQ 77 (.extr (.t 65) 1),
 mQ 78 (.extr (.t 65) 2),
 mQ 6 (.alloc [.nat .u64 0, .nat .u64 0, .nat .u64 0, .nat .u64 0]),
 { dst := none, op := .store 4 (.t 6) (.t 76), may := false },
 mQ 7 (.asg (.t 77)),
 aQ 8 (.asg (.t 78))]
def o_regex_reader_atom_18 : List AOp := [
 aQ 79 (.mov (.t 8)),
 aQ 80 (.bin .neq (.t 79) (.c (.nat .i64 0)))]
def o_regex_reader_atom_19 : List AOp := [
 aQ 81 (.build [.nat .i64 0] [(0, 1, (.c (.nat .i64 9)))]),
 aQ 82 (.mkifc 50 (.t 81)),
 { dst := none, op := .panic (.t 82) }]
def o_regex_reader_atom_20 : List AOp := [
 aQ 83 (.load (some 4) (.t 6)),
 aQ 84 (.mov (.t 7)),
 aQ 85 (.fldA 1 (.t 4)),
 { dst := none, op := .store 4 (.t 85) (.t 83) },
 aQ 5 (.asg (.t 84))]
def o_regex_reader_atom_21 : List AOp := [
 aQ 87 (.mov (.t 3)),
 aQ 88 (.call (.f f_strings_IndexByte) [.c (.d (.str [42, 43, 63, 41, 124, 123, 125, 47])), .t 87]),
 aQ 89 (.bin .geq (.t 88) (.c (.nat .i64 0))),
 aQ 86 (.asg (.t 89))]
def o_regex_reader_atom_22 : List AOp := [
 aQ 90 (.build [.nat .i64 0] [(0, 1, (.c (.nat .i64 9)))]),
 aQ 91 (.mkifc 50 (.t 90)),
 { dst := none, op := .panic (.t 91) }]
def o_regex_reader_atom_4 : List AOp := [
 mQ 23 (.mov (.t 0)),
 mQ 24 (.nilchk (.t 23)),
 mQ 25 (.fldA 0 (.t 24)),
 mQ 26 (.load none (.t 25)),
 mQ 27 (.mov (.t 0)),
 mQ 28 (.nilchk (.t 27)),
 mQ 29 (.fldA 1 (.t 28)),
 mQ 30 (.load none (.t 29)),
 aQ 31 (.sliceS (.t 26) (some (.t 30)) none),
 aQ 32 (.call (.f f_class_Sign) [.t 31]),
 aQ 22 (.mov (.t 32)),
 mQ 33 (.extr (.t 22) 0),
 mQ 34 (.extr (.t 22) 1),
 mQ 35 (.extr (.t 22) 2),
 mQ 9 (.asg (.t 33)),
 mQ 10 (.asg (.t 34)),
 aQ 11 (.asg (.t 35))]
def o_regex_reader_atom_5 : List AOp := [
 aQ 36 (.mov (.t 11)),
 aQ 37 (.bin .neq (.t 36) (.c (.nat .i64 0)))]
def o_regex_reader_atom_6 : List AOp := [
 aQ 38 (.build [.nat .i64 0] [(0, 1, (.c (.nat .i64 9)))]),
 aQ 39 (.mkifc 50 (.t 38)),
 { dst := none, op := .panic (.t 39) }]
def o_regex_reader_atom_7 : List AOp := [
 aQ 40 (.mov (.t 9)),
 aQ 41 (.call (.f f_class_One) [.t 40]),
 aQ 42 (.mov (.t 10)),
 aQ 43 (.fldA 1 (.t 4)),
 { dst := none, op := .store 4 (.t 43) (.t 41) },
 aQ 5 (.asg (.t 42))]
def o_regex_reader_atom_23 : List AOp := [
 aQ 92 (.mov (.t 0)),
 aQ 93 (.nilchk (.t 92)),
 aQ 94 (.fldA 1 (.t 93)),
 aQ 95 (.load none (.t 94)),
 aQ 96 (.mov (.t 5)),
 aQ 97 (.bin .add (.t 95) (.t 96)),
 aQ 98 (.nilchk (.t 92)),
 aQ 99 (.fldA 1 (.t 98)),
 { dst := none, op := .store 1 (.t 99) (.t 97) }]
def o_regex_reader_atom_24 : List AOp := [
 aQ 100 (.mov (.t 0)),
 aQ 101 (.load (some 7) (.t 4)),
 aQ 102 (.call (.f f_regex_reader_put) [.t 100, .t 101]),
 aQ 2 (.asg (.t 102))]
def c_regex_reader_atom : AC :=
 (.seq (.ops o_regex_reader_atom_0)
 (.seq (.ops o_regex_reader_atom_1)
 (.seq (.ops o_regex_reader_atom_2)
 (.seq (.ops o_regex_reader_atom_3)
 (.seq (.trim [0, 4, 5] (.block 0 (.seq (.ops o_regex_reader_atom_8)
 (.cond (.t 44) (.seq (.ops o_regex_reader_atom_9)
 .ret) (.seq (.ops o_regex_reader_atom_10)
 (.cond (.t 49) (.ops o_regex_reader_atom_11) (.seq (.ops o_regex_reader_atom_12)
 (.cond (.t 54) (.ops o_regex_reader_atom_13) (.seq (.ops o_regex_reader_atom_14)
 (.cond (.t 58) (.ops o_regex_reader_atom_15) (.seq (.ops o_regex_reader_atom_16)
 (.cond (.t 62) (.seq (.ops o_regex_reader_atom_17)
 (.seq (.seq (.ops o_regex_reader_atom_18)
 (.cond (.t 80) (.ops o_regex_reader_atom_19) .skip))
 (.ops o_regex_reader_atom_20))) (.seq (.ops o_regex_reader_atom_21)
 (.cond (.t 86) (.ops o_regex_reader_atom_22) (.seq (.ops o_regex_reader_atom_4)
 (.seq (.seq (.ops o_regex_reader_atom_5)
 (.cond (.t 37) (.ops o_regex_reader_atom_6) .skip))
 (.ops o_regex_reader_atom_7)))))))))))))))))
 (.seq (.ops o_regex_reader_atom_23)
 (.seq (.ops o_regex_reader_atom_24)
 .ret)))))))
def a_regex_reader_atom : AFn := { body := c_regex_reader_atom, res := [.tmp 2] }
def o_strings_IndexByte_0 : List AOp := [
 aQ 4 (.asg (.c (.nat .i64 0)))]
def o_strings_IndexByte_1 : List AOp := [
 aQ 5 (.mov (.t 0)),
 aQ 6 (.mov (.t 1)),
 aQ 7 (.call (.f f_stringslite_IndexByte) [.t 5, .t 6]),
 aQ 4 (.asg (.t 7))]
def c_strings_IndexByte : AC :=
 (.seq (.ops o_strings_IndexByte_0)
 (.seq (.ops o_strings_IndexByte_1)
 .ret))
def a_strings_IndexByte : AFn := { body := c_strings_IndexByte, res := [.tmp 4] }
def o_class_runs_1_0 : List AOp := [
 aQ 3 (.asg (.c (.nat .i64 0)))]
def o_class_runs_1_1 : List AOp := [
 aQ 5 (.mov (.t 3)),
 aQ 6 (.bin .lss (.t 5) (.c (.nat .i64 256)))]
def o_class_runs_1_3 : List AOp := [
 aQ 9 (.mov (.t 3)),
 aQ 4 (.asg (.t 9))]
def o_class_runs_1_4 : List AOp := [
 aQ 10 (.mov (.t 3)),
 aQ 11 (.bin .lss (.t 10) (.c (.nat .i64 256))),
 aQ 12 (.mov (.t 11)),
 gQ 13 (.load (some 4) (.t 1)) 12 true,
 gQ 14 (.mov (.t 3)) 12 true,
 gQ 15 (.toInt .u8 (.t 14)) 12 true,
 gQ 16 (.call (.f f_class_Has) [.t 13, .t 15]) 12 true,
 aQ 17 (.pick (.t 12) (.t 16) (.c (.d (.bool false))))]
def o_class_runs_1_5 : List AOp := [
 aQ 18 (.mov (.t 3)),
 aQ 19 (.bin .add (.t 18) (.c (.nat .i64 1))),
 aQ 3 (.asg (.t 19))]
def b_class_runs_1_0 : AC := (.seq (.seq (.ops o_class_runs_1_4)
 (.cond (.t 17) .skip (.exit 2)))
 (.trim [0, 1, 3, 4] (.block 3 (.ops o_class_runs_1_5))))
def o_class_runs_1_6 : List AOp := [
 aQ 20 (.mov (.t 3)),
 aQ 21 (.mov (.t 4)),
 aQ 22 (.bin .gtr (.t 20) (.t 21)),
 aQ 23 (.mov (.t 22)),
 gQ 24 (.mov (.t 0)) 23 true,
 gQ 25 (.mov (.t 4)) 23 true,
 gQ 26 (.toInt .u8 (.t 25)) 23 true,
 gQ 27 (.mov (.t 3)) 23 true,
 gQ 28 (.bin .sub (.t 27) (.c (.nat .i64 1))) 23 true,
 gQ 29 (.toInt .u8 (.t 28)) 23 true,
 gQ 30 (.call (.t 24) [.t 26, .t 29]) 23 true,
 gQ 31 (.un .not (.t 30)) 23 true,
 aQ 32 (.pick (.t 23) (.t 31) (.c (.d (.bool false))))]
def o_class_runs_1_2 : List AOp := [
 aQ 7 (.mov (.t 3)),
 aQ 8 (.bin .add (.t 7) (.c (.nat .i64 1))),
 aQ 3 (.asg (.t 8))]
def b_class_runs_1_1 : AC := (.seq (.seq (.ops o_class_runs_1_1)
 (.cond (.t 6) .skip (.exit 0)))
 (.seq (.trim [0, 1, 3] (.block 1 (.seq (.ops o_class_runs_1_3)
 (.seq (.trim [0, 1, 3, 4] (.block 2 (.loop [0, 1, 3, 4] b_class_runs_1_0)))
 (.seq (.ops o_class_runs_1_6)
 (.cond (.t 32) .ret .skip))))))
 (.ops o_class_runs_1_2)))
def c_class_runs_1 : AC :=
 (.seq (.ops o_class_runs_1_0)
 (.trim [] (.block 0 (.loop [0, 1, 3] b_class_runs_1_1))))
def a_class_runs_1 : AFn := { body := c_class_runs_1, res := [] }
def o_class_Has_0 : List AOp := [
 aQ 2 (.box (.t 0)),
 aQ 4 (.asg (.c (.d (.bool false))))]
def o_class_Has_1 : List AOp := [
 aQ 5 (.mov (.t 1)),
 aQ 6 (.bin .quo (.t 5) (.c (.nat .u8 64))),
 aQ 7 (.idxA (some 4) 1 (.t 2) (.t 6)),
 aQ 8 (.load none (.t 7)),
 aQ 9 (.mov (.t 1)),
 aQ 10 (.bin .rem (.t 9) (.c (.nat .u8 64))),
 aQ 11 (.bin .shr (.t 8) (.t 10)),
 aQ 12 (.bin .and (.t 11) (.c (.nat .u64 1))),
 aQ 13 (.bin .eql (.t 12) (.c (.nat .u64 1))),
 aQ 4 (.asg (.t 13))]
def c_class_Has : AC :=
 (.seq (.ops o_class_Has_0)
 (.seq (.ops o_class_Has_1)
 .ret))
def a_class_Has : AFn := { body := c_class_Has, res := [.tmp 4] }
def o_class_isWord_0 : List AOp := [
 aQ 2 (.asg (.c (.d (.bool false))))]
def o_class_isWord_1 : List AOp := [
 aQ 3 (.mov (.t 0)),
 aQ 4 (.bin .eql (.t 3) (.c (.nat .u8 32))),
 aQ 5 (.mov (.t 4)),
 gQ 6 (.mov (.t 0)) 5 false,
 gQ 7 (.bin .eql (.t 6) (.c (.nat .u8 95))) 5 false,
 aQ 8 (.pick (.t 5) (.c (.d (.bool true))) (.t 7)),
 aQ 9 (.mov (.t 8)),
 gQ 10 (.mov (.t 0)) 9 false,
 gQ 11 (.bin .geq (.t 10) (.c (.nat .u8 48))) 9 false,
 gQ 12 (.mov (.t 11)) 9 false,
 gQ 13 (.mov (.t 0)) 12 true,
 gQ 14 (.bin .leq (.t 13) (.c (.nat .u8 57))) 12 true,
 gQ 15 (.pick (.t 12) (.t 14) (.c (.d (.bool false)))) 9 false,
 aQ 16 (.pick (.t 9) (.c (.d (.bool true))) (.t 15)),
 aQ 17 (.mov (.t 16)),
 gQ 18 (.mov (.t 0)) 17 false,
 gQ 19 (.bin .geq (.t 18) (.c (.nat .u8 65))) 17 false,
 gQ 20 (.mov (.t 19)) 17 false,
 gQ 21 (.mov (.t 0)) 20 true,
 gQ 22 (.bin .leq (.t 21) (.c (.nat .u8 90))) 20 true,
 gQ 23 (.pick (.t 20) (.t 22) (.c (.d (.bool false)))) 17 false,
 aQ 24 (.pick (.t 17) (.c (.d (.bool true))) (.t 23)),
 aQ 25 (.mov (.t 24)),
 gQ 26 (.mov (.t 0)) 25 false,
 gQ 27 (.bin .geq (.t 26) (.c (.nat .u8 97))) 25 false,
 gQ 28 (.mov (.t 27)) 25 false,
 gQ 29 (.mov (.t 0)) 28 true,
 gQ 30 (.bin .leq (.t 29) (.c (.nat .u8 122))) 28 true,
 gQ 31 (.pick (.t 28) (.t 30) (.c (.d (.bool false)))) 25 false,
 aQ 32 (.pick (.t 25) (.c (.d (.bool true))) (.t 31)),
 aQ 2 (.asg (.t 32))]
def c_class_isWord : AC :=
 (.seq (.ops o_class_isWord_0)
 (.seq (.ops o_class_isWord_1)
 .ret))
def a_class_isWord : AFn := { body := c_class_isWord, res := [.tmp 2] }
def o_hex_Hex_0 : List AOp := [
 aQ 2 (.asg (.c (.d (.str []))))]
def o_hex_Hex_1 : List AOp := [
 aQ 5 (.mkls 1 [.nat .u8 0] [(0, 1, (.c (.nat .u8 120)))]),
 aQ 6 (.same (.t 5)),
 aQ 3 (.asg (.t 6))]
def o_hex_Hex_2 : List AOp := [
 aQ 7 (.mov (.t 0)),
 aQ 8 (.lenS (.t 7)),
 aQ 9 (.mov (.c (.nat .i64 0)))]
def o_hex_Hex_3 : List AOp := [
 aQ 10 (.bin .lss (.t 9) (.t 8))]
def o_hex_Hex_4 : List AOp := [
 aQ 11 (.mov (.t 9)),
 aQ 4 (.asg (.t 11))]
def o_hex_Hex_5 : List AOp := [
 mQ 12 (.take 3),
 mQ 13 (.mov (.t 0)),
 mQ 14 (.mov (.t 4)),
 mQ 15 (.idxS (.t 13) (.t 14)),
 mQ 16 (.bin .shr (.t 15) (.c (.nat .u64 4))),
 mQ 17 (.idxS (.c (.d (.str [48, 49, 50, 51, 52, 53, 54, 55, 56, 57, 97, 98, 99, 100, 101, 102]))) (.t 16)),
 mQ 18 (.mov (.t 0)),
 mQ 19 (.mov (.t 4)),
 mQ 20 (.idxS (.t 18) (.t 19)),
 mQ 21 (.bin .and (.t 20) (.c (.nat .u8 15))),
 mQ 22 (.idxS (.c (.d (.str [48, 49, 50, 51, 52, 53, 54, 55, 56, 57, 97, 98, 99, 100, 101, 102]))) (.t 21)),
 mQ 23 (.mkls 1 [.nat .u8 0, .nat .u8 0] [(0, 1, (.t 17)), (1, 1, (.t 22))]),
 aQ 24 (.append 1 (.t 12) (.t 23)),
 aQ 3 (.asg (.t 24))]
def o_hex_Hex_6 : List AOp := [
 aQ 25 (.bin .add (.t 9) (.c (.nat .i64 1))),
 aQ 9 (.mov (.t 25))]
def b_hex_Hex_0 : AC := (.seq (.ops o_hex_Hex_3)
 (.seq (.cond (.t 10) .skip (.exit 0))
 (.seq (.trim [0, 3, 8, 9] (.block 1 (.seq (.ops o_hex_Hex_4)
 (.ops o_hex_Hex_5))))
 (.ops o_hex_Hex_6))))
def o_hex_Hex_7 : List AOp := [
 aQ 26 (.mov (.t 3)),
 aQ 27 (.bytesStr (.t 26)),
 aQ 2 (.asg (.t 27))]
def c_hex_Hex : AC :=
 (.seq (.ops o_hex_Hex_0)
 (.seq (.ops o_hex_Hex_1)
 (.seq (.seq (.ops o_hex_Hex_2)
 (.trim [3] (.block 0 (.loop [0, 3, 8, 9] b_hex_Hex_0))))
 (.seq (.ops o_hex_Hex_7)
 .ret))))
def a_hex_Hex : AFn := { body := c_hex_Hex, res := [.tmp 2] }
def o_regex_reader_group_0 : List AOp := [
 aQ 2 (.asg (.c (.nat .i64 0)))]
def o_regex_reader_group_1 : List AOp := [
 aQ 4 (.mov (.t 0)),
 aQ 5 (.nilchk (.t 4)),
 aQ 6 (.fldA 2 (.t 5)),
 aQ 7 (.load none (.t 6)),
 aQ 8 (.bin .geq (.t 7) (.c (.nat .i64 30)))]
def o_regex_reader_group_2 : List AOp := [
 aQ 9 (.build [.nat .i64 0] [(0, 1, (.c (.nat .i64 7)))]),
 aQ 10 (.mkifc 50 (.t 9)),
 { dst := none, op := .panic (.t 10) }]
def o_regex_reader_group_3 : List AOp := [
 aQ 11 (.mov (.t 0)),
 aQ 12 (.nilchk (.t 11)),
 aQ 13 (.fldA 2 (.t 12)),
 aQ 14 (.load none (.t 13)),
 aQ 15 (.bin .add (.t 14) (.c (.nat .i64 1))),
 aQ 16 (.nilchk (.t 11)),
 aQ 17 (.fldA 2 (.t 16)),
 { dst := none, op := .store 1 (.t 17) (.t 15) }]
def o_regex_reader_group_4 : List AOp := [
 aQ 18 (.mov (.t 0)),
 aQ 19 (.nilchk (.t 18)),
 aQ 20 (.fldA 1 (.t 19)),
 aQ 21 (.load none (.t 20)),
 aQ 22 (.bin .add (.t 21) (.c (.nat .i64 1))),
 aQ 23 (.nilchk (.t 18)),
 aQ 24 (.fldA 1 (.t 23)),
 { dst := none, op := .store 1 (.t 24) (.t 22) }]
def o_regex_reader_group_5 : List AOp := [
 aQ 25 (.mov (.t 0)),
 aQ 26 (.call (.f f_regex_reader_all) [.t 25]),
 aQ 3 (.asg (.t 26))]
def o_regex_reader_group_6 : List AOp := [
 aQ 27 (.mov (.t 0)),
 aQ 28 (.call (.f f_regex_reader_sees) [.t 27, .c (.nat .u8 41)]),
 aQ 29 (.un .not (.t 28))]
def o_regex_reader_group_7 : List AOp := [
 aQ 30 (.build [.nat .i64 0] [(0, 1, (.c (.nat .i64 9)))]),
 aQ 31 (.mkifc 50 (.t 30)),
 { dst := none, op := .panic (.t 31) }]
def o_regex_reader_group_8 : List AOp := [
 aQ 32 (.mov (.t 0)),
 aQ 33 (.nilchk (.t 32)),
 aQ 34 (.fldA 1 (.t 33)),
 aQ 35 (.load none (.t 34)),
 aQ 36 (.bin .add (.t 35) (.c (.nat .i64 1))),
 aQ 37 (.nilchk (.t 32)),
 aQ 38 (.fldA 1 (.t 37)),
 { dst := none, op := .store 1 (.t 38) (.t 36) }]
def o_regex_reader_group_9 : List AOp := [
 aQ 39 (.mov (.t 0)),
 aQ 40 (.nilchk (.t 39)),
 aQ 41 (.fldA 2 (.t 40)),
 aQ 42 (.load none (.t 41)),
 aQ 43 (.bin .sub (.t 42) (.c (.nat .i64 1))),
 aQ 44 (.nilchk (.t 39)),
 aQ 45 (.fldA 2 (.t 44)),
 { dst := none, op := .store 1 (.t 45) (.t 43) }]
def o_regex_reader_group_10 : List AOp := [
 aQ 46 (.mov (.t 3)),
 aQ 2 (.asg (.t 46))]
def c_regex_reader_group : AC :=
 (.seq (.ops o_regex_reader_group_0)
 (.seq (.seq (.ops o_regex_reader_group_1)
 (.cond (.t 8) (.ops o_regex_reader_group_2) .skip))
 (.seq (.ops o_regex_reader_group_3)
 (.seq (.ops o_regex_reader_group_4)
 (.seq (.ops o_regex_reader_group_5)
 (.seq (.seq (.ops o_regex_reader_group_6)
 (.cond (.t 29) (.ops o_regex_reader_group_7) .skip))
 (.seq (.ops o_regex_reader_group_8)
 (.seq (.ops o_regex_reader_group_9)
 (.seq (.ops o_regex_reader_group_10)
 .ret)))))))))
def a_regex_reader_group : AFn := { body := c_regex_reader_group, res := [.tmp 2] }
def o_class_Read_0 : List AOp := [
 aQ 1 (.box (.t 0)),
 aQ 2 (.alloc [.nat .u64 0, .nat .u64 0, .nat .u64 0, .nat .u64 0]),
 aQ 3 (.asg (.c (.nat .i64 0))),
 aQ 4 (.asg (.c (.nat .i64 0)))]
def o_class_Read_1 : List AOp := [
 aQ 5 (.alloc [.nat .u64 0, .nat .u64 0, .nat .u64 0, .nat .u64 0])]
def o_class_Read_2 : List AOp := [
 aQ 6 (.alloc [.nat .i64 0]),
 { dst := none, op := .store 1 (.t 6) (.c (.nat .i64 0)) }]
def o_class_Read_3 : List AOp := [
 aQ 14 (.mkfn (.func f_class_Read_1) [] [.t 6, .t 1]),
 aQ 7 (.asg (.t 14))]
def o_class_Read_4 : List AOp := [
 aQ 15 (.mov (.t 7)),
 aQ 16 (.call (.t 15) [.c (.nat .u8 91)]),
 aQ 17 (.un .not (.t 16))]
def o_class_Read_5 : List AOp := [
 aQ 18 (.load (some 4) (.t 5)),
 { dst := none, op := .store 4 (.t 2) (.t 18) },
 aQ 3 (.asg (.c (.nat .i64 0))),
 aQ 4 (.asg (.c (.nat .i64 2)))]
def o_class_Read_6 : List AOp := [
 aQ 19 (.mov (.t 7)),
 aQ 20 (.call (.t 19) [.c (.nat .u8 94)]),
 aQ 8 (.asg (.t 20))]
def o_class_Read_7 : List AOp := [
 aQ 9 (.asg (.c (.nat .i64 0)))]
def o_class_Read_9 : List AOp := [
 aQ 23 (.mov (.t 9)),
 aQ 24 (.bin .gtr (.t 23) (.c (.nat .i64 0))),
 aQ 25 (.mov (.t 24)),
 gQ 26 (.mov (.t 7)) 25 true,
 gQ 27 (.call (.t 26) [.c (.nat .u8 93)]) 25 true,
 aQ 28 (.pick (.t 25) (.t 27) (.c (.d (.bool false))))]
def o_class_Read_10 : List AOp := [
 aQ 30 (.load none (.t 1)),
 aQ 31 (.load none (.t 6)),
 aQ 32 (.sliceS (.t 30) (some (.t 31)) none),
 aQ 33 (.call (.f f_class_Sign) [.t 32]),
 aQ 29 (.mov (.t 33)),
 aQ 34 (.extr (.t 29) 0),
 aQ 35 (.extr (.t 29) 1),
 aQ 36 (.extr (.t 29) 2),
 aQ 10 (.asg (.t 34)),
 aQ 11 (.asg (.t 35)),
 aQ 12 (.asg (.t 36))]
def o_class_Read_11 : List AOp := [
 aQ 37 (.mov (.t 12)),
 aQ 38 (.bin .neq (.t 37) (.c (.nat .i64 0)))]
def o_class_Read_12 : List AOp := [
 aQ 39 (.build [.nat .u64 0, .nat .u64 0, .nat .u64 0, .nat .u64 0] []),
 aQ 40 (.mov (.t 12)),
 { dst := none, op := .store 4 (.t 2) (.t 39) },
 aQ 3 (.asg (.c (.nat .i64 0))),
 aQ 4 (.asg (.t 40))]
def o_class_Read_13 : List AOp := [
 aQ 41 (.load none (.t 6)),
 aQ 42 (.mov (.t 11)),
 aQ 43 (.bin .add (.t 41) (.t 42)),
 { dst := none, op := .store 1 (.t 6) (.t 43) }]
def o_class_Read_14 : List AOp := [
 aQ 44 (.mov (.t 10)),
 aQ 13 (.asg (.t 44))]
def o_class_Read_15 : List AOp := [
 aQ 45 (.mov (.t 7)),
 aQ 46 (.call (.t 45) [.c (.nat .u8 45)])]
def o_class_Read_16 : List AOp := [
 aQ 48 (.load none (.t 1)),
 aQ 49 (.load none (.t 6)),
 aQ 50 (.sliceS (.t 48) (some (.t 49)) none),
 aQ 51 (.call (.f f_class_Sign) [.t 50]),
 aQ 47 (.mov (.t 51)),
 aQ 52 (.extr (.t 47) 0),
 aQ 53 (.extr (.t 47) 1),
 aQ 54 (.extr (.t 47) 2),
 aQ 13 (.asg (.t 52)),
 aQ 11 (.asg (.t 53)),
 aQ 12 (.asg (.t 54))]
def o_class_Read_17 : List AOp := [
 aQ 55 (.mov (.t 12)),
 aQ 56 (.bin .neq (.t 55) (.c (.nat .i64 0))),
 aQ 57 (.mov (.t 56)),
 gQ 58 (.mov (.t 10)) 57 false,
 gQ 59 (.mov (.t 13)) 57 false,
 gQ 60 (.bin .gtr (.t 58) (.t 59)) 57 false,
 aQ 61 (.pick (.t 57) (.c (.d (.bool true))) (.t 60))]
def o_class_Read_18 : List AOp := [
 aQ 62 (.build [.nat .u64 0, .nat .u64 0, .nat .u64 0, .nat .u64 0] []),
 { dst := none, op := .store 4 (.t 2) (.t 62) },
 aQ 3 (.asg (.c (.nat .i64 0))),
 aQ 4 (.asg (.c (.nat .i64 2)))]
def o_class_Read_19 : List AOp := [
 aQ 63 (.load none (.t 6)),
 aQ 64 (.mov (.t 11)),
 aQ 65 (.bin .add (.t 63) (.t 64)),
 { dst := none, op := .store 1 (.t 6) (.t 65) }]
def o_class_Read_20 : List AOp := [
 mQ 66 (.load (some 4) (.t 5)),
 mQ 67 (.mov (.t 10)),
 mQ 68 (.mov (.t 13)),
 mQ 69 (.callZ (.f f_class_Span) [.t 67, .t 68]),
 aQ 70 (.call (.f f_class_Or) [.t 66, .t 69]),
 { dst := none, op := .store 4 (.t 5) (.t 70) }]
def o_class_Read_8 : List AOp := [
 aQ 21 (.mov (.t 9)),
 aQ 22 (.bin .add (.t 21) (.c (.nat .i64 1))),
 aQ 9 (.asg (.t 22))]
def b_class_Read_0 : AC := (.seq (.trim [1, 2, 5, 6, 7, 8, 9] (.block 1 (.seq (.seq (.ops o_class_Read_9)
 (.cond (.t 28) (.exit 0) .skip))
 (.seq (.ops o_class_Read_10)
 (.seq (.seq (.ops o_class_Read_11)
 (.cond (.t 38) (.seq (.ops o_class_Read_12)
 .ret) .skip))
 (.seq (.ops o_class_Read_13)
 (.seq (.ops o_class_Read_14)
 (.seq (.seq (.ops o_class_Read_15)
 (.cond (.t 46) (.seq (.seq (.ops o_class_Read_16)
 (.seq (.ops o_class_Read_17)
 (.cond (.t 61) (.seq (.ops o_class_Read_18)
 .ret) .skip)))
 (.ops o_class_Read_19)) .skip))
 (.ops o_class_Read_20)))))))))
 (.ops o_class_Read_8))
def o_class_Read_21 : List AOp := [
 aQ 71 (.mov (.t 8))]
def o_class_Read_22 : List AOp := [
 mQ 72 (.load (some 4) (.t 5)),
 mQ 73 (.callZ (.f f_class_One) [.c (.nat .u8 10)]),
 aQ 74 (.call (.f f_class_Or) [.t 72, .t 73]),
 aQ 75 (.call (.f f_class_Not) [.t 74]),
 { dst := none, op := .store 4 (.t 5) (.t 75) }]
def o_class_Read_23 : List AOp := [
 mQ 76 (.load (some 4) (.t 5)),
 mQ 77 (.loadB none (.t 6) (.t 6)),
 { dst := none, op := .storeW 4 (.t 2) (.t 76) [.t 6], may := false },
 aQ 3 (.asg (.t 77)),
 aQ 4 (.asg (.c (.nat .i64 0)))]
def c_class_Read : AC :=
 (.seq (.ops o_class_Read_0)
 (.seq (.ops o_class_Read_1)
 (.seq (.ops o_class_Read_2)
 (.seq (.ops o_class_Read_3)
 (.seq (.seq (.ops o_class_Read_4)
 (.cond (.t 17) (.seq (.ops o_class_Read_5)
 .ret) .skip))
 (.seq (.ops o_class_Read_6)
 (.seq (.seq (.ops o_class_Read_7)
 (.trim [2, 5, 6, 8] (.block 0 (.loop [1, 2, 5, 6, 7, 8, 9] b_class_Read_0))))
 (.seq (.seq (.ops o_class_Read_21)
 (.cond (.t 71) (.ops o_class_Read_22) .skip))
 (.seq (.ops o_class_Read_23)
 .ret)))))))))
def a_class_Read : AFn := { body := c_class_Read, res := [.cell 2 (some 4), .tmp 3, .tmp 4] }
def o_class_Sign_0 : List AOp := [
 aQ 2 (.asg (.c (.nat .u8 0))),
 aQ 3 (.asg (.c (.nat .i64 0))),
 aQ 4 (.asg (.c (.nat .i64 0)))]
def o_class_Sign_1 : List AOp := [
 aQ 6 (.mov (.t 0)),
 aQ 7 (.bin .eql (.t 6) (.c (.d (.str [])))),
 aQ 8 (.mov (.t 7)),
 gQ 9 (.mov (.t 0)) 8 false,
 gQ 10 (.idxS (.t 9) (.c (.nat .i64 0))) 8 false,
 gQ 11 (.bin .neq (.t 10) (.c (.nat .u8 92))) 8 false,
 gQ 12 (.mov (.t 11)) 8 false,
 gQ 13 (.mov (.t 0)) 12 true,
 gQ 14 (.idxS (.t 13) (.c (.nat .i64 0))) 12 true,
 gQ 15 (.call (.f f_strings_IndexByte) [.c (.d (.str [10, 93, 91, 94, 45])), .t 14]) 12 true,
 gQ 16 (.bin .geq (.t 15) (.c (.nat .i64 0))) 12 true,
 gQ 17 (.pick (.t 12) (.t 16) (.c (.d (.bool false)))) 8 false,
 aQ 18 (.pick (.t 8) (.c (.d (.bool true))) (.t 17)),
 aQ 5 (.asg (.t 18))]
def o_class_Sign_2 : List AOp := [
 aQ 2 (.asg (.c (.nat .u8 0))),
 aQ 3 (.asg (.c (.nat .i64 0))),
 aQ 4 (.asg (.c (.nat .i64 2)))]
def o_class_Sign_3 : List AOp := [
 aQ 20 (.mov (.t 0)),
 aQ 21 (.idxS (.t 20) (.c (.nat .i64 0))),
 aQ 22 (.bin .neq (.t 21) (.c (.nat .u8 92))),
 aQ 19 (.asg (.t 22))]
def o_class_Sign_4 : List AOp := [
 aQ 23 (.mov (.t 0)),
 aQ 24 (.idxS (.t 23) (.c (.nat .i64 0))),
 aQ 2 (.asg (.t 24)),
 aQ 3 (.asg (.c (.nat .i64 1))),
 aQ 4 (.asg (.c (.nat .i64 0)))]
def o_class_Sign_5 : List AOp := [
 aQ 26 (.mov (.t 0)),
 aQ 27 (.lenS (.t 26)),
 aQ 28 (.bin .lss (.t 27) (.c (.nat .i64 2))),
 aQ 25 (.asg (.t 28))]
def o_class_Sign_6 : List AOp := [
 aQ 2 (.asg (.c (.nat .u8 0))),
 aQ 3 (.asg (.c (.nat .i64 0))),
 aQ 4 (.asg (.c (.nat .i64 2)))]
def o_class_Sign_7 : List AOp := [
 aQ 30 (.mov (.t 0)),
 aQ 31 (.idxS (.t 30) (.c (.nat .i64 1))),
 aQ 32 (.call (.f f_strings_IndexByte) [.c (.d (.str [92, 93, 91, 94, 45, 47, 46, 42, 43, 63, 40, 41, 124, 123, 125, 36])), .t 31]),
 aQ 33 (.bin .geq (.t 32) (.c (.nat .i64 0))),
 aQ 29 (.asg (.t 33))]
def o_class_Sign_8 : List AOp := [
 aQ 34 (.mov (.t 0)),
 aQ 35 (.idxS (.t 34) (.c (.nat .i64 1))),
 aQ 2 (.asg (.t 35)),
 aQ 3 (.asg (.c (.nat .i64 2))),
 aQ 4 (.asg (.c (.nat .i64 0)))]
def o_class_Sign_9 : List AOp := [
 aQ 37 (.mov (.t 0)),
 aQ 38 (.lenS (.t 37)),
 aQ 39 (.bin .lss (.t 38) (.c (.nat .i64 4))),
 aQ 40 (.mov (.t 39)),
 gQ 41 (.mov (.t 0)) 40 false,
 gQ 42 (.idxS (.t 41) (.c (.nat .i64 1))) 40 false,
 gQ 43 (.bin .neq (.t 42) (.c (.nat .u8 120))) 40 false,
 aQ 44 (.pick (.t 40) (.c (.d (.bool true))) (.t 43)),
 aQ 45 (.mov (.t 44)),
 gQ 46 (.mov (.t 0)) 45 false,
 gQ 47 (.idxS (.t 46) (.c (.nat .i64 2))) 45 false,
 gQ 48 (.call (.f f_hex_Digit) [.t 47]) 45 false,
 gQ 49 (.bin .lss (.t 48) (.c (.nat .i64 0))) 45 false,
 aQ 50 (.pick (.t 45) (.c (.d (.bool true))) (.t 49)),
 aQ 51 (.mov (.t 50)),
 gQ 52 (.mov (.t 0)) 51 false,
 gQ 53 (.idxS (.t 52) (.c (.nat .i64 3))) 51 false,
 gQ 54 (.call (.f f_hex_Digit) [.t 53]) 51 false,
 gQ 55 (.bin .lss (.t 54) (.c (.nat .i64 0))) 51 false,
 aQ 56 (.pick (.t 51) (.c (.d (.bool true))) (.t 55)),
 aQ 36 (.asg (.t 56))]
def o_class_Sign_10 : List AOp := [
 aQ 2 (.asg (.c (.nat .u8 0))),
 aQ 3 (.asg (.c (.nat .i64 0))),
 aQ 4 (.asg (.c (.nat .i64 2)))]
def o_class_Sign_11 : List AOp := [
 mQ 57 (.mov (.t 0)),
 mQ 58 (.idxS (.t 57) (.c (.nat .i64 2))),
 mQ 59 (.call (.f f_hex_Digit) [.t 58]),
 mQ 60 (.bin .shl (.t 59) (.c (.nat .u64 4))),
 mQ 61 (.mov (.t 0)),
 mQ 62 (.idxS (.t 61) (.c (.nat .i64 3))),
 mQ 63 (.call (.f f_hex_Digit) [.t 62]),
 aQ 64 (.bin .or (.t 60) (.t 63)),
 aQ 65 (.toInt .u8 (.t 64)),
 aQ 2 (.asg (.t 65)),
 aQ 3 (.asg (.c (.nat .i64 4))),
 aQ 4 (.asg (.c (.nat .i64 0)))]
def c_class_Sign : AC :=
 (.seq (.ops o_class_Sign_0)
 (.seq (.trim [0] (.block 0 (.seq (.ops o_class_Sign_1)
 (.cond (.t 5) (.seq (.ops o_class_Sign_2)
 .ret) (.seq (.ops o_class_Sign_3)
 (.cond (.t 19) (.seq (.ops o_class_Sign_4)
 .ret) (.seq (.ops o_class_Sign_5)
 (.cond (.t 25) (.seq (.ops o_class_Sign_6)
 .ret) (.seq (.ops o_class_Sign_7)
 (.cond (.t 29) (.seq (.ops o_class_Sign_8)
 .ret) (.seq (.ops o_class_Sign_9)
 (.cond (.t 36) (.seq (.ops o_class_Sign_10)
 .ret) .skip))))))))))))
 (.seq (.ops o_class_Sign_11)
 .ret)))
def a_class_Sign : AFn := { body := c_class_Sign, res := [.tmp 2, .tmp 3, .tmp 4] }
def o_stringslite_IndexByte_0 : List AOp := [
 aQ 4 (.asg (.c (.nat .i64 0)))]
def o_stringslite_IndexByte_1 : List AOp := [
 aQ 5 (.mov (.t 0)),
 aQ 6 (.mov (.t 1)),
 aQ 7 (.call (.f f_bytealg_IndexByteString) [.t 5, .t 6]),
 aQ 4 (.asg (.t 7))]
def c_stringslite_IndexByte : AC :=
 (.seq (.ops o_stringslite_IndexByte_0)
 (.seq (.ops o_stringslite_IndexByte_1)
 .ret))
def a_stringslite_IndexByte : AFn := { body := c_stringslite_IndexByte, res := [.tmp 4] }
def o_class_Read_1_0 : List AOp := [
 aQ 4 (.asg (.c (.d (.bool false))))]
def o_class_Read_1_1 : List AOp := [
 aQ 6 (.load none (.t 1)),
 aQ 7 (.load none (.t 2)),
 aQ 8 (.lenS (.t 7)),
 aQ 9 (.bin .lss (.t 6) (.t 8)),
 aQ 10 (.mov (.t 9)),
 gQ 11 (.load none (.t 2)) 10 true,
 gQ 12 (.load none (.t 1)) 10 true,
 gQ 13 (.idxS (.t 11) (.t 12)) 10 true,
 gQ 14 (.mov (.t 0)) 10 true,
 gQ 15 (.bin .eql (.t 13) (.t 14)) 10 true,
 aQ 16 (.pick (.t 10) (.t 15) (.c (.d (.bool false)))),
 aQ 5 (.asg (.t 16))]
def o_class_Read_1_2 : List AOp := [
 aQ 17 (.mov (.t 5))]
def o_class_Read_1_3 : List AOp := [
 aQ 18 (.load none (.t 1)),
 aQ 19 (.bin .add (.t 18) (.c (.nat .i64 1))),
 { dst := none, op := .store 1 (.t 1) (.t 19) }]
def o_class_Read_1_4 : List AOp := [
 aQ 20 (.mov (.t 5)),
 aQ 4 (.asg (.t 20))]
def c_class_Read_1 : AC :=
 (.seq (.ops o_class_Read_1_0)
 (.seq (.ops o_class_Read_1_1)
 (.seq (.seq (.ops o_class_Read_1_2)
 (.cond (.t 17) (.ops o_class_Read_1_3) .skip))
 (.seq (.ops o_class_Read_1_4)
 .ret))))
def a_class_Read_1 : AFn := { body := c_class_Read_1, res := [.tmp 4] }
def o_class_Or_0 : List AOp := [
 aQ 2 (.box (.t 0)),
 aQ 3 (.box (.t 1)),
 aQ 4 (.alloc [.nat .u64 0, .nat .u64 0, .nat .u64 0, .nat .u64 0])]
def o_class_Or_1 : List AOp := [
 aQ 6 (.mov (.c (.nat .i64 0)))]
def o_class_Or_2 : List AOp := [
 aQ 7 (.bin .lss (.t 6) (.c (.nat .i64 4)))]
def o_class_Or_3 : List AOp := [
 aQ 8 (.mov (.t 6)),
 aQ 5 (.asg (.t 8))]
def o_class_Or_4 : List AOp := [
 mQ 9 (.mov (.t 5)),
 mQ 10 (.idxA (some 4) 1 (.t 2) (.t 9)),
 mQ 11 (.load none (.t 10)),
 mQ 12 (.mov (.t 5)),
 mQ 13 (.idxA (some 4) 1 (.t 3) (.t 12)),
 mQ 14 (.load none (.t 13)),
 aQ 15 (.bin .or (.t 11) (.t 14)),
 aQ 16 (.idxA (some 4) 1 (.t 2) (.t 9)),
 { dst := none, op := .store 1 (.t 16) (.t 15) }]
def o_class_Or_5 : List AOp := [
 aQ 17 (.bin .add (.t 6) (.c (.nat .i64 1))),
 aQ 6 (.mov (.t 17))]
def b_class_Or_0 : AC := (.seq (.ops o_class_Or_2)
 (.seq (.cond (.t 7) .skip (.exit 0))
 (.seq (.trim [2, 3, 4, 6] (.block 1 (.seq (.ops o_class_Or_3)
 (.ops o_class_Or_4))))
 (.ops o_class_Or_5))))
def o_class_Or_6 : List AOp := [
 aQ 18 (.load (some 4) (.t 2)),
 { dst := none, op := .store 4 (.t 4) (.t 18) }]
def c_class_Or : AC :=
 (.seq (.ops o_class_Or_0)
 (.seq (.seq (.ops o_class_Or_1)
 (.trim [2, 4] (.block 0 (.loop [2, 3, 4, 6] b_class_Or_0))))
 (.seq (.ops o_class_Or_6)
 .ret)))
def a_class_Or : AFn := { body := c_class_Or, res := [.cell 4 (some 4)] }
def o_hex_Digit_0 : List AOp := [
 aQ 2 (.asg (.c (.nat .i64 0)))]
def o_hex_Digit_1 : List AOp := [
 aQ 4 (.mov (.t 0)),
 aQ 5 (.bin .geq (.t 4) (.c (.nat .u8 48))),
 aQ 6 (.mov (.t 5)),
 gQ 7 (.mov (.t 0)) 6 true,
 gQ 8 (.bin .leq (.t 7) (.c (.nat .u8 57))) 6 true,
 aQ 9 (.pick (.t 6) (.t 8) (.c (.d (.bool false)))),
 aQ 3 (.asg (.t 9))]
def o_hex_Digit_2 : List AOp := [
 aQ 10 (.mov (.t 0)),
 aQ 11 (.bin .sub (.t 10) (.c (.nat .u8 48))),
 aQ 12 (.toInt .i64 (.t 11)),
 aQ 2 (.asg (.t 12))]
def o_hex_Digit_3 : List AOp := [
 aQ 14 (.mov (.t 0)),
 aQ 15 (.bin .geq (.t 14) (.c (.nat .u8 97))),
 aQ 16 (.mov (.t 15)),
 gQ 17 (.mov (.t 0)) 16 true,
 gQ 18 (.bin .leq (.t 17) (.c (.nat .u8 102))) 16 true,
 aQ 19 (.pick (.t 16) (.t 18) (.c (.d (.bool false)))),
 aQ 13 (.asg (.t 19))]
def o_hex_Digit_4 : List AOp := [
 aQ 20 (.mov (.t 0)),
 aQ 21 (.bin .sub (.t 20) (.c (.nat .u8 97))),
 aQ 22 (.toInt .i64 (.t 21)),
 aQ 23 (.bin .add (.t 22) (.c (.nat .i64 10))),
 aQ 2 (.asg (.t 23))]
def o_hex_Digit_5 : List AOp := [
 aQ 25 (.mov (.t 0)),
 aQ 26 (.bin .geq (.t 25) (.c (.nat .u8 65))),
 aQ 27 (.mov (.t 26)),
 gQ 28 (.mov (.t 0)) 27 true,
 gQ 29 (.bin .leq (.t 28) (.c (.nat .u8 70))) 27 true,
 aQ 30 (.pick (.t 27) (.t 29) (.c (.d (.bool false)))),
 aQ 24 (.asg (.t 30))]
def o_hex_Digit_6 : List AOp := [
 aQ 31 (.mov (.t 0)),
 aQ 32 (.bin .sub (.t 31) (.c (.nat .u8 65))),
 aQ 33 (.toInt .i64 (.t 32)),
 aQ 34 (.bin .add (.t 33) (.c (.nat .i64 10))),
 aQ 2 (.asg (.t 34))]
def o_hex_Digit_7 : List AOp := [
 aQ 2 (.asg (.c (.d (.int .i64 (-1)))))]
def c_hex_Digit : AC :=
 (.seq (.ops o_hex_Digit_0)
 (.seq (.trim [] (.block 0 (.seq (.ops o_hex_Digit_1)
 (.cond (.t 3) (.seq (.ops o_hex_Digit_2)
 .ret) (.seq (.ops o_hex_Digit_3)
 (.cond (.t 13) (.seq (.ops o_hex_Digit_4)
 .ret) (.seq (.ops o_hex_Digit_5)
 (.cond (.t 24) (.seq (.ops o_hex_Digit_6)
 .ret) .skip))))))))
 (.seq (.ops o_hex_Digit_7)
 .ret)))
def a_hex_Digit : AFn := { body := c_hex_Digit, res := [.tmp 2] }
def tabl : List (Nat × AFn) := [(f_law05_RegexJoins, a_law05_RegexJoins), (f_law05_shown, a_law05_shown), (f_regex_Read, a_regex_Read), (f_regex_Text, a_regex_Text), (f_ref05_Right, a_ref05_Right), (f_regex_Join, a_regex_Join), (f_regex_Lit, a_regex_Lit), (f_regex_reader_all, a_regex_reader_all), (f_regex_Text_1, a_regex_Text_1), (f_slices_Contains_int_int, a_slices_Contains_int_int), (f_regex_Text_2, a_regex_Text_2), (f_regex_setText, a_regex_setText), (f_ref05_begin, a_ref05_begin), (f_ref05_many, a_ref05_many), (f_slices_Clone_api_Re_api_Re, a_slices_Clone_api_Re_api_Re), (f_regex_kids, a_regex_kids), (f_class_One, a_class_One), (f_regex_reader_cat, a_regex_reader_cat), (f_regex_reader_sees, a_regex_reader_sees), (f_regex_reader_put, a_regex_reader_put), (f_slices_Index_int_int, a_slices_Index_int_int), (f_regex_dot, a_regex_dot), (f_class_Count, a_class_Count), (f_class_Text, a_class_Text), (f_class_Span, a_class_Span), (f_regex_reader_piece, a_regex_reader_piece), (f_class_Not, a_class_Not), (f_bits_OnesCount64, a_bits_OnesCount64), (f_class_runs, a_class_runs), (f_class_Plain, a_class_Plain), (f_regex_reader_atom, a_regex_reader_atom), (f_strings_IndexByte, a_strings_IndexByte), (f_class_runs_1, a_class_runs_1), (f_class_Has, a_class_Has), (f_class_isWord, a_class_isWord), (f_hex_Hex, a_hex_Hex), (f_regex_reader_group, a_regex_reader_group), (f_class_Read, a_class_Read), (f_class_Sign, a_class_Sign), (f_stringslite_IndexByte, a_stringslite_IndexByte), (f_class_Read_1, a_class_Read_1), (f_class_Or, a_class_Or), (f_hex_Digit, a_hex_Digit)]
def tabD : List (Nat × AFn) := [(f_regex_Read_1, a_regex_Read_1), (f_class_runs_1, a_class_runs_1)]
end Go.Ab.R05j
