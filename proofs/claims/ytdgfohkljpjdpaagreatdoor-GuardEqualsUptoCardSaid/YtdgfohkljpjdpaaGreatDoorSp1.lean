/- Parts of the proof: GvDig. -/
import Derived.Test.YtdgfohkljpjdpaaGreatDoorRb1

namespace Go.Rf
abbrev f_rafterlaw09_GuardSums : FuncId := 3
abbrev f_rafterlaw09_GuardEquals : FuncId := 4
abbrev f_rafterlaw09_GuardLines : FuncId := 5
abbrev f_rafterlaw09_awake : FuncId := 6
abbrev f_lang_Expr : FuncId := 7
abbrev f_rafterlaw09_deep : FuncId := 8
abbrev f_guard_Affine : FuncId := 9
abbrev f_whole_Text : FuncId := 10
abbrev f_whole_Of : FuncId := 11
abbrev f_whole_Neg : FuncId := 12
abbrev f_whole_Add : FuncId := 13
abbrev f_whole_Sub : FuncId := 14
abbrev f_whole_Mul : FuncId := 15
abbrev f_rafterlaw00_SameWhole : FuncId := 16
abbrev f_rafterlaw00_LenWholes : FuncId := 17
abbrev f_guard_Cond : FuncId := 18
abbrev f_rafterlaw00_SameWholes : FuncId := 19
abbrev f_lang_Value : FuncId := 20
abbrev f_affine_Left : FuncId := 21
abbrev f_affine_Canonical : FuncId := 22
abbrev f_whole_Cmp : FuncId := 23
abbrev f_whole_Sign : FuncId := 24
abbrev f_lang_Parse : FuncId := 25
abbrev f_lang_Program_Lines : FuncId := 26
abbrev f_guard_Hard : FuncId := 27
abbrev f_guard_Pure : FuncId := 28
abbrev f_rafterlaw00_SamePlace : FuncId := 29
abbrev f_lang_Program_Vars : FuncId := 30
abbrev f_rafterlaw00_Row : FuncId := 31
abbrev f_lang_ReadExpr : FuncId := 32
abbrev f_lang_Write : FuncId := 33
abbrev f_guard_Form : FuncId := 34
abbrev f_limbs_Text : FuncId := 35
abbrev f_whole_made : FuncId := 36
abbrev f_limbs_Small : FuncId := 37
abbrev f_limbs_Trim : FuncId := 38
abbrev f_limbs_Add : FuncId := 39
abbrev f_limbs_Sub : FuncId := 40
abbrev f_limbs_Mul : FuncId := 41
abbrev f_rafterlaw00_SameLimbs : FuncId := 42
abbrev f_rafterlaw00_LenWhole : FuncId := 43
abbrev f_lang_ReadCond : FuncId := 44
abbrev f_guard_Row : FuncId := 45
abbrev f_lang_Reckon : FuncId := 46
abbrev f_affine_sum : FuncId := 47
abbrev f_whole_Gcd : FuncId := 48
abbrev f_limbs_Cmp : FuncId := 49
abbrev f_limbs_Bits : FuncId := 50
abbrev f_lang_read : FuncId := 51
abbrev f_lang_Parse_1 : FuncId := 52
abbrev f_lang_reader_here : FuncId := 53
abbrev f_lang_reader_must : FuncId := 54
abbrev f_lang_reader_is : FuncId := 55
abbrev f_lang_reader_declare : FuncId := 56
abbrev f_lang_reader_row : FuncId := 57
abbrev f_lang_Program_declared : FuncId := 58
abbrev f_lang_lines : FuncId := 59
abbrev f_guard_walked : FuncId := 60
abbrev f_rafterlaw00_Small : FuncId := 61
abbrev f_affine_Names : FuncId := 62
abbrev f_lang_ReadExpr_1 : FuncId := 63
abbrev f_lang_reader_sum : FuncId := 64
abbrev f_lang_write : FuncId := 65
abbrev f_strings_Builder_String : FuncId := 66
abbrev f_whole_Trim : FuncId := 67
abbrev f_guard_times : FuncId := 68
abbrev f_guard_both : FuncId := 69
abbrev f_limbs_short : FuncId := 70
abbrev f_limbs_byLimb : FuncId := 71
abbrev f_lang_ReadCond_1 : FuncId := 72
abbrev f_lang_reader_cond : FuncId := 73
abbrev f_ratio_From : FuncId := 74
abbrev f_affine_Canon : FuncId := 75
abbrev f_lang_join : FuncId := 76
abbrev f_whole_Limbs : FuncId := 77
abbrev f_limbs_Gcd : FuncId := 78
abbrev f_bits_Len32 : FuncId := 79
abbrev f_glyph_Scan : FuncId := 80
abbrev f_lang_read_1 : FuncId := 81
abbrev f_lang_reader_need : FuncId := 82
abbrev f_lang_reader_pass : FuncId := 83
abbrev f_lang_reader_name : FuncId := 84
abbrev f_lang_short : FuncId := 85
abbrev f_lang_reader_variable : FuncId := 86
abbrev f_whole_Parse : FuncId := 87
abbrev f_lang_reader_statement : FuncId := 88
abbrev f_lang_lines_1 : FuncId := 89
abbrev f_lang_kind : FuncId := 90
abbrev f_lang_head : FuncId := 91
abbrev f_guard_walker_row : FuncId := 92
abbrev f_lang_Program_Body : FuncId := 93
abbrev f_glyph_Name : FuncId := 94
abbrev f_lang_reader_product : FuncId := 95
abbrev f_strings_Builder_WriteString : FuncId := 96
abbrev f_strings_Builder_WriteByte : FuncId := 97
abbrev f_lang_part : FuncId := 98
abbrev f_lang_single : FuncId := 99
abbrev f_lang_sum : FuncId := 100
abbrev f_lang_adds : FuncId := 101
abbrev f_guard_constant : FuncId := 102
abbrev f_whole_DivMod : FuncId := 103
abbrev f_ratio_lowest : FuncId := 104
abbrev f_ratio_one : FuncId := 105
abbrev f_ratio_Trim : FuncId := 106
abbrev f_ratio_Whole : FuncId := 107
abbrev f_ratio_Mul : FuncId := 108
abbrev f_affine_told : FuncId := 109
abbrev f_affine_lowest : FuncId := 110
abbrev f_limbs_Uint : FuncId := 111
abbrev f_limbs_DivMod : FuncId := 112
abbrev f_glyph_start : FuncId := 113
abbrev f_glyph_scanner_blanks : FuncId := 114
abbrev f_glyph_scanner_token : FuncId := 115
abbrev f_lang_word : FuncId := 116
abbrev f_utf8_RuneCountInString : FuncId := 117
abbrev f_utf8_RuneLen : FuncId := 118
abbrev f_limbs_Parse : FuncId := 119
abbrev f_lang_reader_assign : FuncId := 120
abbrev f_lang_reader_mark : FuncId := 121
abbrev f_lang_reader_block : FuncId := 122
abbrev f_lang_condition : FuncId := 123
abbrev f_guard_Simple : FuncId := 124
abbrev f_guard_walker_within : FuncId := 125
abbrev f_lang_reader_unary : FuncId := 126
abbrev f_strings_Builder_copyCheck : FuncId := 127
abbrev f_limbs_long : FuncId := 128
abbrev f_glyph_scanner_class : FuncId := 129
abbrev f_glyph_scanner_pass : FuncId := 130
abbrev f_glyph_scanner_next : FuncId := 131
abbrev f_glyph_scanner_while : FuncId := 132
abbrev f_glyph_scanner_token_1 : FuncId := 133
abbrev f_glyph_scanner_early : FuncId := 134
abbrev f_glyph_scanner_token_2 : FuncId := 135
abbrev f_glyph_scanner_sign : FuncId := 136
abbrev f_glyph_scanner_fail : FuncId := 137
abbrev f_limbs_grow : FuncId := 138
abbrev f_lang_reader_into : FuncId := 139
abbrev f_lang_reader_out : FuncId := 140
abbrev f_internal_abi_NoEscape : FuncId := 141
abbrev f_bits_LeadingZeros32 : FuncId := 142
abbrev f_limbs_moved : FuncId := 143
abbrev f_limbs_take : FuncId := 144
abbrev f_limbs_Right : FuncId := 145
abbrev f_glyph_Class : FuncId := 146
abbrev f_utf8_DecodeRuneInString : FuncId := 147
abbrev f_glyph_behind : FuncId := 148
abbrev f_glyph_broken : FuncId := 149
abbrev f_glyph_Fold : FuncId := 150
abbrev f_glyph_letter : FuncId := 151
abbrev f_glyph_sign : FuncId := 152
abbrev f_utf8_decodeRuneInStringSlow : FuncId := 153
abbrev t_lang_Choose : TypeId := 166
abbrev t_lang_If : TypeId := 174
abbrev t_lang_Loop : TypeId := 169
abbrev t_lang_Mark : TypeId := 213
abbrev t_lang_Minus : TypeId := 127
abbrev t_lang_Name : TypeId := 125
abbrev t_lang_Number : TypeId := 123
abbrev t_lang_Set : TypeId := 211
abbrev t_lang_Skip : TypeId := 208
abbrev t_lang_Stop : TypeId := 209
abbrev t_lang_Two : TypeId := 130
abbrev t_lang_While : TypeId := 171
abbrev t_lang_fault : TypeId := 148
def tab0 : List UInt8 := [0, 1, 2, 2, 3, 3, 3, 3, 4, 4, 4, 4, 4, 4, 4, 4, 5, 5, 5, 5, 5, 5, 5, 5, 5, 5, 5, 5, 5, 5, 5, 5, 6, 6, 6, 6, 6, 6, 6, 6, 6, 6, 6, 6, 6, 6, 6, 6, 6, 6, 6, 6, 6, 6, 6, 6, 6, 6, 6, 6, 6, 6, 6, 6, 7, 7, 7, 7, 7, 7, 7, 7, 7, 7, 7, 7, 7, 7, 7, 7, 7, 7, 7, 7, 7, 7, 7, 7, 7, 7, 7, 7, 7, 7, 7, 7, 7, 7, 7, 7, 7, 7, 7, 7, 7, 7, 7, 7, 7, 7, 7, 7, 7, 7, 7, 7, 7, 7, 7, 7, 7, 7, 7, 7, 7, 7, 7, 7, 8, 8, 8, 8, 8, 8, 8, 8, 8, 8, 8, 8, 8, 8, 8, 8, 8, 8, 8, 8, 8, 8, 8, 8, 8, 8, 8, 8, 8, 8, 8, 8, 8, 8, 8, 8, 8, 8, 8, 8, 8, 8, 8, 8, 8, 8, 8, 8, 8, 8, 8, 8, 8, 8, 8, 8, 8, 8, 8, 8, 8, 8, 8, 8, 8, 8, 8, 8, 8, 8, 8, 8, 8, 8, 8, 8, 8, 8, 8, 8, 8, 8, 8, 8, 8, 8, 8, 8, 8, 8, 8, 8, 8, 8, 8, 8, 8, 8, 8, 8, 8, 8, 8, 8, 8, 8, 8, 8, 8, 8, 8, 8, 8, 8, 8, 8, 8, 8, 8, 8, 8, 8, 8, 8, 8, 8, 8, 8]
/-! rafter/rafterlaw09.GuardSums -/
def a_rafterlaw09_GuardEquals : AFun := ⟨4,
(.seq
(.region [
⟨0, (some 8), .mv (.c (.bool false)), none⟩] none [0, 1, 2, 3])
(.seq
(.seq
(.region [
⟨0, (some 31), .call f_rafterlaw09_awake [], none⟩,
⟨1, (some 32), .un .not (.t 31), none⟩] none [0, 1, 2, 3, 32])
(.cond (.t 32)
(.seq
(.region [
⟨0, (some 8), .mv (.c (.bool false)), none⟩] none [8])
.ret)
.skip))
(.seq
(.seq
(.region [
⟨0, (some 33), .mv (.t 3), none⟩,
⟨1, (some 34), .call f_rafterlaw00_LenWholes [((.t 33), true)], none⟩,
⟨2, (some 35), .bin .gtr (.t 34) (.c (.int .i64 1500)), none⟩] none [0, 1, 2, 3, 35])
(.cond (.t 35)
(.seq
(.region [
⟨0, (some 8), .mv (.c (.bool true)), none⟩] none [8])
.ret)
.skip))
(.seq
(.region [
⟨0, (some 37), .mv (.t 0), none⟩,
⟨1, (some 38), .mv (.t 2), none⟩,
⟨2, (some 39), .call f_lang_Expr [((.t 37), true), ((.t 38), true)], none⟩,
⟨3, (some 36), .mv (.t 39), none⟩,
⟨4, (some 40), .extract (.t 36) 0, none⟩,
⟨5, (some 41), .extract (.t 36) 1, none⟩,
⟨6, (some 42), .extract (.t 36) 2, none⟩,
⟨7, (some 11), .alloc (.agg [.int .i64 0, .int .i64 0, .int .i64 0, .int .i64 0]) [], none⟩,
⟨8, (some 9), .mv (.t 40), none⟩,
⟨9, (some 10), .mv (.t 41), none⟩,
⟨10, none, .store 4 (.t 11) (.t 42), none⟩] none [0, 1, 2, 3, 9, 10])
(.seq
(.region [
⟨0, (some 44), .mv (.t 1), none⟩,
⟨1, (some 45), .mv (.t 2), none⟩,
⟨2, (some 46), .call f_lang_Expr [((.t 44), true), ((.t 45), true)], none⟩,
⟨3, (some 43), .mv (.t 46), none⟩,
⟨4, (some 47), .extract (.t 43) 0, none⟩,
⟨5, (some 48), .extract (.t 43) 1, none⟩,
⟨6, (some 49), .extract (.t 43) 2, none⟩,
⟨7, (some 14), .alloc (.agg [.int .i64 0, .int .i64 0, .int .i64 0, .int .i64 0]) [], none⟩,
⟨8, (some 12), .mv (.t 47), none⟩,
⟨9, (some 13), .mv (.t 48), none⟩,
⟨10, none, .store 4 (.t 14) (.t 49), none⟩] none [0, 1, 2, 3, 9, 10, 12, 13])
(.seq
(.seq
(.region [
⟨0, (some 50), .mv (.t 10), none⟩,
⟨1, (some 51), .bin .neq (.t 50) (.c (.int .i64 0)), none⟩,
⟨2, (some 52), .mv (.t 51), none⟩,
⟨3, (some 53), .mv (.t 13), (some (52, false))⟩,
⟨4, (some 54), .bin .neq (.t 53) (.c (.int .i64 0)), (some (52, false))⟩,
⟨5, (some 55), .pick (.t 52) (.c (.bool true)) (.t 54), none⟩,
⟨6, (some 56), .mv (.t 55), none⟩,
⟨7, (some 57), .mv (.t 9), (some (56, false))⟩,
⟨8, (some 58), .len true (.t 57), (some (56, false))⟩,
⟨9, (some 59), .mv (.t 12), (some (56, false))⟩,
⟨10, (some 60), .len true (.t 59), (some (56, false))⟩,
⟨11, (some 61), .bin .add (.t 58) (.t 60), (some (56, false))⟩,
⟨12, (some 62), .bin .add (.t 61) (.c (.int .i64 4)), (some (56, false))⟩,
⟨13, (some 63), .bin .gtr (.t 62) (.c (.int .i64 4096)), (some (56, false))⟩,
⟨14, (some 64), .pick (.t 56) (.c (.bool true)) (.t 63), none⟩] none [0, 1, 2, 3, 9, 12, 64])
(.cond (.t 64)
(.seq
(.region [
⟨0, (some 8), .mv (.c (.bool true)), none⟩] none [8])
.ret)
.skip))
(.seq
(.region [
⟨0, (some 66), .mv (.t 9), none⟩,
⟨1, (some 67), .bin .add (.t 66) (.c (.str [32, 33, 61, 32])), none⟩,
⟨2, (some 68), .mv (.t 12), none⟩,
⟨3, (some 69), .bin .add (.t 67) (.t 68), none⟩,
⟨4, (some 70), .mv (.t 2), none⟩,
⟨5, (some 71), .call f_guard_Cond [((.t 69), true), ((.t 70), true)], none⟩,
⟨6, (some 65), .mv (.t 71), none⟩,
⟨7, (some 72), .extract (.t 65) 0, none⟩,
⟨8, (some 73), .extract (.t 65) 1, none⟩,
⟨9, (some 74), .extract (.t 65) 2, none⟩,
⟨10, (some 75), .extract (.t 65) 3, none⟩,
⟨11, (some 76), .extract (.t 65) 4, none⟩,
⟨12, (some 19), .alloc (.agg [.int .i64 0, .int .i64 0, .int .i64 0, .int .i64 0]) [], none⟩,
⟨13, (some 15), .mv (.t 72), none⟩,
⟨14, (some 16), .mv (.t 73), none⟩,
⟨15, (some 17), .mv (.t 74), none⟩,
⟨16, (some 18), .mv (.t 75), none⟩,
⟨17, none, .store 4 (.t 19) (.t 76), none⟩] none [0, 1, 2, 3, 9, 12, 15, 16, 17, 18])
(.seq
(.region [
⟨0, (some 78), .mv (.t 9), none⟩,
⟨1, (some 79), .bin .add (.t 78) (.c (.str [32, 61, 32])), none⟩,
⟨2, (some 80), .mv (.t 12), none⟩,
⟨3, (some 81), .bin .add (.t 79) (.t 80), none⟩,
⟨4, (some 82), .mv (.t 2), none⟩,
⟨5, (some 83), .call f_guard_Cond [((.t 81), true), ((.t 82), true)], none⟩,
⟨6, (some 77), .mv (.t 83), none⟩,
⟨7, (some 84), .extract (.t 77) 0, none⟩,
⟨8, (some 85), .extract (.t 77) 1, none⟩,
⟨9, (some 86), .extract (.t 77) 2, none⟩,
⟨10, (some 87), .extract (.t 77) 3, none⟩,
⟨11, (some 88), .extract (.t 77) 4, none⟩,
⟨12, (some 24), .alloc (.agg [.int .i64 0, .int .i64 0, .int .i64 0, .int .i64 0]) [], none⟩,
⟨13, (some 20), .mv (.t 84), none⟩,
⟨14, (some 21), .mv (.t 85), none⟩,
⟨15, (some 22), .mv (.t 86), none⟩,
⟨16, (some 23), .mv (.t 87), none⟩,
⟨17, none, .store 4 (.t 24) (.t 88), none⟩] none [0, 1, 2, 3, 15, 16, 17, 18, 20, 21, 22, 23])
(.seq
(.seq
(.region [
⟨0, (some 89), .mv (.t 18), none⟩,
⟨1, (some 90), .mv (.t 23), none⟩,
⟨2, (some 91), .bin .neq (.t 89) (.t 90), none⟩,
⟨3, (some 92), .mv (.t 91), none⟩,
⟨4, (some 93), .mv (.t 16), (some (92, false))⟩,
⟨5, (some 94), .mv (.t 21), (some (92, false))⟩,
⟨6, (some 95), .eqB false (.t 93) (.t 94), (some (92, false))⟩,
⟨7, (some 96), .pick (.t 92) (.c (.bool true)) (.t 95), none⟩,
⟨8, (some 97), .mv (.t 96), none⟩,
⟨9, (some 98), .mv (.t 15), (some (97, false))⟩,
⟨10, (some 99), .mv (.t 20), (some (97, false))⟩,
⟨11, (some 100), .call f_rafterlaw00_SameWholes [((.t 98), true), ((.t 99), true)], (some (97, false))⟩,
⟨12, (some 101), .un .not (.t 100), (some (97, false))⟩,
⟨13, (some 102), .pick (.t 97) (.c (.bool true)) (.t 101), none⟩] none [0, 1, 2, 3, 15, 16, 17, 18, 22, 102])
(.cond (.t 102)
(.seq
(.region [
⟨0, (some 8), .mv (.c (.bool false)), none⟩] none [8])
.ret)
.skip))
(.seq
(.seq
(.region [
⟨0, (some 103), .mv (.t 18), none⟩,
⟨1, (some 104), .bin .neq (.t 103) (.c (.int .i64 0)), none⟩,
⟨2, (some 105), .mv (.t 104), none⟩,
⟨3, (some 106), .mv (.t 16), (some (105, false))⟩,
⟨4, (some 107), .un .not (.t 106), (some (105, false))⟩,
⟨5, (some 108), .pick (.t 105) (.c (.bool true)) (.t 107), none⟩,
⟨6, (some 109), .mv (.t 108), none⟩,
⟨7, (some 110), .mv (.t 3), (some (109, false))⟩,
⟨8, (some 111), .len false (.t 110), (some (109, false))⟩,
⟨9, (some 112), .mv (.t 2), (some (109, false))⟩,
⟨10, (some 113), .len false (.t 112), (some (109, false))⟩,
⟨11, (some 114), .bin .neq (.t 111) (.t 113), (some (109, false))⟩,
⟨12, (some 115), .pick (.t 109) (.c (.bool true)) (.t 114), none⟩] none [0, 1, 2, 3, 15, 17, 18, 22, 115])
(.cond (.t 115)
(.seq
(.region [
⟨0, (some 116), .mv (.t 18), none⟩,
⟨1, (some 117), .bin .neq (.t 116) (.c (.int .i64 0)), none⟩,
⟨2, (some 118), .mv (.t 117), none⟩,
⟨3, (some 119), .mv (.t 22), (some (118, false))⟩,
⟨4, (some 120), .mv (.t 119), (some (118, false))⟩,
⟨5, (some 121), .mv (.t 17), (some (120, true))⟩,
⟨6, (some 122), .un .not (.t 121), (some (120, true))⟩,
⟨7, (some 123), .pick (.t 120) (.t 122) (.c (.bool false)), (some (118, false))⟩,
⟨8, (some 124), .pick (.t 118) (.c (.bool true)) (.t 123), none⟩,
⟨9, (some 8), .mv (.t 124), none⟩] none [8])
.ret)
.skip))
(.seq
(.region [
⟨0, (some 126), .mv (.t 0), none⟩,
⟨1, (some 127), .mv (.t 2), none⟩,
⟨2, (some 128), .mv (.t 3), none⟩,
⟨3, (some 129), .call f_lang_Value [((.t 126), true), ((.t 127), true), ((.t 128), true)], none⟩,
⟨4, (some 125), .mv (.t 129), none⟩,
⟨5, (some 130), .extract (.t 125) 0, none⟩,
⟨6, (some 131), .extract (.t 125) 1, none⟩,
⟨7, (some 25), .alloc (.agg [.bool false, .sl []]) [], none⟩,
⟨8, none, .store 2 (.t 25) (.t 130), none⟩,
⟨9, (some 26), .mv (.t 131), none⟩] none [1, 2, 3, 15, 17, 22, 25, 26])
(.seq
(.region [
⟨0, (some 133), .mv (.t 1), none⟩,
⟨1, (some 134), .mv (.t 2), none⟩,
⟨2, (some 135), .mv (.t 3), none⟩,
⟨3, (some 136), .call f_lang_Value [((.t 133), true), ((.t 134), true), ((.t 135), true)], none⟩,
⟨4, (some 132), .mv (.t 136), none⟩,
⟨5, (some 137), .extract (.t 132) 0, none⟩,
⟨6, (some 138), .extract (.t 132) 1, none⟩,
⟨7, (some 27), .alloc (.agg [.bool false, .sl []]) [], none⟩,
⟨8, none, .store 2 (.t 27) (.t 137), none⟩,
⟨9, (some 28), .mv (.t 138), none⟩] none [3, 15, 17, 22, 25, 26, 27, 28])
(.seq
(.region [
⟨0, (some 140), .mv (.t 15), none⟩,
⟨1, (some 141), .mv (.t 3), none⟩,
⟨2, (some 142), .call f_affine_Left [((.t 140), true), ((.t 141), true)], none⟩,
⟨3, (some 139), .mv (.t 142), none⟩,
⟨4, (some 143), .extract (.t 139) 0, none⟩,
⟨5, (some 144), .extract (.t 139) 1, none⟩,
⟨6, (some 29), .alloc (.agg [.bool false, .sl []]) [], none⟩,
⟨7, none, .store 2 (.t 29) (.t 143), none⟩,
⟨8, (some 30), .mv (.t 144), none⟩] none [15, 17, 22, 25, 26, 27, 28, 29, 30])
(.seq
(.seq
(.region [
⟨0, (some 145), .mv (.t 15), none⟩,
⟨1, (some 146), .call f_affine_Canonical [((.t 145), true)], none⟩,
⟨2, (some 147), .un .not (.t 146), none⟩,
⟨3, (some 148), .mv (.t 147), none⟩,
⟨4, (some 149), .mv (.t 17), (some (148, false))⟩,
⟨5, (some 150), .pick (.t 148) (.c (.bool true)) (.t 149), none⟩,
⟨6, (some 151), .mv (.t 150), none⟩,
⟨7, (some 152), .mv (.t 22), (some (151, false))⟩,
⟨8, (some 153), .un .not (.t 152), (some (151, false))⟩,
⟨9, (some 154), .pick (.t 151) (.c (.bool true)) (.t 153), none⟩,
⟨10, (some 155), .mv (.t 154), none⟩,
⟨11, (some 156), .mv (.t 30), (some (155, false))⟩,
⟨12, (some 157), .bin .neq (.t 156) (.c (.int .i64 0)), (some (155, false))⟩,
⟨13, (some 158), .pick (.t 155) (.c (.bool true)) (.t 157), none⟩] none [25, 26, 27, 28, 29, 158])
(.cond (.t 158)
(.seq
(.region [
⟨0, (some 8), .mv (.c (.bool false)), none⟩] none [8])
.ret)
.skip))
(.seq
(.region [
⟨0, (some 159), .mv (.t 26), none⟩,
⟨1, (some 160), .bin .neq (.t 159) (.c (.int .i64 0)), none⟩,
⟨2, (some 161), .mv (.t 160), none⟩,
⟨3, (some 162), .mv (.t 28), (some (161, false))⟩,
⟨4, (some 163), .bin .neq (.t 162) (.c (.int .i64 0)), (some (161, false))⟩,
⟨5, (some 164), .pick (.t 161) (.c (.bool true)) (.t 163), none⟩,
⟨6, (some 165), .mv (.t 164), none⟩,
⟨7, (some 166), .load 2 true (.t 25), (some (165, false))⟩,
⟨8, (some 167), .load 2 true (.t 27), (some (165, false))⟩,
⟨11, (some 170), .load 2 true (.t 29), (some (165, false))⟩,
⟨9, (some 168), .call f_whole_Cmp [((.t 166), true), ((.t 167), true)], (some (165, false))⟩,
⟨10, (some 169), .bin .eql (.t 168) (.c (.int .i64 0)), (some (165, false))⟩,
⟨12, (some 171), .call f_whole_Sign [((.t 170), true)], (some (165, false))⟩,
⟨13, (some 172), .bin .eql (.t 171) (.c (.int .i64 0)), (some (165, false))⟩,
⟨14, (some 173), .eqB true (.t 169) (.t 172), (some (165, false))⟩,
⟨15, (some 174), .pick (.t 165) (.c (.bool true)) (.t 173), none⟩,
⟨16, (some 8), .mv (.t 174), none⟩] (some ([(11, 9)], [9, 12])) [8])
.ret))))))))))))))), [(.tmp 8, true)]⟩

/-! rafter/rafterlaw09.GuardLines -/
def a_rafterlaw09_awake : AFun := ⟨0,
(.seq
(.region [
⟨0, (some 0), .mv (.c (.bool false)), none⟩] none [])
(.seq
(.region [
⟨0, (some 10), .buildSl ⟨1, 16⟩ (.str []) 2 [(0, (.c (.str [120]))), (1, (.c (.str [121])))], none⟩,
⟨1, (some 11), .call f_guard_Affine [((.c (.str [50, 42, 40, 120, 43, 51, 42, 121, 41, 45, 120])), true), ((.t 10), true)], none⟩,
⟨2, (some 9), .mv (.t 11), none⟩,
⟨3, (some 12), .extract (.t 9) 0, none⟩,
⟨4, (some 13), .extract (.t 9) 1, none⟩,
⟨5, (some 14), .extract (.t 9) 2, none⟩,
⟨6, (some 15), .extract (.t 9) 3, none⟩,
⟨7, (some 4), .alloc (.agg [.int .i64 0, .int .i64 0, .int .i64 0, .int .i64 0]) [], none⟩,
⟨8, (some 1), .mv (.t 12), none⟩,
⟨9, (some 2), .mv (.t 13), none⟩,
⟨10, (some 3), .mv (.t 14), none⟩,
⟨11, none, .store 4 (.t 4) (.t 15), none⟩] none [1, 2, 3])
(.seq
(.region [
⟨0, (some 17), .buildSl ⟨1, 16⟩ (.str []) 2 [(0, (.c (.str [120]))), (1, (.c (.str [121])))], none⟩,
⟨1, (some 18), .call f_guard_Affine [((.c (.str [120, 42, 121])), true), ((.t 17), true)], none⟩,
⟨2, (some 16), .mv (.t 18), none⟩,
⟨3, (some 19), .extract (.t 16) 0, none⟩,
⟨4, (some 20), .extract (.t 16) 1, none⟩,
⟨5, (some 21), .extract (.t 16) 2, none⟩,
⟨6, (some 22), .extract (.t 16) 3, none⟩,
⟨7, (some 8), .alloc (.agg [.int .i64 0, .int .i64 0, .int .i64 0, .int .i64 0]) [], none⟩,
⟨8, (some 5), .mv (.t 19), none⟩,
⟨9, (some 6), .mv (.t 20), none⟩,
⟨10, (some 7), .mv (.t 21), none⟩,
⟨11, none, .store 4 (.t 8) (.t 22), none⟩] none [1, 2, 3, 6, 7])
(.seq
(.region [
⟨0, (some 23), .mv (.t 3), none⟩,
⟨1, (some 24), .bin .eql (.t 23) (.c (.int .i64 0)), none⟩,
⟨2, (some 25), .mv (.t 24), none⟩,
⟨3, (some 26), .mv (.t 2), (some (25, true))⟩,
⟨4, (some 27), .pick (.t 25) (.t 26) (.c (.bool false)), none⟩,
⟨5, (some 28), .mv (.t 27), none⟩,
⟨6, (some 29), .mv (.t 1), (some (28, true))⟩,
⟨7, (some 30), .buildSl ⟨1, 8⟩ (.int .i64 0) 3 [(0, (.c (.int .i64 1))), (1, (.c (.int .i64 6))), (2, (.c (.int .i64 0)))], (some (28, true))⟩,
⟨8, (some 31), .call f_rafterlaw00_Row [((.t 30), true)], (some (28, true))⟩,
⟨9, (some 32), .call f_rafterlaw00_SameWholes [((.t 29), true), ((.t 31), true)], (some (28, true))⟩,
⟨10, (some 33), .pick (.t 28) (.t 32) (.c (.bool false)), none⟩,
⟨11, (some 34), .mv (.t 33), none⟩,
⟨12, (some 35), .mv (.t 7), (some (34, true))⟩,
⟨13, (some 36), .bin .eql (.t 35) (.c (.int .i64 0)), (some (34, true))⟩,
⟨14, (some 37), .pick (.t 34) (.t 36) (.c (.bool false)), none⟩,
⟨15, (some 38), .mv (.t 37), none⟩,
⟨16, (some 39), .mv (.t 6), (some (38, true))⟩,
⟨17, (some 40), .un .not (.t 39), (some (38, true))⟩,
⟨18, (some 41), .pick (.t 38) (.t 40) (.c (.bool false)), none⟩,
⟨19, (some 0), .mv (.t 41), none⟩] none [0])
.ret)))), [(.tmp 0, true)]⟩

/-! rafter/lang.Expr -/
def a_lang_Expr : AFun := ⟨2,
(.seq
(.region [
⟨0, (some 4), .mv (.c (.str [])), none⟩,
⟨1, (some 5), .mv (.c (.int .i64 0)), none⟩,
⟨2, (some 6), .alloc (.agg [.int .i64 0, .int .i64 0, .int .i64 0, .int .i64 0]) [], none⟩] none [0, 1, 6])
(.seq
(.region [
⟨0, (some 11), .mv (.t 0), none⟩,
⟨1, (some 12), .mv (.t 1), none⟩,
⟨2, (some 13), .call f_lang_ReadExpr [((.t 11), true), ((.t 12), true)], none⟩,
⟨3, (some 10), .mv (.t 13), none⟩,
⟨4, (some 14), .extract (.t 10) 0, none⟩,
⟨5, (some 15), .extract (.t 10) 1, none⟩,
⟨6, (some 16), .extract (.t 10) 2, none⟩,
⟨7, (some 9), .alloc (.agg [.int .i64 0, .int .i64 0, .int .i64 0, .int .i64 0]) [], none⟩,
⟨8, (some 7), .mv (.t 14), none⟩,
⟨9, (some 8), .mv (.t 15), none⟩,
⟨10, none, .store 4 (.t 9) (.t 16), none⟩] none [6, 7, 8, 9])
(.seq
(.seq
(.region [
⟨0, (some 17), .mv (.t 8), none⟩,
⟨1, (some 18), .bin .neq (.t 17) (.c (.int .i64 0)), none⟩] none [6, 7, 8, 9, 18])
(.cond (.t 18)
(.seq
(.region [
⟨0, (some 19), .mv (.t 8), none⟩,
⟨1, (some 20), .load 4 true (.t 9), none⟩,
⟨2, (some 4), .mv (.c (.str [])), none⟩,
⟨3, (some 5), .mv (.t 19), none⟩,
⟨4, none, .store 4 (.t 6) (.t 20), none⟩] (some ([], [])) [4, 5, 6])
.ret)
.skip))
(.seq
(.region [
⟨0, (some 21), .mv (.t 7), none⟩,
⟨1, (some 22), .call f_lang_Write [((.t 21), true)], none⟩,
⟨2, (some 23), .build (.agg [.int .i64 0, .int .i64 0, .int .i64 0, .int .i64 0]) [] [], none⟩,
⟨3, (some 4), .mv (.t 22), none⟩,
⟨4, (some 5), .mv (.c (.int .i64 0)), none⟩,
⟨5, none, .store 4 (.t 6) (.t 23), none⟩] none [4, 5, 6])
.ret)))), [(.tmp 4, true), (.tmp 5, true), (.cell 6 4 true, true)]⟩

/-! rafter/rafterlaw09.deep -/
def a_rafterlaw09_deep_b0 : ACode :=
(.seq
(.seq
(.region [
⟨0, (some 6), .mv (.t 5), none⟩,
⟨1, (some 7), .mv (.t 0), none⟩,
⟨2, (some 8), .len true (.t 7), none⟩,
⟨3, (some 9), .bin .lss (.t 6) (.t 8), none⟩] none [0, 3, 4, 5, 9])
(.cond (.t 9)
.skip
(.exit 0 [3])))
(.seq
(.block 1
(.seq
(.seq
(.region [
⟨0, (some 12), .mv (.t 0), none⟩,
⟨1, (some 13), .mv (.t 5), none⟩,
⟨2, (some 14), .idxS (.t 12) (.t 13), none⟩] none [0, 3, 4, 5, 14])
(.block 2
(.seq
(.region [
⟨0, (some 16), .bin .eql (.t 14) (.c (.int .u8 40)), none⟩,
⟨1, (some 15), .mv (.t 16), none⟩] none [0, 3, 4, 5, 14, 15])
(.cond (.t 15)
(.region [
⟨0, (some 17), .mv (.t 4), none⟩,
⟨1, (some 18), .bin .add (.t 17) (.c (.int .i64 1)), none⟩,
⟨2, (some 4), .mv (.t 18), none⟩] none [0, 3, 4, 5])
(.seq
(.region [
⟨0, (some 20), .bin .eql (.t 14) (.c (.int .u8 41)), none⟩,
⟨1, (some 19), .mv (.t 20), none⟩] none [0, 3, 4, 5, 19])
(.cond (.t 19)
(.region [
⟨0, (some 21), .mv (.t 4), none⟩,
⟨1, (some 22), .bin .sub (.t 21) (.c (.int .i64 1)), none⟩,
⟨2, (some 4), .mv (.t 22), none⟩] none [0, 3, 4, 5])
.skip))))))
(.region [
⟨0, (some 23), .mv (.t 3), none⟩,
⟨1, (some 24), .mv (.t 4), none⟩,
⟨2, (some 25), .mx (.t 23) (.t 24), none⟩,
⟨3, (some 3), .mv (.t 25), none⟩] none [0, 3, 4, 5])))
(.region [
⟨0, (some 10), .mv (.t 5), none⟩,
⟨1, (some 11), .bin .add (.t 10) (.c (.int .i64 1)), none⟩,
⟨2, (some 5), .mv (.t 11), none⟩] none [0, 3, 4, 5])))
def a_rafterlaw09_deep_l0 : ACode := .loop [0, 3, 4, 5] a_rafterlaw09_deep_b0
def a_rafterlaw09_deep : AFun := ⟨1,
(.seq
(.region [
⟨0, (some 2), .mv (.c (.int .i64 0)), none⟩] none [0])
(.seq
(.region [
⟨0, (some 3), .mv (.c (.int .i64 0)), none⟩] none [0, 3])
(.seq
(.region [
⟨0, (some 4), .mv (.c (.int .i64 0)), none⟩] none [0, 3, 4])
(.seq
(.seq
(.region [
⟨0, (some 5), .mv (.c (.int .i64 0)), none⟩] none [0, 3, 4, 5])
(.block 0
 a_rafterlaw09_deep_l0))
(.seq
(.region [
⟨0, (some 26), .mv (.t 3), none⟩,
⟨1, (some 2), .mv (.t 26), none⟩] none [2])
.ret))))), [(.tmp 2, true)]⟩

/-! rafter/guard.Affine -/
def a_guard_Affine : AFun := ⟨2,
(.seq
(.region [
⟨0, (some 4), .mv (.c (.sl [])), none⟩,
⟨1, (some 5), .mv (.c (.bool false)), none⟩,
⟨2, (some 6), .mv (.c (.int .i64 0)), none⟩,
⟨3, (some 7), .alloc (.agg [.int .i64 0, .int .i64 0, .int .i64 0, .int .i64 0]) [], none⟩] none [0, 1, 7])
(.seq
(.region [
⟨0, (some 14), .mv (.t 0), none⟩,
⟨1, (some 15), .mv (.t 1), none⟩,
⟨2, (some 16), .call f_lang_ReadExpr [((.t 14), true), ((.t 15), true)], none⟩,
⟨3, (some 13), .mv (.t 16), none⟩,
⟨4, (some 17), .extract (.t 13) 0, none⟩,
⟨5, (some 18), .extract (.t 13) 1, none⟩,
⟨6, (some 19), .extract (.t 13) 2, none⟩,
⟨7, (some 10), .alloc (.agg [.int .i64 0, .int .i64 0, .int .i64 0, .int .i64 0]) [], none⟩,
⟨8, (some 8), .mv (.t 17), none⟩,
⟨9, (some 9), .mv (.t 18), none⟩,
⟨10, none, .store 4 (.t 10) (.t 19), none⟩] none [1, 7, 8, 9, 10])
(.seq
(.seq
(.region [
⟨0, (some 20), .mv (.t 9), none⟩,
⟨1, (some 21), .bin .neq (.t 20) (.c (.int .i64 0)), none⟩] none [1, 7, 8, 9, 10, 21])
(.cond (.t 21)
(.seq
(.region [
⟨0, (some 22), .mv (.t 9), none⟩,
⟨1, (some 23), .load 4 true (.t 10), none⟩,
⟨2, (some 4), .mv (.c (.sl [])), none⟩,
⟨3, (some 5), .mv (.c (.bool false)), none⟩,
⟨4, (some 6), .mv (.t 22), none⟩,
⟨5, none, .store 4 (.t 7) (.t 23), none⟩] (some ([], [])) [4, 5, 6, 7])
.ret)
.skip))
(.seq
(.region [
⟨0, (some 25), .mv (.t 8), none⟩,
⟨1, (some 26), .mv (.t 1), none⟩,
⟨2, (some 27), .len false (.t 26), none⟩,
⟨3, (some 28), .call f_guard_Form [((.t 25), true), ((.t 27), true)], none⟩,
⟨4, (some 24), .mv (.t 28), none⟩,
⟨5, (some 29), .extract (.t 24) 0, none⟩,
⟨6, (some 30), .extract (.t 24) 1, none⟩,
⟨7, (some 11), .mv (.t 29), none⟩,
⟨8, (some 12), .mv (.t 30), none⟩] none [7, 11, 12])
(.seq
(.seq
(.region [
⟨0, (some 31), .mv (.t 12), none⟩,
⟨1, (some 32), .un .not (.t 31), none⟩] none [7, 11, 32])
(.cond (.t 32)
(.seq
(.region [
⟨0, (some 33), .build (.agg [.int .i64 0, .int .i64 0, .int .i64 0, .int .i64 0]) [] [], none⟩,
⟨1, (some 4), .mv (.c (.sl [])), none⟩,
⟨2, (some 5), .mv (.c (.bool false)), none⟩,
⟨3, (some 6), .mv (.c (.int .i64 0)), none⟩,
⟨4, none, .store 4 (.t 7) (.t 33), none⟩] none [4, 5, 6, 7])
.ret)
.skip))
(.seq
(.region [
⟨0, (some 34), .mv (.t 11), none⟩,
⟨1, (some 35), .build (.agg [.int .i64 0, .int .i64 0, .int .i64 0, .int .i64 0]) [] [], none⟩,
⟨2, (some 4), .mv (.t 34), none⟩,
⟨3, (some 5), .mv (.c (.bool true)), none⟩,
⟨4, (some 6), .mv (.c (.int .i64 0)), none⟩,
⟨5, none, .store 4 (.t 7) (.t 35), none⟩] none [4, 5, 6, 7])
.ret)))))), [(.tmp 4, true), (.tmp 5, true), (.tmp 6, true), (.cell 7 4 true, true)]⟩

/-! rafter/whole.Text -/
def a_whole_Text : AFun := ⟨1,
(.seq
(.region [
⟨0, (some 1), .box 2 (.t 0), none⟩,
⟨1, (some 2), .mv (.c (.str [])), none⟩] none [1])
(.seq
(.seq
(.region [
⟨0, (some 3), .load 2 true (.t 1), none⟩,
⟨1, (some 4), .call f_whole_Sign [((.t 3), true)], none⟩,
⟨2, (some 5), .bin .lss (.t 4) (.c (.int .i64 0)), none⟩] none [1, 5])
(.cond (.t 5)
(.seq
(.region [
⟨0, (some 6), .fieldA 1 1 false (.t 1), none⟩,
⟨1, (some 7), .load 1 false (.t 6), none⟩,
⟨2, (some 8), .call f_limbs_Text [((.t 7), true)], none⟩,
⟨3, (some 9), .bin .add (.c (.str [45])) (.t 8), none⟩,
⟨4, (some 2), .mv (.t 9), none⟩] none [2])
.ret)
.skip))
(.seq
(.region [
⟨0, (some 10), .fieldA 1 1 false (.t 1), none⟩,
⟨1, (some 11), .load 1 false (.t 10), none⟩,
⟨2, (some 12), .call f_limbs_Text [((.t 11), true)], none⟩,
⟨3, (some 2), .mv (.t 12), none⟩] none [2])
.ret))), [(.tmp 2, true)]⟩

/-! rafter/whole.Of -/
def a_whole_Of : AFun := ⟨1,
(.seq
(.region [
⟨0, (some 2), .alloc (.agg [.bool false, .sl []]) [], none⟩] none [0, 2])
(.seq
(.seq
(.region [
⟨0, (some 3), .mv (.t 0), none⟩,
⟨1, (some 4), .bin .lss (.t 3) (.c (.int .i64 0)), none⟩] none [0, 2, 4])
(.cond (.t 4)
(.seq
(.region [
⟨0, (some 5), .mv (.t 0), none⟩,
⟨1, (some 6), .bin .add (.t 5) (.c (.int .i64 1)), none⟩,
⟨2, (some 7), .un .neg (.t 6), none⟩,
⟨3, (some 8), .conv (.int .u64) (.t 7), none⟩,
⟨4, (some 9), .bin .add (.t 8) (.c (.int .u64 1)), none⟩,
⟨5, (some 10), .call f_limbs_Small [((.t 9), true)], none⟩,
⟨6, (some 11), .call f_whole_made [((.c (.bool true)), true), ((.t 10), true)], none⟩,
⟨7, none, .store 2 (.t 2) (.t 11), none⟩] none [2])
.ret)
.skip))
(.seq
(.region [
⟨0, (some 12), .mv (.t 0), none⟩,
⟨1, (some 13), .conv (.int .u64) (.t 12), none⟩,
⟨2, (some 14), .call f_limbs_Small [((.t 13), true)], none⟩,
⟨3, (some 15), .call f_whole_made [((.c (.bool false)), true), ((.t 14), true)], none⟩,
⟨4, none, .store 2 (.t 2) (.t 15), none⟩] none [2])
.ret))), [(.cell 2 2 true, true)]⟩

/-! rafter/whole.Neg -/
def a_whole_Neg : AFun := ⟨1,
(.seq
(.region [
⟨0, (some 1), .box 2 (.t 0), none⟩,
⟨1, (some 2), .alloc (.agg [.bool false, .sl []]) [], none⟩] none [1, 2])
(.seq
(.region [
⟨0, (some 3), .fieldA 0 1 false (.t 1), none⟩,
⟨1, (some 4), .load 1 false (.t 3), none⟩,
⟨2, (some 5), .un .not (.t 4), none⟩,
⟨3, (some 6), .fieldA 1 1 false (.t 1), none⟩,
⟨4, (some 7), .load 1 false (.t 6), none⟩,
⟨5, (some 8), .call f_limbs_Trim [((.t 7), true)], none⟩,
⟨6, (some 9), .call f_whole_made [((.t 5), true), ((.t 8), true)], none⟩,
⟨7, none, .store 2 (.t 2) (.t 9), none⟩] (some ([(1, 5)], [5, 6])) [2])
.ret)), [(.cell 2 2 true, true)]⟩

/-! rafter/whole.Add -/
def a_whole_Add : AFun := ⟨2,
(.seq
(.region [
⟨0, (some 2), .box 2 (.t 0), none⟩,
⟨1, (some 3), .box 2 (.t 1), none⟩,
⟨2, (some 4), .alloc (.agg [.bool false, .sl []]) [], none⟩] none [2, 3, 4])
(.seq
(.seq
(.region [
⟨0, (some 9), .fieldA 0 1 false (.t 2), none⟩,
⟨1, (some 10), .load 1 false (.t 9), none⟩,
⟨2, (some 11), .fieldA 0 1 false (.t 3), none⟩,
⟨3, (some 12), .load 1 false (.t 11), none⟩,
⟨4, (some 13), .eqB true (.t 10) (.t 12), none⟩] none [2, 3, 4, 13])
(.cond (.t 13)
(.seq
(.region [
⟨0, (some 14), .fieldA 0 1 false (.t 2), none⟩,
⟨1, (some 15), .load 1 false (.t 14), none⟩,
⟨2, (some 16), .fieldA 1 1 false (.t 2), none⟩,
⟨3, (some 17), .load 1 false (.t 16), none⟩,
⟨4, (some 18), .fieldA 1 1 false (.t 3), none⟩,
⟨5, (some 19), .load 1 false (.t 18), none⟩,
⟨6, (some 20), .call f_limbs_Add [((.t 17), true), ((.t 19), true)], none⟩,
⟨7, (some 21), .call f_whole_made [((.t 15), true), ((.t 20), true)], none⟩,
⟨8, none, .store 2 (.t 4) (.t 21), none⟩] (some ([(1, 6)], [6, 7])) [4])
.ret)
.skip))
(.seq
(.seq
(.region [
⟨0, (some 23), .fieldA 1 1 false (.t 2), none⟩,
⟨1, (some 24), .load 1 false (.t 23), none⟩,
⟨2, (some 25), .fieldA 1 1 false (.t 3), none⟩,
⟨3, (some 26), .load 1 false (.t 25), none⟩,
⟨4, (some 27), .call f_limbs_Sub [((.t 24), true), ((.t 26), true)], none⟩,
⟨5, (some 22), .mv (.t 27), none⟩,
⟨6, (some 28), .extract (.t 22) 0, none⟩,
⟨7, (some 29), .extract (.t 22) 1, none⟩,
⟨8, (some 5), .mv (.t 28), none⟩,
⟨9, (some 6), .mv (.t 29), none⟩] none [2, 3, 4, 5, 6])
(.seq
(.region [
⟨0, (some 30), .mv (.t 6), none⟩] none [2, 3, 4, 5, 30])
(.cond (.t 30)
(.seq
(.region [
⟨0, (some 31), .fieldA 0 1 false (.t 2), none⟩,
⟨1, (some 32), .load 1 false (.t 31), none⟩,
⟨2, (some 33), .mv (.t 5), none⟩,
⟨3, (some 34), .call f_whole_made [((.t 32), true), ((.t 33), true)], none⟩,
⟨4, none, .store 2 (.t 4) (.t 34), none⟩] none [4])
.ret)
.skip)))
(.seq
(.region [
⟨0, (some 36), .fieldA 1 1 false (.t 3), none⟩,
⟨1, (some 37), .load 1 false (.t 36), none⟩,
⟨2, (some 38), .fieldA 1 1 false (.t 2), none⟩,
⟨3, (some 39), .load 1 false (.t 38), none⟩,
⟨4, (some 40), .call f_limbs_Sub [((.t 37), true), ((.t 39), true)], none⟩,
⟨5, (some 35), .mv (.t 40), none⟩,
⟨6, (some 41), .extract (.t 35) 0, none⟩,
⟨7, (some 42), .extract (.t 35) 1, none⟩,
⟨8, (some 7), .mv (.t 41), none⟩,
⟨9, (some 8), .mv (.t 42), none⟩] none [3, 4, 7])
(.seq
(.region [
⟨0, (some 43), .fieldA 0 1 false (.t 3), none⟩,
⟨1, (some 44), .load 1 false (.t 43), none⟩,
⟨2, (some 45), .mv (.t 7), none⟩,
⟨3, (some 46), .call f_whole_made [((.t 44), true), ((.t 45), true)], none⟩,
⟨4, none, .store 2 (.t 4) (.t 46), none⟩] none [4])
.ret))))), [(.cell 4 2 true, true)]⟩

/-! rafter/whole.Sub -/
def a_whole_Sub : AFun := ⟨2,
(.seq
(.region [
⟨0, (some 2), .box 2 (.t 0), none⟩,
⟨1, (some 3), .box 2 (.t 1), none⟩,
⟨2, (some 4), .alloc (.agg [.bool false, .sl []]) [], none⟩] none [2, 3, 4])
(.seq
(.region [
⟨0, (some 5), .fieldA 0 1 false (.t 3), none⟩,
⟨1, (some 6), .load 1 false (.t 5), none⟩,
⟨2, (some 7), .un .not (.t 6), none⟩,
⟨3, (some 8), .fieldA 0 1 false (.t 3), none⟩,
⟨4, none, .store 1 (.t 8) (.t 7), none⟩] none [2, 3, 4])
(.seq
(.region [
⟨0, (some 9), .load 2 true (.t 2), none⟩,
⟨1, (some 10), .load 2 true (.t 3), none⟩,
⟨2, (some 11), .call f_whole_Add [((.t 9), true), ((.t 10), true)], none⟩,
⟨3, none, .store 2 (.t 4) (.t 11), none⟩] none [4])
.ret))), [(.cell 4 2 true, true)]⟩

/-! rafter/whole.Mul -/
def a_whole_Mul : AFun := ⟨2,
(.seq
(.region [
⟨0, (some 2), .box 2 (.t 0), none⟩,
⟨1, (some 3), .box 2 (.t 1), none⟩,
⟨2, (some 4), .alloc (.agg [.bool false, .sl []]) [], none⟩] none [2, 3, 4])
(.seq
(.region [
⟨0, (some 5), .fieldA 0 1 false (.t 2), none⟩,
⟨1, (some 6), .load 1 false (.t 5), none⟩,
⟨2, (some 7), .fieldA 0 1 false (.t 3), none⟩,
⟨3, (some 8), .load 1 false (.t 7), none⟩,
⟨4, (some 9), .eqB false (.t 6) (.t 8), none⟩,
⟨5, (some 10), .fieldA 1 1 false (.t 2), none⟩,
⟨6, (some 11), .load 1 false (.t 10), none⟩,
⟨7, (some 12), .fieldA 1 1 false (.t 3), none⟩,
⟨8, (some 13), .load 1 false (.t 12), none⟩,
⟨9, (some 14), .call f_limbs_Mul [((.t 11), true), ((.t 13), true)], none⟩,
⟨10, (some 15), .call f_whole_made [((.t 9), true), ((.t 14), true)], none⟩,
⟨11, none, .store 2 (.t 4) (.t 15), none⟩] (some ([(1, 9), (3, 9)], [9, 10])) [4])
.ret)), [(.cell 4 2 true, true)]⟩

/-! rafter/rafterlaw00.SameWhole -/
def a_rafterlaw00_SameWhole : AFun := ⟨2,
(.seq
(.region [
⟨0, (some 2), .box 2 (.t 0), none⟩,
⟨1, (some 3), .box 2 (.t 1), none⟩,
⟨2, (some 4), .mv (.c (.bool false)), none⟩] none [2, 3])
(.seq
(.region [
⟨0, (some 5), .fieldA 0 1 false (.t 2), none⟩,
⟨1, (some 6), .load 1 false (.t 5), none⟩,
⟨2, (some 7), .fieldA 0 1 false (.t 3), none⟩,
⟨3, (some 8), .load 1 false (.t 7), none⟩,
⟨4, (some 9), .eqB true (.t 6) (.t 8), none⟩,
⟨5, (some 10), .mv (.t 9), none⟩,
⟨6, (some 11), .fieldA 1 1 false (.t 2), (some (10, true))⟩,
⟨7, (some 12), .load 1 false (.t 11), (some (10, true))⟩,
⟨8, (some 13), .fieldA 1 1 false (.t 3), (some (10, true))⟩,
⟨9, (some 14), .load 1 false (.t 13), (some (10, true))⟩,
⟨10, (some 15), .call f_rafterlaw00_SameLimbs [((.t 12), true), ((.t 14), true)], (some (10, true))⟩,
⟨11, (some 16), .pick (.t 10) (.t 15) (.c (.bool false)), none⟩,
⟨12, (some 4), .mv (.t 16), none⟩] none [4])
.ret)), [(.tmp 4, true)]⟩

/-! rafter/rafterlaw00.LenWholes -/
def a_rafterlaw00_LenWholes_b0 : ACode :=
(.seq
(.seq
(.region [
⟨0, (some 5), .mv (.t 4), none⟩,
⟨1, (some 6), .mv (.t 0), none⟩,
⟨2, (some 7), .len false (.t 6), none⟩,
⟨3, (some 8), .bin .lss (.t 5) (.t 7), none⟩] none [0, 3, 4, 8])
(.cond (.t 8)
.skip
(.exit 0 [3])))
(.seq
(.block 1
(.region [
⟨0, (some 11), .mv (.t 3), none⟩,
⟨1, (some 12), .mv (.t 0), none⟩,
⟨2, (some 13), .mv (.t 4), none⟩,
⟨3, (some 14), .idxA ⟨2, 32⟩ (.t 12) (.t 13), none⟩,
⟨4, (some 15), .load 2 true (.t 14), none⟩,
⟨5, (some 16), .call f_rafterlaw00_LenWhole [((.t 15), true)], none⟩,
⟨6, (some 17), .bin .add (.t 11) (.t 16), none⟩,
⟨7, (some 3), .mv (.t 17), none⟩] none [0, 3, 4]))
(.region [
⟨0, (some 9), .mv (.t 4), none⟩,
⟨1, (some 10), .bin .add (.t 9) (.c (.int .i64 1)), none⟩,
⟨2, (some 4), .mv (.t 10), none⟩] none [0, 3, 4])))
def a_rafterlaw00_LenWholes_l0 : ACode := .loop [0, 3, 4] a_rafterlaw00_LenWholes_b0
def a_rafterlaw00_LenWholes : AFun := ⟨1,
(.seq
(.region [
⟨0, (some 2), .mv (.c (.int .i64 0)), none⟩] none [0])
(.seq
(.region [
⟨0, (some 3), .mv (.c (.int .i64 0)), none⟩] none [0, 3])
(.seq
(.seq
(.region [
⟨0, (some 4), .mv (.c (.int .i64 0)), none⟩] none [0, 3, 4])
(.block 0
 a_rafterlaw00_LenWholes_l0))
(.seq
(.region [
⟨0, (some 18), .mv (.t 3), none⟩,
⟨1, (some 2), .mv (.t 18), none⟩] none [2])
.ret)))), [(.tmp 2, true)]⟩

/-! rafter/guard.Cond -/
def a_guard_Cond : AFun := ⟨2,
(.seq
(.region [
⟨0, (some 4), .mv (.c (.sl [])), none⟩,
⟨1, (some 5), .mv (.c (.bool false)), none⟩,
⟨2, (some 6), .mv (.c (.bool false)), none⟩,
⟨3, (some 7), .mv (.c (.int .i64 0)), none⟩,
⟨4, (some 8), .alloc (.agg [.int .i64 0, .int .i64 0, .int .i64 0, .int .i64 0]) [], none⟩] none [0, 1, 8])
(.seq
(.region [
⟨0, (some 15), .mv (.t 0), none⟩,
⟨1, (some 16), .mv (.t 1), none⟩,
⟨2, (some 17), .call f_lang_ReadCond [((.t 15), true), ((.t 16), true)], none⟩,
⟨3, (some 14), .mv (.t 17), none⟩,
⟨4, (some 18), .extract (.t 14) 0, none⟩,
⟨5, (some 19), .extract (.t 14) 1, none⟩,
⟨6, (some 20), .extract (.t 14) 2, none⟩,
⟨7, (some 9), .alloc (.agg [.nili, .nili, .bool false]) [], none⟩,
⟨8, (some 11), .alloc (.agg [.int .i64 0, .int .i64 0, .int .i64 0, .int .i64 0]) [], none⟩,
⟨9, none, .store 3 (.t 9) (.t 18), none⟩,
⟨10, (some 10), .mv (.t 19), none⟩,
⟨11, none, .store 4 (.t 11) (.t 20), none⟩] none [1, 8, 9, 10, 11])
(.seq
(.seq
(.region [
⟨0, (some 21), .mv (.t 10), none⟩,
⟨1, (some 22), .bin .neq (.t 21) (.c (.int .i64 0)), none⟩] none [1, 8, 9, 10, 11, 22])
(.cond (.t 22)
(.seq
(.region [
⟨0, (some 23), .mv (.t 10), none⟩,
⟨1, (some 24), .load 4 true (.t 11), none⟩,
⟨2, (some 4), .mv (.c (.sl [])), none⟩,
⟨3, (some 5), .mv (.c (.bool false)), none⟩,
⟨4, (some 6), .mv (.c (.bool false)), none⟩,
⟨5, (some 7), .mv (.t 23), none⟩,
⟨6, none, .store 4 (.t 8) (.t 24), none⟩] (some ([], [])) [4, 5, 6, 7, 8])
.ret)
.skip))
(.seq
(.region [
⟨0, (some 26), .load 3 true (.t 9), none⟩,
⟨1, (some 27), .mv (.t 1), none⟩,
⟨2, (some 28), .len false (.t 27), none⟩,
⟨3, (some 29), .call f_guard_Row [((.t 26), true), ((.t 28), true)], none⟩,
⟨4, (some 25), .mv (.t 29), none⟩,
⟨5, (some 30), .extract (.t 25) 0, none⟩,
⟨6, (some 31), .extract (.t 25) 1, none⟩,
⟨7, (some 12), .mv (.t 30), none⟩,
⟨8, (some 13), .mv (.t 31), none⟩] none [8, 9, 12, 13])
(.seq
(.region [
⟨0, (some 32), .mv (.t 12), none⟩,
⟨1, (some 33), .mv (.t 13), none⟩,
⟨2, (some 34), .fieldA 2 1 false (.t 9), none⟩,
⟨3, (some 35), .load 1 false (.t 34), none⟩,
⟨4, (some 36), .build (.agg [.int .i64 0, .int .i64 0, .int .i64 0, .int .i64 0]) [] [], none⟩,
⟨5, (some 4), .mv (.t 32), none⟩,
⟨6, (some 5), .mv (.t 33), none⟩,
⟨7, (some 6), .mv (.t 35), none⟩,
⟨8, (some 7), .mv (.c (.int .i64 0)), none⟩,
⟨9, none, .store 4 (.t 8) (.t 36), none⟩] (some ([], [])) [4, 5, 6, 7, 8])
.ret))))), [(.tmp 4, true), (.tmp 5, true), (.tmp 6, true), (.tmp 7, true), (.cell 8 4 true, true)]⟩

/-! rafter/rafterlaw00.SameWholes -/
def a_rafterlaw00_SameWholes_b0 : ACode :=
(.seq
(.seq
(.region [
⟨0, (some 11), .mv (.t 5), none⟩,
⟨1, (some 12), .mv (.t 0), none⟩,
⟨2, (some 13), .len false (.t 12), none⟩,
⟨3, (some 14), .bin .lss (.t 11) (.t 13), none⟩] none [0, 1, 5, 14])
(.cond (.t 14)
.skip
(.exit 0 [])))
(.seq
(.block 1
(.seq
(.region [
⟨0, (some 17), .mv (.t 0), none⟩,
⟨1, (some 18), .mv (.t 5), none⟩,
⟨2, (some 19), .idxA ⟨2, 32⟩ (.t 17) (.t 18), none⟩,
⟨3, (some 20), .load 2 true (.t 19), none⟩,
⟨4, (some 21), .mv (.t 1), none⟩,
⟨5, (some 22), .mv (.t 5), none⟩,
⟨6, (some 23), .idxA ⟨2, 32⟩ (.t 21) (.t 22), none⟩,
⟨7, (some 24), .load 2 true (.t 23), none⟩,
⟨8, (some 25), .call f_rafterlaw00_SameWhole [((.t 20), true), ((.t 24), true)], none⟩,
⟨9, (some 26), .un .not (.t 25), none⟩] (some ([], [8])) [0, 1, 5, 26])
(.cond (.t 26)
(.seq
(.region [
⟨0, (some 4), .mv (.c (.bool false)), none⟩] none [4])
.ret)
.skip)))
(.region [
⟨0, (some 15), .mv (.t 5), none⟩,
⟨1, (some 16), .bin .add (.t 15) (.c (.int .i64 1)), none⟩,
⟨2, (some 5), .mv (.t 16), none⟩] none [0, 1, 5])))
def a_rafterlaw00_SameWholes_l0 : ACode := .loop [0, 1, 5] a_rafterlaw00_SameWholes_b0
def a_rafterlaw00_SameWholes : AFun := ⟨2,
(.seq
(.region [
⟨0, (some 4), .mv (.c (.bool false)), none⟩] none [0, 1])
(.seq
(.seq
(.region [
⟨0, (some 6), .mv (.t 0), none⟩,
⟨1, (some 7), .len false (.t 6), none⟩,
⟨2, (some 8), .mv (.t 1), none⟩,
⟨3, (some 9), .len false (.t 8), none⟩,
⟨4, (some 10), .bin .neq (.t 7) (.t 9), none⟩] none [0, 1, 10])
(.cond (.t 10)
(.seq
(.region [
⟨0, (some 4), .mv (.c (.bool false)), none⟩] none [4])
.ret)
.skip))
(.seq
(.seq
(.region [
⟨0, (some 5), .mv (.c (.int .i64 0)), none⟩] none [0, 1, 5])
(.block 0
 a_rafterlaw00_SameWholes_l0))
(.seq
(.region [
⟨0, (some 4), .mv (.c (.bool true)), none⟩] none [4])
.ret)))), [(.tmp 4, true)]⟩

/-! rafter/lang.Value -/
def a_lang_Value : AFun := ⟨3,
(.seq
(.region [
⟨0, (some 6), .alloc (.agg [.bool false, .sl []]) [], none⟩,
⟨1, (some 7), .mv (.c (.int .i64 0)), none⟩] none [0, 1, 2, 6])
(.seq
(.region [
⟨0, (some 12), .mv (.t 0), none⟩,
⟨1, (some 13), .mv (.t 1), none⟩,
⟨2, (some 14), .call f_lang_ReadExpr [((.t 12), true), ((.t 13), true)], none⟩,
⟨3, (some 11), .mv (.t 14), none⟩,
⟨4, (some 15), .extract (.t 11) 0, none⟩,
⟨5, (some 16), .extract (.t 11) 1, none⟩,
⟨6, (some 17), .extract (.t 11) 2, none⟩,
⟨7, (some 10), .alloc (.agg [.int .i64 0, .int .i64 0, .int .i64 0, .int .i64 0]) [], none⟩,
⟨8, (some 8), .mv (.t 15), none⟩,
⟨9, (some 9), .mv (.t 16), none⟩,
⟨10, none, .store 4 (.t 10) (.t 17), none⟩] none [1, 2, 6, 8, 9])
(.seq
(.seq
(.region [
⟨0, (some 18), .mv (.t 9), none⟩,
⟨1, (some 19), .bin .neq (.t 18) (.c (.int .i64 0)), none⟩] none [1, 2, 6, 8, 9, 19])
(.cond (.t 19)
(.seq
(.region [
⟨0, (some 20), .build (.agg [.bool false, .sl []]) [] [], none⟩,
⟨1, (some 21), .mv (.t 9), none⟩,
⟨2, none, .store 2 (.t 6) (.t 20), none⟩,
⟨3, (some 7), .mv (.t 21), none⟩] none [6, 7])
.ret)
.skip))
(.seq
(.seq
(.region [
⟨0, (some 22), .mv (.t 2), none⟩,
⟨1, (some 23), .len false (.t 22), none⟩,
⟨2, (some 24), .mv (.t 1), none⟩,
⟨3, (some 25), .len false (.t 24), none⟩,
⟨4, (some 26), .bin .neq (.t 23) (.t 25), none⟩] none [2, 6, 8, 26])
(.cond (.t 26)
(.seq
(.region [
⟨0, (some 27), .build (.agg [.bool false, .sl []]) [] [], none⟩,
⟨1, none, .store 2 (.t 6) (.t 27), none⟩,
⟨2, (some 7), .mv (.c (.int .i64 1)), none⟩] none [6, 7])
.ret)
.skip))
(.seq
(.region [
⟨0, (some 28), .mv (.t 8), none⟩,
⟨1, (some 29), .mv (.t 2), none⟩,
⟨2, (some 30), .call f_lang_Reckon [((.t 28), true), ((.t 29), true)], none⟩,
⟨3, (some 31), .extract (.t 30) 0, none⟩,
⟨4, (some 32), .extract (.t 30) 1, none⟩,
⟨5, none, .store 2 (.t 6) (.t 31), none⟩,
⟨6, (some 7), .mv (.t 32), none⟩] none [6, 7])
.ret))))), [(.cell 6 2 true, true), (.tmp 7, true)]⟩

/-! rafter/affine.Left -/
def a_affine_Left : AFun := ⟨2,
(.seq
(.region [
⟨0, (some 4), .alloc (.agg [.bool false, .sl []]) [], none⟩,
⟨1, (some 5), .mv (.c (.int .i64 0)), none⟩] none [0, 1, 4])
(.seq
(.seq
(.region [
⟨0, (some 6), .mv (.t 0), none⟩,
⟨1, (some 7), .len false (.t 6), none⟩,
⟨2, (some 8), .mv (.t 1), none⟩,
⟨3, (some 9), .len false (.t 8), none⟩,
⟨4, (some 10), .bin .add (.t 9) (.c (.int .i64 1)), none⟩,
⟨5, (some 11), .bin .neq (.t 7) (.t 10), none⟩] none [0, 1, 4, 11])
(.cond (.t 11)
(.seq
(.region [
⟨0, (some 12), .build (.agg [.bool false, .sl []]) [] [], none⟩,
⟨1, none, .store 2 (.t 4) (.t 12), none⟩,
⟨2, (some 5), .mv (.c (.int .i64 1)), none⟩] none [4, 5])
.ret)
.skip))
(.seq
(.region [
⟨0, (some 13), .mv (.t 0), none⟩,
⟨1, (some 14), .mv (.t 1), none⟩,
⟨3, (some 16), .mv (.t 0), none⟩,
⟨4, (some 17), .mv (.t 1), none⟩,
⟨5, (some 18), .len false (.t 17), none⟩,
⟨6, (some 19), .idxA ⟨2, 32⟩ (.t 16) (.t 18), none⟩,
⟨7, (some 20), .load 2 true (.t 19), none⟩,
⟨2, (some 15), .call f_affine_sum [((.t 13), true), ((.t 14), true)], none⟩,
⟨8, (some 21), .call f_whole_Sub [((.t 15), true), ((.t 20), true)], none⟩,
⟨9, none, .store 2 (.t 4) (.t 21), none⟩,
⟨10, (some 5), .mv (.c (.int .i64 0)), none⟩] (some ([(7, 2)], [2, 8])) [4, 5])
.ret))), [(.cell 4 2 true, true), (.tmp 5, true)]⟩

/-! rafter/affine.Canonical -/
def a_affine_Canonical_b0 : ACode :=
(.seq
(.region [
⟨0, (some 14), .bin .lss (.t 13) (.t 12), none⟩] none [3, 4, 11, 12, 13, 14])
(.seq
(.cond (.t 14)
.skip
(.exit 0 [3, 4]))
(.seq
(.block 1
(.seq
(.region [
⟨0, (some 15), .idxA ⟨2, 32⟩ (.t 11) (.t 13), none⟩,
⟨1, (some 16), .load 2 true (.t 15), none⟩,
⟨2, (some 6), .alloc (.agg [.bool false, .sl []]) [], none⟩,
⟨3, none, .store 2 (.t 6) (.t 16), none⟩] none [3, 4, 6, 11, 12, 13])
(.seq
(.seq
(.region [
⟨0, (some 17), .mv (.t 3), none⟩,
⟨1, (some 18), .bin .eql (.t 17) (.c (.int .i64 0)), none⟩] none [3, 4, 6, 11, 12, 13, 18])
(.cond (.t 18)
(.region [
⟨0, (some 19), .load 2 true (.t 6), none⟩,
⟨1, (some 20), .call f_whole_Sign [((.t 19), true)], none⟩,
⟨2, (some 3), .mv (.t 20), none⟩] none [3, 4, 6, 11, 12, 13])
.skip))
(.region [
⟨0, (some 21), .load 2 true (.t 4), none⟩,
⟨1, (some 22), .load 2 true (.t 6), none⟩,
⟨2, (some 23), .call f_whole_Gcd [((.t 21), true), ((.t 22), true)], none⟩,
⟨3, none, .store 2 (.t 4) (.t 23), none⟩] none [3, 4, 11, 12, 13]))))
(.region [
⟨0, (some 24), .bin .add (.t 13) (.c (.int .i64 1)), none⟩,
⟨1, (some 13), .mv (.t 24), none⟩] none [3, 4, 11, 12, 13]))))
def a_affine_Canonical_l0 : ACode := .loop [3, 4, 11, 12, 13] a_affine_Canonical_b0
def a_affine_Canonical : AFun := ⟨1,
(.seq
(.region [
⟨0, (some 2), .mv (.c (.bool false)), none⟩] none [0])
(.seq
(.seq
(.region [
⟨0, (some 7), .mv (.t 0), none⟩,
⟨1, (some 8), .len false (.t 7), none⟩,
⟨2, (some 9), .bin .eql (.t 8) (.c (.int .i64 0)), none⟩] none [0, 9])
(.cond (.t 9)
(.seq
(.region [
⟨0, (some 2), .mv (.c (.bool false)), none⟩] none [2])
.ret)
.skip))
(.seq
(.region [
⟨0, (some 10), .build (.agg [.bool false, .sl []]) [] [], none⟩,
⟨1, (some 4), .alloc (.agg [.bool false, .sl []]) [], none⟩,
⟨2, (some 3), .mv (.c (.int .i64 0)), none⟩,
⟨3, none, .store 2 (.t 4) (.t 10), none⟩] none [0, 3, 4])
(.seq
(.seq
(.region [
⟨0, (some 11), .mv (.t 0), none⟩,
⟨1, (some 12), .len false (.t 11), none⟩,
⟨2, (some 13), .mv (.c (.int .i64 0)), none⟩] none [3, 4, 11, 12, 13])
(.block 0
 a_affine_Canonical_l0))
(.seq
(.region [
⟨0, (some 25), .mv (.t 3), none⟩,
⟨1, (some 26), .bin .eql (.t 25) (.c (.int .i64 0)), none⟩,
⟨2, (some 27), .mv (.t 26), none⟩,
⟨3, (some 28), .mv (.t 3), (some (27, false))⟩,
⟨4, (some 29), .bin .gtr (.t 28) (.c (.int .i64 0)), (some (27, false))⟩,
⟨5, (some 30), .mv (.t 29), (some (27, false))⟩,
⟨6, (some 31), .load 2 true (.t 4), (some (30, true))⟩,
⟨7, (some 32), .call f_whole_Of [((.c (.int .i64 1)), true)], (some (30, true))⟩,
⟨8, (some 33), .call f_whole_Cmp [((.t 31), true), ((.t 32), true)], (some (30, true))⟩,
⟨9, (some 34), .bin .eql (.t 33) (.c (.int .i64 0)), (some (30, true))⟩,
⟨10, (some 35), .pick (.t 30) (.t 34) (.c (.bool false)), (some (27, false))⟩,
⟨11, (some 36), .pick (.t 27) (.c (.bool true)) (.t 35), none⟩,
⟨12, (some 2), .mv (.t 36), none⟩] (some ([(6, 7)], [7, 8])) [2])
.ret))))), [(.tmp 2, true)]⟩

/-! rafter/whole.Cmp -/
def a_whole_Cmp : AFun := ⟨2,
(.seq
(.region [
⟨0, (some 2), .box 2 (.t 0), none⟩,
⟨1, (some 3), .box 2 (.t 1), none⟩,
⟨2, (some 4), .mv (.c (.int .i64 0)), none⟩] none [2, 3])
(.seq
(.region [
⟨0, (some 7), .load 2 true (.t 2), none⟩,
⟨2, (some 9), .load 2 true (.t 3), none⟩,
⟨1, (some 8), .call f_whole_Sign [((.t 7), true)], none⟩,
⟨3, (some 10), .call f_whole_Sign [((.t 9), true)], none⟩,
⟨4, (some 5), .mv (.t 8), none⟩,
⟨5, (some 6), .mv (.t 10), none⟩] (some ([(2, 1)], [1, 3])) [2, 3, 5, 6])
(.seq
(.block 0
(.seq
(.region [
⟨0, (some 12), .mv (.t 5), none⟩,
⟨1, (some 13), .mv (.t 6), none⟩,
⟨2, (some 14), .bin .lss (.t 12) (.t 13), none⟩,
⟨3, (some 11), .mv (.t 14), none⟩] none [2, 3, 5, 6, 11])
(.cond (.t 11)
(.seq
(.region [
⟨0, (some 4), .mv (.c (.int .i64 (-1))), none⟩] none [4])
.ret)
(.seq
(.region [
⟨0, (some 16), .mv (.t 5), none⟩,
⟨1, (some 17), .mv (.t 6), none⟩,
⟨2, (some 18), .bin .gtr (.t 16) (.t 17), none⟩,
⟨3, (some 15), .mv (.t 18), none⟩] none [2, 3, 5, 15])
(.cond (.t 15)
(.seq
(.region [
⟨0, (some 4), .mv (.c (.int .i64 1)), none⟩] none [4])
.ret)
(.seq
(.region [
⟨0, (some 20), .mv (.t 5), none⟩,
⟨1, (some 21), .bin .lss (.t 20) (.c (.int .i64 0)), none⟩,
⟨2, (some 19), .mv (.t 21), none⟩] none [2, 3, 19])
(.cond (.t 19)
(.seq
(.region [
⟨0, (some 22), .fieldA 1 1 false (.t 3), none⟩,
⟨1, (some 23), .load 1 false (.t 22), none⟩,
⟨2, (some 24), .fieldA 1 1 false (.t 2), none⟩,
⟨3, (some 25), .load 1 false (.t 24), none⟩,
⟨4, (some 26), .call f_limbs_Cmp [((.t 23), true), ((.t 25), true)], none⟩,
⟨5, (some 4), .mv (.t 26), none⟩] none [4])
.ret)
.skip)))))))
(.seq
(.region [
⟨0, (some 27), .fieldA 1 1 false (.t 2), none⟩,
⟨1, (some 28), .load 1 false (.t 27), none⟩,
⟨2, (some 29), .fieldA 1 1 false (.t 3), none⟩,
⟨3, (some 30), .load 1 false (.t 29), none⟩,
⟨4, (some 31), .call f_limbs_Cmp [((.t 28), true), ((.t 30), true)], none⟩,
⟨5, (some 4), .mv (.t 31), none⟩] none [4])
.ret)))), [(.tmp 4, true)]⟩

/-! rafter/whole.Sign -/
def a_whole_Sign : AFun := ⟨1,
(.seq
(.region [
⟨0, (some 1), .box 2 (.t 0), none⟩,
⟨1, (some 2), .mv (.c (.int .i64 0)), none⟩] none [1])
(.seq
(.block 0
(.seq
(.region [
⟨0, (some 4), .fieldA 1 1 false (.t 1), none⟩,
⟨1, (some 5), .load 1 false (.t 4), none⟩,
⟨2, (some 6), .call f_limbs_Bits [((.t 5), true)], none⟩,
⟨3, (some 7), .bin .eql (.t 6) (.c (.int .i64 0)), none⟩,
⟨4, (some 3), .mv (.t 7), none⟩] none [1, 3])
(.cond (.t 3)
(.seq
(.region [
⟨0, (some 2), .mv (.c (.int .i64 0)), none⟩] none [2])
.ret)
(.seq
(.region [
⟨0, (some 9), .fieldA 0 1 false (.t 1), none⟩,
⟨1, (some 10), .load 1 false (.t 9), none⟩,
⟨2, (some 8), .mv (.t 10), none⟩] none [8])
(.cond (.t 8)
(.seq
(.region [
⟨0, (some 2), .mv (.c (.int .i64 (-1))), none⟩] none [2])
.ret)
.skip)))))
(.seq
(.region [
⟨0, (some 2), .mv (.c (.int .i64 1)), none⟩] none [2])
.ret))), [(.tmp 2, true)]⟩

/-! rafter/lang.Parse -/
def a_rafterlaw00_Row_b0 : ACode :=
(.seq
(.seq
(.region [
⟨0, (some 5), .mv (.t 4), none⟩,
⟨1, (some 6), .mv (.t 0), none⟩,
⟨2, (some 7), .len false (.t 6), none⟩,
⟨3, (some 8), .bin .lss (.t 5) (.t 7), none⟩] none [0, 3, 4, 8])
(.cond (.t 8)
.skip
(.exit 0 [3])))
(.seq
(.block 1
(.region [
⟨0, (some 11), .mv (.t 3), none⟩,
⟨1, (some 12), .mv (.t 0), none⟩,
⟨2, (some 13), .mv (.t 4), none⟩,
⟨3, (some 14), .idxA ⟨1, 8⟩ (.t 12) (.t 13), none⟩,
⟨4, (some 15), .load 1 false (.t 14), none⟩,
⟨5, (some 16), .call f_rafterlaw00_Small [((.t 15), true)], none⟩,
⟨6, (some 17), .buildSl ⟨2, 32⟩ (.agg [.bool false, .sl []]) 1 [(0, (.t 16))], none⟩,
⟨7, (some 18), .app ⟨2, 32⟩ (some (.t 11)) (.t 17), none⟩,
⟨8, (some 3), .mv (.t 18), none⟩] none [0, 3, 4]))
(.region [
⟨0, (some 9), .mv (.t 4), none⟩,
⟨1, (some 10), .bin .add (.t 9) (.c (.int .i64 1)), none⟩,
⟨2, (some 4), .mv (.t 10), none⟩] none [0, 3, 4])))
def a_rafterlaw00_Row_l0 : ACode := .loop [0, 3, 4] a_rafterlaw00_Row_b0
def a_rafterlaw00_Row : AFun := ⟨1,
(.seq
(.region [
⟨0, (some 2), .mv (.c (.sl [])), none⟩] none [0])
(.seq
(.region [
⟨0, (some 3), .own ⟨2, 32⟩, none⟩] none [0, 3])
(.seq
(.seq
(.region [
⟨0, (some 4), .mv (.c (.int .i64 0)), none⟩] none [0, 3, 4])
(.block 0
 a_rafterlaw00_Row_l0))
(.seq
(.region [
⟨0, (some 19), .mv (.t 3), none⟩,
⟨1, (some 2), .mv (.t 19), none⟩] none [2])
.ret)))), [(.tmp 2, true)]⟩

/-! rafter/lang.ReadExpr -/
def a_lang_ReadExpr : AFun := ⟨2,
(.seq
(.region [
⟨0, (some 4), .alloc (.nili) [], none⟩,
⟨1, (some 5), .mv (.c (.int .i64 0)), none⟩,
⟨2, (some 6), .alloc (.agg [.int .i64 0, .int .i64 0, .int .i64 0, .int .i64 0]) [], none⟩] none [0, 1, 4, 6])
(.seq
(.seq
(.region [
⟨0, (some 7), .mv (.t 1), none⟩,
⟨1, (some 8), .call f_affine_Names [((.t 7), true)], none⟩,
⟨2, (some 9), .bin .neq (.t 8) (.c (.int .i64 0)), none⟩] none [0, 1, 4, 6, 9])
(.cond (.t 9)
(.seq
(.region [
⟨0, (some 10), .build (.agg [.int .i64 0, .int .i64 0, .int .i64 0, .int .i64 0]) [] [], none⟩,
⟨1, none, .store 1 (.t 4) (.c (.nili)), none⟩,
⟨2, (some 5), .mv (.c (.int .i64 1)), none⟩,
⟨3, none, .store 4 (.t 6) (.t 10), none⟩] none [4, 5, 6])
.ret)
.skip))
(.seq
(.region [
⟨0, (some 12), .mv (.t 0), none⟩,
⟨1, (some 13), .mv (.t 1), none⟩,
⟨2, (some 14), .mkF f_lang_ReadExpr_1 [(.t 4)], none⟩,
⟨3, (some 15), .call f_lang_read [((.t 12), true), ((.t 13), true), ((.t 14), false)], none⟩,
⟨4, (some 11), .mv (.t 15), none⟩,
⟨5, (some 16), .extract (.t 11) 0, none⟩,
⟨6, (some 17), .extract (.t 11) 1, none⟩,
⟨7, (some 5), .mv (.t 16), none⟩,
⟨8, none, .store 4 (.t 6) (.t 17), none⟩] none [4, 5, 6])
(.seq
(.seq
(.region [
⟨0, (some 18), .mv (.t 5), none⟩,
⟨1, (some 19), .bin .neq (.t 18) (.c (.int .i64 0)), none⟩] none [4, 5, 6, 19])
(.cond (.t 19)
(.seq
(.region [
⟨0, (some 20), .mv (.t 5), none⟩,
⟨1, (some 21), .load 4 true (.t 6), none⟩,
⟨2, none, .store 1 (.t 4) (.c (.nili)), none⟩,
⟨3, (some 5), .mv (.t 20), none⟩,
⟨4, none, .store 4 (.t 6) (.t 21), none⟩] (some ([(1, 2)], [])) [4, 5, 6])
.ret)
.skip))
(.seq
(.region [
⟨0, (some 22), .load 1 false (.t 4), none⟩,
⟨1, (some 23), .build (.agg [.int .i64 0, .int .i64 0, .int .i64 0, .int .i64 0]) [] [], none⟩,
⟨2, none, .store 1 (.t 4) (.t 22), none⟩,
⟨3, (some 5), .mv (.c (.int .i64 0)), none⟩,
⟨4, none, .store 4 (.t 6) (.t 23), none⟩] none [4, 5, 6])
.ret))))), [(.cell 4 1 false, true), (.tmp 5, true), (.cell 6 4 true, true)]⟩

/-! rafter/lang.Write -/
def a_lang_Write : AFun := ⟨1,
(.seq
(.region [
⟨0, (some 2), .mv (.c (.str [])), none⟩] none [0])
(.seq
(.region [
⟨0, (some 3), .allocT 120 (.agg [.nilp, .sl []]) [(1, ⟨1, 1000005⟩)], none⟩] none [0, 3])
(.seq
(.region [
⟨0, (some 4), .mv (.t 0), none⟩,
⟨1, (some 5), .call f_lang_write [((.t 3), false), ((.t 4), true)], none⟩] none [3])
(.seq
(.region [
⟨0, (some 6), .call f_strings_Builder_String [((.t 3), false)], none⟩,
⟨1, (some 2), .mv (.t 6), none⟩] none [2])
.ret)))), [(.tmp 2, true)]⟩

/-! rafter/guard.Form -/
def a_guard_Form : AFun := ⟨2,
(.seq
(.region [
⟨0, (some 4), .mv (.c (.sl [])), none⟩,
⟨1, (some 5), .mv (.c (.bool false)), none⟩] none [0, 1])
(.seq
(.region [
⟨0, (some 17), .mv (.t 1), none⟩,
⟨1, (some 18), .bin .add (.t 17) (.c (.int .i64 1)), none⟩,
⟨2, (some 19), .mkSl ⟨2, 32⟩ (.agg [.bool false, .sl []]) (.t 18) (.t 18), none⟩,
⟨3, (some 6), .mv (.t 19), none⟩] none [0, 1, 6])
(.seq
(.seq
(.region [
⟨0, (some 20), .mv (.t 0), none⟩] none [1, 6, 20])
(.block 0
(.seq
(.region [
⟨0, (some 21), .tass t_lang_Number true (.agg [.bool false, .sl []]) (.t 20), none⟩,
⟨1, (some 22), .extract (.t 21) 1, none⟩,
⟨2, (some 23), .extract (.t 21) 0, none⟩] none [1, 6, 20, 22, 23])
(.cond (.t 22)
(.seq
(.region [
⟨0, (some 7), .alloc (.agg [.bool false, .sl []]) [], none⟩,
⟨1, none, .store 2 (.t 7) (.t 23), none⟩] none [1, 6, 7])
(.region [
⟨0, (some 24), .mv (.t 6), none⟩,
⟨1, (some 25), .mv (.t 1), none⟩,
⟨2, (some 26), .fieldA 0 2 true (.t 7), none⟩,
⟨3, (some 27), .load 2 true (.t 26), none⟩,
⟨4, (some 28), .call f_whole_Trim [((.t 27), true)], none⟩,
⟨5, (some 29), .idxA ⟨2, 32⟩ (.t 24) (.t 25), none⟩,
⟨6, none, .store 2 (.t 29) (.t 28), none⟩] none [6]))
(.seq
(.region [
⟨0, (some 30), .tass t_lang_Name true (.agg [.int .i64 0, .str []]) (.t 20), none⟩,
⟨1, (some 31), .extract (.t 30) 1, none⟩,
⟨2, (some 32), .extract (.t 30) 0, none⟩] none [1, 6, 20, 31, 32])
(.cond (.t 31)
(.seq
(.region [
⟨0, (some 8), .alloc (.agg [.int .i64 0, .str []]) [], none⟩,
⟨1, none, .store 2 (.t 8) (.t 32), none⟩] none [6, 8])
(.region [
⟨0, (some 33), .mv (.t 6), none⟩,
⟨1, (some 34), .fieldA 0 1 false (.t 8), none⟩,
⟨2, (some 35), .load 1 false (.t 34), none⟩,
⟨3, (some 36), .call f_whole_Of [((.c (.int .i64 1)), true)], none⟩,
⟨4, (some 37), .idxA ⟨2, 32⟩ (.t 33) (.t 35), none⟩,
⟨5, none, .store 2 (.t 37) (.t 36), none⟩] (some ([(2, 3)], [3])) [6]))
(.seq
(.region [
⟨0, (some 38), .tass t_lang_Minus true (.agg [.nili]) (.t 20), none⟩,
⟨1, (some 39), .extract (.t 38) 1, none⟩,
⟨2, (some 40), .extract (.t 38) 0, none⟩] none [1, 6, 20, 39, 40])
(.cond (.t 39)
(.seq
(.region [
⟨0, (some 9), .alloc (.agg [.nili]) [], none⟩,
⟨1, none, .store 1 (.t 9) (.t 40), none⟩] none [1, 9])
(.seq
(.region [
⟨0, (some 42), .fieldA 0 1 false (.t 9), none⟩,
⟨1, (some 43), .load 1 false (.t 42), none⟩,
⟨2, (some 44), .mv (.t 1), none⟩,
⟨3, (some 45), .call f_guard_Form [((.t 43), true), ((.t 44), true)], none⟩,
⟨4, (some 41), .mv (.t 45), none⟩,
⟨5, (some 46), .extract (.t 41) 0, none⟩,
⟨6, (some 47), .extract (.t 41) 1, none⟩,
⟨7, (some 10), .mv (.t 46), none⟩,
⟨8, (some 11), .mv (.t 47), none⟩] none [10, 11])
(.seq
(.region [
⟨0, (some 48), .mv (.t 10), none⟩,
⟨1, (some 49), .call f_whole_Of [((.c (.int .i64 (-1))), true)], none⟩,
⟨2, (some 50), .call f_guard_times [((.t 48), true), ((.t 49), true)], none⟩,
⟨3, (some 51), .mv (.t 11), none⟩,
⟨4, (some 4), .mv (.t 50), none⟩,
⟨5, (some 5), .mv (.t 51), none⟩] none [4, 5])
.ret)))
(.seq
(.region [
⟨0, (some 52), .tass t_lang_Two true (.agg [.int .u8 0, .nili, .nili]) (.t 20), none⟩,
⟨1, (some 53), .extract (.t 52) 1, none⟩,
⟨2, (some 54), .extract (.t 52) 0, none⟩] none [1, 6, 53, 54])
(.cond (.t 53)
(.seq
(.region [
⟨0, (some 12), .alloc (.agg [.int .u8 0, .nili, .nili]) [], none⟩,
⟨1, none, .store 3 (.t 12) (.t 54), none⟩] none [1, 12])
(.seq
(.region [
⟨0, (some 56), .fieldA 1 1 false (.t 12), none⟩,
⟨1, (some 57), .load 1 false (.t 56), none⟩,
⟨2, (some 58), .mv (.t 1), none⟩,
⟨3, (some 59), .call f_guard_Form [((.t 57), true), ((.t 58), true)], none⟩,
⟨4, (some 55), .mv (.t 59), none⟩,
⟨5, (some 60), .extract (.t 55) 0, none⟩,
⟨6, (some 61), .extract (.t 55) 1, none⟩,
⟨7, (some 13), .mv (.t 60), none⟩,
⟨8, (some 14), .mv (.t 61), none⟩] none [1, 12, 13, 14])
(.seq
(.region [
⟨0, (some 63), .fieldA 2 1 false (.t 12), none⟩,
⟨1, (some 64), .load 1 false (.t 63), none⟩,
⟨2, (some 65), .mv (.t 1), none⟩,
⟨3, (some 66), .call f_guard_Form [((.t 64), true), ((.t 65), true)], none⟩,
⟨4, (some 62), .mv (.t 66), none⟩,
⟨5, (some 67), .extract (.t 62) 0, none⟩,
⟨6, (some 68), .extract (.t 62) 1, none⟩,
⟨7, (some 15), .mv (.t 67), none⟩,
⟨8, (some 16), .mv (.t 68), none⟩] none [12, 13, 14, 15, 16])
(.seq
(.seq
(.region [
⟨0, (some 69), .mv (.t 14), none⟩,
⟨1, (some 70), .un .not (.t 69), none⟩,
⟨2, (some 71), .mv (.t 70), none⟩,
⟨3, (some 72), .mv (.t 16), (some (71, false))⟩,
⟨4, (some 73), .un .not (.t 72), (some (71, false))⟩,
⟨5, (some 74), .pick (.t 71) (.c (.bool true)) (.t 73), none⟩] none [12, 13, 15, 74])
(.cond (.t 74)
(.seq
(.region [
⟨0, (some 4), .mv (.c (.sl [])), none⟩,
⟨1, (some 5), .mv (.c (.bool false)), none⟩] none [4, 5])
.ret)
.skip))
(.seq
(.region [
⟨0, (some 75), .fieldA 0 1 false (.t 12), none⟩,
⟨1, (some 76), .load 1 false (.t 75), none⟩,
⟨2, (some 77), .mv (.t 13), none⟩,
⟨3, (some 78), .mv (.t 15), none⟩,
⟨4, (some 79), .call f_guard_both [((.t 76), true), ((.t 77), true), ((.t 78), true)], none⟩,
⟨5, (some 80), .extract (.t 79) 0, none⟩,
⟨6, (some 81), .extract (.t 79) 1, none⟩,
⟨7, (some 4), .mv (.t 80), none⟩,
⟨8, (some 5), .mv (.t 81), none⟩] none [4, 5])
.ret)))))
.skip))))))))))
(.seq
(.region [
⟨0, (some 82), .mv (.t 6), none⟩,
⟨1, (some 4), .mv (.t 82), none⟩,
⟨2, (some 5), .mv (.c (.bool true)), none⟩] none [4, 5])
.ret)))), [(.tmp 4, true), (.tmp 5, true)]⟩

/-! rafter/limbs.Text -/
def a_limbs_Text_b0 : ACode :=
(.seq
(.seq
(.region [
⟨0, (some 22), .mv (.t 5), none⟩,
⟨1, (some 23), .bin .lss (.t 22) (.c (.int .i64 9)), none⟩,
⟨2, (some 24), .mv (.t 23), none⟩,
⟨3, (some 25), .mv (.t 4), (some (24, true))⟩,
⟨4, (some 26), .bin .gtr (.t 25) (.c (.int .u32 0)), (some (24, true))⟩,
⟨5, (some 27), .mv (.t 26), (some (24, true))⟩,
⟨6, (some 28), .mv (.t 0), (some (27, false))⟩,
⟨7, (some 29), .len false (.t 28), (some (27, false))⟩,
⟨8, (some 30), .bin .gtr (.t 29) (.c (.int .i64 0)), (some (27, false))⟩,
⟨9, (some 31), .pick (.t 27) (.c (.bool true)) (.t 30), (some (24, true))⟩,
⟨10, (some 32), .pick (.t 24) (.t 31) (.c (.bool false)), none⟩] none [0, 3, 4, 5, 32])
(.cond (.t 32)
.skip
(.exit 2 [0, 3])))
(.seq
(.block 3
(.seq
(.region [
⟨0, (some 35), .mv (.t 3), none⟩,
⟨1, (some 36), .mv (.t 4), none⟩,
⟨2, (some 37), .bin .rem (.t 36) (.c (.int .u32 10)), none⟩,
⟨3, (some 38), .bin .add (.c (.int .u32 48)) (.t 37), none⟩,
⟨4, (some 39), .conv (.int .u8) (.t 38), none⟩,
⟨5, (some 40), .buildSl ⟨1, 1⟩ (.int .u8 0) 1 [(0, (.t 39))], none⟩,
⟨6, (some 41), .app ⟨1, 1⟩ (some (.t 35)) (.t 40), none⟩,
⟨7, (some 3), .mv (.t 41), none⟩] none [0, 3, 4, 5])
(.region [
⟨0, (some 42), .mv (.t 4), none⟩,
⟨1, (some 43), .bin .quo (.t 42) (.c (.int .u32 10)), none⟩,
⟨2, (some 4), .mv (.t 43), none⟩] none [0, 3, 4, 5])))
(.region [
⟨0, (some 33), .mv (.t 5), none⟩,
⟨1, (some 34), .bin .add (.t 33) (.c (.int .i64 1)), none⟩,
⟨2, (some 5), .mv (.t 34), none⟩] none [0, 3, 4, 5])))
def a_limbs_Text_l0 : ACode := .loop [0, 3, 4, 5] a_limbs_Text_b0
def a_limbs_Text_b1 : ACode :=
(.seq
(.seq
(.region [
⟨0, (some 14), .mv (.t 0), none⟩,
⟨1, (some 15), .len false (.t 14), none⟩,
⟨2, (some 16), .bin .gtr (.t 15) (.c (.int .i64 0)), none⟩] none [0, 3, 16])
(.cond (.t 16)
.skip
(.exit 0 [3])))
(.block 1
(.seq
(.region [
⟨0, (some 4), .mv (.c (.int .u32 0)), none⟩] none [0, 3])
(.seq
(.region [
⟨0, (some 18), .mv (.t 0), none⟩,
⟨1, (some 19), .call f_limbs_byLimb [((.t 18), true), ((.c (.int .u32 1000000000)), true)], none⟩,
⟨2, (some 17), .mv (.t 19), none⟩,
⟨3, (some 20), .extract (.t 17) 0, none⟩,
⟨4, (some 21), .extract (.t 17) 1, none⟩,
⟨5, (some 0), .mv (.t 20), none⟩,
⟨6, (some 4), .mv (.t 21), none⟩] none [0, 3, 4])
(.seq
(.region [
⟨0, (some 5), .mv (.c (.int .i64 0)), none⟩] none [0, 3, 4, 5])
(.block 2
 a_limbs_Text_l0))))))
def a_limbs_Text_l1 : ACode := .loop [0, 3] a_limbs_Text_b1
def a_limbs_Text_b2 : ACode :=
(.seq
(.region [
⟨0, (some 50), .bin .lss (.t 49) (.t 48), none⟩] none [3, 6, 47, 48, 49, 50])
(.seq
(.cond (.t 50)
.skip
(.exit 4 [6]))
(.seq
(.block 5
(.seq
(.region [
⟨0, (some 51), .mv (.t 49), none⟩,
⟨1, (some 52), .idxA ⟨1, 1⟩ (.t 47) (.t 49), none⟩,
⟨2, (some 53), .load 1 false (.t 52), none⟩,
⟨3, (some 7), .mv (.t 51), none⟩,
⟨4, (some 8), .mv (.t 53), none⟩] none [3, 6, 7, 8, 47, 48, 49])
(.region [
⟨0, (some 54), .mv (.t 6), none⟩,
⟨1, (some 55), .mv (.t 3), none⟩,
⟨2, (some 56), .len false (.t 55), none⟩,
⟨3, (some 57), .bin .sub (.t 56) (.c (.int .i64 1)), none⟩,
⟨4, (some 58), .mv (.t 7), none⟩,
⟨5, (some 59), .bin .sub (.t 57) (.t 58), none⟩,
⟨6, (some 60), .mv (.t 8), none⟩,
⟨7, (some 61), .idxA ⟨1, 1⟩ (.t 54) (.t 59), none⟩,
⟨8, none, .store 1 (.t 61) (.t 60), none⟩] none [3, 6, 47, 48, 49])))
(.region [
⟨0, (some 62), .bin .add (.t 49) (.c (.int .i64 1)), none⟩,
⟨1, (some 49), .mv (.t 62), none⟩] none [3, 6, 47, 48, 49]))))
def a_limbs_Text_l2 : ACode := .loop [3, 6, 47, 48, 49] a_limbs_Text_b2
def a_limbs_Text : AFun := ⟨1,
(.seq
(.region [
⟨0, (some 2), .mv (.c (.str [])), none⟩] none [0])
(.seq
(.region [
⟨0, (some 9), .mv (.t 0), none⟩,
⟨1, (some 10), .call f_limbs_short [((.t 9), true)], none⟩,
⟨2, (some 0), .mv (.t 10), none⟩] none [0])
(.seq
(.seq
(.region [
⟨0, (some 11), .mv (.t 0), none⟩,
⟨1, (some 12), .len false (.t 11), none⟩,
⟨2, (some 13), .bin .eql (.t 12) (.c (.int .i64 0)), none⟩] none [0, 13])
(.cond (.t 13)
(.seq
(.region [
⟨0, (some 2), .mv (.c (.str [48])), none⟩] none [2])
.ret)
.skip))
(.seq
(.region [
⟨0, (some 3), .own ⟨1, 1⟩, none⟩] none [0, 3])
(.seq
(.block 0
 a_limbs_Text_l1)
(.seq
(.region [
⟨0, (some 44), .mv (.t 3), none⟩,
⟨1, (some 45), .len false (.t 44), none⟩,
⟨2, (some 46), .mkSl ⟨1, 1⟩ (.int .u8 0) (.t 45) (.t 45), none⟩,
⟨3, (some 6), .mv (.t 46), none⟩] none [3, 6])
(.seq
(.seq
(.region [
⟨0, (some 47), .mv (.t 3), none⟩,
⟨1, (some 48), .len false (.t 47), none⟩,
⟨2, (some 49), .mv (.c (.int .i64 0)), none⟩] none [3, 6, 47, 48, 49])
(.block 4
 a_limbs_Text_l2))
(.seq
(.region [
⟨0, (some 63), .mv (.t 6), none⟩,
⟨1, (some 64), .conv .b2s (.t 63), none⟩,
⟨2, (some 2), .mv (.t 64), none⟩] none [2])
.ret)))))))), [(.tmp 2, true)]⟩

/-! rafter/whole.made -/
def a_whole_made : AFun := ⟨2,
(.seq
(.region [
⟨0, (some 4), .alloc (.agg [.bool false, .sl []]) [], none⟩] none [0, 1, 4])
(.seq
(.region [
⟨0, (some 5), .mv (.t 0), none⟩,
⟨1, (some 6), .mv (.t 5), none⟩,
⟨2, (some 7), .mv (.t 1), (some (6, true))⟩,
⟨3, (some 8), .len false (.t 7), (some (6, true))⟩,
⟨4, (some 9), .bin .gtr (.t 8) (.c (.int .i64 0)), (some (6, true))⟩,
⟨5, (some 10), .pick (.t 6) (.t 9) (.c (.bool false)), none⟩,
⟨6, (some 11), .mv (.t 1), none⟩,
⟨7, (some 12), .build (.agg [.bool false, .sl []]) [(0, 1, (.t 10)), (1, 1, (.t 11))] [], none⟩,
⟨8, none, .store 2 (.t 4) (.t 12), none⟩] none [4])
.ret)), [(.cell 4 2 true, true)]⟩

/-! rafter/limbs.Small -/
def a_limbs_Small : AFun := ⟨1,
(.seq
(.region [
⟨0, (some 2), .mv (.c (.sl [])), none⟩] none [0])
(.seq
(.region [
⟨0, (some 3), .mv (.t 0), none⟩,
⟨1, (some 4), .conv (.int .u32) (.t 3), none⟩,
⟨2, (some 5), .mv (.t 0), none⟩,
⟨3, (some 6), .bin .shr (.t 5) (.c (.int .u64 32)), none⟩,
⟨4, (some 7), .conv (.int .u32) (.t 6), none⟩,
⟨5, (some 8), .buildSl ⟨1, 4⟩ (.int .u32 0) 2 [(0, (.t 4)), (1, (.t 7))], none⟩,
⟨6, (some 9), .call f_limbs_short [((.t 8), true)], none⟩,
⟨7, (some 2), .mv (.t 9), none⟩] none [2])
.ret)), [(.tmp 2, true)]⟩

/-! rafter/limbs.Trim -/
def a_limbs_Trim : AFun := ⟨1,
(.seq
(.region [
⟨0, (some 2), .mv (.c (.sl [])), none⟩] none [0])
(.seq
(.region [
⟨0, (some 3), .mv (.t 0), none⟩,
⟨1, (some 4), .call f_limbs_short [((.t 3), true)], none⟩,
⟨2, (some 5), .app ⟨1, 4⟩ none (.t 4), none⟩,
⟨3, (some 2), .mv (.t 5), none⟩] none [2])
.ret)), [(.tmp 2, true)]⟩

/-! rafter/limbs.Add -/
def a_limbs_Add_b0 : ACode :=
(.seq
(.region [
⟨0, (some 26), .bin .lss (.t 25) (.t 24), none⟩] none [0, 1, 5, 6, 24, 25, 26])
(.seq
(.cond (.t 26)
.skip
(.exit 0 [5, 6]))
(.seq
(.block 1
(.seq
(.region [
⟨0, (some 27), .mv (.t 25), none⟩,
⟨1, (some 7), .mv (.t 27), none⟩] none [0, 1, 5, 6, 7, 24, 25])
(.seq
(.region [
⟨0, (some 28), .mv (.t 6), none⟩,
⟨1, (some 29), .mv (.t 0), none⟩,
⟨2, (some 30), .mv (.t 7), none⟩,
⟨3, (some 31), .idxA ⟨1, 4⟩ (.t 29) (.t 30), none⟩,
⟨4, (some 32), .load 1 false (.t 31), none⟩,
⟨5, (some 33), .conv (.int .u64) (.t 32), none⟩,
⟨6, (some 34), .bin .add (.t 28) (.t 33), none⟩,
⟨7, (some 6), .mv (.t 34), none⟩] none [0, 1, 5, 6, 7, 24, 25])
(.seq
(.seq
(.region [
⟨0, (some 35), .mv (.t 7), none⟩,
⟨1, (some 36), .mv (.t 1), none⟩,
⟨2, (some 37), .len false (.t 36), none⟩,
⟨3, (some 38), .bin .lss (.t 35) (.t 37), none⟩] none [0, 1, 5, 6, 7, 24, 25, 38])
(.cond (.t 38)
(.region [
⟨0, (some 39), .mv (.t 6), none⟩,
⟨1, (some 40), .mv (.t 1), none⟩,
⟨2, (some 41), .mv (.t 7), none⟩,
⟨3, (some 42), .idxA ⟨1, 4⟩ (.t 40) (.t 41), none⟩,
⟨4, (some 43), .load 1 false (.t 42), none⟩,
⟨5, (some 44), .conv (.int .u64) (.t 43), none⟩,
⟨6, (some 45), .bin .add (.t 39) (.t 44), none⟩,
⟨7, (some 6), .mv (.t 45), none⟩] none [0, 1, 5, 6, 24, 25])
.skip))
(.seq
(.region [
⟨0, (some 46), .mv (.t 5), none⟩,
⟨1, (some 47), .mv (.t 6), none⟩,
⟨2, (some 48), .conv (.int .u32) (.t 47), none⟩,
⟨3, (some 49), .buildSl ⟨1, 4⟩ (.int .u32 0) 1 [(0, (.t 48))], none⟩,
⟨4, (some 50), .app ⟨1, 4⟩ (some (.t 46)) (.t 49), none⟩,
⟨5, (some 5), .mv (.t 50), none⟩] none [0, 1, 5, 6, 24, 25])
(.region [
⟨0, (some 51), .mv (.t 6), none⟩,
⟨1, (some 52), .bin .shr (.t 51) (.c (.int .u64 32)), none⟩,
⟨2, (some 6), .mv (.t 52), none⟩] none [0, 1, 5, 6, 24, 25]))))))
(.region [
⟨0, (some 53), .bin .add (.t 25) (.c (.int .i64 1)), none⟩,
⟨1, (some 25), .mv (.t 53), none⟩] none [0, 1, 5, 6, 24, 25]))))
def a_limbs_Add_l0 : ACode := .loop [0, 1, 5, 6, 24, 25] a_limbs_Add_b0
def a_limbs_Add : AFun := ⟨2,
(.seq
(.region [
⟨0, (some 4), .mv (.c (.sl [])), none⟩] none [0, 1])
(.seq
(.region [
⟨0, (some 8), .mv (.t 0), none⟩,
⟨1, (some 9), .call f_limbs_short [((.t 8), true)], none⟩,
⟨2, (some 10), .mv (.t 1), none⟩,
⟨3, (some 11), .call f_limbs_short [((.t 10), true)], none⟩,
⟨4, (some 0), .mv (.t 9), none⟩,
⟨5, (some 1), .mv (.t 11), none⟩] none [0, 1])
(.seq
(.seq
(.region [
⟨0, (some 12), .mv (.t 0), none⟩,
⟨1, (some 13), .len false (.t 12), none⟩,
⟨2, (some 14), .mv (.t 1), none⟩,
⟨3, (some 15), .len false (.t 14), none⟩,
⟨4, (some 16), .bin .lss (.t 13) (.t 15), none⟩] none [0, 1, 16])
(.cond (.t 16)
(.region [
⟨0, (some 17), .mv (.t 1), none⟩,
⟨1, (some 18), .mv (.t 0), none⟩,
⟨2, (some 0), .mv (.t 17), none⟩,
⟨3, (some 1), .mv (.t 18), none⟩] none [0, 1])
.skip))
(.seq
(.region [
⟨0, (some 19), .mv (.t 0), none⟩,
⟨1, (some 20), .len false (.t 19), none⟩,
⟨2, (some 21), .bin .add (.t 20) (.c (.int .i64 1)), none⟩,
⟨3, (some 22), .mkSl ⟨1, 4⟩ (.int .u32 0) (.c (.int .i64 0)) (.t 21), none⟩,
⟨4, (some 5), .mv (.t 22), none⟩] none [0, 1, 5])
(.seq
(.region [
⟨0, (some 6), .mv (.c (.int .u64 0)), none⟩] none [0, 1, 5, 6])
(.seq
(.seq
(.region [
⟨0, (some 23), .mv (.t 0), none⟩,
⟨1, (some 24), .len false (.t 23), none⟩,
⟨2, (some 25), .mv (.c (.int .i64 0)), none⟩] none [0, 1, 5, 6, 24, 25])
(.block 0
 a_limbs_Add_l0))
(.seq
(.seq
(.region [
⟨0, (some 54), .mv (.t 6), none⟩,
⟨1, (some 55), .bin .gtr (.t 54) (.c (.int .u64 0)), none⟩] none [5, 6, 55])
(.cond (.t 55)
(.region [
⟨0, (some 56), .mv (.t 5), none⟩,
⟨1, (some 57), .mv (.t 6), none⟩,
⟨2, (some 58), .conv (.int .u32) (.t 57), none⟩,
⟨3, (some 59), .buildSl ⟨1, 4⟩ (.int .u32 0) 1 [(0, (.t 58))], none⟩,
⟨4, (some 60), .app ⟨1, 4⟩ (some (.t 56)) (.t 59), none⟩,
⟨5, (some 5), .mv (.t 60), none⟩] none [5])
.skip))
(.seq
(.region [
⟨0, (some 61), .mv (.t 5), none⟩,
⟨1, (some 4), .mv (.t 61), none⟩] none [4])
.ret)))))))), [(.tmp 4, true)]⟩

/-! rafter/limbs.Sub -/
def a_limbs_Sub_b0 : ACode :=
(.seq
(.region [
⟨0, (some 24), .bin .lss (.t 23) (.t 22), none⟩] none [0, 1, 6, 7, 22, 23, 24])
(.seq
(.cond (.t 24)
.skip
(.exit 0 [6]))
(.seq
(.block 1
(.seq
(.region [
⟨0, (some 25), .mv (.t 23), none⟩,
⟨1, (some 8), .mv (.t 25), none⟩] none [0, 1, 6, 7, 8, 22, 23])
(.seq
(.region [
⟨0, (some 26), .mv (.t 0), none⟩,
⟨1, (some 27), .mv (.t 8), none⟩,
⟨2, (some 28), .idxA ⟨1, 4⟩ (.t 26) (.t 27), none⟩,
⟨3, (some 29), .load 1 false (.t 28), none⟩,
⟨4, (some 30), .conv (.int .u64) (.t 29), none⟩,
⟨5, (some 31), .mv (.t 7), none⟩,
⟨6, (some 32), .bin .sub (.t 30) (.t 31), none⟩,
⟨7, (some 9), .mv (.t 32), none⟩] none [0, 1, 6, 8, 9, 22, 23])
(.seq
(.seq
(.region [
⟨0, (some 33), .mv (.t 8), none⟩,
⟨1, (some 34), .mv (.t 1), none⟩,
⟨2, (some 35), .len false (.t 34), none⟩,
⟨3, (some 36), .bin .lss (.t 33) (.t 35), none⟩] none [0, 1, 6, 8, 9, 22, 23, 36])
(.cond (.t 36)
(.region [
⟨0, (some 37), .mv (.t 9), none⟩,
⟨1, (some 38), .mv (.t 1), none⟩,
⟨2, (some 39), .mv (.t 8), none⟩,
⟨3, (some 40), .idxA ⟨1, 4⟩ (.t 38) (.t 39), none⟩,
⟨4, (some 41), .load 1 false (.t 40), none⟩,
⟨5, (some 42), .conv (.int .u64) (.t 41), none⟩,
⟨6, (some 43), .bin .sub (.t 37) (.t 42), none⟩,
⟨7, (some 9), .mv (.t 43), none⟩] none [0, 1, 6, 8, 9, 22, 23])
.skip))
(.seq
(.region [
⟨0, (some 44), .mv (.t 6), none⟩,
⟨1, (some 45), .mv (.t 8), none⟩,
⟨2, (some 46), .mv (.t 9), none⟩,
⟨3, (some 47), .conv (.int .u32) (.t 46), none⟩,
⟨4, (some 48), .idxA ⟨1, 4⟩ (.t 44) (.t 45), none⟩,
⟨5, none, .store 1 (.t 48) (.t 47), none⟩] none [0, 1, 6, 9, 22, 23])
(.region [
⟨0, (some 49), .mv (.t 9), none⟩,
⟨1, (some 50), .bin .shr (.t 49) (.c (.int .u64 63)), none⟩,
⟨2, (some 7), .mv (.t 50), none⟩] none [0, 1, 6, 7, 22, 23]))))))
(.region [
⟨0, (some 51), .bin .add (.t 23) (.c (.int .i64 1)), none⟩,
⟨1, (some 23), .mv (.t 51), none⟩] none [0, 1, 6, 7, 22, 23]))))
def a_limbs_Sub_l0 : ACode := .loop [0, 1, 6, 7, 22, 23] a_limbs_Sub_b0
def a_limbs_Sub : AFun := ⟨2,
(.seq
(.region [
⟨0, (some 4), .mv (.c (.sl [])), none⟩,
⟨1, (some 5), .mv (.c (.bool false)), none⟩] none [0, 1])
(.seq
(.region [
⟨0, (some 10), .mv (.t 0), none⟩,
⟨1, (some 11), .call f_limbs_short [((.t 10), true)], none⟩,
⟨2, (some 12), .mv (.t 1), none⟩,
⟨3, (some 13), .call f_limbs_short [((.t 12), true)], none⟩,
⟨4, (some 0), .mv (.t 11), none⟩,
⟨5, (some 1), .mv (.t 13), none⟩] none [0, 1])
(.seq
(.seq
(.region [
⟨0, (some 14), .mv (.t 0), none⟩,
⟨1, (some 15), .mv (.t 1), none⟩,
⟨2, (some 16), .call f_limbs_Cmp [((.t 14), true), ((.t 15), true)], none⟩,
⟨3, (some 17), .bin .lss (.t 16) (.c (.int .i64 0)), none⟩] none [0, 1, 17])
(.cond (.t 17)
(.seq
(.region [
⟨0, (some 4), .mv (.c (.sl [])), none⟩,
⟨1, (some 5), .mv (.c (.bool false)), none⟩] none [4, 5])
.ret)
.skip))
(.seq
(.region [
⟨0, (some 18), .mv (.t 0), none⟩,
⟨1, (some 19), .len false (.t 18), none⟩,
⟨2, (some 20), .mkSl ⟨1, 4⟩ (.int .u32 0) (.t 19) (.t 19), none⟩,
⟨3, (some 6), .mv (.t 20), none⟩] none [0, 1, 6])
(.seq
(.region [
⟨0, (some 7), .mv (.c (.int .u64 0)), none⟩] none [0, 1, 6, 7])
(.seq
(.seq
(.region [
⟨0, (some 21), .mv (.t 0), none⟩,
⟨1, (some 22), .len false (.t 21), none⟩,
⟨2, (some 23), .mv (.c (.int .i64 0)), none⟩] none [0, 1, 6, 7, 22, 23])
(.block 0
 a_limbs_Sub_l0))
(.seq
(.region [
⟨0, (some 52), .mv (.t 6), none⟩,
⟨1, (some 53), .call f_limbs_short [((.t 52), true)], none⟩,
⟨2, (some 4), .mv (.t 53), none⟩,
⟨3, (some 5), .mv (.c (.bool true)), none⟩] none [4, 5])
.ret))))))), [(.tmp 4, true), (.tmp 5, true)]⟩

/-! rafter/limbs.Mul -/
def a_limbs_Mul_b0 : ACode :=
(.seq
(.region [
⟨0, (some 39), .bin .lss (.t 38) (.t 37), none⟩] none [1, 5, 6, 7, 8, 29, 30, 31, 36, 37, 38, 39])
(.seq
(.cond (.t 39)
.skip
(.exit 2 [1, 5, 6, 8, 29, 30, 31]))
(.seq
(.block 3
(.seq
(.region [
⟨0, (some 40), .mv (.t 38), none⟩,
⟨1, (some 41), .idxA ⟨1, 4⟩ (.t 36) (.t 38), none⟩,
⟨2, (some 42), .load 1 false (.t 41), none⟩,
⟨3, (some 9), .mv (.t 40), none⟩,
⟨4, (some 10), .mv (.t 42), none⟩] none [1, 5, 6, 7, 8, 9, 10, 29, 30, 31, 36, 37, 38])
(.seq
(.region [
⟨0, (some 43), .mv (.t 8), none⟩,
⟨1, (some 44), .mv (.t 7), none⟩,
⟨2, (some 45), .conv (.int .u64) (.t 44), none⟩,
⟨3, (some 46), .mv (.t 10), none⟩,
⟨4, (some 47), .conv (.int .u64) (.t 46), none⟩,
⟨5, (some 48), .bin .mul (.t 45) (.t 47), none⟩,
⟨6, (some 49), .mv (.t 5), none⟩,
⟨7, (some 50), .mv (.t 6), none⟩,
⟨8, (some 51), .mv (.t 9), none⟩,
⟨9, (some 52), .bin .add (.t 50) (.t 51), none⟩,
⟨10, (some 53), .idxA ⟨1, 4⟩ (.t 49) (.t 52), none⟩,
⟨11, (some 54), .load 1 false (.t 53), none⟩,
⟨12, (some 55), .conv (.int .u64) (.t 54), none⟩,
⟨13, (some 56), .bin .add (.t 48) (.t 55), none⟩,
⟨14, (some 57), .bin .add (.t 43) (.t 56), none⟩,
⟨15, (some 8), .mv (.t 57), none⟩] none [1, 5, 6, 7, 8, 9, 29, 30, 31, 36, 37, 38])
(.seq
(.region [
⟨0, (some 58), .mv (.t 5), none⟩,
⟨1, (some 59), .mv (.t 6), none⟩,
⟨2, (some 60), .mv (.t 9), none⟩,
⟨3, (some 61), .bin .add (.t 59) (.t 60), none⟩,
⟨4, (some 62), .mv (.t 8), none⟩,
⟨5, (some 63), .conv (.int .u32) (.t 62), none⟩,
⟨6, (some 64), .idxA ⟨1, 4⟩ (.t 58) (.t 61), none⟩,
⟨7, none, .store 1 (.t 64) (.t 63), none⟩] none [1, 5, 6, 7, 8, 29, 30, 31, 36, 37, 38])
(.region [
⟨0, (some 65), .mv (.t 8), none⟩,
⟨1, (some 66), .bin .shr (.t 65) (.c (.int .u64 32)), none⟩,
⟨2, (some 8), .mv (.t 66), none⟩] none [1, 5, 6, 7, 8, 29, 30, 31, 36, 37, 38])))))
(.region [
⟨0, (some 67), .bin .add (.t 38) (.c (.int .i64 1)), none⟩,
⟨1, (some 38), .mv (.t 67), none⟩] none [1, 5, 6, 7, 8, 29, 30, 31, 36, 37, 38]))))
def a_limbs_Mul_l0 : ACode := .loop [1, 5, 6, 7, 8, 29, 30, 31, 36, 37, 38] a_limbs_Mul_b0
def a_limbs_Mul_b1 : ACode :=
(.seq
(.region [
⟨0, (some 32), .bin .lss (.t 31) (.t 30), none⟩] none [1, 5, 29, 30, 31, 32])
(.seq
(.cond (.t 32)
.skip
(.exit 0 [5]))
(.seq
(.block 1
(.seq
(.region [
⟨0, (some 33), .mv (.t 31), none⟩,
⟨1, (some 34), .idxA ⟨1, 4⟩ (.t 29) (.t 31), none⟩,
⟨2, (some 35), .load 1 false (.t 34), none⟩,
⟨3, (some 6), .mv (.t 33), none⟩,
⟨4, (some 7), .mv (.t 35), none⟩] none [1, 5, 6, 7, 29, 30, 31])
(.seq
(.region [
⟨0, (some 8), .mv (.c (.int .u64 0)), none⟩] none [1, 5, 6, 7, 8, 29, 30, 31])
(.seq
(.seq
(.region [
⟨0, (some 36), .mv (.t 1), none⟩,
⟨1, (some 37), .len false (.t 36), none⟩,
⟨2, (some 38), .mv (.c (.int .i64 0)), none⟩] none [1, 5, 6, 7, 8, 29, 30, 31, 36, 37, 38])
(.block 2
 a_limbs_Mul_l0))
(.region [
⟨0, (some 68), .mv (.t 5), none⟩,
⟨1, (some 69), .mv (.t 6), none⟩,
⟨2, (some 70), .mv (.t 1), none⟩,
⟨3, (some 71), .len false (.t 70), none⟩,
⟨4, (some 72), .bin .add (.t 69) (.t 71), none⟩,
⟨5, (some 73), .mv (.t 8), none⟩,
⟨6, (some 74), .conv (.int .u32) (.t 73), none⟩,
⟨7, (some 75), .idxA ⟨1, 4⟩ (.t 68) (.t 72), none⟩,
⟨8, none, .store 1 (.t 75) (.t 74), none⟩] none [1, 5, 29, 30, 31])))))
(.region [
⟨0, (some 76), .bin .add (.t 31) (.c (.int .i64 1)), none⟩,
⟨1, (some 31), .mv (.t 76), none⟩] none [1, 5, 29, 30, 31]))))
def a_limbs_Mul_l1 : ACode := .loop [1, 5, 29, 30, 31] a_limbs_Mul_b1
def a_limbs_Mul : AFun := ⟨2,
(.seq
(.region [
⟨0, (some 4), .mv (.c (.sl [])), none⟩] none [0, 1])
(.seq
(.region [
⟨0, (some 11), .mv (.t 0), none⟩,
⟨1, (some 12), .call f_limbs_short [((.t 11), true)], none⟩,
⟨2, (some 13), .mv (.t 1), none⟩,
⟨3, (some 14), .call f_limbs_short [((.t 13), true)], none⟩,
⟨4, (some 0), .mv (.t 12), none⟩,
⟨5, (some 1), .mv (.t 14), none⟩] none [0, 1])
(.seq
(.seq
(.region [
⟨0, (some 15), .mv (.t 0), none⟩,
⟨1, (some 16), .len false (.t 15), none⟩,
⟨2, (some 17), .bin .eql (.t 16) (.c (.int .i64 0)), none⟩,
⟨3, (some 18), .mv (.t 17), none⟩,
⟨4, (some 19), .mv (.t 1), (some (18, false))⟩,
⟨5, (some 20), .len false (.t 19), (some (18, false))⟩,
⟨6, (some 21), .bin .eql (.t 20) (.c (.int .i64 0)), (some (18, false))⟩,
⟨7, (some 22), .pick (.t 18) (.c (.bool true)) (.t 21), none⟩] none [0, 1, 22])
(.cond (.t 22)
(.seq
(.region [
⟨0, (some 4), .mv (.c (.sl [])), none⟩] none [4])
.ret)
.skip))
(.seq
(.region [
⟨0, (some 23), .mv (.t 0), none⟩,
⟨1, (some 24), .len false (.t 23), none⟩,
⟨2, (some 25), .mv (.t 1), none⟩,
⟨3, (some 26), .len false (.t 25), none⟩,
⟨4, (some 27), .bin .add (.t 24) (.t 26), none⟩,
⟨5, (some 28), .mkSl ⟨1, 4⟩ (.int .u32 0) (.t 27) (.t 27), none⟩,
⟨6, (some 5), .mv (.t 28), none⟩] none [0, 1, 5])
(.seq
(.seq
(.region [
⟨0, (some 29), .mv (.t 0), none⟩,
⟨1, (some 30), .len false (.t 29), none⟩,
⟨2, (some 31), .mv (.c (.int .i64 0)), none⟩] none [1, 5, 29, 30, 31])
(.block 0
 a_limbs_Mul_l1))
(.seq
(.region [
⟨0, (some 77), .mv (.t 5), none⟩,
⟨1, (some 78), .call f_limbs_short [((.t 77), true)], none⟩,
⟨2, (some 4), .mv (.t 78), none⟩] none [4])
.ret)))))), [(.tmp 4, true)]⟩

/-! rafter/rafterlaw00.SameLimbs -/
def a_rafterlaw00_SameLimbs_b0 : ACode :=
(.seq
(.seq
(.region [
⟨0, (some 11), .mv (.t 5), none⟩,
⟨1, (some 12), .mv (.t 0), none⟩,
⟨2, (some 13), .len false (.t 12), none⟩,
⟨3, (some 14), .bin .lss (.t 11) (.t 13), none⟩] none [0, 1, 5, 14])
(.cond (.t 14)
.skip
(.exit 0 [])))
(.seq
(.block 1
(.seq
(.region [
⟨0, (some 17), .mv (.t 0), none⟩,
⟨1, (some 18), .mv (.t 5), none⟩,
⟨2, (some 19), .idxA ⟨1, 4⟩ (.t 17) (.t 18), none⟩,
⟨3, (some 20), .load 1 false (.t 19), none⟩,
⟨4, (some 21), .mv (.t 1), none⟩,
⟨5, (some 22), .mv (.t 5), none⟩,
⟨6, (some 23), .idxA ⟨1, 4⟩ (.t 21) (.t 22), none⟩,
⟨7, (some 24), .load 1 false (.t 23), none⟩,
⟨8, (some 25), .bin .neq (.t 20) (.t 24), none⟩] (some ([], [])) [0, 1, 5, 25])
(.cond (.t 25)
(.seq
(.region [
⟨0, (some 4), .mv (.c (.bool false)), none⟩] none [4])
.ret)
.skip)))
(.region [
⟨0, (some 15), .mv (.t 5), none⟩,
⟨1, (some 16), .bin .add (.t 15) (.c (.int .i64 1)), none⟩,
⟨2, (some 5), .mv (.t 16), none⟩] none [0, 1, 5])))
def a_rafterlaw00_SameLimbs_l0 : ACode := .loop [0, 1, 5] a_rafterlaw00_SameLimbs_b0
def a_rafterlaw00_SameLimbs : AFun := ⟨2,
(.seq
(.region [
⟨0, (some 4), .mv (.c (.bool false)), none⟩] none [0, 1])
(.seq
(.seq
(.region [
⟨0, (some 6), .mv (.t 0), none⟩,
⟨1, (some 7), .len false (.t 6), none⟩,
⟨2, (some 8), .mv (.t 1), none⟩,
⟨3, (some 9), .len false (.t 8), none⟩,
⟨4, (some 10), .bin .neq (.t 7) (.t 9), none⟩] none [0, 1, 10])
(.cond (.t 10)
(.seq
(.region [
⟨0, (some 4), .mv (.c (.bool false)), none⟩] none [4])
.ret)
.skip))
(.seq
(.seq
(.region [
⟨0, (some 5), .mv (.c (.int .i64 0)), none⟩] none [0, 1, 5])
(.block 0
 a_rafterlaw00_SameLimbs_l0))
(.seq
(.region [
⟨0, (some 4), .mv (.c (.bool true)), none⟩] none [4])
.ret)))), [(.tmp 4, true)]⟩

/-! rafter/rafterlaw00.LenWhole -/
def a_rafterlaw00_LenWhole : AFun := ⟨1,
(.seq
(.region [
⟨0, (some 1), .box 2 (.t 0), none⟩,
⟨1, (some 2), .mv (.c (.int .i64 0)), none⟩] none [1])
(.seq
(.region [
⟨0, (some 3), .fieldA 1 1 false (.t 1), none⟩,
⟨1, (some 4), .load 1 false (.t 3), none⟩,
⟨2, (some 5), .len false (.t 4), none⟩,
⟨3, (some 6), .bin .add (.c (.int .i64 1)) (.t 5), none⟩,
⟨4, (some 2), .mv (.t 6), none⟩] none [2])
.ret)), [(.tmp 2, true)]⟩

/-! rafter/lang.ReadCond -/
def a_lang_ReadCond : AFun := ⟨2,
(.seq
(.region [
⟨0, (some 4), .alloc (.agg [.nili, .nili, .bool false]) [], none⟩,
⟨1, (some 5), .mv (.c (.int .i64 0)), none⟩,
⟨2, (some 6), .alloc (.agg [.int .i64 0, .int .i64 0, .int .i64 0, .int .i64 0]) [], none⟩] none [0, 1, 4, 6])
(.seq
(.seq
(.region [
⟨0, (some 7), .mv (.t 1), none⟩,
⟨1, (some 8), .call f_affine_Names [((.t 7), true)], none⟩,
⟨2, (some 9), .bin .neq (.t 8) (.c (.int .i64 0)), none⟩] none [0, 1, 4, 6, 9])
(.cond (.t 9)
(.seq
(.region [
⟨0, (some 10), .build (.agg [.nili, .nili, .bool false]) [] [], none⟩,
⟨1, (some 11), .build (.agg [.int .i64 0, .int .i64 0, .int .i64 0, .int .i64 0]) [] [], none⟩,
⟨2, none, .store 3 (.t 4) (.t 10), none⟩,
⟨3, (some 5), .mv (.c (.int .i64 1)), none⟩,
⟨4, none, .store 4 (.t 6) (.t 11), none⟩] none [4, 5, 6])
.ret)
.skip))
(.seq
(.region [
⟨0, (some 13), .mv (.t 0), none⟩,
⟨1, (some 14), .mv (.t 1), none⟩,
⟨2, (some 15), .mkF f_lang_ReadCond_1 [(.t 4)], none⟩,
⟨3, (some 16), .call f_lang_read [((.t 13), true), ((.t 14), true), ((.t 15), false)], none⟩,
⟨4, (some 12), .mv (.t 16), none⟩,
⟨5, (some 17), .extract (.t 12) 0, none⟩,
⟨6, (some 18), .extract (.t 12) 1, none⟩,
⟨7, (some 5), .mv (.t 17), none⟩,
⟨8, none, .store 4 (.t 6) (.t 18), none⟩] none [4, 5, 6])
(.seq
(.seq
(.region [
⟨0, (some 19), .mv (.t 5), none⟩,
⟨1, (some 20), .bin .neq (.t 19) (.c (.int .i64 0)), none⟩] none [4, 5, 6, 20])
(.cond (.t 20)
(.seq
(.region [
⟨0, (some 21), .build (.agg [.nili, .nili, .bool false]) [] [], none⟩,
⟨1, (some 22), .mv (.t 5), none⟩,
⟨2, (some 23), .load 4 true (.t 6), none⟩,
⟨3, none, .store 3 (.t 4) (.t 21), none⟩,
⟨4, (some 5), .mv (.t 22), none⟩,
⟨5, none, .store 4 (.t 6) (.t 23), none⟩] (some ([(2, 3)], [])) [4, 5, 6])
.ret)
.skip))
(.seq
(.region [
⟨0, (some 24), .load 3 true (.t 4), none⟩,
⟨1, (some 25), .build (.agg [.int .i64 0, .int .i64 0, .int .i64 0, .int .i64 0]) [] [], none⟩,
⟨2, none, .store 3 (.t 4) (.t 24), none⟩,
⟨3, (some 5), .mv (.c (.int .i64 0)), none⟩,
⟨4, none, .store 4 (.t 6) (.t 25), none⟩] none [4, 5, 6])
.ret))))), [(.cell 4 3 true, true), (.tmp 5, true), (.cell 6 4 true, true)]⟩

/-! rafter/guard.Row -/
def a_guard_Row_b0 : ACode :=
(.seq
(.region [
⟨0, (some 29), .bin .lss (.t 28) (.t 27), none⟩] none [1, 8, 26, 27, 28, 29])
(.seq
(.cond (.t 29)
.skip
(.exit 0 [8]))
(.seq
(.block 1
(.seq
(.region [
⟨0, (some 30), .mv (.t 28), none⟩,
⟨1, (some 31), .idxA ⟨2, 32⟩ (.t 26) (.t 28), none⟩,
⟨2, (some 32), .load 2 true (.t 31), none⟩,
⟨3, (some 10), .alloc (.agg [.bool false, .sl []]) [], none⟩,
⟨4, (some 9), .mv (.t 30), none⟩,
⟨5, none, .store 2 (.t 10) (.t 32), none⟩] none [1, 8, 9, 10, 26, 27, 28])
(.seq
(.seq
(.region [
⟨0, (some 33), .mv (.t 9), none⟩,
⟨1, (some 34), .mv (.t 1), none⟩,
⟨2, (some 35), .bin .eql (.t 33) (.t 34), none⟩] none [1, 8, 10, 26, 27, 28, 35])
(.cond (.t 35)
(.region [
⟨0, (some 36), .load 2 true (.t 10), none⟩,
⟨1, (some 37), .call f_whole_Neg [((.t 36), true)], none⟩,
⟨2, none, .store 2 (.t 10) (.t 37), none⟩] none [1, 8, 10, 26, 27, 28])
.skip))
(.region [
⟨0, (some 38), .mv (.t 8), none⟩,
⟨1, (some 39), .load 2 true (.t 10), none⟩,
⟨2, (some 40), .call f_ratio_From [((.t 39), true)], none⟩,
⟨3, (some 41), .buildSl ⟨3, 56⟩ (.agg [.bool false, .sl [], .sl []]) 1 [(0, (.t 40))], none⟩,
⟨4, (some 42), .app ⟨3, 56⟩ (some (.t 38)) (.t 41), none⟩,
⟨5, (some 8), .mv (.t 42), none⟩] none [1, 8, 26, 27, 28]))))
(.region [
⟨0, (some 43), .bin .add (.t 28) (.c (.int .i64 1)), none⟩,
⟨1, (some 28), .mv (.t 43), none⟩] none [1, 8, 26, 27, 28]))))
def a_guard_Row_l0 : ACode := .loop [1, 8, 26, 27, 28] a_guard_Row_b0
def a_guard_Row : AFun := ⟨2,
(.seq
(.region [
⟨0, (some 2), .box 3 (.t 0), none⟩,
⟨1, (some 4), .mv (.c (.sl [])), none⟩,
⟨2, (some 5), .mv (.c (.bool false)), none⟩] none [1, 2])
(.seq
(.region [
⟨0, (some 14), .fieldA 0 1 false (.t 2), none⟩,
⟨1, (some 15), .load 1 false (.t 14), none⟩,
⟨2, (some 16), .fieldA 1 1 false (.t 2), none⟩,
⟨3, (some 17), .load 1 false (.t 16), none⟩,
⟨4, (some 18), .build (.agg [.int .u8 0, .nili, .nili]) [(0, 1, (.c (.int .u8 45))), (1, 1, (.t 15)), (2, 1, (.t 17))] [], none⟩,
⟨5, (some 19), .mkI t_lang_Two (.t 18), none⟩,
⟨6, (some 20), .mv (.t 1), none⟩,
⟨7, (some 21), .call f_guard_Form [((.t 19), true), ((.t 20), true)], none⟩,
⟨8, (some 13), .mv (.t 21), none⟩,
⟨9, (some 22), .extract (.t 13) 0, none⟩,
⟨10, (some 23), .extract (.t 13) 1, none⟩,
⟨11, (some 6), .mv (.t 22), none⟩,
⟨12, (some 7), .mv (.t 23), none⟩] none [1, 6, 7])
(.seq
(.seq
(.region [
⟨0, (some 24), .mv (.t 7), none⟩,
⟨1, (some 25), .un .not (.t 24), none⟩] none [1, 6, 25])
(.cond (.t 25)
(.seq
(.region [
⟨0, (some 4), .mv (.c (.sl [])), none⟩,
⟨1, (some 5), .mv (.c (.bool false)), none⟩] none [4, 5])
.ret)
.skip))
(.seq
(.region [
⟨0, (some 8), .own ⟨3, 56⟩, none⟩] none [1, 6, 8])
(.seq
(.seq
(.region [
⟨0, (some 26), .mv (.t 6), none⟩,
⟨1, (some 27), .len false (.t 26), none⟩,
⟨2, (some 28), .mv (.c (.int .i64 0)), none⟩] none [1, 8, 26, 27, 28])
(.block 0
 a_guard_Row_l0))
(.seq
(.region [
⟨0, (some 45), .mv (.t 8), none⟩,
⟨1, (some 46), .call f_affine_Canon [((.t 45), true)], none⟩,
⟨2, (some 44), .mv (.t 46), none⟩,
⟨3, (some 47), .extract (.t 44) 0, none⟩,
⟨4, (some 48), .extract (.t 44) 1, none⟩,
⟨5, (some 11), .mv (.t 47), none⟩,
⟨6, (some 12), .mv (.t 48), none⟩] none [11, 12])
(.seq
(.region [
⟨0, (some 49), .mv (.t 11), none⟩,
⟨1, (some 50), .mv (.t 12), none⟩,
⟨2, (some 51), .bin .eql (.t 50) (.c (.int .i64 0)), none⟩,
⟨3, (some 4), .mv (.t 49), none⟩,
⟨4, (some 5), .mv (.t 51), none⟩] none [4, 5])
.ret))))))), [(.tmp 4, true), (.tmp 5, true)]⟩

/-! rafter/lang.Reckon -/
def a_lang_Reckon : AFun := ⟨2,
(.seq
(.region [
⟨0, (some 4), .alloc (.agg [.bool false, .sl []]) [], none⟩,
⟨1, (some 5), .mv (.c (.int .i64 0)), none⟩] none [0, 1, 4])
(.seq
(.region [
⟨0, (some 9), .mv (.t 0), none⟩,
⟨1, (some 10), .mv (.t 1), none⟩,
⟨2, (some 11), .call f_lang_join [((.t 9), true), ((.t 10), true)], none⟩,
⟨3, (some 8), .mv (.t 11), none⟩,
⟨4, (some 12), .extract (.t 8) 0, none⟩,
⟨5, (some 13), .extract (.t 8) 1, none⟩,
⟨6, (some 6), .alloc (.agg [.bool false, .sl []]) [], none⟩,
⟨7, none, .store 2 (.t 6) (.t 12), none⟩,
⟨8, (some 7), .mv (.t 13), none⟩] none [4, 6, 7])
(.seq
(.seq
(.region [
⟨0, (some 14), .mv (.t 7), none⟩,
⟨1, (some 15), .bin .eql (.t 14) (.c (.int .i64 0)), none⟩,
⟨2, (some 16), .mv (.t 15), none⟩,
⟨3, (some 17), .load 2 true (.t 6), (some (16, true))⟩,
⟨4, (some 18), .call f_whole_Limbs [((.t 17), true)], (some (16, true))⟩,
⟨5, (some 19), .bin .gtr (.t 18) (.c (.int .i64 512)), (some (16, true))⟩,
⟨6, (some 20), .pick (.t 16) (.t 19) (.c (.bool false)), none⟩] none [4, 6, 7, 20])
(.cond (.t 20)
(.region [
⟨0, (some 7), .mv (.c (.int .i64 2)), none⟩] none [4, 6, 7])
.skip))
(.seq
(.seq
(.region [
⟨0, (some 21), .mv (.t 7), none⟩,
⟨1, (some 22), .bin .neq (.t 21) (.c (.int .i64 0)), none⟩] none [4, 6, 7, 22])
(.cond (.t 22)
(.seq
(.region [
⟨0, (some 23), .build (.agg [.bool false, .sl []]) [] [], none⟩,
⟨1, (some 24), .mv (.t 7), none⟩,
⟨2, none, .store 2 (.t 4) (.t 23), none⟩,
⟨3, (some 5), .mv (.t 24), none⟩] none [4, 5])
.ret)
.skip))
(.seq
(.region [
⟨0, (some 25), .load 2 true (.t 6), none⟩,
⟨1, none, .store 2 (.t 4) (.t 25), none⟩,
⟨2, (some 5), .mv (.c (.int .i64 0)), none⟩] none [4, 5])
.ret))))), [(.cell 4 2 true, true), (.tmp 5, true)]⟩

/-! rafter/affine.sum -/
def a_affine_sum_b0 : ACode :=
(.seq
(.region [
⟨0, (some 12), .bin .lss (.t 11) (.t 10), none⟩] none [0, 4, 5, 9, 10, 11, 12])
(.seq
(.cond (.t 12)
.skip
(.exit 0 [4, 5]))
(.seq
(.block 1
(.seq
(.region [
⟨0, (some 13), .mv (.t 11), none⟩,
⟨1, (some 14), .idxA ⟨2, 32⟩ (.t 9) (.t 11), none⟩,
⟨2, (some 15), .load 2 true (.t 14), none⟩,
⟨3, (some 7), .alloc (.agg [.bool false, .sl []]) [], none⟩,
⟨4, (some 6), .mv (.t 13), none⟩,
⟨5, none, .store 2 (.t 7) (.t 15), none⟩] none [0, 4, 5, 6, 7, 9, 10, 11])
(.region [
⟨0, (some 16), .load 2 true (.t 5), none⟩,
⟨1, (some 17), .mv (.t 0), none⟩,
⟨2, (some 18), .mv (.t 6), none⟩,
⟨3, (some 19), .idxA ⟨2, 32⟩ (.t 17) (.t 18), none⟩,
⟨4, (some 20), .load 2 true (.t 19), none⟩,
⟨5, (some 21), .load 2 true (.t 7), none⟩,
⟨6, (some 22), .call f_whole_Mul [((.t 20), true), ((.t 21), true)], none⟩,
⟨7, (some 23), .call f_whole_Add [((.t 16), true), ((.t 22), true)], none⟩,
⟨8, none, .store 2 (.t 5) (.t 23), none⟩] (some ([(0, 6)], [6, 7])) [0, 4, 5, 9, 10, 11])))
(.region [
⟨0, (some 24), .bin .add (.t 11) (.c (.int .i64 1)), none⟩,
⟨1, (some 11), .mv (.t 24), none⟩] none [0, 4, 5, 9, 10, 11]))))
def a_affine_sum_l0 : ACode := .loop [0, 4, 5, 9, 10, 11] a_affine_sum_b0
def a_affine_sum : AFun := ⟨2,
(.seq
(.region [
⟨0, (some 4), .alloc (.agg [.bool false, .sl []]) [], none⟩] none [0, 1, 4])
(.seq
(.region [
⟨0, (some 8), .build (.agg [.bool false, .sl []]) [] [], none⟩,
⟨1, (some 5), .alloc (.agg [.bool false, .sl []]) [], none⟩,
⟨2, none, .store 2 (.t 5) (.t 8), none⟩] none [0, 1, 4, 5])
(.seq
(.seq
(.region [
⟨0, (some 9), .mv (.t 1), none⟩,
⟨1, (some 10), .len false (.t 9), none⟩,
⟨2, (some 11), .mv (.c (.int .i64 0)), none⟩] none [0, 4, 5, 9, 10, 11])
(.block 0
 a_affine_sum_l0))
(.seq
(.region [
⟨0, (some 25), .load 2 true (.t 5), none⟩,
⟨1, none, .store 2 (.t 4) (.t 25), none⟩] none [4])
.ret)))), [(.cell 4 2 true, true)]⟩

/-! rafter/whole.Gcd -/
def a_whole_Gcd : AFun := ⟨2,
(.seq
(.region [
⟨0, (some 2), .box 2 (.t 0), none⟩,
⟨1, (some 3), .box 2 (.t 1), none⟩,
⟨2, (some 4), .alloc (.agg [.bool false, .sl []]) [], none⟩] none [2, 3, 4])
(.seq
(.region [
⟨0, (some 5), .fieldA 1 1 false (.t 2), none⟩,
⟨1, (some 6), .load 1 false (.t 5), none⟩,
⟨2, (some 7), .fieldA 1 1 false (.t 3), none⟩,
⟨3, (some 8), .load 1 false (.t 7), none⟩,
⟨4, (some 9), .call f_limbs_Gcd [((.t 6), true), ((.t 8), true)], none⟩,
⟨5, (some 10), .call f_whole_made [((.c (.bool false)), true), ((.t 9), true)], none⟩,
⟨6, none, .store 2 (.t 4) (.t 10), none⟩] none [4])
.ret)), [(.cell 4 2 true, true)]⟩

/-! rafter/limbs.Cmp -/
def a_limbs_Cmp_b0 : ACode :=
(.seq
(.seq
(.region [
⟨0, (some 23), .mv (.t 5), none⟩,
⟨1, (some 24), .bin .geq (.t 23) (.c (.int .i64 0)), none⟩] none [0, 1, 5, 24])
(.cond (.t 24)
.skip
(.exit 0 [])))
(.seq
(.block 1
(.seq
(.seq
(.region [
⟨0, (some 27), .mv (.t 0), none⟩,
⟨1, (some 28), .mv (.t 5), none⟩,
⟨2, (some 29), .idxA ⟨1, 4⟩ (.t 27) (.t 28), none⟩,
⟨3, (some 30), .load 1 false (.t 29), none⟩,
⟨4, (some 31), .mv (.t 1), none⟩,
⟨5, (some 32), .mv (.t 5), none⟩,
⟨6, (some 33), .idxA ⟨1, 4⟩ (.t 31) (.t 32), none⟩,
⟨7, (some 34), .load 1 false (.t 33), none⟩,
⟨8, (some 35), .bin .lss (.t 30) (.t 34), none⟩] (some ([], [])) [0, 1, 5, 35])
(.cond (.t 35)
(.seq
(.region [
⟨0, (some 4), .mv (.c (.int .i64 (-1))), none⟩] none [4])
.ret)
.skip))
(.seq
(.region [
⟨0, (some 36), .mv (.t 0), none⟩,
⟨1, (some 37), .mv (.t 5), none⟩,
⟨2, (some 38), .idxA ⟨1, 4⟩ (.t 36) (.t 37), none⟩,
⟨3, (some 39), .load 1 false (.t 38), none⟩,
⟨4, (some 40), .mv (.t 1), none⟩,
⟨5, (some 41), .mv (.t 5), none⟩,
⟨6, (some 42), .idxA ⟨1, 4⟩ (.t 40) (.t 41), none⟩,
⟨7, (some 43), .load 1 false (.t 42), none⟩,
⟨8, (some 44), .bin .gtr (.t 39) (.t 43), none⟩] (some ([], [])) [0, 1, 5, 44])
(.cond (.t 44)
(.seq
(.region [
⟨0, (some 4), .mv (.c (.int .i64 1)), none⟩] none [4])
.ret)
.skip))))
(.region [
⟨0, (some 25), .mv (.t 5), none⟩,
⟨1, (some 26), .bin .sub (.t 25) (.c (.int .i64 1)), none⟩,
⟨2, (some 5), .mv (.t 26), none⟩] none [0, 1, 5])))
def a_limbs_Cmp_l0 : ACode := .loop [0, 1, 5] a_limbs_Cmp_b0
def a_limbs_Cmp : AFun := ⟨2,
(.seq
(.region [
⟨0, (some 4), .mv (.c (.int .i64 0)), none⟩] none [0, 1])
(.seq
(.region [
⟨0, (some 6), .mv (.t 0), none⟩,
⟨1, (some 7), .call f_limbs_short [((.t 6), true)], none⟩,
⟨2, (some 8), .mv (.t 1), none⟩,
⟨3, (some 9), .call f_limbs_short [((.t 8), true)], none⟩,
⟨4, (some 0), .mv (.t 7), none⟩,
⟨5, (some 1), .mv (.t 9), none⟩] none [0, 1])
(.seq
(.seq
(.region [
⟨0, (some 10), .mv (.t 0), none⟩,
⟨1, (some 11), .len false (.t 10), none⟩,
⟨2, (some 12), .mv (.t 1), none⟩,
⟨3, (some 13), .len false (.t 12), none⟩,
⟨4, (some 14), .bin .neq (.t 11) (.t 13), none⟩] none [0, 1, 14])
(.cond (.t 14)
(.seq
(.seq
(.region [
⟨0, (some 15), .mv (.t 0), none⟩,
⟨1, (some 16), .len false (.t 15), none⟩,
⟨2, (some 17), .mv (.t 1), none⟩,
⟨3, (some 18), .len false (.t 17), none⟩,
⟨4, (some 19), .bin .lss (.t 16) (.t 18), none⟩] none [19])
(.cond (.t 19)
(.seq
(.region [
⟨0, (some 4), .mv (.c (.int .i64 (-1))), none⟩] none [4])
.ret)
.skip))
(.seq
(.region [
⟨0, (some 4), .mv (.c (.int .i64 1)), none⟩] none [4])
.ret))
.skip))
(.seq
(.seq
(.region [
⟨0, (some 20), .mv (.t 0), none⟩,
⟨1, (some 21), .len false (.t 20), none⟩,
⟨2, (some 22), .bin .sub (.t 21) (.c (.int .i64 1)), none⟩,
⟨3, (some 5), .mv (.t 22), none⟩] none [0, 1, 5])
(.block 0
 a_limbs_Cmp_l0))
(.seq
(.region [
⟨0, (some 4), .mv (.c (.int .i64 0)), none⟩] none [4])
.ret))))), [(.tmp 4, true)]⟩

/-! rafter/limbs.Bits -/
def a_limbs_Bits : AFun := ⟨1,
(.seq
(.region [
⟨0, (some 2), .mv (.c (.int .i64 0)), none⟩] none [0])
(.seq
(.region [
⟨0, (some 3), .mv (.t 0), none⟩,
⟨1, (some 4), .call f_limbs_short [((.t 3), true)], none⟩,
⟨2, (some 0), .mv (.t 4), none⟩] none [0])
(.seq
(.seq
(.region [
⟨0, (some 5), .mv (.t 0), none⟩,
⟨1, (some 6), .len false (.t 5), none⟩,
⟨2, (some 7), .bin .eql (.t 6) (.c (.int .i64 0)), none⟩] none [0, 7])
(.cond (.t 7)
(.seq
(.region [
⟨0, (some 2), .mv (.c (.int .i64 0)), none⟩] none [2])
.ret)
.skip))
(.seq
(.region [
⟨0, (some 8), .mv (.t 0), none⟩,
⟨1, (some 9), .len false (.t 8), none⟩,
⟨2, (some 10), .bin .sub (.t 9) (.c (.int .i64 1)), none⟩,
⟨3, (some 11), .bin .mul (.c (.int .i64 32)) (.t 10), none⟩,
⟨4, (some 12), .mv (.t 0), none⟩,
⟨5, (some 13), .mv (.t 0), none⟩,
⟨6, (some 14), .len false (.t 13), none⟩,
⟨7, (some 15), .bin .sub (.t 14) (.c (.int .i64 1)), none⟩,
⟨8, (some 16), .idxA ⟨1, 4⟩ (.t 12) (.t 15), none⟩,
⟨9, (some 17), .load 1 false (.t 16), none⟩,
⟨10, (some 18), .call f_bits_Len32 [((.t 17), true)], none⟩,
⟨11, (some 19), .bin .add (.t 11) (.t 18), none⟩,
⟨12, (some 2), .mv (.t 19), none⟩] none [2])
.ret)))), [(.tmp 2, true)]⟩

/-! rafter/lang.read -/
def r_lang_read_pre : ACode :=
(.seq
(.region [
⟨0, (some 6), .alloc (.int .i64 0) [], none⟩,
⟨1, (some 7), .alloc (.agg [.int .i64 0, .int .i64 0, .int .i64 0, .int .i64 0]) [], none⟩] none [0, 1, 2, 6, 7])
(.seq
(.region [
⟨0, (some 11), .mv (.t 0), none⟩,
⟨1, (some 12), .call f_glyph_Scan [((.t 11), true)], none⟩,
⟨2, (some 10), .mv (.t 12), none⟩,
⟨3, (some 13), .extract (.t 10) 0, none⟩,
⟨4, (some 14), .extract (.t 10) 1, none⟩,
⟨5, (some 15), .extract (.t 10) 2, none⟩,
⟨6, (some 8), .mv (.t 13), none⟩,
⟨7, none, .store 1 (.t 6) (.t 14), none⟩,
⟨8, none, .store 4 (.t 7) (.t 15), none⟩] none [1, 2, 6, 7, 8])
(.seq
(.seq
(.region [
⟨0, (some 16), .load 1 false (.t 6), none⟩,
⟨1, (some 17), .bin .neq (.t 16) (.c (.int .i64 0)), none⟩] none [1, 2, 6, 7, 8, 17])
(.cond (.t 17)
(.seq
(.region [
⟨0, (some 18), .load 1 false (.t 6), none⟩,
⟨1, (some 19), .load 4 true (.t 7), none⟩,
⟨2, none, .store 1 (.t 6) (.t 18), none⟩,
⟨3, none, .store 4 (.t 7) (.t 19), none⟩] (some ([(1, 2)], [])) [6, 7])
.ret)
.skip))
.skip)))
def r_lang_read_body : ACode :=
(.seq
(.region [
⟨0, (some 21), .mv (.t 8), none⟩,
⟨1, (some 22), .mv (.t 1), none⟩,
⟨2, (some 23), .mkMap, none⟩,
⟨3, (some 24), .build (.agg [.sl [], .int .i64 0, .sl [], .int .i64 0, .nilm]) [(0, 1, (.t 21)), (2, 1, (.t 22)), (4, 1, (.t 23))] [], none⟩,
⟨4, (some 25), .box 5 (.t 24), none⟩,
⟨5, (some 9), .mv (.t 25), none⟩] none [2, 6, 7, 9])
(.seq
(.region [
⟨0, (some 26), .mv (.t 2), none⟩,
⟨1, (some 27), .mv (.t 9), none⟩,
⟨2, (some 28), .callV (.t 26) [((.t 27), false)], none⟩] none [6, 7, 9])
(.seq
(.region [
⟨0, (some 29), .mv (.t 9), none⟩,
⟨1, (some 30), .mv (.t 9), none⟩,
⟨2, (some 31), .call f_lang_reader_here [((.t 30), false)], none⟩,
⟨3, (some 32), .field 0 1 false (.t 31), none⟩,
⟨4, (some 33), .bin .eql (.t 32) (.c (.int .i64 0)), none⟩,
⟨5, (some 34), .call f_lang_reader_need [((.t 29), false), ((.t 33), true), ((.c (.int .i64 80)), true)], none⟩] none [6, 7])
(.seq
(.region [
⟨0, (some 35), .build (.agg [.int .i64 0, .int .i64 0, .int .i64 0, .int .i64 0]) [] [], none⟩,
⟨1, none, .store 1 (.t 6) (.c (.int .i64 0)), none⟩,
⟨2, none, .store 4 (.t 7) (.t 35), none⟩] none [6, 7])
.ret))))
def r_lang_read_hand : ACode :=
(.seq
(.region [
⟨0, (some 5), .mv (.t 2), none⟩,
⟨1, (some 6), .isN false true (.t 5), none⟩] none [0, 1, 2, 6])
(.cond (.t 6)
(.seq
(.region [
⟨0, (some 7), .mv (.t 2), none⟩,
⟨1, (some 8), .tass t_lang_fault false (.nilp) (.t 7), none⟩,
⟨2, (some 3), .alloc (.agg [.int .i64 0, .int .i64 0, .int .i64 0, .int .i64 0, .int .i64 0]) [], none⟩,
⟨3, none, .store 5 (.t 3) (.t 8), none⟩] none [0, 1, 3])
(.region [
⟨0, (some 9), .fieldA 0 1 false (.t 3), none⟩,
⟨1, (some 10), .load 1 false (.t 9), none⟩,
⟨2, (some 11), .fieldA 1 4 true (.t 3), none⟩,
⟨3, (some 12), .load 4 true (.t 11), none⟩,
⟨4, none, .store 1 (.t 0) (.t 10), none⟩,
⟨5, none, .store 4 (.t 1) (.t 12), none⟩] (some ([(3, 4)], [])) []))
.skip))
def r_lang_read : ARec := ⟨3, r_lang_read_pre, 20, f_lang_read_1, [6, 7], r_lang_read_body, [(.cell 6 1 false, true), (.cell 7 4 true, true)], 2, r_lang_read_hand⟩

/-! rafter/lang.Parse$1 -/
def a_lang_reader_here : AFun := ⟨1,
(.seq
(.region [
⟨0, (some 2), .alloc (.agg [.int .i64 0, .str [], .int .i64 0, .int .i64 0, .int .i64 0, .int .i64 0]) [], none⟩] none [0, 2])
(.seq
(.region [
⟨0, (some 3), .mv (.t 0), none⟩,
⟨1, (some 4), .nilCk (.t 3), none⟩,
⟨2, (some 5), .fieldA 0 1 false (.t 4), none⟩,
⟨3, (some 6), .load 1 false (.t 5), none⟩,
⟨4, (some 7), .mv (.t 0), none⟩,
⟨5, (some 8), .nilCk (.t 7), none⟩,
⟨6, (some 9), .fieldA 1 1 false (.t 8), none⟩,
⟨7, (some 10), .load 1 false (.t 9), none⟩,
⟨8, (some 11), .idxA ⟨6, 56⟩ (.t 6) (.t 10), none⟩,
⟨9, (some 12), .load 6 true (.t 11), none⟩,
⟨10, none, .store 6 (.t 2) (.t 12), none⟩] (some ([], [])) [2])
.ret)), [(.cell 2 6 true, true)]⟩

/-! (*rafter/lang.reader).must -/
def a_lang_reader_must : AFun := ⟨2,
(.region [
⟨0, (some 4), .mv (.t 0), none⟩,
⟨1, (some 5), .mv (.t 0), none⟩,
⟨2, (some 6), .mv (.t 1), none⟩,
⟨3, (some 7), .call f_lang_reader_is [((.t 5), false), ((.t 6), true)], none⟩,
⟨4, (some 8), .call f_lang_reader_need [((.t 4), false), ((.t 7), true), ((.c (.int .i64 80)), true)], none⟩] none []), []⟩

/-! (*rafter/lang.reader).is -/
def a_lang_reader_is : AFun := ⟨2,
(.seq
(.region [
⟨0, (some 4), .mv (.c (.bool false)), none⟩] none [0, 1])
(.seq
(.region [
⟨0, (some 6), .mv (.t 0), none⟩,
⟨1, (some 7), .call f_lang_reader_here [((.t 6), false)], none⟩,
⟨2, (some 5), .alloc (.agg [.int .i64 0, .str [], .int .i64 0, .int .i64 0, .int .i64 0, .int .i64 0]) [], none⟩,
⟨3, none, .store 6 (.t 5) (.t 7), none⟩] none [0, 1, 5])
(.seq
(.seq
(.region [
⟨0, (some 8), .fieldA 1 1 false (.t 5), none⟩,
⟨1, (some 9), .load 1 false (.t 8), none⟩,
⟨2, (some 10), .mv (.t 1), none⟩,
⟨3, (some 11), .bin .neq (.t 9) (.t 10), none⟩,
⟨4, (some 12), .mv (.t 11), none⟩,
⟨5, (some 13), .fieldA 0 1 false (.t 5), (some (12, false))⟩,
⟨6, (some 14), .load 1 false (.t 13), (some (12, false))⟩,
⟨7, (some 15), .bin .neq (.t 14) (.c (.int .i64 3)), (some (12, false))⟩,
⟨8, (some 16), .mv (.t 15), (some (12, false))⟩,
⟨9, (some 17), .fieldA 0 1 false (.t 5), (some (16, true))⟩,
⟨10, (some 18), .load 1 false (.t 17), (some (16, true))⟩,
⟨11, (some 19), .bin .neq (.t 18) (.c (.int .i64 1)), (some (16, true))⟩,
⟨12, (some 20), .pick (.t 16) (.t 19) (.c (.bool false)), (some (12, false))⟩,
⟨13, (some 21), .pick (.t 12) (.c (.bool true)) (.t 20), none⟩] none [0, 21])
(.cond (.t 21)
(.seq
(.region [
⟨0, (some 4), .mv (.c (.bool false)), none⟩] none [4])
.ret)
.skip))
(.seq
(.region [
⟨0, (some 22), .mv (.t 0), none⟩,
⟨1, (some 23), .call f_lang_reader_pass [((.t 22), false)], none⟩] none [])
(.seq
(.region [
⟨0, (some 4), .mv (.c (.bool true)), none⟩] none [4])
.ret))))), [(.tmp 4, true)]⟩

/-! (*rafter/lang.reader).declare -/
def a_rafterlaw00_Small_b0 : ACode :=
(.seq
(.seq
(.region [
⟨0, (some 11), .mv (.t 3), none⟩,
⟨1, (some 12), .bin .gtr (.t 11) (.c (.int .u64 0)), none⟩] none [0, 2, 3, 4, 12])
(.cond (.t 12)
.skip
(.exit 0 [0, 2, 4])))
(.block 1
(.seq
(.region [
⟨0, (some 13), .mv (.t 4), none⟩,
⟨1, (some 14), .mv (.t 3), none⟩,
⟨2, (some 15), .conv (.int .u32) (.t 14), none⟩,
⟨3, (some 16), .buildSl ⟨1, 4⟩ (.int .u32 0) 1 [(0, (.t 15))], none⟩,
⟨4, (some 17), .app ⟨1, 4⟩ (some (.t 13)) (.t 16), none⟩,
⟨5, (some 4), .mv (.t 17), none⟩] none [0, 2, 3, 4])
(.region [
⟨0, (some 18), .mv (.t 3), none⟩,
⟨1, (some 19), .bin .shr (.t 18) (.c (.int .u64 32)), none⟩,
⟨2, (some 3), .mv (.t 19), none⟩] none [0, 2, 3, 4]))))
def a_rafterlaw00_Small_l0 : ACode := .loop [0, 2, 3, 4] a_rafterlaw00_Small_b0
def a_rafterlaw00_Small : AFun := ⟨1,
(.seq
(.region [
⟨0, (some 2), .alloc (.agg [.bool false, .sl []]) [], none⟩] none [0, 2])
(.seq
(.region [
⟨0, (some 5), .mv (.t 0), none⟩,
⟨1, (some 6), .conv (.int .u64) (.t 5), none⟩,
⟨2, (some 3), .mv (.t 6), none⟩] none [0, 2, 3])
(.seq
(.seq
(.region [
⟨0, (some 7), .mv (.t 0), none⟩,
⟨1, (some 8), .bin .lss (.t 7) (.c (.int .i64 0)), none⟩] none [0, 2, 3, 8])
(.cond (.t 8)
(.region [
⟨0, (some 9), .mv (.t 3), none⟩,
⟨1, (some 10), .un .neg (.t 9), none⟩,
⟨2, (some 3), .mv (.t 10), none⟩] none [0, 2, 3])
.skip))
(.seq
(.region [
⟨0, (some 4), .own ⟨1, 4⟩, none⟩] none [0, 2, 3, 4])
(.seq
(.block 0
 a_rafterlaw00_Small_l0)
(.seq
(.region [
⟨0, (some 20), .mv (.t 0), none⟩,
⟨1, (some 21), .bin .lss (.t 20) (.c (.int .i64 0)), none⟩,
⟨2, (some 22), .mv (.t 4), none⟩,
⟨3, (some 23), .build (.agg [.bool false, .sl []]) [(0, 1, (.t 21)), (1, 1, (.t 22))] [], none⟩,
⟨4, none, .store 2 (.t 2) (.t 23), none⟩] none [2])
.ret)))))), [(.cell 2 2 true, true)]⟩

/-! rafter/affine.Names -/
def a_affine_Names_b0 : ACode :=
(.seq
(.region [
⟨0, (some 25), .bin .lss (.t 24) (.t 23), none⟩] none [0, 4, 10, 11, 12, 22, 23, 24, 25])
(.seq
(.cond (.t 25)
.skip
(.exit 2 [0, 10, 11, 12]))
(.seq
(.block 3
(.seq
(.region [
⟨0, (some 26), .idxA ⟨1, 16⟩ (.t 22) (.t 24), none⟩,
⟨1, (some 27), .load 1 false (.t 26), none⟩,
⟨2, (some 6), .mv (.t 27), none⟩] none [0, 4, 6, 10, 11, 12, 22, 23, 24])
(.seq
(.region [
⟨0, (some 28), .mv (.t 4), none⟩,
⟨1, (some 29), .mv (.t 6), none⟩,
⟨2, (some 30), .bin .eql (.t 28) (.t 29), none⟩] none [0, 4, 10, 11, 12, 22, 23, 24, 30])
(.cond (.t 30)
(.seq
(.region [
⟨0, (some 2), .mv (.c (.int .i64 1)), none⟩] none [2])
.ret)
.skip))))
(.region [
⟨0, (some 31), .bin .add (.t 24) (.c (.int .i64 1)), none⟩,
⟨1, (some 24), .mv (.t 31), none⟩] none [0, 4, 10, 11, 12, 22, 23, 24]))))
def a_affine_Names_l0 : ACode := .loop [0, 4, 10, 11, 12, 22, 23, 24] a_affine_Names_b0
def a_affine_Names_b1 : ACode :=
(.seq
(.region [
⟨0, (some 13), .bin .lss (.t 12) (.t 11), none⟩] none [0, 10, 11, 12, 13])
(.seq
(.cond (.t 13)
.skip
(.exit 0 []))
(.seq
(.block 1
(.seq
(.region [
⟨0, (some 14), .mv (.t 12), none⟩,
⟨1, (some 15), .idxA ⟨1, 16⟩ (.t 10) (.t 12), none⟩,
⟨2, (some 16), .load 1 false (.t 15), none⟩,
⟨3, (some 3), .mv (.t 14), none⟩,
⟨4, (some 4), .mv (.t 16), none⟩] none [0, 3, 4, 10, 11, 12])
(.seq
(.seq
(.region [
⟨0, (some 17), .mv (.t 4), none⟩,
⟨1, (some 18), .call f_glyph_Name [((.t 17), true)], none⟩,
⟨2, (some 19), .un .not (.t 18), none⟩] none [0, 3, 4, 10, 11, 12, 19])
(.cond (.t 19)
(.seq
(.region [
⟨0, (some 2), .mv (.c (.int .i64 1)), none⟩] none [2])
.ret)
.skip))
(.seq
(.region [
⟨0, (some 20), .mv (.t 0), none⟩,
⟨1, (some 21), .mv (.t 3), none⟩,
⟨2, (some 22), .slice (some ⟨1, 16⟩) (.t 20) none (some (.t 21)), none⟩,
⟨3, (some 23), .len false (.t 22), none⟩,
⟨4, (some 24), .mv (.c (.int .i64 0)), none⟩] none [0, 4, 10, 11, 12, 22, 23, 24])
(.block 2
 a_affine_Names_l0)))))
(.region [
⟨0, (some 32), .bin .add (.t 12) (.c (.int .i64 1)), none⟩,
⟨1, (some 12), .mv (.t 32), none⟩] none [0, 10, 11, 12]))))
def a_affine_Names_l1 : ACode := .loop [0, 10, 11, 12] a_affine_Names_b1
def a_affine_Names : AFun := ⟨1,
(.seq
(.region [
⟨0, (some 2), .mv (.c (.int .i64 0)), none⟩] none [0])
(.seq
(.seq
(.region [
⟨0, (some 7), .mv (.t 0), none⟩,
⟨1, (some 8), .len false (.t 7), none⟩,
⟨2, (some 9), .bin .gtr (.t 8) (.c (.int .i64 16)), none⟩] none [0, 9])
(.cond (.t 9)
(.seq
(.region [
⟨0, (some 2), .mv (.c (.int .i64 1)), none⟩] none [2])
.ret)
.skip))
(.seq
(.seq
(.region [
⟨0, (some 10), .mv (.t 0), none⟩,
⟨1, (some 11), .len false (.t 10), none⟩,
⟨2, (some 12), .mv (.c (.int .i64 0)), none⟩] none [0, 10, 11, 12])
(.block 0
 a_affine_Names_l1))
(.seq
(.region [
⟨0, (some 2), .mv (.c (.int .i64 0)), none⟩] none [2])
.ret)))), [(.tmp 2, true)]⟩

/-! rafter/lang.ReadExpr$1 -/
def a_lang_ReadExpr_1 : AFun := ⟨2,
(.region [
⟨0, (some 3), .mv (.t 0), none⟩,
⟨1, (some 4), .call f_lang_reader_sum [((.t 3), false)], none⟩,
⟨2, none, .store 1 (.t 1) (.t 4), none⟩] none []), []⟩

/-! (*rafter/lang.reader).sum -/
def a_lang_reader_sum_b0 : ACode :=
(.block 1
(.block 2
(.seq
(.region [
⟨0, (some 8), .mv (.t 0), none⟩,
⟨1, (some 9), .call f_lang_reader_is [((.t 8), false), ((.c (.str [43])), true)], none⟩,
⟨2, (some 7), .mv (.t 9), none⟩] none [0, 3, 7])
(.cond (.t 7)
(.region [
⟨0, (some 10), .mv (.t 3), none⟩,
⟨1, (some 11), .mv (.t 0), none⟩,
⟨2, (some 12), .call f_lang_reader_product [((.t 11), false)], none⟩,
⟨3, (some 13), .build (.agg [.int .u8 0, .nili, .nili]) [(0, 1, (.c (.int .u8 43))), (1, 1, (.t 10)), (2, 1, (.t 12))] [], none⟩,
⟨4, (some 14), .mkI t_lang_Two (.t 13), none⟩,
⟨5, (some 3), .mv (.t 14), none⟩] none [0, 3])
(.seq
(.region [
⟨0, (some 16), .mv (.t 0), none⟩,
⟨1, (some 17), .call f_lang_reader_is [((.t 16), false), ((.c (.str [45])), true)], none⟩,
⟨2, (some 15), .mv (.t 17), none⟩] none [0, 3, 15])
(.cond (.t 15)
(.region [
⟨0, (some 18), .mv (.t 3), none⟩,
⟨1, (some 19), .mv (.t 0), none⟩,
⟨2, (some 20), .call f_lang_reader_product [((.t 19), false)], none⟩,
⟨3, (some 21), .build (.agg [.int .u8 0, .nili, .nili]) [(0, 1, (.c (.int .u8 45))), (1, 1, (.t 18)), (2, 1, (.t 20))] [], none⟩,
⟨4, (some 22), .mkI t_lang_Two (.t 21), none⟩,
⟨5, (some 3), .mv (.t 22), none⟩] none [0, 3])
(.seq
(.region [
⟨0, (some 6), .mv (.t 3), none⟩,
⟨1, (some 2), .mv (.t 6), none⟩] none [2])
.ret)))))))
def a_lang_reader_sum_l0 : ACode := .loop [0, 3] a_lang_reader_sum_b0
def a_lang_reader_sum : AFun := ⟨1,
(.seq
(.region [
⟨0, (some 2), .mv (.c (.nili)), none⟩] none [0])
(.seq
(.region [
⟨0, (some 4), .mv (.t 0), none⟩,
⟨1, (some 5), .call f_lang_reader_product [((.t 4), false)], none⟩,
⟨2, (some 3), .mv (.t 5), none⟩] none [0, 3])
(.block 0
 a_lang_reader_sum_l0))), [(.tmp 2, true)]⟩

/-! rafter/lang.write -/
def a_lang_write : AFun := ⟨2,
(.seq
(.region [
⟨0, (some 8), .mv (.t 1), none⟩] none [0, 8])
(.block 0
(.seq
(.region [
⟨0, (some 9), .tass t_lang_Number true (.agg [.bool false, .sl []]) (.t 8), none⟩,
⟨1, (some 10), .extract (.t 9) 1, none⟩,
⟨2, (some 11), .extract (.t 9) 0, none⟩] none [0, 8, 10, 11])
(.cond (.t 10)
(.seq
(.region [
⟨0, (some 4), .alloc (.agg [.bool false, .sl []]) [], none⟩,
⟨1, none, .store 2 (.t 4) (.t 11), none⟩] none [0, 4])
(.region [
⟨0, (some 12), .mv (.t 0), none⟩,
⟨1, (some 13), .fieldA 0 2 true (.t 4), none⟩,
⟨2, (some 14), .load 2 true (.t 13), none⟩,
⟨3, (some 15), .call f_whole_Text [((.t 14), true)], none⟩,
⟨4, (some 16), .call f_strings_Builder_WriteString [((.t 12), false), ((.t 15), true)], none⟩] none []))
(.seq
(.region [
⟨0, (some 17), .tass t_lang_Name true (.agg [.int .i64 0, .str []]) (.t 8), none⟩,
⟨1, (some 18), .extract (.t 17) 1, none⟩,
⟨2, (some 19), .extract (.t 17) 0, none⟩] none [0, 8, 18, 19])
(.cond (.t 18)
(.seq
(.region [
⟨0, (some 5), .alloc (.agg [.int .i64 0, .str []]) [], none⟩,
⟨1, none, .store 2 (.t 5) (.t 19), none⟩] none [0, 5])
(.region [
⟨0, (some 20), .mv (.t 0), none⟩,
⟨1, (some 21), .fieldA 1 1 false (.t 5), none⟩,
⟨2, (some 22), .load 1 false (.t 21), none⟩,
⟨3, (some 23), .call f_strings_Builder_WriteString [((.t 20), false), ((.t 22), true)], none⟩] none []))
(.seq
(.region [
⟨0, (some 24), .tass t_lang_Minus true (.agg [.nili]) (.t 8), none⟩,
⟨1, (some 25), .extract (.t 24) 1, none⟩,
⟨2, (some 26), .extract (.t 24) 0, none⟩] none [0, 8, 25, 26])
(.cond (.t 25)
(.seq
(.region [
⟨0, (some 6), .alloc (.agg [.nili]) [], none⟩,
⟨1, none, .store 1 (.t 6) (.t 26), none⟩] none [0, 6])
(.seq
(.region [
⟨0, (some 27), .mv (.t 0), none⟩,
⟨1, (some 28), .call f_strings_Builder_WriteByte [((.t 27), false), ((.c (.int .u8 45)), true)], none⟩] none [0, 6])
(.region [
⟨0, (some 29), .mv (.t 0), none⟩,
⟨1, (some 30), .fieldA 0 1 false (.t 6), none⟩,
⟨2, (some 31), .load 1 false (.t 30), none⟩,
⟨3, (some 32), .fieldA 0 1 false (.t 6), none⟩,
⟨4, (some 33), .load 1 false (.t 32), none⟩,
⟨5, (some 34), .call f_lang_single [((.t 33), true)], none⟩,
⟨6, (some 35), .un .not (.t 34), none⟩,
⟨7, (some 36), .call f_lang_part [((.t 29), false), ((.t 31), true), ((.t 35), true)], none⟩] (some ([(2, 5)], [5, 7])) [])))
(.seq
(.region [
⟨0, (some 37), .tass t_lang_Two true (.agg [.int .u8 0, .nili, .nili]) (.t 8), none⟩,
⟨1, (some 38), .extract (.t 37) 1, none⟩,
⟨2, (some 39), .extract (.t 37) 0, none⟩] none [0, 38, 39])
(.cond (.t 38)
(.seq
(.region [
⟨0, (some 7), .alloc (.agg [.int .u8 0, .nili, .nili]) [], none⟩,
⟨1, none, .store 3 (.t 7) (.t 39), none⟩] none [0, 7])
(.seq
(.region [
⟨0, (some 40), .mv (.t 0), none⟩,
⟨1, (some 41), .fieldA 1 1 false (.t 7), none⟩,
⟨2, (some 42), .load 1 false (.t 41), none⟩,
⟨3, (some 43), .fieldA 0 1 false (.t 7), none⟩,
⟨4, (some 44), .load 1 false (.t 43), none⟩,
⟨5, (some 45), .call f_lang_sum [((.t 44), true)], none⟩,
⟨6, (some 46), .un .not (.t 45), none⟩,
⟨7, (some 47), .mv (.t 46), none⟩,
⟨8, (some 48), .fieldA 1 1 false (.t 7), (some (47, true))⟩,
⟨9, (some 49), .load 1 false (.t 48), (some (47, true))⟩,
⟨10, (some 50), .call f_lang_adds [((.t 49), true)], (some (47, true))⟩,
⟨11, (some 51), .pick (.t 47) (.t 50) (.c (.bool false)), none⟩,
⟨12, (some 52), .call f_lang_part [((.t 40), false), ((.t 42), true), ((.t 51), true)], none⟩] (some ([(2, 5), (2, 10)], [5, 10, 12])) [0, 7])
(.seq
(.region [
⟨0, (some 53), .mv (.t 0), none⟩,
⟨1, (some 54), .fieldA 0 1 false (.t 7), none⟩,
⟨2, (some 55), .load 1 false (.t 54), none⟩,
⟨3, (some 56), .conv (.int .i32) (.t 55), none⟩,
⟨4, (some 57), .conv .rune (.t 56), none⟩,
⟨5, (some 58), .bin .add (.c (.str [32])) (.t 57), none⟩,
⟨6, (some 59), .bin .add (.t 58) (.c (.str [32])), none⟩,
⟨7, (some 60), .call f_strings_Builder_WriteString [((.t 53), false), ((.t 59), true)], none⟩] none [0, 7])
(.region [
⟨0, (some 61), .mv (.t 0), none⟩,
⟨1, (some 62), .fieldA 2 1 false (.t 7), none⟩,
⟨2, (some 63), .load 1 false (.t 62), none⟩,
⟨3, (some 64), .fieldA 0 1 false (.t 7), none⟩,
⟨4, (some 65), .load 1 false (.t 64), none⟩,
⟨5, (some 66), .call f_lang_sum [((.t 65), true)], none⟩,
⟨6, (some 67), .mv (.t 66), none⟩,
⟨7, (some 68), .fieldA 2 1 false (.t 7), (some (67, true))⟩,
⟨8, (some 69), .load 1 false (.t 68), (some (67, true))⟩,
⟨9, (some 70), .call f_lang_adds [((.t 69), true)], (some (67, true))⟩,
⟨10, (some 71), .pick (.t 67) (.t 70) (.c (.bool false)), none⟩,
⟨11, (some 72), .mv (.t 71), none⟩,
⟨12, (some 73), .fieldA 0 1 false (.t 7), (some (72, false))⟩,
⟨13, (some 74), .load 1 false (.t 73), (some (72, false))⟩,
⟨14, (some 75), .call f_lang_sum [((.t 74), true)], (some (72, false))⟩,
⟨15, (some 76), .un .not (.t 75), (some (72, false))⟩,
⟨16, (some 77), .mv (.t 76), (some (72, false))⟩,
⟨17, (some 78), .fieldA 2 1 false (.t 7), (some (77, true))⟩,
⟨18, (some 79), .load 1 false (.t 78), (some (77, true))⟩,
⟨19, (some 80), .call f_lang_single [((.t 79), true)], (some (77, true))⟩,
⟨20, (some 81), .un .not (.t 80), (some (77, true))⟩,
⟨21, (some 82), .pick (.t 77) (.t 81) (.c (.bool false)), (some (72, false))⟩,
⟨22, (some 83), .pick (.t 72) (.c (.bool true)) (.t 82), none⟩,
⟨23, (some 84), .call f_lang_part [((.t 61), false), ((.t 63), true), ((.t 83), true)], none⟩] (some ([(2, 5), (2, 9), (2, 14), (2, 19)], [5, 9, 14, 19, 23])) []))))
.skip)))))))))), []⟩

/-! rafter/whole.Trim -/
def a_whole_Trim : AFun := ⟨1,
(.seq
(.region [
⟨0, (some 1), .box 2 (.t 0), none⟩,
⟨1, (some 2), .alloc (.agg [.bool false, .sl []]) [], none⟩] none [1, 2])
(.seq
(.region [
⟨0, (some 3), .fieldA 0 1 false (.t 1), none⟩,
⟨1, (some 4), .load 1 false (.t 3), none⟩,
⟨2, (some 5), .fieldA 1 1 false (.t 1), none⟩,
⟨3, (some 6), .load 1 false (.t 5), none⟩,
⟨4, (some 7), .call f_limbs_Trim [((.t 6), true)], none⟩,
⟨5, (some 8), .call f_whole_made [((.t 4), true), ((.t 7), true)], none⟩,
⟨6, none, .store 2 (.t 2) (.t 8), none⟩] (some ([(1, 4)], [4, 5])) [2])
.ret)), [(.cell 2 2 true, true)]⟩

/-! rafter/guard.times -/
def a_guard_times_b0 : ACode :=
(.seq
(.region [
⟨0, (some 11), .bin .lss (.t 10) (.t 9), none⟩] none [3, 5, 8, 9, 10, 11])
(.seq
(.cond (.t 11)
.skip
(.exit 0 [5]))
(.seq
(.block 1
(.seq
(.region [
⟨0, (some 12), .idxA ⟨2, 32⟩ (.t 8) (.t 10), none⟩,
⟨1, (some 13), .load 2 true (.t 12), none⟩,
⟨2, (some 7), .alloc (.agg [.bool false, .sl []]) [], none⟩,
⟨3, none, .store 2 (.t 7) (.t 13), none⟩] none [3, 5, 7, 8, 9, 10])
(.region [
⟨0, (some 14), .mv (.t 5), none⟩,
⟨1, (some 15), .load 2 true (.t 7), none⟩,
⟨2, (some 16), .load 2 true (.t 3), none⟩,
⟨3, (some 17), .call f_whole_Mul [((.t 15), true), ((.t 16), true)], none⟩,
⟨4, (some 18), .buildSl ⟨2, 32⟩ (.agg [.bool false, .sl []]) 1 [(0, (.t 17))], none⟩,
⟨5, (some 19), .app ⟨2, 32⟩ (some (.t 14)) (.t 18), none⟩,
⟨6, (some 5), .mv (.t 19), none⟩] none [3, 5, 8, 9, 10])))
(.region [
⟨0, (some 20), .bin .add (.t 10) (.c (.int .i64 1)), none⟩,
⟨1, (some 10), .mv (.t 20), none⟩] none [3, 5, 8, 9, 10]))))
def a_guard_times_l0 : ACode := .loop [3, 5, 8, 9, 10] a_guard_times_b0
def a_guard_times : AFun := ⟨2,
(.seq
(.region [
⟨0, (some 3), .box 2 (.t 1), none⟩,
⟨1, (some 4), .mv (.c (.sl [])), none⟩] none [0, 3])
(.seq
(.region [
⟨0, (some 5), .own ⟨2, 32⟩, none⟩] none [0, 3, 5])
(.seq
(.seq
(.region [
⟨0, (some 8), .mv (.t 0), none⟩,
⟨1, (some 9), .len false (.t 8), none⟩,
⟨2, (some 10), .mv (.c (.int .i64 0)), none⟩] none [3, 5, 8, 9, 10])
(.block 0
 a_guard_times_l0))
(.seq
(.region [
⟨0, (some 21), .mv (.t 5), none⟩,
⟨1, (some 4), .mv (.t 21), none⟩] none [4])
.ret)))), [(.tmp 4, true)]⟩

/-! rafter/guard.both -/
def a_guard_both_b0 : ACode :=
(.seq
(.region [
⟨0, (some 43), .bin .lss (.t 42) (.t 41), none⟩] none [1, 2, 12, 41, 42, 43])
(.seq
(.cond (.t 43)
.skip
(.exit 1 [12]))
(.seq
(.block 2
(.seq
(.region [
⟨0, (some 44), .mv (.t 42), none⟩,
⟨1, (some 13), .mv (.t 44), none⟩] none [1, 2, 12, 13, 41, 42])
(.region [
⟨0, (some 45), .mv (.t 12), none⟩,
⟨1, (some 46), .mv (.t 13), none⟩,
⟨2, (some 47), .mv (.t 1), none⟩,
⟨3, (some 48), .mv (.t 13), none⟩,
⟨4, (some 49), .idxA ⟨2, 32⟩ (.t 47) (.t 48), none⟩,
⟨5, (some 50), .load 2 true (.t 49), none⟩,
⟨6, (some 51), .mv (.t 2), none⟩,
⟨7, (some 52), .mv (.t 13), none⟩,
⟨8, (some 53), .idxA ⟨2, 32⟩ (.t 51) (.t 52), none⟩,
⟨9, (some 54), .load 2 true (.t 53), none⟩,
⟨10, (some 55), .call f_whole_Add [((.t 50), true), ((.t 54), true)], none⟩,
⟨11, (some 56), .idxA ⟨2, 32⟩ (.t 45) (.t 46), none⟩,
⟨12, none, .store 2 (.t 56) (.t 55), none⟩] (some ([], [10])) [1, 2, 12, 41, 42])))
(.region [
⟨0, (some 57), .bin .add (.t 42) (.c (.int .i64 1)), none⟩,
⟨1, (some 42), .mv (.t 57), none⟩] none [1, 2, 12, 41, 42]))))
def a_guard_both_l0 : ACode := .loop [1, 2, 12, 41, 42] a_guard_both_b0
def a_guard_both : AFun := ⟨3,
(.seq
(.region [
⟨0, (some 6), .mv (.c (.sl [])), none⟩,
⟨1, (some 7), .mv (.c (.bool false)), none⟩] none [0, 1, 2])
(.seq
(.region [
⟨0, (some 19), .mv (.t 1), none⟩,
⟨1, (some 20), .call f_guard_constant [((.t 19), true)], none⟩,
⟨2, (some 18), .mv (.t 20), none⟩,
⟨3, (some 21), .extract (.t 18) 0, none⟩,
⟨4, (some 22), .extract (.t 18) 1, none⟩,
⟨5, (some 8), .alloc (.agg [.bool false, .sl []]) [], none⟩,
⟨6, none, .store 2 (.t 8) (.t 21), none⟩,
⟨7, (some 9), .mv (.t 22), none⟩] none [0, 1, 2, 8, 9])
(.seq
(.region [
⟨0, (some 24), .mv (.t 2), none⟩,
⟨1, (some 25), .call f_guard_constant [((.t 24), true)], none⟩,
⟨2, (some 23), .mv (.t 25), none⟩,
⟨3, (some 26), .extract (.t 23) 0, none⟩,
⟨4, (some 27), .extract (.t 23) 1, none⟩,
⟨5, (some 10), .alloc (.agg [.bool false, .sl []]) [], none⟩,
⟨6, none, .store 2 (.t 10) (.t 26), none⟩,
⟨7, (some 11), .mv (.t 27), none⟩] none [0, 1, 2, 8, 9, 10, 11])
(.seq
(.seq
(.region [
⟨0, (some 28), .mv (.t 0), none⟩] none [0, 1, 2, 8, 9, 10, 11, 28])
(.block 0
(.seq
(.seq
(.region [
⟨0, (some 30), .bin .eql (.t 28) (.c (.int .u8 43)), none⟩,
⟨1, (some 29), .mv (.t 30), none⟩] none [0, 1, 2, 8, 9, 10, 11, 28, 29])
(.cond (.t 29)
.skip
(.region [
⟨0, (some 31), .bin .eql (.t 28) (.c (.int .u8 45)), none⟩,
⟨1, (some 29), .mv (.t 31), none⟩] none [0, 1, 2, 8, 9, 10, 11, 28, 29])))
(.cond (.t 29)
(.seq
(.seq
(.region [
⟨0, (some 32), .mv (.t 0), none⟩,
⟨1, (some 33), .bin .eql (.t 32) (.c (.int .u8 45)), none⟩] none [1, 2, 33])
(.cond (.t 33)
(.region [
⟨0, (some 34), .mv (.t 2), none⟩,
⟨1, (some 35), .call f_whole_Of [((.c (.int .i64 (-1))), true)], none⟩,
⟨2, (some 36), .call f_guard_times [((.t 34), true), ((.t 35), true)], none⟩,
⟨3, (some 2), .mv (.t 36), none⟩] none [1, 2])
.skip))
(.seq
(.region [
⟨0, (some 37), .mv (.t 1), none⟩,
⟨1, (some 38), .len false (.t 37), none⟩,
⟨2, (some 39), .mkSl ⟨2, 32⟩ (.agg [.bool false, .sl []]) (.t 38) (.t 38), none⟩,
⟨3, (some 12), .mv (.t 39), none⟩] none [1, 2, 12])
(.seq
(.seq
(.region [
⟨0, (some 40), .mv (.t 1), none⟩,
⟨1, (some 41), .len false (.t 40), none⟩,
⟨2, (some 42), .mv (.c (.int .i64 0)), none⟩] none [1, 2, 12, 41, 42])
(.block 1
 a_guard_both_l0))
(.seq
(.region [
⟨0, (some 58), .mv (.t 12), none⟩,
⟨1, (some 6), .mv (.t 58), none⟩,
⟨2, (some 7), .mv (.c (.bool true)), none⟩] none [6, 7])
.ret))))
(.seq
(.region [
⟨0, (some 60), .bin .eql (.t 28) (.c (.int .u8 42)), none⟩,
⟨1, (some 59), .mv (.t 60), none⟩] none [0, 1, 2, 8, 9, 10, 11, 59])
(.cond (.t 59)
(.seq
(.seq
(.region [
⟨0, (some 61), .mv (.t 9), none⟩] none [1, 2, 8, 10, 11, 61])
(.cond (.t 61)
(.seq
(.region [
⟨0, (some 62), .mv (.t 2), none⟩,
⟨1, (some 63), .load 2 true (.t 8), none⟩,
⟨2, (some 64), .call f_guard_times [((.t 62), true), ((.t 63), true)], none⟩,
⟨3, (some 6), .mv (.t 64), none⟩,
⟨4, (some 7), .mv (.c (.bool true)), none⟩] none [6, 7])
.ret)
.skip))
(.seq
(.region [
⟨0, (some 65), .mv (.t 1), none⟩,
⟨1, (some 66), .load 2 true (.t 10), none⟩,
⟨2, (some 67), .call f_guard_times [((.t 65), true), ((.t 66), true)], none⟩,
⟨3, (some 68), .mv (.t 11), none⟩,
⟨4, (some 6), .mv (.t 67), none⟩,
⟨5, (some 7), .mv (.t 68), none⟩] none [6, 7])
.ret))
.skip))))))
(.seq
(.region [
⟨0, (some 70), .load 2 true (.t 8), none⟩,
⟨1, (some 71), .load 2 true (.t 10), none⟩,
⟨2, (some 72), .call f_whole_DivMod [((.t 70), true), ((.t 71), true)], none⟩,
⟨3, (some 69), .mv (.t 72), none⟩,
⟨4, (some 73), .extract (.t 69) 0, none⟩,
⟨5, (some 74), .extract (.t 69) 1, none⟩,
⟨6, (some 75), .extract (.t 69) 2, none⟩,
⟨7, (some 14), .alloc (.agg [.bool false, .sl []]) [], none⟩,
⟨8, (some 15), .alloc (.agg [.bool false, .sl []]) [], none⟩,
⟨9, none, .store 2 (.t 14) (.t 73), none⟩,
⟨10, none, .store 2 (.t 15) (.t 74), none⟩,
⟨11, (some 16), .mv (.t 75), none⟩] none [0, 1, 9, 11, 14, 15, 16])
(.seq
(.seq
(.region [
⟨0, (some 76), .mv (.t 9), none⟩,
⟨1, (some 77), .un .not (.t 76), none⟩,
⟨2, (some 78), .mv (.t 77), none⟩,
⟨3, (some 79), .mv (.t 11), (some (78, false))⟩,
⟨4, (some 80), .un .not (.t 79), (some (78, false))⟩,
⟨5, (some 81), .pick (.t 78) (.c (.bool true)) (.t 80), none⟩,
⟨6, (some 82), .mv (.t 81), none⟩,
⟨7, (some 83), .mv (.t 16), (some (82, false))⟩,
⟨8, (some 84), .un .not (.t 83), (some (82, false))⟩,
⟨9, (some 85), .pick (.t 82) (.c (.bool true)) (.t 84), none⟩] none [0, 1, 14, 15, 85])
(.cond (.t 85)
(.seq
(.region [
⟨0, (some 6), .mv (.c (.sl [])), none⟩,
⟨1, (some 7), .mv (.c (.bool false)), none⟩] none [6, 7])
.ret)
.skip))
(.seq
(.region [
⟨0, (some 86), .mv (.t 1), none⟩,
⟨1, (some 87), .len false (.t 86), none⟩,
⟨2, (some 88), .mkSl ⟨2, 32⟩ (.agg [.bool false, .sl []]) (.t 87) (.t 87), none⟩,
⟨3, (some 17), .mv (.t 88), none⟩] none [0, 1, 14, 15, 17])
(.seq
(.region [
⟨0, (some 89), .mv (.t 17), none⟩,
⟨1, (some 90), .mv (.t 1), none⟩,
⟨2, (some 91), .len false (.t 90), none⟩,
⟨3, (some 92), .bin .sub (.t 91) (.c (.int .i64 1)), none⟩,
⟨4, (some 93), .load 2 true (.t 14), none⟩,
⟨5, (some 94), .idxA ⟨2, 32⟩ (.t 89) (.t 92), none⟩,
⟨6, none, .store 2 (.t 94) (.t 93), none⟩] none [0, 1, 15, 17])
(.seq
(.seq
(.region [
⟨0, (some 95), .mv (.t 0), none⟩,
⟨1, (some 96), .bin .eql (.t 95) (.c (.int .u8 37)), none⟩] none [1, 15, 17, 96])
(.cond (.t 96)
(.region [
⟨0, (some 97), .mv (.t 17), none⟩,
⟨1, (some 98), .mv (.t 1), none⟩,
⟨2, (some 99), .len false (.t 98), none⟩,
⟨3, (some 100), .bin .sub (.t 99) (.c (.int .i64 1)), none⟩,
⟨4, (some 101), .load 2 true (.t 15), none⟩,
⟨5, (some 102), .idxA ⟨2, 32⟩ (.t 97) (.t 100), none⟩,
⟨6, none, .store 2 (.t 102) (.t 101), none⟩] none [17])
.skip))
(.seq
(.region [
⟨0, (some 103), .mv (.t 17), none⟩,
⟨1, (some 6), .mv (.t 103), none⟩,
⟨2, (some 7), .mv (.c (.bool true)), none⟩] none [6, 7])
.ret)))))))))), [(.tmp 6, true), (.tmp 7, true)]⟩

/-! rafter/limbs.short -/
def a_limbs_short_b0 : ACode :=
(.seq
(.seq
(.region [
⟨0, (some 6), .mv (.t 3), none⟩,
⟨1, (some 7), .bin .gtr (.t 6) (.c (.int .i64 0)), none⟩,
⟨2, (some 8), .mv (.t 7), none⟩,
⟨3, (some 9), .mv (.t 0), (some (8, true))⟩,
⟨4, (some 10), .mv (.t 3), (some (8, true))⟩,
⟨5, (some 11), .bin .sub (.t 10) (.c (.int .i64 1)), (some (8, true))⟩,
⟨6, (some 12), .idxA ⟨1, 4⟩ (.t 9) (.t 11), (some (8, true))⟩,
⟨7, (some 13), .load 1 false (.t 12), (some (8, true))⟩,
⟨8, (some 14), .bin .eql (.t 13) (.c (.int .u32 0)), (some (8, true))⟩,
⟨9, (some 15), .pick (.t 8) (.t 14) (.c (.bool false)), none⟩] none [0, 3, 15])
(.cond (.t 15)
.skip
(.exit 0 [0, 3])))
(.block 1
(.region [
⟨0, (some 16), .mv (.t 3), none⟩,
⟨1, (some 17), .bin .sub (.t 16) (.c (.int .i64 1)), none⟩,
⟨2, (some 3), .mv (.t 17), none⟩] none [0, 3])))
def a_limbs_short_l0 : ACode := .loop [0, 3] a_limbs_short_b0
def a_limbs_short : AFun := ⟨1,
(.seq
(.region [
⟨0, (some 2), .mv (.c (.sl [])), none⟩] none [0])
(.seq
(.region [
⟨0, (some 4), .mv (.t 0), none⟩,
⟨1, (some 5), .len false (.t 4), none⟩,
⟨2, (some 3), .mv (.t 5), none⟩] none [0, 3])
(.seq
(.block 0
 a_limbs_short_l0)
(.seq
(.region [
⟨0, (some 18), .mv (.t 0), none⟩,
⟨1, (some 19), .mv (.t 3), none⟩,
⟨2, (some 20), .slice (some ⟨1, 4⟩) (.t 18) none (some (.t 19)), none⟩,
⟨3, (some 2), .mv (.t 20), none⟩] none [2])
.ret)))), [(.tmp 2, true)]⟩

/-! rafter/limbs.byLimb -/
def a_limbs_byLimb_b0 : ACode :=
(.seq
(.seq
(.region [
⟨0, (some 15), .mv (.t 8), none⟩,
⟨1, (some 16), .bin .geq (.t 15) (.c (.int .i64 0)), none⟩] none [0, 1, 6, 7, 8, 16])
(.cond (.t 16)
.skip
(.exit 0 [6, 7])))
(.seq
(.block 1
(.seq
(.region [
⟨0, (some 19), .mv (.t 7), none⟩,
⟨1, (some 20), .bin .shl (.t 19) (.c (.int .u64 32)), none⟩,
⟨2, (some 21), .mv (.t 0), none⟩,
⟨3, (some 22), .mv (.t 8), none⟩,
⟨4, (some 23), .idxA ⟨1, 4⟩ (.t 21) (.t 22), none⟩,
⟨5, (some 24), .load 1 false (.t 23), none⟩,
⟨6, (some 25), .conv (.int .u64) (.t 24), none⟩,
⟨7, (some 26), .bin .or (.t 20) (.t 25), none⟩,
⟨8, (some 7), .mv (.t 26), none⟩] none [0, 1, 6, 7, 8])
(.seq
(.region [
⟨0, (some 27), .mv (.t 6), none⟩,
⟨1, (some 28), .mv (.t 8), none⟩,
⟨2, (some 29), .mv (.t 7), none⟩,
⟨3, (some 30), .mv (.t 1), none⟩,
⟨4, (some 31), .conv (.int .u64) (.t 30), none⟩,
⟨5, (some 32), .bin .quo (.t 29) (.t 31), none⟩,
⟨6, (some 33), .conv (.int .u32) (.t 32), none⟩,
⟨7, (some 34), .idxA ⟨1, 4⟩ (.t 27) (.t 28), none⟩,
⟨8, none, .store 1 (.t 34) (.t 33), none⟩] none [0, 1, 6, 7, 8])
(.region [
⟨0, (some 35), .mv (.t 7), none⟩,
⟨1, (some 36), .mv (.t 1), none⟩,
⟨2, (some 37), .conv (.int .u64) (.t 36), none⟩,
⟨3, (some 38), .bin .rem (.t 35) (.t 37), none⟩,
⟨4, (some 7), .mv (.t 38), none⟩] none [0, 1, 6, 7, 8]))))
(.region [
⟨0, (some 17), .mv (.t 8), none⟩,
⟨1, (some 18), .bin .sub (.t 17) (.c (.int .i64 1)), none⟩,
⟨2, (some 8), .mv (.t 18), none⟩] none [0, 1, 6, 7, 8])))
def a_limbs_byLimb_l0 : ACode := .loop [0, 1, 6, 7, 8] a_limbs_byLimb_b0
def a_limbs_byLimb : AFun := ⟨2,
(.seq
(.region [
⟨0, (some 4), .mv (.c (.sl [])), none⟩,
⟨1, (some 5), .mv (.c (.int .u32 0)), none⟩] none [0, 1])
(.seq
(.region [
⟨0, (some 9), .mv (.t 0), none⟩,
⟨1, (some 10), .len false (.t 9), none⟩,
⟨2, (some 11), .mkSl ⟨1, 4⟩ (.int .u32 0) (.t 10) (.t 10), none⟩,
⟨3, (some 6), .mv (.t 11), none⟩] none [0, 1, 6])
(.seq
(.region [
⟨0, (some 7), .mv (.c (.int .u64 0)), none⟩] none [0, 1, 6, 7])
(.seq
(.seq
(.region [
⟨0, (some 12), .mv (.t 0), none⟩,
⟨1, (some 13), .len false (.t 12), none⟩,
⟨2, (some 14), .bin .sub (.t 13) (.c (.int .i64 1)), none⟩,
⟨3, (some 8), .mv (.t 14), none⟩] none [0, 1, 6, 7, 8])
(.block 0
 a_limbs_byLimb_l0))
(.seq
(.region [
⟨0, (some 39), .mv (.t 6), none⟩,
⟨1, (some 40), .call f_limbs_short [((.t 39), true)], none⟩,
⟨2, (some 41), .mv (.t 7), none⟩,
⟨3, (some 42), .conv (.int .u32) (.t 41), none⟩,
⟨4, (some 4), .mv (.t 40), none⟩,
⟨5, (some 5), .mv (.t 42), none⟩] none [4, 5])
.ret))))), [(.tmp 4, true), (.tmp 5, true)]⟩

/-! rafter/lang.ReadCond$1 -/
def a_lang_ReadCond_1 : AFun := ⟨2,
(.region [
⟨0, (some 3), .mv (.t 0), none⟩,
⟨1, (some 4), .call f_lang_reader_cond [((.t 3), false)], none⟩,
⟨2, none, .store 3 (.t 1) (.t 4), none⟩] none []), []⟩

/-! (*rafter/lang.reader).cond -/
def a_lang_reader_cond : AFun := ⟨1,
(.seq
(.region [
⟨0, (some 2), .alloc (.agg [.nili, .nili, .bool false]) [], none⟩] none [0, 2])
(.seq
(.region [
⟨0, (some 5), .mv (.t 0), none⟩,
⟨1, (some 6), .call f_lang_reader_sum [((.t 5), false)], none⟩,
⟨2, (some 3), .mv (.t 6), none⟩] none [0, 2, 3])
(.seq
(.region [
⟨0, (some 7), .mv (.t 0), none⟩,
⟨1, (some 8), .call f_lang_reader_is [((.t 7), false), ((.c (.str [61])), true)], none⟩,
⟨2, (some 4), .mv (.t 8), none⟩] none [0, 2, 3, 4])
(.seq
(.seq
(.region [
⟨0, (some 9), .mv (.t 4), none⟩,
⟨1, (some 10), .un .not (.t 9), none⟩] none [0, 2, 3, 4, 10])
(.cond (.t 10)
(.region [
⟨0, (some 11), .mv (.t 0), none⟩,
⟨1, (some 12), .call f_lang_reader_must [((.t 11), false), ((.c (.str [33, 61])), true)], none⟩] none [0, 2, 3, 4])
.skip))
(.seq
(.region [
⟨0, (some 13), .mv (.t 3), none⟩,
⟨1, (some 14), .mv (.t 0), none⟩,
⟨2, (some 15), .call f_lang_reader_sum [((.t 14), false)], none⟩,
⟨3, (some 16), .mv (.t 4), none⟩,
⟨4, (some 17), .build (.agg [.nili, .nili, .bool false]) [(0, 1, (.t 13)), (1, 1, (.t 15)), (2, 1, (.t 16))] [], none⟩,
⟨5, none, .store 3 (.t 2) (.t 17), none⟩] none [2])
.ret))))), [(.cell 2 3 true, true)]⟩

/-! rafter/ratio.From -/
def a_ratio_From : AFun := ⟨1,
(.seq
(.region [
⟨0, (some 1), .box 2 (.t 0), none⟩,
⟨1, (some 2), .alloc (.agg [.bool false, .sl [], .sl []]) [], none⟩] none [1, 2])
(.seq
(.region [
⟨0, (some 3), .load 2 true (.t 1), none⟩,
⟨1, (some 4), .call f_ratio_one [], none⟩,
⟨2, (some 5), .call f_ratio_lowest [((.t 3), true), ((.t 4), true)], none⟩,
⟨3, none, .store 3 (.t 2) (.t 5), none⟩] (some ([(0, 1)], [1, 2])) [2])
.ret)), [(.cell 2 3 true, true)]⟩

/-! rafter/affine.Canon -/
def a_affine_Canon_b0 : ACode :=
(.seq
(.region [
⟨0, (some 21), .bin .lss (.t 20) (.t 19), none⟩] none [0, 4, 18, 19, 20, 21])
(.seq
(.cond (.t 21)
.skip
(.exit 0 [0, 4]))
(.seq
(.block 1
(.seq
(.region [
⟨0, (some 22), .idxA ⟨3, 56⟩ (.t 18) (.t 20), none⟩,
⟨1, (some 23), .load 3 true (.t 22), none⟩,
⟨2, (some 6), .alloc (.agg [.bool false, .sl [], .sl []]) [], none⟩,
⟨3, none, .store 3 (.t 6) (.t 23), none⟩] none [0, 4, 6, 18, 19, 20])
(.seq
(.region [
⟨0, (some 24), .load 3 true (.t 6), none⟩,
⟨1, (some 25), .call f_ratio_Trim [((.t 24), true)], none⟩,
⟨2, (some 26), .field 2 1 false (.t 25), none⟩,
⟨3, (some 27), .build (.agg [.bool false, .sl []]) [(1, 1, (.t 26))] [], none⟩,
⟨4, (some 7), .alloc (.agg [.bool false, .sl []]) [], none⟩,
⟨5, none, .store 2 (.t 7) (.t 27), none⟩] none [0, 4, 7, 18, 19, 20])
(.seq
(.region [
⟨0, (some 29), .load 2 true (.t 7), none⟩,
⟨1, (some 30), .load 2 true (.t 4), none⟩,
⟨2, (some 31), .load 2 true (.t 7), none⟩,
⟨9, (some 8), .alloc (.agg [.bool false, .sl []]) [], none⟩,
⟨10, (some 9), .alloc (.agg [.bool false, .sl []]) [], none⟩,
⟨3, (some 32), .call f_whole_Gcd [((.t 30), true), ((.t 31), true)], none⟩,
⟨4, (some 33), .call f_whole_DivMod [((.t 29), true), ((.t 32), true)], none⟩,
⟨5, (some 28), .mv (.t 33), none⟩,
⟨6, (some 34), .extract (.t 28) 0, none⟩,
⟨7, (some 35), .extract (.t 28) 1, none⟩,
⟨8, (some 36), .extract (.t 28) 2, none⟩,
⟨11, none, .store 2 (.t 8) (.t 34), none⟩,
⟨12, none, .store 2 (.t 9) (.t 35), none⟩,
⟨13, (some 10), .mv (.t 36), none⟩] (some ([(0, 9), (0, 10), (0, 3), (1, 9), (1, 10), (2, 9), (2, 10), (9, 10), (9, 3), (9, 4), (10, 3), (10, 4)], [3, 4])) [0, 4, 8, 18, 19, 20])
(.region [
⟨0, (some 37), .load 2 true (.t 4), none⟩,
⟨1, (some 38), .load 2 true (.t 8), none⟩,
⟨2, (some 39), .call f_whole_Mul [((.t 37), true), ((.t 38), true)], none⟩,
⟨3, none, .store 2 (.t 4) (.t 39), none⟩] none [0, 4, 18, 19, 20])))))
(.region [
⟨0, (some 40), .bin .add (.t 20) (.c (.int .i64 1)), none⟩,
⟨1, (some 20), .mv (.t 40), none⟩] none [0, 4, 18, 19, 20]))))
def a_affine_Canon_l0 : ACode := .loop [0, 4, 18, 19, 20] a_affine_Canon_b0
def a_affine_Canon_b1 : ACode :=
(.seq
(.region [
⟨0, (some 47), .bin .lss (.t 46) (.t 45), none⟩] none [4, 11, 44, 45, 46, 47])
(.seq
(.cond (.t 47)
.skip
(.exit 2 [11]))
(.seq
(.block 3
(.seq
(.region [
⟨0, (some 48), .mv (.t 46), none⟩,
⟨1, (some 49), .idxA ⟨3, 56⟩ (.t 44) (.t 46), none⟩,
⟨2, (some 50), .load 3 true (.t 49), none⟩,
⟨3, (some 13), .alloc (.agg [.bool false, .sl [], .sl []]) [], none⟩,
⟨4, (some 12), .mv (.t 48), none⟩,
⟨5, none, .store 3 (.t 13) (.t 50), none⟩] none [4, 11, 12, 13, 44, 45, 46])
(.region [
⟨0, (some 52), .mv (.t 11), none⟩,
⟨1, (some 53), .mv (.t 12), none⟩,
⟨2, (some 54), .load 3 true (.t 13), none⟩,
⟨3, (some 55), .load 2 true (.t 4), none⟩,
⟨4, (some 56), .call f_ratio_From [((.t 55), true)], none⟩,
⟨5, (some 57), .call f_ratio_Mul [((.t 54), true), ((.t 56), true)], none⟩,
⟨6, (some 58), .call f_ratio_Whole [((.t 57), true)], none⟩,
⟨7, (some 51), .mv (.t 58), none⟩,
⟨8, (some 59), .extract (.t 51) 0, none⟩,
⟨9, (some 60), .extract (.t 51) 1, none⟩,
⟨10, (some 61), .idxA ⟨2, 32⟩ (.t 52) (.t 53), none⟩,
⟨11, none, .store 2 (.t 61) (.t 59), none⟩] (some ([(2, 4)], [4, 5, 6])) [4, 11, 44, 45, 46])))
(.region [
⟨0, (some 62), .bin .add (.t 46) (.c (.int .i64 1)), none⟩,
⟨1, (some 46), .mv (.t 62), none⟩] none [4, 11, 44, 45, 46]))))
def a_affine_Canon_l1 : ACode := .loop [4, 11, 44, 45, 46] a_affine_Canon_b1
def a_affine_Canon : AFun := ⟨1,
(.seq
(.region [
⟨0, (some 2), .mv (.c (.sl [])), none⟩,
⟨1, (some 3), .mv (.c (.int .i64 0)), none⟩] none [0])
(.seq
(.seq
(.region [
⟨0, (some 14), .mv (.t 0), none⟩,
⟨1, (some 15), .len false (.t 14), none⟩,
⟨2, (some 16), .bin .eql (.t 15) (.c (.int .i64 0)), none⟩] none [0, 16])
(.cond (.t 16)
(.seq
(.region [
⟨0, (some 2), .mv (.c (.sl [])), none⟩,
⟨1, (some 3), .mv (.c (.int .i64 1)), none⟩] none [2, 3])
.ret)
.skip))
(.seq
(.region [
⟨0, (some 17), .call f_whole_Of [((.c (.int .i64 1)), true)], none⟩,
⟨1, (some 4), .alloc (.agg [.bool false, .sl []]) [], none⟩,
⟨2, none, .store 2 (.t 4) (.t 17), none⟩] none [0, 4])
(.seq
(.seq
(.region [
⟨0, (some 18), .mv (.t 0), none⟩,
⟨1, (some 19), .len false (.t 18), none⟩,
⟨2, (some 20), .mv (.c (.int .i64 0)), none⟩] none [0, 4, 18, 19, 20])
(.block 0
 a_affine_Canon_l0))
(.seq
(.region [
⟨0, (some 41), .mv (.t 0), none⟩,
⟨1, (some 42), .len false (.t 41), none⟩,
⟨2, (some 43), .mkSl ⟨2, 32⟩ (.agg [.bool false, .sl []]) (.t 42) (.t 42), none⟩,
⟨3, (some 11), .mv (.t 43), none⟩] none [0, 4, 11])
(.seq
(.seq
(.region [
⟨0, (some 44), .mv (.t 0), none⟩,
⟨1, (some 45), .len false (.t 44), none⟩,
⟨2, (some 46), .mv (.c (.int .i64 0)), none⟩] none [4, 11, 44, 45, 46])
(.block 2
 a_affine_Canon_l1))
(.seq
(.region [
⟨0, (some 63), .mv (.t 11), none⟩,
⟨1, (some 64), .call f_affine_lowest [((.t 63), true)], none⟩,
⟨2, (some 65), .call f_affine_told [((.t 64), true)], none⟩,
⟨3, (some 66), .extract (.t 65) 0, none⟩,
⟨4, (some 67), .extract (.t 65) 1, none⟩,
⟨5, (some 2), .mv (.t 66), none⟩,
⟨6, (some 3), .mv (.t 67), none⟩] none [2, 3])
.ret))))))), [(.tmp 2, true), (.tmp 3, true)]⟩

/-! rafter/lang.join -/
def a_lang_join : AFun := ⟨2,
(.seq
(.region [
⟨0, (some 4), .alloc (.agg [.bool false, .sl []]) [], none⟩,
⟨1, (some 5), .mv (.c (.int .i64 0)), none⟩] none [0, 1, 4])
(.seq
(.seq
(.region [
⟨0, (some 18), .mv (.t 0), none⟩] none [0, 1, 4, 18])
(.block 0
(.seq
(.region [
⟨0, (some 19), .tass t_lang_Number true (.agg [.bool false, .sl []]) (.t 18), none⟩,
⟨1, (some 20), .extract (.t 19) 1, none⟩,
⟨2, (some 21), .extract (.t 19) 0, none⟩] none [0, 1, 4, 18, 20, 21])
(.cond (.t 20)
(.seq
(.region [
⟨0, (some 6), .alloc (.agg [.bool false, .sl []]) [], none⟩,
⟨1, none, .store 2 (.t 6) (.t 21), none⟩] none [4, 6])
(.seq
(.region [
⟨0, (some 22), .fieldA 0 2 true (.t 6), none⟩,
⟨1, (some 23), .load 2 true (.t 22), none⟩,
⟨2, (some 24), .call f_whole_Trim [((.t 23), true)], none⟩,
⟨3, none, .store 2 (.t 4) (.t 24), none⟩,
⟨4, (some 5), .mv (.c (.int .i64 0)), none⟩] none [4, 5])
.ret))
(.seq
(.region [
⟨0, (some 25), .tass t_lang_Name true (.agg [.int .i64 0, .str []]) (.t 18), none⟩,
⟨1, (some 26), .extract (.t 25) 1, none⟩,
⟨2, (some 27), .extract (.t 25) 0, none⟩] none [0, 1, 4, 18, 26, 27])
(.cond (.t 26)
(.seq
(.region [
⟨0, (some 7), .alloc (.agg [.int .i64 0, .str []]) [], none⟩,
⟨1, none, .store 2 (.t 7) (.t 27), none⟩] none [1, 4, 7])
(.seq
(.region [
⟨0, (some 28), .mv (.t 1), none⟩,
⟨1, (some 29), .fieldA 0 1 false (.t 7), none⟩,
⟨2, (some 30), .load 1 false (.t 29), none⟩,
⟨3, (some 31), .idxA ⟨2, 32⟩ (.t 28) (.t 30), none⟩,
⟨4, (some 32), .load 2 true (.t 31), none⟩,
⟨5, (some 33), .call f_whole_Trim [((.t 32), true)], none⟩,
⟨6, none, .store 2 (.t 4) (.t 33), none⟩,
⟨7, (some 5), .mv (.c (.int .i64 0)), none⟩] none [4, 5])
.ret))
(.seq
(.region [
⟨0, (some 34), .tass t_lang_Minus true (.agg [.nili]) (.t 18), none⟩,
⟨1, (some 35), .extract (.t 34) 1, none⟩,
⟨2, (some 36), .extract (.t 34) 0, none⟩] none [0, 1, 4, 35, 36])
(.cond (.t 35)
(.seq
(.region [
⟨0, (some 8), .alloc (.agg [.nili]) [], none⟩,
⟨1, none, .store 1 (.t 8) (.t 36), none⟩] none [1, 4, 8])
(.seq
(.region [
⟨0, (some 38), .fieldA 0 1 false (.t 8), none⟩,
⟨1, (some 39), .load 1 false (.t 38), none⟩,
⟨2, (some 40), .mv (.t 1), none⟩,
⟨3, (some 41), .call f_lang_Reckon [((.t 39), true), ((.t 40), true)], none⟩,
⟨4, (some 37), .mv (.t 41), none⟩,
⟨5, (some 42), .extract (.t 37) 0, none⟩,
⟨6, (some 43), .extract (.t 37) 1, none⟩,
⟨7, (some 9), .alloc (.agg [.bool false, .sl []]) [], none⟩,
⟨8, none, .store 2 (.t 9) (.t 42), none⟩,
⟨9, (some 10), .mv (.t 43), none⟩] none [4, 9, 10])
(.seq
(.region [
⟨0, (some 44), .load 2 true (.t 9), none⟩,
⟨1, (some 45), .call f_whole_Neg [((.t 44), true)], none⟩,
⟨2, (some 46), .mv (.t 10), none⟩,
⟨3, none, .store 2 (.t 4) (.t 45), none⟩,
⟨4, (some 5), .mv (.t 46), none⟩] none [4, 5])
.ret)))
.skip))))))))
(.seq
(.region [
⟨0, (some 47), .mv (.t 0), none⟩,
⟨1, (some 48), .tass t_lang_Two false (.nilp) (.t 47), none⟩,
⟨2, (some 11), .alloc (.agg [.int .u8 0, .nili, .nili]) [], none⟩,
⟨3, none, .store 3 (.t 11) (.t 48), none⟩] none [1, 4, 11])
(.seq
(.region [
⟨0, (some 50), .fieldA 1 1 false (.t 11), none⟩,
⟨1, (some 51), .load 1 false (.t 50), none⟩,
⟨2, (some 52), .mv (.t 1), none⟩,
⟨3, (some 53), .call f_lang_Reckon [((.t 51), true), ((.t 52), true)], none⟩,
⟨4, (some 49), .mv (.t 53), none⟩,
⟨5, (some 54), .extract (.t 49) 0, none⟩,
⟨6, (some 55), .extract (.t 49) 1, none⟩,
⟨7, (some 12), .alloc (.agg [.bool false, .sl []]) [], none⟩,
⟨8, none, .store 2 (.t 12) (.t 54), none⟩,
⟨9, (some 13), .mv (.t 55), none⟩] none [1, 4, 11, 12, 13])
(.seq
(.seq
(.region [
⟨0, (some 56), .mv (.t 13), none⟩,
⟨1, (some 57), .bin .neq (.t 56) (.c (.int .i64 0)), none⟩] none [1, 4, 11, 12, 13, 57])
(.cond (.t 57)
(.seq
(.region [
⟨0, (some 58), .load 2 true (.t 12), none⟩,
⟨1, (some 59), .mv (.t 13), none⟩,
⟨2, none, .store 2 (.t 4) (.t 58), none⟩,
⟨3, (some 5), .mv (.t 59), none⟩] none [4, 5])
.ret)
.skip))
(.seq
(.region [
⟨0, (some 61), .fieldA 2 1 false (.t 11), none⟩,
⟨1, (some 62), .load 1 false (.t 61), none⟩,
⟨2, (some 63), .mv (.t 1), none⟩,
⟨3, (some 64), .call f_lang_Reckon [((.t 62), true), ((.t 63), true)], none⟩,
⟨4, (some 60), .mv (.t 64), none⟩,
⟨5, (some 65), .extract (.t 60) 0, none⟩,
⟨6, (some 66), .extract (.t 60) 1, none⟩,
⟨7, (some 14), .alloc (.agg [.bool false, .sl []]) [], none⟩,
⟨8, none, .store 2 (.t 14) (.t 65), none⟩,
⟨9, (some 13), .mv (.t 66), none⟩] none [4, 11, 12, 13, 14])
(.seq
(.seq
(.region [
⟨0, (some 67), .mv (.t 13), none⟩,
⟨1, (some 68), .bin .neq (.t 67) (.c (.int .i64 0)), none⟩] none [4, 11, 12, 13, 14, 68])
(.cond (.t 68)
(.seq
(.region [
⟨0, (some 69), .load 2 true (.t 14), none⟩,
⟨1, (some 70), .mv (.t 13), none⟩,
⟨2, none, .store 2 (.t 4) (.t 69), none⟩,
⟨3, (some 5), .mv (.t 70), none⟩] none [4, 5])
.ret)
.skip))
(.seq
(.seq
(.region [
⟨0, (some 71), .fieldA 0 1 false (.t 11), none⟩,
⟨1, (some 72), .load 1 false (.t 71), none⟩] none [4, 11, 12, 14, 72])
(.block 1
(.seq
(.region [
⟨0, (some 74), .bin .eql (.t 72) (.c (.int .u8 43)), none⟩,
⟨1, (some 73), .mv (.t 74), none⟩] none [4, 11, 12, 14, 72, 73])
(.cond (.t 73)
(.seq
(.region [
⟨0, (some 75), .load 2 true (.t 12), none⟩,
⟨1, (some 76), .load 2 true (.t 14), none⟩,
⟨2, (some 77), .call f_whole_Add [((.t 75), true), ((.t 76), true)], none⟩,
⟨3, none, .store 2 (.t 4) (.t 77), none⟩,
⟨4, (some 5), .mv (.c (.int .i64 0)), none⟩] none [4, 5])
.ret)
(.seq
(.region [
⟨0, (some 79), .bin .eql (.t 72) (.c (.int .u8 45)), none⟩,
⟨1, (some 78), .mv (.t 79), none⟩] none [4, 11, 12, 14, 72, 78])
(.cond (.t 78)
(.seq
(.region [
⟨0, (some 80), .load 2 true (.t 12), none⟩,
⟨1, (some 81), .load 2 true (.t 14), none⟩,
⟨2, (some 82), .call f_whole_Sub [((.t 80), true), ((.t 81), true)], none⟩,
⟨3, none, .store 2 (.t 4) (.t 82), none⟩,
⟨4, (some 5), .mv (.c (.int .i64 0)), none⟩] none [4, 5])
.ret)
(.seq
(.region [
⟨0, (some 84), .bin .eql (.t 72) (.c (.int .u8 42)), none⟩,
⟨1, (some 83), .mv (.t 84), none⟩] none [4, 11, 12, 14, 83])
(.cond (.t 83)
(.seq
(.region [
⟨0, (some 85), .load 2 true (.t 12), none⟩,
⟨1, (some 86), .load 2 true (.t 14), none⟩,
⟨2, (some 87), .call f_whole_Mul [((.t 85), true), ((.t 86), true)], none⟩,
⟨3, none, .store 2 (.t 4) (.t 87), none⟩,
⟨4, (some 5), .mv (.c (.int .i64 0)), none⟩] none [4, 5])
.ret)
.skip))))))))
(.seq
(.region [
⟨0, (some 89), .load 2 true (.t 12), none⟩,
⟨1, (some 90), .load 2 true (.t 14), none⟩,
⟨2, (some 91), .call f_whole_DivMod [((.t 89), true), ((.t 90), true)], none⟩,
⟨3, (some 88), .mv (.t 91), none⟩,
⟨4, (some 92), .extract (.t 88) 0, none⟩,
⟨5, (some 93), .extract (.t 88) 1, none⟩,
⟨6, (some 94), .extract (.t 88) 2, none⟩,
⟨7, (some 15), .alloc (.agg [.bool false, .sl []]) [], none⟩,
⟨8, (some 16), .alloc (.agg [.bool false, .sl []]) [], none⟩,
⟨9, none, .store 2 (.t 15) (.t 92), none⟩,
⟨10, none, .store 2 (.t 16) (.t 93), none⟩,
⟨11, (some 17), .mv (.t 94), none⟩] none [4, 11, 15, 16, 17])
(.seq
(.block 2
(.seq
(.region [
⟨0, (some 96), .mv (.t 17), none⟩,
⟨1, (some 97), .un .not (.t 96), none⟩,
⟨2, (some 95), .mv (.t 97), none⟩] none [4, 11, 15, 16, 95])
(.cond (.t 95)
(.seq
(.region [
⟨0, (some 98), .load 2 true (.t 15), none⟩,
⟨1, none, .store 2 (.t 4) (.t 98), none⟩,
⟨2, (some 5), .mv (.c (.int .i64 20)), none⟩] none [4, 5])
.ret)
(.seq
(.region [
⟨0, (some 100), .fieldA 0 1 false (.t 11), none⟩,
⟨1, (some 101), .load 1 false (.t 100), none⟩,
⟨2, (some 102), .bin .eql (.t 101) (.c (.int .u8 47)), none⟩,
⟨3, (some 99), .mv (.t 102), none⟩] none [4, 15, 16, 99])
(.cond (.t 99)
(.seq
(.region [
⟨0, (some 103), .load 2 true (.t 15), none⟩,
⟨1, none, .store 2 (.t 4) (.t 103), none⟩,
⟨2, (some 5), .mv (.c (.int .i64 0)), none⟩] none [4, 5])
.ret)
.skip)))))
(.seq
(.region [
⟨0, (some 104), .load 2 true (.t 16), none⟩,
⟨1, none, .store 2 (.t 4) (.t 104), none⟩,
⟨2, (some 5), .mv (.c (.int .i64 0)), none⟩] none [4, 5])
.ret))))))))))), [(.cell 4 2 true, true), (.tmp 5, true)]⟩

/-! rafter/whole.Limbs -/
def a_whole_Limbs : AFun := ⟨1,
(.seq
(.region [
⟨0, (some 1), .box 2 (.t 0), none⟩,
⟨1, (some 2), .mv (.c (.int .i64 0)), none⟩] none [1])
(.seq
(.region [
⟨0, (some 3), .fieldA 1 1 false (.t 1), none⟩,
⟨1, (some 4), .load 1 false (.t 3), none⟩,
⟨2, (some 5), .call f_limbs_Bits [((.t 4), true)], none⟩,
⟨3, (some 6), .bin .add (.t 5) (.c (.int .i64 31)), none⟩,
⟨4, (some 7), .bin .quo (.t 6) (.c (.int .i64 32)), none⟩,
⟨5, (some 2), .mv (.t 7), none⟩] none [2])
.ret)), [(.tmp 2, true)]⟩

/-! rafter/limbs.Gcd -/
def a_limbs_Gcd_b0 : ACode :=
(.seq
(.seq
(.region [
⟨0, (some 33), .mv (.t 7), none⟩,
⟨1, (some 34), .bin .gtr (.t 33) (.c (.int .u64 0)), none⟩] none [5, 7, 34])
(.cond (.t 34)
.skip
(.exit 2 [5])))
(.block 3
(.region [
⟨0, (some 35), .mv (.t 7), none⟩,
⟨1, (some 36), .mv (.t 5), none⟩,
⟨2, (some 37), .mv (.t 7), none⟩,
⟨3, (some 38), .bin .rem (.t 36) (.t 37), none⟩,
⟨4, (some 5), .mv (.t 35), none⟩,
⟨5, (some 7), .mv (.t 38), none⟩] (some ([], [])) [5, 7])))
def a_limbs_Gcd_l0 : ACode := .loop [5, 7] a_limbs_Gcd_b0
def a_limbs_Gcd_b1 : ACode :=
(.seq
(.seq
(.region [
⟨0, (some 16), .mv (.t 1), none⟩,
⟨1, (some 17), .len false (.t 16), none⟩,
⟨2, (some 18), .bin .gtr (.t 17) (.c (.int .i64 0)), none⟩] none [0, 1, 18])
(.cond (.t 18)
.skip
(.exit 0 [0])))
(.block 1
(.seq
(.region [
⟨0, (some 20), .mv (.t 0), none⟩,
⟨1, (some 21), .call f_limbs_Uint [((.t 20), true)], none⟩,
⟨2, (some 19), .mv (.t 21), none⟩,
⟨3, (some 22), .extract (.t 19) 0, none⟩,
⟨4, (some 23), .extract (.t 19) 1, none⟩,
⟨5, (some 5), .mv (.t 22), none⟩,
⟨6, (some 6), .mv (.t 23), none⟩] none [0, 1, 5, 6])
(.seq
(.region [
⟨0, (some 25), .mv (.t 1), none⟩,
⟨1, (some 26), .call f_limbs_Uint [((.t 25), true)], none⟩,
⟨2, (some 24), .mv (.t 26), none⟩,
⟨3, (some 27), .extract (.t 24) 0, none⟩,
⟨4, (some 28), .extract (.t 24) 1, none⟩,
⟨5, (some 7), .mv (.t 27), none⟩,
⟨6, (some 8), .mv (.t 28), none⟩] none [0, 1, 5, 6, 7, 8])
(.seq
(.seq
(.region [
⟨0, (some 29), .mv (.t 6), none⟩,
⟨1, (some 30), .mv (.t 29), none⟩,
⟨2, (some 31), .mv (.t 8), (some (30, true))⟩,
⟨3, (some 32), .pick (.t 30) (.t 31) (.c (.bool false)), none⟩] none [0, 1, 5, 7, 32])
(.cond (.t 32)
(.seq
(.block 2
 a_limbs_Gcd_l0)
(.seq
(.region [
⟨0, (some 39), .mv (.t 5), none⟩,
⟨1, (some 40), .call f_limbs_Small [((.t 39), true)], none⟩,
⟨2, (some 4), .mv (.t 40), none⟩] none [4])
.ret))
.skip))
(.seq
(.region [
⟨0, (some 42), .mv (.t 0), none⟩,
⟨1, (some 43), .mv (.t 1), none⟩,
⟨2, (some 44), .call f_limbs_DivMod [((.t 42), true), ((.t 43), true)], none⟩,
⟨3, (some 41), .mv (.t 44), none⟩,
⟨4, (some 45), .extract (.t 41) 0, none⟩,
⟨5, (some 46), .extract (.t 41) 1, none⟩,
⟨6, (some 47), .extract (.t 41) 2, none⟩,
⟨7, (some 9), .mv (.t 45), none⟩,
⟨8, (some 10), .mv (.t 46), none⟩,
⟨9, (some 11), .mv (.t 47), none⟩] none [1, 10])
(.region [
⟨0, (some 48), .mv (.t 1), none⟩,
⟨1, (some 49), .mv (.t 10), none⟩,
⟨2, (some 0), .mv (.t 48), none⟩,
⟨3, (some 1), .mv (.t 49), none⟩] none [0, 1])))))))
def a_limbs_Gcd_l1 : ACode := .loop [0, 1] a_limbs_Gcd_b1
def a_limbs_Gcd : AFun := ⟨2,
(.seq
(.region [
⟨0, (some 4), .mv (.c (.sl [])), none⟩] none [0, 1])
(.seq
(.region [
⟨0, (some 12), .mv (.t 0), none⟩,
⟨1, (some 13), .call f_limbs_short [((.t 12), true)], none⟩,
⟨2, (some 14), .mv (.t 1), none⟩,
⟨3, (some 15), .call f_limbs_short [((.t 14), true)], none⟩,
⟨4, (some 0), .mv (.t 13), none⟩,
⟨5, (some 1), .mv (.t 15), none⟩] none [0, 1])
(.seq
(.block 0
 a_limbs_Gcd_l1)
(.seq
(.region [
⟨0, (some 50), .mv (.t 0), none⟩,
⟨1, (some 51), .call f_limbs_Trim [((.t 50), true)], none⟩,
⟨2, (some 4), .mv (.t 51), none⟩] none [4])
.ret)))), [(.tmp 4, true)]⟩

/-! math/bits.Len32 -/
def a_bits_Len32 : AFun := ⟨1,
(.seq
(.region [
⟨0, (some 2), .mv (.c (.int .i64 0)), none⟩] none [0, 2])
(.seq
(.seq
(.region [
⟨0, (some 3), .mv (.t 0), none⟩,
⟨1, (some 4), .bin .geq (.t 3) (.c (.int .u32 65536)), none⟩] none [0, 2, 4])
(.cond (.t 4)
(.seq
(.region [
⟨0, (some 5), .mv (.t 0), none⟩,
⟨1, (some 6), .bin .shr (.t 5) (.c (.int .u64 16)), none⟩,
⟨2, (some 0), .mv (.t 6), none⟩] none [0])
(.region [
⟨0, (some 2), .mv (.c (.int .i64 16)), none⟩] none [0, 2]))
.skip))
(.seq
(.seq
(.region [
⟨0, (some 7), .mv (.t 0), none⟩,
⟨1, (some 8), .bin .geq (.t 7) (.c (.int .u32 256)), none⟩] none [0, 2, 8])
(.cond (.t 8)
(.seq
(.region [
⟨0, (some 9), .mv (.t 0), none⟩,
⟨1, (some 10), .bin .shr (.t 9) (.c (.int .u64 8)), none⟩,
⟨2, (some 0), .mv (.t 10), none⟩] none [0, 2])
(.region [
⟨0, (some 11), .mv (.t 2), none⟩,
⟨1, (some 12), .bin .add (.t 11) (.c (.int .i64 8)), none⟩,
⟨2, (some 2), .mv (.t 12), none⟩] none [0, 2]))
.skip))
(.seq
(.region [
⟨0, (some 13), .mv (.t 2), none⟩,
⟨1, (some 14), .mv (.t 0), none⟩,
⟨2, (some 15), .conv (.int .u8) (.t 14), none⟩,
⟨3, (some 16), .idxS (.c (.str tab0)) (.t 15), none⟩,
⟨4, (some 17), .conv (.int .i64) (.t 16), none⟩,
⟨5, (some 18), .bin .add (.t 13) (.t 17), none⟩,
⟨6, (some 2), .mv (.t 18), none⟩] none [2])
.ret)))), [(.tmp 2, true)]⟩

/-! rafter/glyph.Scan -/
def a_glyph_Scan_b0 : ACode :=
(.block 1
(.seq
(.region [
⟨0, (some 16), .mv (.t 5), none⟩,
⟨1, (some 17), .call f_glyph_scanner_blanks [((.t 16), false)], none⟩] none [4, 5, 6])
(.seq
(.region [
⟨0, (some 18), .mv (.t 5), none⟩,
⟨1, (some 19), .call f_glyph_scanner_token [((.t 18), false)], none⟩,
⟨2, (some 7), .alloc (.agg [.int .i64 0, .str [], .int .i64 0, .int .i64 0, .int .i64 0, .int .i64 0]) [], none⟩,
⟨3, none, .store 6 (.t 7) (.t 19), none⟩] none [4, 5, 6, 7])
(.seq
(.seq
(.region [
⟨0, (some 20), .mv (.t 5), none⟩,
⟨1, (some 21), .nilCk (.t 20), none⟩,
⟨2, (some 22), .fieldA 5 1 false (.t 21), none⟩,
⟨3, (some 23), .load 1 false (.t 22), none⟩,
⟨4, (some 24), .bin .neq (.t 23) (.c (.int .i64 0)), none⟩] none [4, 5, 6, 7, 24])
(.cond (.t 24)
(.seq
(.region [
⟨0, (some 25), .mv (.t 5), none⟩,
⟨1, (some 26), .nilCk (.t 25), none⟩,
⟨2, (some 27), .fieldA 5 1 false (.t 26), none⟩,
⟨3, (some 28), .load 1 false (.t 27), none⟩,
⟨4, (some 29), .mv (.t 5), none⟩,
⟨5, (some 30), .nilCk (.t 29), none⟩,
⟨6, (some 31), .fieldA 6 4 true (.t 30), none⟩,
⟨7, (some 32), .load 4 true (.t 31), none⟩,
⟨8, (some 2), .mv (.c (.sl [])), none⟩,
⟨9, (some 3), .mv (.t 28), none⟩,
⟨10, none, .store 4 (.t 4) (.t 32), none⟩] (some ([], [])) [2, 3, 4])
.ret)
.skip))
(.seq
(.region [
⟨0, (some 33), .mv (.t 6), none⟩,
⟨1, (some 34), .load 6 true (.t 7), none⟩,
⟨2, (some 35), .buildSl ⟨6, 56⟩ (.agg [.int .i64 0, .str [], .int .i64 0, .int .i64 0, .int .i64 0, .int .i64 0]) 1 [(0, (.t 34))], none⟩,
⟨3, (some 36), .app ⟨6, 56⟩ (some (.t 33)) (.t 35), none⟩,
⟨4, (some 6), .mv (.t 36), none⟩] none [4, 5, 6, 7])
(.seq
(.region [
⟨0, (some 37), .fieldA 0 1 false (.t 7), none⟩,
⟨1, (some 38), .load 1 false (.t 37), none⟩,
⟨2, (some 39), .bin .eql (.t 38) (.c (.int .i64 0)), none⟩] none [4, 5, 6, 39])
(.cond (.t 39)
(.seq
(.region [
⟨0, (some 40), .mv (.t 6), none⟩,
⟨1, (some 41), .build (.agg [.int .i64 0, .int .i64 0, .int .i64 0, .int .i64 0]) [] [], none⟩,
⟨2, (some 2), .mv (.t 40), none⟩,
⟨3, (some 3), .mv (.c (.int .i64 0)), none⟩,
⟨4, none, .store 4 (.t 4) (.t 41), none⟩] none [2, 3, 4])
.ret)
.skip)))))))
def a_glyph_Scan_l0 : ACode := .loop [4, 5, 6] a_glyph_Scan_b0
def a_glyph_Scan : AFun := ⟨1,
(.seq
(.region [
⟨0, (some 2), .mv (.c (.sl [])), none⟩,
⟨1, (some 3), .mv (.c (.int .i64 0)), none⟩,
⟨2, (some 4), .alloc (.agg [.int .i64 0, .int .i64 0, .int .i64 0, .int .i64 0]) [], none⟩] none [0, 4])
(.seq
(.seq
(.region [
⟨0, (some 8), .mv (.t 0), none⟩,
⟨1, (some 9), .len true (.t 8), none⟩,
⟨2, (some 10), .bin .gtr (.t 9) (.c (.int .i64 4096)), none⟩] none [0, 4, 10])
(.cond (.t 10)
(.seq
(.region [
⟨0, (some 11), .build (.agg [.int .i64 0, .int .i64 0, .int .i64 0, .int .i64 0]) [] [], none⟩,
⟨1, (some 2), .mv (.c (.sl [])), none⟩,
⟨2, (some 3), .mv (.c (.int .i64 2)), none⟩,
⟨3, none, .store 4 (.t 4) (.t 11), none⟩] none [2, 3, 4])
.ret)
.skip))
(.seq
(.region [
⟨0, (some 12), .mv (.t 0), none⟩,
⟨1, (some 13), .call f_glyph_start [], none⟩,
⟨2, (some 14), .build (.agg [.str [], .int .i64 0, .int .i64 0, .int .i64 0, .int .i64 0, .int .i64 0, .int .i64 0, .int .i64 0, .int .i64 0, .int .i64 0]) [(0, 1, (.t 12)), (1, 4, (.t 13))] [], none⟩,
⟨3, (some 15), .box 10 (.t 14), none⟩,
⟨4, (some 5), .mv (.t 15), none⟩] none [4, 5])
(.seq
(.region [
⟨0, (some 6), .own ⟨6, 56⟩, none⟩] none [4, 5, 6])
(.block 0
 a_glyph_Scan_l0))))), [(.tmp 2, true), (.tmp 3, true), (.cell 4 4 true, true)]⟩

/-! (*rafter/lang.reader).need -/
def a_lang_reader_need : AFun := ⟨3,
(.seq
(.region [
⟨0, (some 6), .mv (.t 1), none⟩,
⟨1, (some 7), .un .not (.t 6), none⟩] none [0, 2, 7])
(.cond (.t 7)
(.region [
⟨0, (some 8), .mv (.t 2), none⟩,
⟨1, (some 9), .mv (.t 0), none⟩,
⟨2, (some 10), .call f_lang_reader_here [((.t 9), false)], none⟩,
⟨3, (some 11), .field 2 4 true (.t 10), none⟩,
⟨4, (some 12), .build (.agg [.int .i64 0, .int .i64 0, .int .i64 0, .int .i64 0, .int .i64 0]) [(0, 1, (.t 8)), (1, 4, (.t 11))] [], none⟩,
⟨5, (some 13), .mkI t_lang_fault (.t 12), none⟩,
⟨6, none, .panic (.t 13), none⟩] none [])
.skip)), []⟩

/-! (*rafter/lang.reader).pass -/
def a_lang_reader_pass : AFun := ⟨1,
(.seq
(.region [
⟨0, (some 2), .alloc (.agg [.int .i64 0, .str [], .int .i64 0, .int .i64 0, .int .i64 0, .int .i64 0]) [], none⟩] none [0, 2])
(.seq
(.region [
⟨0, (some 4), .mv (.t 0), none⟩,
⟨1, (some 5), .call f_lang_reader_here [((.t 4), false)], none⟩,
⟨2, (some 3), .alloc (.agg [.int .i64 0, .str [], .int .i64 0, .int .i64 0, .int .i64 0, .int .i64 0]) [], none⟩,
⟨3, none, .store 6 (.t 3) (.t 5), none⟩] none [0, 2, 3])
(.seq
(.seq
(.region [
⟨0, (some 6), .fieldA 0 1 false (.t 3), none⟩,
⟨1, (some 7), .load 1 false (.t 6), none⟩,
⟨2, (some 8), .bin .neq (.t 7) (.c (.int .i64 0)), none⟩] none [0, 2, 3, 8])
(.cond (.t 8)
(.region [
⟨0, (some 9), .mv (.t 0), none⟩,
⟨1, (some 10), .nilCk (.t 9), none⟩,
⟨2, (some 11), .fieldA 1 1 false (.t 10), none⟩,
⟨3, (some 12), .load 1 false (.t 11), none⟩,
⟨4, (some 13), .bin .add (.t 12) (.c (.int .i64 1)), none⟩,
⟨5, (some 14), .nilCk (.t 9), none⟩,
⟨6, (some 15), .fieldA 1 1 false (.t 14), none⟩,
⟨7, none, .store 1 (.t 15) (.t 13), none⟩] none [2, 3])
.skip))
(.seq
(.region [
⟨0, (some 16), .load 6 true (.t 3), none⟩,
⟨1, none, .store 6 (.t 2) (.t 16), none⟩] none [2])
.ret)))), [(.cell 2 6 true, true)]⟩

/-! (*rafter/lang.reader).name -/
def a_lang_reader_name : AFun := ⟨1,
(.seq
(.region [
⟨0, (some 2), .mv (.c (.bool false)), none⟩] none [0])
(.seq
(.region [
⟨0, (some 3), .mv (.t 0), none⟩,
⟨1, (some 4), .call f_lang_reader_here [((.t 3), false)], none⟩,
⟨2, (some 5), .field 0 1 false (.t 4), none⟩,
⟨3, (some 6), .bin .eql (.t 5) (.c (.int .i64 1)), none⟩,
⟨4, (some 7), .mv (.t 6), none⟩,
⟨5, (some 8), .mv (.t 0), (some (7, true))⟩,
⟨6, (some 9), .call f_lang_reader_here [((.t 8), false)], (some (7, true))⟩,
⟨7, (some 10), .field 1 1 false (.t 9), (some (7, true))⟩,
⟨8, (some 11), .call f_lang_word [((.t 10), true)], (some (7, true))⟩,
⟨9, (some 12), .un .not (.t 11), (some (7, true))⟩,
⟨10, (some 13), .pick (.t 7) (.t 12) (.c (.bool false)), none⟩,
⟨11, (some 2), .mv (.t 13), none⟩] none [2])
.ret)), [(.tmp 2, true)]⟩

/-! rafter/lang.short -/
def a_lang_reader_variable_b0 : ACode :=
(.seq
(.region [
⟨0, (some 13), .bin .lss (.t 12) (.t 11), none⟩] none [1, 10, 11, 12, 13])
(.seq
(.cond (.t 13)
.skip
(.exit 0 []))
(.seq
(.block 1
(.seq
(.region [
⟨0, (some 14), .mv (.t 12), none⟩,
⟨1, (some 15), .idxA ⟨1, 16⟩ (.t 10) (.t 12), none⟩,
⟨2, (some 16), .load 1 false (.t 15), none⟩,
⟨3, (some 5), .mv (.t 14), none⟩,
⟨4, (some 6), .mv (.t 16), none⟩] none [1, 5, 6, 10, 11, 12])
(.seq
(.region [
⟨0, (some 17), .mv (.t 1), none⟩,
⟨1, (some 18), .mv (.t 6), none⟩,
⟨2, (some 19), .bin .eql (.t 17) (.t 18), none⟩] none [1, 5, 10, 11, 12, 19])
(.cond (.t 19)
(.seq
(.region [
⟨0, (some 20), .mv (.t 5), none⟩,
⟨1, (some 4), .mv (.t 20), none⟩] none [4])
.ret)
.skip))))
(.region [
⟨0, (some 21), .bin .add (.t 12) (.c (.int .i64 1)), none⟩,
⟨1, (some 12), .mv (.t 21), none⟩] none [1, 10, 11, 12]))))
def a_lang_reader_variable_l0 : ACode := .loop [1, 10, 11, 12] a_lang_reader_variable_b0
def a_lang_reader_variable : AFun := ⟨2,
(.seq
(.region [
⟨0, (some 4), .mv (.c (.int .i64 0)), none⟩] none [0, 1])
(.seq
(.seq
(.region [
⟨0, (some 7), .mv (.t 0), none⟩,
⟨1, (some 8), .nilCk (.t 7), none⟩,
⟨2, (some 9), .fieldA 2 1 false (.t 8), none⟩,
⟨3, (some 10), .load 1 false (.t 9), none⟩,
⟨4, (some 11), .len false (.t 10), none⟩,
⟨5, (some 12), .mv (.c (.int .i64 0)), none⟩] none [1, 10, 11, 12])
(.block 0
 a_lang_reader_variable_l0))
(.seq
(.region [
⟨0, (some 4), .mv (.c (.int .i64 (-1))), none⟩] none [4])
.ret))), [(.tmp 4, true)]⟩

/-! rafter/whole.Parse -/
def a_whole_Parse_b0 : ACode :=
(.seq
(.region [
⟨0, (some 11), .next (.t 10), none⟩,
⟨1, (some 12), .extract (.t 11) 0, none⟩] none [0, 2, 4, 11, 12])
(.seq
(.cond (.t 12)
.skip
(.exit 0 [0, 2, 4]))
(.block 1
(.seq
(.region [
⟨0, (some 13), .extract (.t 11) 2, none⟩,
⟨1, (some 6), .mv (.t 13), none⟩] none [0, 2, 4, 6])
(.seq
(.seq
(.region [
⟨0, (some 14), .mv (.t 6), none⟩,
⟨1, (some 15), .bin .eql (.t 14) (.c (.int .i32 45)), none⟩,
⟨2, (some 16), .mv (.t 15), none⟩,
⟨3, (some 17), .mv (.t 6), (some (16, false))⟩,
⟨4, (some 18), .bin .eql (.t 17) (.c (.int .i32 8722)), (some (16, false))⟩,
⟨5, (some 19), .pick (.t 16) (.c (.bool true)) (.t 18), none⟩] none [0, 2, 4, 6, 19])
(.cond (.t 19)
(.seq
(.region [
⟨0, (some 4), .mv (.c (.bool true)), none⟩] none [0, 2, 4, 6])
(.region [
⟨0, (some 20), .mv (.t 0), none⟩,
⟨1, (some 21), .mv (.t 6), none⟩,
⟨2, (some 22), .call f_utf8_RuneLen [((.t 21), true)], none⟩,
⟨3, (some 23), .slice none (.t 20) (some (.t 22)) none, none⟩,
⟨4, (some 0), .mv (.t 23), none⟩] none [0, 2, 4]))
.skip))
(.exit 0 [0, 2, 4]))))))
def a_whole_Parse_l0 : ACode := .loop [0, 2, 4, 10] a_whole_Parse_b0
def a_whole_Parse : AFun := ⟨1,
(.seq
(.region [
⟨0, (some 2), .alloc (.agg [.bool false, .sl []]) [], none⟩,
⟨1, (some 3), .mv (.c (.int .i64 0)), none⟩] none [0, 2])
(.seq
(.region [
⟨0, (some 4), .mv (.c (.bool false)), none⟩] none [0, 2, 4])
(.seq
(.seq
(.region [
⟨0, (some 9), .mv (.t 0), none⟩,
⟨1, (some 10), .range (.t 9), none⟩] none [0, 2, 4, 10])
(.block 0
 a_whole_Parse_l0))
(.seq
(.region [
⟨0, (some 25), .mv (.t 0), none⟩,
⟨1, (some 26), .call f_limbs_Parse [((.t 25), true)], none⟩,
⟨2, (some 24), .mv (.t 26), none⟩,
⟨3, (some 27), .extract (.t 24) 0, none⟩,
⟨4, (some 28), .extract (.t 24) 1, none⟩,
⟨5, (some 7), .mv (.t 27), none⟩,
⟨6, (some 8), .mv (.t 28), none⟩] none [2, 4, 7, 8])
(.seq
(.seq
(.region [
⟨0, (some 29), .mv (.t 8), none⟩,
⟨1, (some 30), .bin .neq (.t 29) (.c (.int .i64 0)), none⟩] none [2, 4, 7, 8, 30])
(.cond (.t 30)
(.seq
(.region [
⟨0, (some 31), .build (.agg [.bool false, .sl []]) [] [], none⟩,
⟨1, (some 32), .mv (.t 8), none⟩,
⟨2, none, .store 2 (.t 2) (.t 31), none⟩,
⟨3, (some 3), .mv (.t 32), none⟩] none [2, 3])
.ret)
.skip))
(.seq
(.region [
⟨0, (some 33), .mv (.t 4), none⟩,
⟨1, (some 34), .mv (.t 7), none⟩,
⟨2, (some 35), .call f_whole_made [((.t 33), true), ((.t 34), true)], none⟩,
⟨3, none, .store 2 (.t 2) (.t 35), none⟩,
⟨4, (some 3), .mv (.c (.int .i64 0)), none⟩] none [2, 3])
.ret)))))), [(.cell 2 2 true, true), (.tmp 3, true)]⟩

/-! (*rafter/lang.reader).statement -/
def a_glyph_Name : AFun := ⟨1,
(.seq
(.region [
⟨0, (some 2), .mv (.c (.bool false)), none⟩] none [0])
(.seq
(.region [
⟨0, (some 7), .mv (.t 0), none⟩,
⟨1, (some 8), .call f_glyph_Scan [((.t 7), true)], none⟩,
⟨2, (some 6), .mv (.t 8), none⟩,
⟨3, (some 9), .extract (.t 6) 0, none⟩,
⟨4, (some 10), .extract (.t 6) 1, none⟩,
⟨5, (some 11), .extract (.t 6) 2, none⟩,
⟨6, (some 5), .alloc (.agg [.int .i64 0, .int .i64 0, .int .i64 0, .int .i64 0]) [], none⟩,
⟨7, (some 3), .mv (.t 9), none⟩,
⟨8, (some 4), .mv (.t 10), none⟩,
⟨9, none, .store 4 (.t 5) (.t 11), none⟩] none [0, 3, 4])
(.seq
(.region [
⟨0, (some 12), .mv (.t 4), none⟩,
⟨1, (some 13), .bin .eql (.t 12) (.c (.int .i64 0)), none⟩,
⟨2, (some 14), .mv (.t 13), none⟩,
⟨3, (some 15), .mv (.t 3), (some (14, true))⟩,
⟨4, (some 16), .len false (.t 15), (some (14, true))⟩,
⟨5, (some 17), .bin .eql (.t 16) (.c (.int .i64 2)), (some (14, true))⟩,
⟨6, (some 18), .pick (.t 14) (.t 17) (.c (.bool false)), none⟩,
⟨7, (some 19), .mv (.t 18), none⟩,
⟨8, (some 20), .mv (.t 3), (some (19, true))⟩,
⟨9, (some 21), .idxA ⟨6, 56⟩ (.t 20) (.c (.int .i64 0)), (some (19, true))⟩,
⟨10, (some 22), .fieldA 0 1 false (.t 21), (some (19, true))⟩,
⟨11, (some 23), .load 1 false (.t 22), (some (19, true))⟩,
⟨12, (some 24), .bin .eql (.t 23) (.c (.int .i64 1)), (some (19, true))⟩,
⟨13, (some 25), .pick (.t 19) (.t 24) (.c (.bool false)), none⟩,
⟨14, (some 26), .mv (.t 25), none⟩,
⟨15, (some 27), .mv (.t 3), (some (26, true))⟩,
⟨16, (some 28), .idxA ⟨6, 56⟩ (.t 27) (.c (.int .i64 0)), (some (26, true))⟩,
⟨17, (some 29), .fieldA 1 1 false (.t 28), (some (26, true))⟩,
⟨18, (some 30), .load 1 false (.t 29), (some (26, true))⟩,
⟨19, (some 31), .mv (.t 0), (some (26, true))⟩,
⟨20, (some 32), .bin .eql (.t 30) (.t 31), (some (26, true))⟩,
⟨21, (some 33), .pick (.t 26) (.t 32) (.c (.bool false)), none⟩,
⟨22, (some 2), .mv (.t 33), none⟩] none [2])
.ret))), [(.tmp 2, true)]⟩

/-! (*rafter/lang.reader).product -/
def a_lang_reader_product_b0 : ACode :=
(.block 1
(.block 2
(.seq
(.region [
⟨0, (some 8), .mv (.t 0), none⟩,
⟨1, (some 9), .call f_lang_reader_is [((.t 8), false), ((.c (.str [42])), true)], none⟩,
⟨2, (some 7), .mv (.t 9), none⟩] none [0, 3, 7])
(.cond (.t 7)
(.region [
⟨0, (some 10), .mv (.t 3), none⟩,
⟨1, (some 11), .mv (.t 0), none⟩,
⟨2, (some 12), .call f_lang_reader_unary [((.t 11), false)], none⟩,
⟨3, (some 13), .build (.agg [.int .u8 0, .nili, .nili]) [(0, 1, (.c (.int .u8 42))), (1, 1, (.t 10)), (2, 1, (.t 12))] [], none⟩,
⟨4, (some 14), .mkI t_lang_Two (.t 13), none⟩,
⟨5, (some 3), .mv (.t 14), none⟩] none [0, 3])
(.seq
(.region [
⟨0, (some 16), .mv (.t 0), none⟩,
⟨1, (some 17), .call f_lang_reader_is [((.t 16), false), ((.c (.str [47])), true)], none⟩,
⟨2, (some 15), .mv (.t 17), none⟩] none [0, 3, 15])
(.cond (.t 15)
(.region [
⟨0, (some 18), .mv (.t 3), none⟩,
⟨1, (some 19), .mv (.t 0), none⟩,
⟨2, (some 20), .call f_lang_reader_unary [((.t 19), false)], none⟩,
⟨3, (some 21), .build (.agg [.int .u8 0, .nili, .nili]) [(0, 1, (.c (.int .u8 47))), (1, 1, (.t 18)), (2, 1, (.t 20))] [], none⟩,
⟨4, (some 22), .mkI t_lang_Two (.t 21), none⟩,
⟨5, (some 3), .mv (.t 22), none⟩] none [0, 3])
(.seq
(.region [
⟨0, (some 24), .mv (.t 0), none⟩,
⟨1, (some 25), .call f_lang_reader_is [((.t 24), false), ((.c (.str [37])), true)], none⟩,
⟨2, (some 23), .mv (.t 25), none⟩] none [0, 3, 23])
(.cond (.t 23)
(.region [
⟨0, (some 26), .mv (.t 3), none⟩,
⟨1, (some 27), .mv (.t 0), none⟩,
⟨2, (some 28), .call f_lang_reader_unary [((.t 27), false)], none⟩,
⟨3, (some 29), .build (.agg [.int .u8 0, .nili, .nili]) [(0, 1, (.c (.int .u8 37))), (1, 1, (.t 26)), (2, 1, (.t 28))] [], none⟩,
⟨4, (some 30), .mkI t_lang_Two (.t 29), none⟩,
⟨5, (some 3), .mv (.t 30), none⟩] none [0, 3])
(.seq
(.region [
⟨0, (some 6), .mv (.t 3), none⟩,
⟨1, (some 2), .mv (.t 6), none⟩] none [2])
.ret)))))))))
def a_lang_reader_product_l0 : ACode := .loop [0, 3] a_lang_reader_product_b0
def a_lang_reader_product : AFun := ⟨1,
(.seq
(.region [
⟨0, (some 2), .mv (.c (.nili)), none⟩] none [0])
(.seq
(.region [
⟨0, (some 4), .mv (.t 0), none⟩,
⟨1, (some 5), .call f_lang_reader_unary [((.t 4), false)], none⟩,
⟨2, (some 3), .mv (.t 5), none⟩] none [0, 3])
(.block 0
 a_lang_reader_product_l0))), [(.tmp 2, true)]⟩

/-! (*strings.Builder).WriteString -/
def a_strings_Builder_WriteString : AFun := ⟨2,
(.seq
(.region [
⟨0, (some 4), .mv (.c (.int .i64 0)), none⟩,
⟨1, (some 5), .mv (.c (.nili)), none⟩] none [0, 1])
(.seq
(.region [
⟨0, (some 6), .mv (.t 0), none⟩,
⟨1, (some 7), .call f_strings_Builder_copyCheck [((.t 6), false)], none⟩] none [0, 1])
(.seq
(.region [
⟨0, (some 8), .mv (.t 0), none⟩,
⟨1, (some 9), .mv (.t 0), none⟩,
⟨2, (some 10), .nilCk (.t 9), none⟩,
⟨3, (some 11), .fieldA 1 1 false (.t 10), none⟩,
⟨4, (some 12), .load 1 false (.t 11), none⟩,
⟨5, (some 13), .mv (.t 1), none⟩,
⟨6, (some 14), .app ⟨1, 1000005⟩ (some (.t 12)) (.t 13), none⟩,
⟨7, (some 15), .nilCk (.t 8), none⟩,
⟨8, (some 16), .fieldA 1 1 false (.t 15), none⟩,
⟨9, none, .store 1 (.t 16) (.t 14), none⟩] none [1])
(.seq
(.region [
⟨0, (some 17), .mv (.t 1), none⟩,
⟨1, (some 18), .len true (.t 17), none⟩,
⟨2, (some 4), .mv (.t 18), none⟩,
⟨3, (some 5), .mv (.c (.nili)), none⟩] none [4, 5])
.ret)))), [(.tmp 4, true), (.tmp 5, true)]⟩

/-! (*strings.Builder).WriteByte -/
def a_strings_Builder_WriteByte : AFun := ⟨2,
(.seq
(.region [
⟨0, (some 4), .mv (.c (.nili)), none⟩] none [0, 1])
(.seq
(.region [
⟨0, (some 5), .mv (.t 0), none⟩,
⟨1, (some 6), .call f_strings_Builder_copyCheck [((.t 5), false)], none⟩] none [0, 1])
(.seq
(.region [
⟨0, (some 7), .mv (.t 0), none⟩,
⟨1, (some 8), .mv (.t 0), none⟩,
⟨2, (some 9), .nilCk (.t 8), none⟩,
⟨3, (some 10), .fieldA 1 1 false (.t 9), none⟩,
⟨4, (some 11), .load 1 false (.t 10), none⟩,
⟨5, (some 12), .mv (.t 1), none⟩,
⟨6, (some 13), .buildSl ⟨1, 1⟩ (.int .u8 0) 1 [(0, (.t 12))], none⟩,
⟨7, (some 14), .app ⟨1, 1000005⟩ (some (.t 11)) (.t 13), none⟩,
⟨8, (some 15), .nilCk (.t 7), none⟩,
⟨9, (some 16), .fieldA 1 1 false (.t 15), none⟩,
⟨10, none, .store 1 (.t 16) (.t 14), none⟩] none [])
(.seq
(.region [
⟨0, (some 4), .mv (.c (.nili)), none⟩] none [4])
.ret)))), [(.tmp 4, true)]⟩

/-! rafter/lang.part -/
def a_lang_part : AFun := ⟨3,
(.seq
(.seq
(.region [
⟨0, (some 6), .mv (.t 2), none⟩,
⟨1, (some 7), .un .not (.t 6), none⟩] none [0, 1, 7])
(.cond (.t 7)
(.seq
(.region [
⟨0, (some 8), .mv (.t 0), none⟩,
⟨1, (some 9), .mv (.t 1), none⟩,
⟨2, (some 10), .call f_lang_write [((.t 8), false), ((.t 9), true)], none⟩] none [])
.ret)
.skip))
(.seq
(.region [
⟨0, (some 11), .mv (.t 0), none⟩,
⟨1, (some 12), .call f_strings_Builder_WriteByte [((.t 11), false), ((.c (.int .u8 40)), true)], none⟩] none [0, 1])
(.seq
(.region [
⟨0, (some 13), .mv (.t 0), none⟩,
⟨1, (some 14), .mv (.t 1), none⟩,
⟨2, (some 15), .call f_lang_write [((.t 13), false), ((.t 14), true)], none⟩] none [0])
(.region [
⟨0, (some 16), .mv (.t 0), none⟩,
⟨1, (some 17), .call f_strings_Builder_WriteByte [((.t 16), false), ((.c (.int .u8 41)), true)], none⟩] none [])))), []⟩

/-! rafter/lang.single -/
def a_lang_single : AFun := ⟨1,
(.seq
(.region [
⟨0, (some 2), .mv (.c (.bool false)), none⟩] none [0])
(.seq
(.region [
⟨0, (some 6), .mv (.t 0), none⟩,
⟨1, (some 7), .tass t_lang_Two true (.agg [.int .u8 0, .nili, .nili]) (.t 6), none⟩,
⟨2, (some 5), .mv (.t 7), none⟩,
⟨3, (some 8), .extract (.t 5) 0, none⟩,
⟨4, (some 9), .extract (.t 5) 1, none⟩,
⟨5, (some 3), .alloc (.agg [.int .u8 0, .nili, .nili]) [], none⟩,
⟨6, none, .store 3 (.t 3) (.t 8), none⟩,
⟨7, (some 4), .mv (.t 9), none⟩] none [4])
(.seq
(.region [
⟨0, (some 10), .mv (.t 4), none⟩,
⟨1, (some 11), .un .not (.t 10), none⟩,
⟨2, (some 2), .mv (.t 11), none⟩] none [2])
.ret))), [(.tmp 2, true)]⟩

/-! rafter/lang.sum -/
def a_lang_sum : AFun := ⟨1,
(.seq
(.region [
⟨0, (some 2), .mv (.c (.bool false)), none⟩] none [0])
(.seq
(.region [
⟨0, (some 3), .mv (.t 0), none⟩,
⟨1, (some 4), .bin .eql (.t 3) (.c (.int .u8 43)), none⟩,
⟨2, (some 5), .mv (.t 4), none⟩,
⟨3, (some 6), .mv (.t 0), (some (5, false))⟩,
⟨4, (some 7), .bin .eql (.t 6) (.c (.int .u8 45)), (some (5, false))⟩,
⟨5, (some 8), .pick (.t 5) (.c (.bool true)) (.t 7), none⟩,
⟨6, (some 2), .mv (.t 8), none⟩] none [2])
.ret)), [(.tmp 2, true)]⟩

/-! rafter/lang.adds -/
def a_lang_adds : AFun := ⟨1,
(.seq
(.region [
⟨0, (some 2), .mv (.c (.bool false)), none⟩] none [0])
(.seq
(.region [
⟨0, (some 6), .mv (.t 0), none⟩,
⟨1, (some 7), .tass t_lang_Two true (.agg [.int .u8 0, .nili, .nili]) (.t 6), none⟩,
⟨2, (some 5), .mv (.t 7), none⟩,
⟨3, (some 8), .extract (.t 5) 0, none⟩,
⟨4, (some 9), .extract (.t 5) 1, none⟩,
⟨5, (some 3), .alloc (.agg [.int .u8 0, .nili, .nili]) [], none⟩,
⟨6, none, .store 3 (.t 3) (.t 8), none⟩,
⟨7, (some 4), .mv (.t 9), none⟩] none [3, 4])
(.seq
(.region [
⟨0, (some 10), .mv (.t 4), none⟩,
⟨1, (some 11), .mv (.t 10), none⟩,
⟨2, (some 12), .fieldA 0 1 false (.t 3), (some (11, true))⟩,
⟨3, (some 13), .load 1 false (.t 12), (some (11, true))⟩,
⟨4, (some 14), .call f_lang_sum [((.t 13), true)], (some (11, true))⟩,
⟨5, (some 15), .pick (.t 11) (.t 14) (.c (.bool false)), none⟩,
⟨6, (some 2), .mv (.t 15), none⟩] none [2])
.ret))), [(.tmp 2, true)]⟩

/-! rafter/guard.constant -/
def a_guard_constant_b0 : ACode :=
(.seq
(.region [
⟨0, (some 15), .bin .lss (.t 14) (.t 13), none⟩] none [0, 2, 4, 12, 13, 14, 15])
(.seq
(.cond (.t 15)
.skip
(.exit 0 [0, 2, 4]))
(.seq
(.block 1
(.seq
(.region [
⟨0, (some 16), .idxA ⟨2, 32⟩ (.t 12) (.t 14), none⟩,
⟨1, (some 17), .load 2 true (.t 16), none⟩,
⟨2, (some 6), .alloc (.agg [.bool false, .sl []]) [], none⟩,
⟨3, none, .store 2 (.t 6) (.t 17), none⟩] none [0, 2, 4, 6, 12, 13, 14])
(.seq
(.region [
⟨0, (some 18), .load 2 true (.t 6), none⟩,
⟨1, (some 19), .call f_whole_Sign [((.t 18), true)], none⟩,
⟨2, (some 20), .bin .neq (.t 19) (.c (.int .i64 0)), none⟩] none [0, 2, 4, 12, 13, 14, 20])
(.cond (.t 20)
(.seq
(.region [
⟨0, (some 21), .build (.agg [.bool false, .sl []]) [] [], none⟩,
⟨1, none, .store 2 (.t 2) (.t 21), none⟩,
⟨2, (some 3), .mv (.c (.bool false)), none⟩] none [2, 3])
.ret)
.skip))))
(.region [
⟨0, (some 22), .bin .add (.t 14) (.c (.int .i64 1)), none⟩,
⟨1, (some 14), .mv (.t 22), none⟩] none [0, 2, 4, 12, 13, 14]))))
def a_guard_constant_l0 : ACode := .loop [0, 2, 4, 12, 13, 14] a_guard_constant_b0
def a_guard_constant : AFun := ⟨1,
(.seq
(.region [
⟨0, (some 2), .alloc (.agg [.bool false, .sl []]) [], none⟩,
⟨1, (some 3), .mv (.c (.bool false)), none⟩] none [0, 2])
(.seq
(.region [
⟨0, (some 7), .mv (.t 0), none⟩,
⟨1, (some 8), .len false (.t 7), none⟩,
⟨2, (some 9), .bin .sub (.t 8) (.c (.int .i64 1)), none⟩,
⟨3, (some 4), .mv (.t 9), none⟩] none [0, 2, 4])
(.seq
(.seq
(.region [
⟨0, (some 10), .mv (.t 0), none⟩,
⟨1, (some 11), .mv (.t 4), none⟩,
⟨2, (some 12), .slice (some ⟨2, 32⟩) (.t 10) none (some (.t 11)), none⟩,
⟨3, (some 13), .len false (.t 12), none⟩,
⟨4, (some 14), .mv (.c (.int .i64 0)), none⟩] none [0, 2, 4, 12, 13, 14])
(.block 0
 a_guard_constant_l0))
(.seq
(.region [
⟨0, (some 23), .mv (.t 0), none⟩,
⟨1, (some 24), .mv (.t 4), none⟩,
⟨2, (some 25), .idxA ⟨2, 32⟩ (.t 23) (.t 24), none⟩,
⟨3, (some 26), .load 2 true (.t 25), none⟩,
⟨4, none, .store 2 (.t 2) (.t 26), none⟩,
⟨5, (some 3), .mv (.c (.bool true)), none⟩] none [2, 3])
.ret)))), [(.cell 2 2 true, true), (.tmp 3, true)]⟩

/-! rafter/whole.DivMod -/
def a_whole_DivMod : AFun := ⟨2,
(.seq
(.region [
⟨0, (some 2), .box 2 (.t 0), none⟩,
⟨1, (some 3), .box 2 (.t 1), none⟩,
⟨2, (some 4), .alloc (.agg [.bool false, .sl []]) [], none⟩,
⟨3, (some 5), .alloc (.agg [.bool false, .sl []]) [], none⟩,
⟨4, (some 6), .mv (.c (.bool false)), none⟩] none [2, 3, 4, 5])
(.seq
(.region [
⟨0, (some 11), .fieldA 1 1 false (.t 2), none⟩,
⟨1, (some 12), .load 1 false (.t 11), none⟩,
⟨2, (some 13), .fieldA 1 1 false (.t 3), none⟩,
⟨3, (some 14), .load 1 false (.t 13), none⟩,
⟨4, (some 15), .call f_limbs_DivMod [((.t 12), true), ((.t 14), true)], none⟩,
⟨5, (some 10), .mv (.t 15), none⟩,
⟨6, (some 16), .extract (.t 10) 0, none⟩,
⟨7, (some 17), .extract (.t 10) 1, none⟩,
⟨8, (some 18), .extract (.t 10) 2, none⟩,
⟨9, (some 7), .mv (.t 16), none⟩,
⟨10, (some 8), .mv (.t 17), none⟩,
⟨11, (some 6), .mv (.t 18), none⟩] none [2, 3, 4, 5, 6, 7, 8])
(.seq
(.seq
(.region [
⟨0, (some 19), .mv (.t 6), none⟩,
⟨1, (some 20), .un .not (.t 19), none⟩] none [2, 3, 4, 5, 7, 8, 20])
(.cond (.t 20)
(.seq
(.region [
⟨0, (some 21), .build (.agg [.bool false, .sl []]) [] [], none⟩,
⟨1, (some 22), .build (.agg [.bool false, .sl []]) [] [], none⟩,
⟨2, none, .store 2 (.t 4) (.t 21), none⟩,
⟨3, none, .store 2 (.t 5) (.t 22), none⟩,
⟨4, (some 6), .mv (.c (.bool false)), none⟩] none [4, 5, 6])
.ret)
.skip))
(.seq
(.region [
⟨0, (some 23), .fieldA 0 1 false (.t 2), none⟩,
⟨1, (some 24), .load 1 false (.t 23), none⟩,
⟨2, (some 25), .fieldA 0 1 false (.t 3), none⟩,
⟨3, (some 26), .load 1 false (.t 25), none⟩,
⟨4, (some 27), .eqB false (.t 24) (.t 26), none⟩,
⟨5, (some 28), .mv (.t 7), none⟩,
⟨7, (some 30), .fieldA 0 1 false (.t 2), none⟩,
⟨8, (some 31), .load 1 false (.t 30), none⟩,
⟨9, (some 32), .mv (.t 8), none⟩,
⟨6, (some 29), .call f_whole_made [((.t 27), true), ((.t 28), true)], none⟩,
⟨10, (some 33), .call f_whole_made [((.t 31), true), ((.t 32), true)], none⟩,
⟨11, none, .store 2 (.t 4) (.t 29), none⟩,
⟨12, none, .store 2 (.t 5) (.t 33), none⟩] (some ([(8, 6)], [6, 10])) [3, 4, 5])
(.seq
(.seq
(.region [
⟨0, (some 34), .fieldA 0 1 false (.t 5), none⟩,
⟨1, (some 35), .load 1 false (.t 34), none⟩,
⟨2, (some 36), .un .not (.t 35), none⟩] none [3, 4, 5, 36])
(.cond (.t 36)
(.seq
(.region [
⟨0, (some 37), .load 2 true (.t 4), none⟩,
⟨1, (some 38), .load 2 true (.t 5), none⟩,
⟨2, none, .store 2 (.t 4) (.t 37), none⟩,
⟨3, none, .store 2 (.t 5) (.t 38), none⟩,
⟨4, (some 6), .mv (.c (.bool true)), none⟩] (some ([(1, 2)], [])) [4, 5, 6])
.ret)
.skip))
(.seq
(.region [
⟨0, (some 39), .call f_whole_Of [((.c (.int .i64 1)), true)], none⟩,
⟨1, (some 9), .alloc (.agg [.bool false, .sl []]) [], none⟩,
⟨2, none, .store 2 (.t 9) (.t 39), none⟩] none [3, 4, 5, 9])
(.seq
(.seq
(.region [
⟨0, (some 40), .load 2 true (.t 3), none⟩,
⟨1, (some 41), .call f_whole_Sign [((.t 40), true)], none⟩,
⟨2, (some 42), .bin .lss (.t 41) (.c (.int .i64 0)), none⟩] none [3, 4, 5, 9, 42])
(.cond (.t 42)
(.seq
(.region [
⟨0, (some 43), .load 2 true (.t 4), none⟩,
⟨1, (some 44), .load 2 true (.t 9), none⟩,
⟨3, (some 46), .load 2 true (.t 5), none⟩,
⟨4, (some 47), .load 2 true (.t 3), none⟩,
⟨2, (some 45), .call f_whole_Add [((.t 43), true), ((.t 44), true)], none⟩,
⟨5, (some 48), .call f_whole_Sub [((.t 46), true), ((.t 47), true)], none⟩,
⟨6, none, .store 2 (.t 4) (.t 45), none⟩,
⟨7, none, .store 2 (.t 5) (.t 48), none⟩,
⟨8, (some 6), .mv (.c (.bool true)), none⟩] (some ([(3, 2), (4, 2)], [2, 5])) [4, 5, 6])
.ret)
.skip))
(.seq
(.region [
⟨0, (some 49), .load 2 true (.t 4), none⟩,
⟨1, (some 50), .load 2 true (.t 9), none⟩,
⟨3, (some 52), .load 2 true (.t 5), none⟩,
⟨4, (some 53), .load 2 true (.t 3), none⟩,
⟨2, (some 51), .call f_whole_Sub [((.t 49), true), ((.t 50), true)], none⟩,
⟨5, (some 54), .call f_whole_Add [((.t 52), true), ((.t 53), true)], none⟩,
⟨6, none, .store 2 (.t 4) (.t 51), none⟩,
⟨7, none, .store 2 (.t 5) (.t 54), none⟩,
⟨8, (some 6), .mv (.c (.bool true)), none⟩] (some ([(3, 2), (4, 2)], [2, 5])) [4, 5, 6])
.ret)))))))), [(.cell 4 2 true, true), (.cell 5 2 true, true), (.tmp 6, true)]⟩

/-! rafter/ratio.lowest -/
def a_ratio_lowest_b0 : ACode :=
(.block 1
(.seq
(.region [
⟨0, (some 23), .fieldA 1 1 false (.t 5), none⟩,
⟨1, (some 24), .load 1 false (.t 23), none⟩,
⟨2, (some 25), .mv (.t 6), none⟩,
⟨3, (some 26), .call f_limbs_Gcd [((.t 24), true), ((.t 25), true)], none⟩,
⟨4, (some 7), .mv (.t 26), none⟩] none [4, 5, 6, 7])
(.seq
(.seq
(.region [
⟨0, (some 27), .mv (.t 7), none⟩,
⟨1, (some 28), .call f_limbs_Bits [((.t 27), true)], none⟩,
⟨2, (some 29), .bin .eql (.t 28) (.c (.int .i64 1)), none⟩] none [4, 5, 6, 7, 29])
(.cond (.t 29)
(.exit 0 [4, 5, 6])
.skip))
(.seq
(.region [
⟨0, (some 31), .fieldA 1 1 false (.t 5), none⟩,
⟨1, (some 32), .load 1 false (.t 31), none⟩,
⟨2, (some 33), .mv (.t 7), none⟩,
⟨3, (some 34), .call f_limbs_DivMod [((.t 32), true), ((.t 33), true)], none⟩,
⟨4, (some 30), .mv (.t 34), none⟩,
⟨5, (some 35), .extract (.t 30) 0, none⟩,
⟨6, (some 36), .extract (.t 30) 1, none⟩,
⟨7, (some 37), .extract (.t 30) 2, none⟩,
⟨8, (some 38), .fieldA 1 1 false (.t 5), none⟩,
⟨9, none, .store 1 (.t 38) (.t 35), none⟩] none [4, 5, 6, 7])
(.region [
⟨0, (some 40), .mv (.t 6), none⟩,
⟨1, (some 41), .mv (.t 7), none⟩,
⟨2, (some 42), .call f_limbs_DivMod [((.t 40), true), ((.t 41), true)], none⟩,
⟨3, (some 39), .mv (.t 42), none⟩,
⟨4, (some 43), .extract (.t 39) 0, none⟩,
⟨5, (some 44), .extract (.t 39) 1, none⟩,
⟨6, (some 45), .extract (.t 39) 2, none⟩,
⟨7, (some 6), .mv (.t 43), none⟩] none [4, 5, 6])))))
def a_ratio_lowest_l0 : ACode := .loop [4, 5, 6] a_ratio_lowest_b0
def a_ratio_lowest : AFun := ⟨2,
(.seq
(.region [
⟨0, (some 2), .box 2 (.t 0), none⟩,
⟨1, (some 4), .alloc (.agg [.bool false, .sl [], .sl []]) [], none⟩] none [1, 2, 4])
(.scope
(.seq
(.region [
⟨0, (some 8), .load 2 true (.t 2), none⟩,
⟨1, (some 9), .call f_whole_Trim [((.t 8), true)], none⟩,
⟨2, (some 10), .mv (.t 1), none⟩,
⟨3, (some 11), .call f_limbs_Trim [((.t 10), true)], none⟩,
⟨4, (some 5), .alloc (.agg [.bool false, .sl []]) [], none⟩,
⟨5, none, .store 2 (.t 5) (.t 9), none⟩,
⟨6, (some 6), .mv (.t 11), none⟩] none [4, 5, 6])
(.seq
(.seq
(.region [
⟨0, (some 12), .mv (.t 6), none⟩,
⟨1, (some 13), .len false (.t 12), none⟩,
⟨2, (some 14), .bin .eql (.t 13) (.c (.int .i64 0)), none⟩,
⟨3, (some 15), .mv (.t 14), none⟩,
⟨4, (some 16), .fieldA 1 1 false (.t 5), (some (15, false))⟩,
⟨5, (some 17), .load 1 false (.t 16), (some (15, false))⟩,
⟨6, (some 18), .len false (.t 17), (some (15, false))⟩,
⟨7, (some 19), .bin .eql (.t 18) (.c (.int .i64 0)), (some (15, false))⟩,
⟨8, (some 20), .pick (.t 15) (.c (.bool true)) (.t 19), none⟩] none [4, 5, 6, 20])
(.cond (.t 20)
(.seq
(.region [
⟨0, (some 21), .call f_ratio_one [], none⟩,
⟨1, (some 22), .build (.agg [.bool false, .sl [], .sl []]) [(2, 1, (.t 21))] [], none⟩,
⟨2, none, .store 3 (.t 4) (.t 22), none⟩] none [4])
.ret)
.skip))
(.seq
.skip
(.seq
(.block 0
 a_ratio_lowest_l0)
(.seq
(.region [
⟨0, (some 46), .load 2 true (.t 5), none⟩,
⟨1, (some 47), .mv (.t 6), none⟩,
⟨2, (some 48), .build (.agg [.bool false, .sl [], .sl []]) [(0, 2, (.t 46)), (2, 1, (.t 47))] [], none⟩,
⟨3, none, .store 3 (.t 4) (.t 48), none⟩] none [4])
.ret))))))), [(.cell 4 3 true, true)]⟩

/-! rafter/ratio.one -/
def a_ratio_one : AFun := ⟨0,
(.seq
(.region [
⟨0, (some 0), .mv (.c (.sl [])), none⟩] none [])
(.seq
(.region [
⟨0, (some 1), .buildSl ⟨1, 4⟩ (.int .u32 0) 1 [(0, (.c (.int .u32 1)))], none⟩,
⟨1, (some 0), .mv (.t 1), none⟩] none [0])
.ret)), [(.tmp 0, true)]⟩

/-! rafter/ratio.Trim -/
def a_ratio_Trim : AFun := ⟨1,
(.seq
(.region [
⟨0, (some 1), .box 3 (.t 0), none⟩,
⟨1, (some 2), .alloc (.agg [.bool false, .sl [], .sl []]) [], none⟩] none [1, 2])
(.seq
(.region [
⟨0, (some 3), .fieldA 0 2 true (.t 1), none⟩,
⟨1, (some 4), .load 2 true (.t 3), none⟩,
⟨2, (some 5), .fieldA 2 1 false (.t 1), none⟩,
⟨3, (some 6), .load 1 false (.t 5), none⟩,
⟨4, (some 7), .call f_ratio_lowest [((.t 4), true), ((.t 6), true)], none⟩,
⟨5, none, .store 3 (.t 2) (.t 7), none⟩] none [2])
.ret)), [(.cell 2 3 true, true)]⟩

/-! rafter/ratio.Whole -/
def a_ratio_Whole : AFun := ⟨1,
(.seq
(.region [
⟨0, (some 1), .box 3 (.t 0), none⟩,
⟨1, (some 2), .alloc (.agg [.bool false, .sl []]) [], none⟩,
⟨2, (some 3), .mv (.c (.bool false)), none⟩] none [1, 2])
(.seq
(.region [
⟨0, (some 4), .load 3 true (.t 1), none⟩,
⟨1, (some 5), .call f_ratio_Trim [((.t 4), true)], none⟩,
⟨2, none, .store 3 (.t 1) (.t 5), none⟩] none [1, 2])
(.seq
(.seq
(.region [
⟨0, (some 6), .fieldA 2 1 false (.t 1), none⟩,
⟨1, (some 7), .load 1 false (.t 6), none⟩,
⟨2, (some 8), .call f_limbs_Bits [((.t 7), true)], none⟩,
⟨3, (some 9), .bin .neq (.t 8) (.c (.int .i64 1)), none⟩] none [1, 2, 9])
(.cond (.t 9)
(.seq
(.region [
⟨0, (some 10), .build (.agg [.bool false, .sl []]) [] [], none⟩,
⟨1, none, .store 2 (.t 2) (.t 10), none⟩,
⟨2, (some 3), .mv (.c (.bool false)), none⟩] none [2, 3])
.ret)
.skip))
(.seq
(.region [
⟨0, (some 11), .fieldA 0 2 true (.t 1), none⟩,
⟨1, (some 12), .load 2 true (.t 11), none⟩,
⟨2, none, .store 2 (.t 2) (.t 12), none⟩,
⟨3, (some 3), .mv (.c (.bool true)), none⟩] none [2, 3])
.ret)))), [(.cell 2 2 true, true), (.tmp 3, true)]⟩

/-! rafter/ratio.Mul -/
def a_ratio_Mul : AFun := ⟨2,
(.seq
(.region [
⟨0, (some 2), .box 3 (.t 0), none⟩,
⟨1, (some 3), .box 3 (.t 1), none⟩,
⟨2, (some 4), .alloc (.agg [.bool false, .sl [], .sl []]) [], none⟩] none [2, 3, 4])
(.seq
(.region [
⟨0, (some 5), .fieldA 0 2 true (.t 2), none⟩,
⟨1, (some 6), .load 2 true (.t 5), none⟩,
⟨2, (some 7), .fieldA 0 2 true (.t 3), none⟩,
⟨3, (some 8), .load 2 true (.t 7), none⟩,
⟨5, (some 10), .fieldA 2 1 false (.t 2), none⟩,
⟨6, (some 11), .load 1 false (.t 10), none⟩,
⟨7, (some 12), .fieldA 2 1 false (.t 3), none⟩,
⟨8, (some 13), .load 1 false (.t 12), none⟩,
⟨4, (some 9), .call f_whole_Mul [((.t 6), true), ((.t 8), true)], none⟩,
⟨9, (some 14), .call f_limbs_Mul [((.t 11), true), ((.t 13), true)], none⟩,
⟨10, (some 15), .call f_ratio_lowest [((.t 9), true), ((.t 14), true)], none⟩,
⟨11, none, .store 3 (.t 4) (.t 15), none⟩] (some ([(6, 4), (8, 4)], [4, 9, 10])) [4])
.ret)), [(.cell 4 3 true, true)]⟩

/-! rafter/affine.told -/
def a_affine_told_b0 : ACode :=
(.seq
(.region [
⟨0, (some 9), .bin .lss (.t 8) (.t 7), none⟩] none [0, 6, 7, 8, 9])
(.seq
(.cond (.t 9)
.skip
(.exit 0 [0]))
(.seq
(.block 1
(.seq
(.region [
⟨0, (some 10), .idxA ⟨2, 32⟩ (.t 6) (.t 8), none⟩,
⟨1, (some 11), .load 2 true (.t 10), none⟩,
⟨2, (some 5), .alloc (.agg [.bool false, .sl []]) [], none⟩,
⟨3, none, .store 2 (.t 5) (.t 11), none⟩] none [0, 5, 6, 7, 8])
(.seq
(.region [
⟨0, (some 12), .load 2 true (.t 5), none⟩,
⟨1, (some 13), .call f_whole_Limbs [((.t 12), true)], none⟩,
⟨2, (some 14), .bin .gtr (.t 13) (.c (.int .i64 32)), none⟩] none [0, 6, 7, 8, 14])
(.cond (.t 14)
(.seq
(.region [
⟨0, (some 2), .mv (.c (.sl [])), none⟩,
⟨1, (some 3), .mv (.c (.int .i64 2)), none⟩] none [2, 3])
.ret)
.skip))))
(.region [
⟨0, (some 15), .bin .add (.t 8) (.c (.int .i64 1)), none⟩,
⟨1, (some 8), .mv (.t 15), none⟩] none [0, 6, 7, 8]))))
def a_affine_told_l0 : ACode := .loop [0, 6, 7, 8] a_affine_told_b0
def a_affine_told : AFun := ⟨1,
(.seq
(.region [
⟨0, (some 2), .mv (.c (.sl [])), none⟩,
⟨1, (some 3), .mv (.c (.int .i64 0)), none⟩] none [0])
(.seq
(.seq
(.region [
⟨0, (some 6), .mv (.t 0), none⟩,
⟨1, (some 7), .len false (.t 6), none⟩,
⟨2, (some 8), .mv (.c (.int .i64 0)), none⟩] none [0, 6, 7, 8])
(.block 0
 a_affine_told_l0))
(.seq
(.region [
⟨0, (some 16), .mv (.t 0), none⟩,
⟨1, (some 2), .mv (.t 16), none⟩,
⟨2, (some 3), .mv (.c (.int .i64 0)), none⟩] none [2, 3])
.ret))), [(.tmp 2, true), (.tmp 3, true)]⟩

/-! rafter/affine.lowest -/
def a_affine_lowest_b0 : ACode :=
(.seq
(.region [
⟨0, (some 14), .bin .lss (.t 13) (.t 12), none⟩] none [0, 3, 4, 11, 12, 13, 14])
(.seq
(.cond (.t 14)
.skip
(.exit 0 [0, 3, 4]))
(.seq
(.block 1
(.seq
(.region [
⟨0, (some 15), .idxA ⟨2, 32⟩ (.t 11) (.t 13), none⟩,
⟨1, (some 16), .load 2 true (.t 15), none⟩,
⟨2, (some 6), .alloc (.agg [.bool false, .sl []]) [], none⟩,
⟨3, none, .store 2 (.t 6) (.t 16), none⟩] none [0, 3, 4, 6, 11, 12, 13])
(.seq
(.seq
(.region [
⟨0, (some 17), .mv (.t 3), none⟩,
⟨1, (some 18), .bin .eql (.t 17) (.c (.int .i64 0)), none⟩] none [0, 3, 4, 6, 11, 12, 13, 18])
(.cond (.t 18)
(.region [
⟨0, (some 19), .load 2 true (.t 6), none⟩,
⟨1, (some 20), .call f_whole_Sign [((.t 19), true)], none⟩,
⟨2, (some 3), .mv (.t 20), none⟩] none [0, 3, 4, 6, 11, 12, 13])
.skip))
(.region [
⟨0, (some 21), .load 2 true (.t 4), none⟩,
⟨1, (some 22), .load 2 true (.t 6), none⟩,
⟨2, (some 23), .call f_whole_Gcd [((.t 21), true), ((.t 22), true)], none⟩,
⟨3, none, .store 2 (.t 4) (.t 23), none⟩] none [0, 3, 4, 11, 12, 13]))))
(.region [
⟨0, (some 24), .bin .add (.t 13) (.c (.int .i64 1)), none⟩,
⟨1, (some 13), .mv (.t 24), none⟩] none [0, 3, 4, 11, 12, 13]))))
def a_affine_lowest_l0 : ACode := .loop [0, 3, 4, 11, 12, 13] a_affine_lowest_b0
def a_affine_lowest_b1 : ACode :=
(.seq
(.region [
⟨0, (some 31), .bin .lss (.t 30) (.t 29), none⟩] none [3, 4, 7, 28, 29, 30, 31])
(.seq
(.cond (.t 31)
.skip
(.exit 2 [7]))
(.seq
(.block 3
(.seq
(.region [
⟨0, (some 32), .mv (.t 30), none⟩,
⟨1, (some 33), .idxA ⟨2, 32⟩ (.t 28) (.t 30), none⟩,
⟨2, (some 34), .load 2 true (.t 33), none⟩,
⟨3, (some 9), .alloc (.agg [.bool false, .sl []]) [], none⟩,
⟨4, (some 8), .mv (.t 32), none⟩,
⟨5, none, .store 2 (.t 9) (.t 34), none⟩] none [3, 4, 7, 8, 9, 28, 29, 30])
(.seq
(.seq
(.region [
⟨0, (some 35), .mv (.t 3), none⟩,
⟨1, (some 36), .bin .neq (.t 35) (.c (.int .i64 0)), none⟩] none [3, 4, 7, 8, 9, 28, 29, 30, 36])
(.cond (.t 36)
(.region [
⟨0, (some 38), .load 2 true (.t 9), none⟩,
⟨1, (some 39), .load 2 true (.t 4), none⟩,
⟨2, (some 40), .call f_whole_DivMod [((.t 38), true), ((.t 39), true)], none⟩,
⟨3, (some 37), .mv (.t 40), none⟩,
⟨4, (some 41), .extract (.t 37) 0, none⟩,
⟨5, (some 42), .extract (.t 37) 1, none⟩,
⟨6, (some 43), .extract (.t 37) 2, none⟩,
⟨7, none, .store 2 (.t 9) (.t 41), none⟩] none [3, 4, 7, 8, 9, 28, 29, 30])
.skip))
(.seq
(.seq
(.region [
⟨0, (some 44), .mv (.t 3), none⟩,
⟨1, (some 45), .bin .lss (.t 44) (.c (.int .i64 0)), none⟩] none [3, 4, 7, 8, 9, 28, 29, 30, 45])
(.cond (.t 45)
(.region [
⟨0, (some 46), .load 2 true (.t 9), none⟩,
⟨1, (some 47), .call f_whole_Neg [((.t 46), true)], none⟩,
⟨2, none, .store 2 (.t 9) (.t 47), none⟩] none [3, 4, 7, 8, 9, 28, 29, 30])
.skip))
(.region [
⟨0, (some 48), .mv (.t 7), none⟩,
⟨1, (some 49), .mv (.t 8), none⟩,
⟨2, (some 50), .load 2 true (.t 9), none⟩,
⟨3, (some 51), .call f_whole_Trim [((.t 50), true)], none⟩,
⟨4, (some 52), .idxA ⟨2, 32⟩ (.t 48) (.t 49), none⟩,
⟨5, none, .store 2 (.t 52) (.t 51), none⟩] none [3, 4, 7, 28, 29, 30])))))
(.region [
⟨0, (some 53), .bin .add (.t 30) (.c (.int .i64 1)), none⟩,
⟨1, (some 30), .mv (.t 53), none⟩] none [3, 4, 7, 28, 29, 30]))))
def a_affine_lowest_l1 : ACode := .loop [3, 4, 7, 28, 29, 30] a_affine_lowest_b1
def a_affine_lowest : AFun := ⟨1,
(.seq
(.region [
⟨0, (some 2), .mv (.c (.sl [])), none⟩] none [0])
(.seq
(.region [
⟨0, (some 10), .build (.agg [.bool false, .sl []]) [] [], none⟩,
⟨1, (some 4), .alloc (.agg [.bool false, .sl []]) [], none⟩,
⟨2, (some 3), .mv (.c (.int .i64 0)), none⟩,
⟨3, none, .store 2 (.t 4) (.t 10), none⟩] none [0, 3, 4])
(.seq
(.seq
(.region [
⟨0, (some 11), .mv (.t 0), none⟩,
⟨1, (some 12), .len false (.t 11), none⟩,
⟨2, (some 13), .mv (.c (.int .i64 0)), none⟩] none [0, 3, 4, 11, 12, 13])
(.block 0
 a_affine_lowest_l0))
(.seq
(.region [
⟨0, (some 25), .mv (.t 0), none⟩,
⟨1, (some 26), .len false (.t 25), none⟩,
⟨2, (some 27), .mkSl ⟨2, 32⟩ (.agg [.bool false, .sl []]) (.t 26) (.t 26), none⟩,
⟨3, (some 7), .mv (.t 27), none⟩] none [0, 3, 4, 7])
(.seq
(.seq
(.region [
⟨0, (some 28), .mv (.t 0), none⟩,
⟨1, (some 29), .len false (.t 28), none⟩,
⟨2, (some 30), .mv (.c (.int .i64 0)), none⟩] none [3, 4, 7, 28, 29, 30])
(.block 2
 a_affine_lowest_l1))
(.seq
(.region [
⟨0, (some 54), .mv (.t 7), none⟩,
⟨1, (some 2), .mv (.t 54), none⟩] none [2])
.ret)))))), [(.tmp 2, true)]⟩

/-! rafter/limbs.Uint -/
def a_limbs_Uint : AFun := ⟨1,
(.seq
(.region [
⟨0, (some 2), .mv (.c (.int .u64 0)), none⟩,
⟨1, (some 3), .mv (.c (.bool false)), none⟩] none [0])
(.seq
(.region [
⟨0, (some 5), .mv (.t 0), none⟩,
⟨1, (some 6), .call f_limbs_short [((.t 5), true)], none⟩,
⟨2, (some 0), .mv (.t 6), none⟩] none [0])
(.seq
(.region [
⟨0, (some 4), .mv (.c (.int .u64 0)), none⟩] none [0, 4])
(.seq
(.seq
(.region [
⟨0, (some 7), .mv (.t 0), none⟩,
⟨1, (some 8), .len false (.t 7), none⟩] none [0, 4, 8])
(.block 0
(.seq
(.region [
⟨0, (some 10), .bin .eql (.t 8) (.c (.int .i64 0)), none⟩,
⟨1, (some 9), .mv (.t 10), none⟩] none [0, 4, 8, 9])
(.cond (.t 9)
.skip
(.seq
(.region [
⟨0, (some 12), .bin .eql (.t 8) (.c (.int .i64 1)), none⟩,
⟨1, (some 11), .mv (.t 12), none⟩] none [0, 8, 11])
(.cond (.t 11)
(.region [
⟨0, (some 13), .mv (.t 0), none⟩,
⟨1, (some 14), .idxA ⟨1, 4⟩ (.t 13) (.c (.int .i64 0)), none⟩,
⟨2, (some 15), .load 1 false (.t 14), none⟩,
⟨3, (some 16), .conv (.int .u64) (.t 15), none⟩,
⟨4, (some 4), .mv (.t 16), none⟩] none [4])
(.seq
(.region [
⟨0, (some 18), .bin .eql (.t 8) (.c (.int .i64 2)), none⟩,
⟨1, (some 17), .mv (.t 18), none⟩] none [0, 17])
(.cond (.t 17)
(.region [
⟨0, (some 19), .mv (.t 0), none⟩,
⟨1, (some 20), .idxA ⟨1, 4⟩ (.t 19) (.c (.int .i64 1)), none⟩,
⟨2, (some 21), .load 1 false (.t 20), none⟩,
⟨3, (some 22), .conv (.int .u64) (.t 21), none⟩,
⟨4, (some 23), .bin .shl (.t 22) (.c (.int .u64 32)), none⟩,
⟨5, (some 24), .mv (.t 0), none⟩,
⟨6, (some 25), .idxA ⟨1, 4⟩ (.t 24) (.c (.int .i64 0)), none⟩,
⟨7, (some 26), .load 1 false (.t 25), none⟩,
⟨8, (some 27), .conv (.int .u64) (.t 26), none⟩,
⟨9, (some 28), .bin .or (.t 23) (.t 27), none⟩,
⟨10, (some 4), .mv (.t 28), none⟩] (some ([], [])) [4])
(.seq
(.region [
⟨0, (some 2), .mv (.c (.int .u64 0)), none⟩,
⟨1, (some 3), .mv (.c (.bool false)), none⟩] none [2, 3])
.ret)))))))))
(.seq
(.region [
⟨0, (some 29), .mv (.t 4), none⟩,
⟨1, (some 2), .mv (.t 29), none⟩,
⟨2, (some 3), .mv (.c (.bool true)), none⟩] none [2, 3])
.ret))))), [(.tmp 2, true), (.tmp 3, true)]⟩

/-! rafter/limbs.DivMod -/
def a_limbs_DivMod : AFun := ⟨2,
(.seq
(.region [
⟨0, (some 4), .mv (.c (.sl [])), none⟩,
⟨1, (some 5), .mv (.c (.sl [])), none⟩,
⟨2, (some 6), .mv (.c (.bool false)), none⟩] none [0, 1])
(.seq
(.region [
⟨0, (some 9), .mv (.t 0), none⟩,
⟨1, (some 10), .call f_limbs_short [((.t 9), true)], none⟩,
⟨2, (some 11), .mv (.t 1), none⟩,
⟨3, (some 12), .call f_limbs_short [((.t 11), true)], none⟩,
⟨4, (some 0), .mv (.t 10), none⟩,
⟨5, (some 1), .mv (.t 12), none⟩] none [0, 1])
(.seq
(.block 0
(.seq
(.region [
⟨0, (some 14), .mv (.t 1), none⟩,
⟨1, (some 15), .len false (.t 14), none⟩,
⟨2, (some 16), .bin .eql (.t 15) (.c (.int .i64 0)), none⟩,
⟨3, (some 13), .mv (.t 16), none⟩] none [0, 1, 13])
(.cond (.t 13)
(.seq
(.region [
⟨0, (some 4), .mv (.c (.sl [])), none⟩,
⟨1, (some 5), .mv (.c (.sl [])), none⟩,
⟨2, (some 6), .mv (.c (.bool false)), none⟩] none [4, 5, 6])
.ret)
(.seq
(.region [
⟨0, (some 18), .mv (.t 0), none⟩,
⟨1, (some 19), .mv (.t 1), none⟩,
⟨2, (some 20), .call f_limbs_Cmp [((.t 18), true), ((.t 19), true)], none⟩,
⟨3, (some 21), .bin .lss (.t 20) (.c (.int .i64 0)), none⟩,
⟨4, (some 17), .mv (.t 21), none⟩] none [0, 1, 17])
(.cond (.t 17)
(.seq
(.region [
⟨0, (some 22), .mv (.t 0), none⟩,
⟨1, (some 23), .call f_limbs_Trim [((.t 22), true)], none⟩,
⟨2, (some 4), .mv (.c (.sl [])), none⟩,
⟨3, (some 5), .mv (.t 23), none⟩,
⟨4, (some 6), .mv (.c (.bool true)), none⟩] none [4, 5, 6])
.ret)
(.seq
(.region [
⟨0, (some 25), .mv (.t 1), none⟩,
⟨1, (some 26), .len false (.t 25), none⟩,
⟨2, (some 27), .bin .eql (.t 26) (.c (.int .i64 1)), none⟩,
⟨3, (some 24), .mv (.t 27), none⟩] none [0, 1, 24])
(.cond (.t 24)
(.seq
(.region [
⟨0, (some 29), .mv (.t 0), none⟩,
⟨1, (some 30), .mv (.t 1), none⟩,
⟨2, (some 31), .idxA ⟨1, 4⟩ (.t 30) (.c (.int .i64 0)), none⟩,
⟨3, (some 32), .load 1 false (.t 31), none⟩,
⟨4, (some 33), .call f_limbs_byLimb [((.t 29), true), ((.t 32), true)], none⟩,
⟨5, (some 28), .mv (.t 33), none⟩,
⟨6, (some 34), .extract (.t 28) 0, none⟩,
⟨7, (some 35), .extract (.t 28) 1, none⟩,
⟨8, (some 7), .mv (.t 34), none⟩,
⟨9, (some 8), .mv (.t 35), none⟩] none [7, 8])
(.seq
(.region [
⟨0, (some 36), .mv (.t 7), none⟩,
⟨1, (some 37), .mv (.t 8), none⟩,
⟨2, (some 38), .conv (.int .u64) (.t 37), none⟩,
⟨3, (some 39), .call f_limbs_Small [((.t 38), true)], none⟩,
⟨4, (some 4), .mv (.t 36), none⟩,
⟨5, (some 5), .mv (.t 39), none⟩,
⟨6, (some 6), .mv (.c (.bool true)), none⟩] none [4, 5, 6])
.ret))
.skip)))))))
(.seq
(.region [
⟨0, (some 41), .mv (.t 0), none⟩,
⟨1, (some 42), .mv (.t 1), none⟩,
⟨2, (some 43), .call f_limbs_long [((.t 41), true), ((.t 42), true)], none⟩,
⟨3, (some 40), .mv (.t 43), none⟩,
⟨4, (some 44), .extract (.t 40) 0, none⟩,
⟨5, (some 45), .extract (.t 40) 1, none⟩,
⟨6, (some 4), .mv (.t 44), none⟩,
⟨7, (some 5), .mv (.t 45), none⟩] none [4, 5])
(.seq
(.region [
⟨0, (some 46), .mv (.t 4), none⟩,
⟨1, (some 47), .mv (.t 5), none⟩,
⟨2, (some 4), .mv (.t 46), none⟩,
⟨3, (some 5), .mv (.t 47), none⟩,
⟨4, (some 6), .mv (.c (.bool true)), none⟩] none [4, 5, 6])
.ret))))), [(.tmp 4, true), (.tmp 5, true), (.tmp 6, true)]⟩

/-! rafter/glyph.start -/
def a_glyph_start : AFun := ⟨0,
(.seq
(.region [
⟨0, (some 0), .alloc (.agg [.int .i64 0, .int .i64 0, .int .i64 0, .int .i64 0]) [], none⟩] none [0])
(.seq
(.region [
⟨0, (some 1), .build (.agg [.int .i64 0, .int .i64 0, .int .i64 0, .int .i64 0]) [(2, 1, (.c (.int .i64 1))), (3, 1, (.c (.int .i64 1)))] [], none⟩,
⟨1, none, .store 4 (.t 0) (.t 1), none⟩] none [0])
.ret)), [(.cell 0 4 true, true)]⟩

/-! (*rafter/glyph.scanner).blanks -/
def a_glyph_scanner_blanks_b0 : ACode :=
(.seq
(.seq
(.region [
⟨0, (some 13), .mv (.t 2), none⟩,
⟨1, (some 14), .bin .geq (.t 13) (.c (.int .i64 0)), none⟩,
⟨2, (some 15), .mv (.t 14), none⟩,
⟨3, (some 16), .mv (.t 2), (some (15, true))⟩,
⟨4, (some 17), .bin .neq (.t 16) (.c (.int .i64 10)), (some (15, true))⟩,
⟨5, (some 18), .pick (.t 15) (.t 17) (.c (.bool false)), none⟩] none [0, 18])
(.cond (.t 18)
.skip
(.exit 3 [0])))
(.seq
(.block 4
(.region [
⟨0, (some 21), .mv (.t 0), none⟩,
⟨1, (some 22), .call f_glyph_scanner_pass [((.t 21), false)], none⟩] none [0]))
(.region [
⟨0, (some 19), .mv (.t 0), none⟩,
⟨1, (some 20), .call f_glyph_scanner_next [((.t 19), false)], none⟩,
⟨2, (some 2), .mv (.t 20), none⟩] none [0, 2])))
def a_glyph_scanner_blanks_l0 : ACode := .loop [0, 2] a_glyph_scanner_blanks_b0
def a_glyph_scanner_blanks_b1 : ACode :=
(.block 1
(.seq
(.region [
⟨0, (some 3), .mv (.t 0), none⟩,
⟨1, (some 4), .call f_glyph_scanner_class [((.t 3), false)], none⟩] none [0, 4])
(.block 2
(.seq
(.region [
⟨0, (some 6), .bin .eql (.t 4) (.c (.int .i64 1)), none⟩,
⟨1, (some 5), .mv (.t 6), none⟩] none [0, 4, 5])
(.cond (.t 5)
(.region [
⟨0, (some 7), .mv (.t 0), none⟩,
⟨1, (some 8), .call f_glyph_scanner_pass [((.t 7), false)], none⟩] none [0])
(.seq
(.region [
⟨0, (some 10), .bin .eql (.t 4) (.c (.int .i64 6)), none⟩,
⟨1, (some 9), .mv (.t 10), none⟩] none [0, 9])
(.cond (.t 9)
(.seq
(.region [
⟨0, (some 11), .mv (.t 0), none⟩,
⟨1, (some 12), .call f_glyph_scanner_next [((.t 11), false)], none⟩,
⟨2, (some 2), .mv (.t 12), none⟩] none [0, 2])
(.block 3
 a_glyph_scanner_blanks_l0))
.ret)))))))
def a_glyph_scanner_blanks_l1 : ACode := .loop [0] a_glyph_scanner_blanks_b1
def a_glyph_scanner_blanks : AFun := ⟨1,
(.block 0
 a_glyph_scanner_blanks_l1), []⟩

/-! (*rafter/glyph.scanner).token -/
def a_glyph_scanner_token : AFun := ⟨1,
(.seq
(.region [
⟨0, (some 2), .alloc (.agg [.int .i64 0, .str [], .int .i64 0, .int .i64 0, .int .i64 0, .int .i64 0]) [], none⟩] none [0, 2])
(.seq
(.region [
⟨0, (some 7), .mv (.t 0), none⟩,
⟨1, (some 8), .nilCk (.t 7), none⟩,
⟨2, (some 9), .fieldA 1 4 true (.t 8), none⟩,
⟨3, (some 10), .load 4 true (.t 9), none⟩,
⟨4, (some 11), .build (.agg [.int .i64 0, .str [], .int .i64 0, .int .i64 0, .int .i64 0, .int .i64 0]) [(2, 4, (.t 10))] [], none⟩,
⟨5, (some 3), .alloc (.agg [.int .i64 0, .str [], .int .i64 0, .int .i64 0, .int .i64 0, .int .i64 0]) [], none⟩,
⟨6, none, .store 6 (.t 3) (.t 11), none⟩] none [0, 2, 3])
(.seq
(.seq
(.region [
⟨0, (some 12), .mv (.t 0), none⟩,
⟨1, (some 13), .call f_glyph_scanner_class [((.t 12), false)], none⟩] none [0, 2, 3, 13])
(.block 0
(.seq
(.region [
⟨0, (some 21), .bin .eql (.t 13) (.c (.int .i64 2)), none⟩,
⟨1, (some 20), .mv (.t 21), none⟩] none [0, 2, 3, 13, 20])
(.cond (.t 20)
(.seq
(.region [
⟨0, (some 22), .fieldA 0 1 false (.t 3), none⟩,
⟨1, none, .store 1 (.t 22) (.c (.int .i64 1)), none⟩] none [0, 2, 3])
(.seq
(.region [
⟨0, (some 23), .mv (.t 0), none⟩,
⟨1, (some 24), .call f_glyph_scanner_while [((.t 23), false), ((.c (.fn f_glyph_scanner_token_1 [])), false)], none⟩,
⟨2, (some 25), .fieldA 1 1 false (.t 3), none⟩,
⟨3, none, .store 1 (.t 25) (.t 24), none⟩] none [0, 2, 3])
(.seq
(.region [
⟨0, (some 26), .fieldA 1 1 false (.t 3), none⟩,
⟨1, (some 27), .load 1 false (.t 26), none⟩,
⟨2, (some 28), .call f_utf8_RuneCountInString [((.t 27), true)], none⟩,
⟨3, (some 29), .bin .gtr (.t 28) (.c (.int .i64 16)), none⟩] none [0, 2, 3, 29])
(.cond (.t 29)
(.region [
⟨0, (some 30), .mv (.t 0), none⟩,
⟨1, (some 31), .fieldA 2 4 true (.t 3), none⟩,
⟨2, (some 32), .load 4 true (.t 31), none⟩,
⟨3, (some 33), .call f_glyph_scanner_early [((.t 30), false), ((.c (.int .i64 42)), true), ((.t 32), true)], none⟩] none [2, 3])
.skip))))
(.seq
(.region [
⟨0, (some 35), .bin .eql (.t 13) (.c (.int .i64 3)), none⟩,
⟨1, (some 34), .mv (.t 35), none⟩] none [0, 2, 3, 13, 34])
(.cond (.t 34)
(.seq
(.region [
⟨0, (some 36), .fieldA 0 1 false (.t 3), none⟩,
⟨1, none, .store 1 (.t 36) (.c (.int .i64 2)), none⟩] none [0, 2, 3])
(.seq
(.region [
⟨0, (some 37), .mv (.t 0), none⟩,
⟨1, (some 38), .call f_glyph_scanner_while [((.t 37), false), ((.c (.fn f_glyph_scanner_token_2 [])), false)], none⟩,
⟨2, (some 4), .mv (.t 38), none⟩] none [0, 2, 3, 4])
(.seq
(.region [
⟨0, (some 40), .mv (.t 4), none⟩,
⟨1, (some 41), .call f_limbs_Parse [((.t 40), true)], none⟩,
⟨2, (some 39), .mv (.t 41), none⟩,
⟨3, (some 42), .extract (.t 39) 0, none⟩,
⟨4, (some 43), .extract (.t 39) 1, none⟩,
⟨5, (some 5), .mv (.t 42), none⟩,
⟨6, (some 6), .mv (.t 43), none⟩] none [0, 2, 3, 5])
(.seq
(.region [
⟨0, (some 44), .mv (.t 5), none⟩,
⟨1, (some 45), .call f_limbs_Text [((.t 44), true)], none⟩,
⟨2, (some 46), .fieldA 1 1 false (.t 3), none⟩,
⟨3, none, .store 1 (.t 46) (.t 45), none⟩] none [0, 2, 3, 5])
(.seq
(.region [
⟨0, (some 47), .mv (.t 5), none⟩,
⟨1, (some 48), .len false (.t 47), none⟩,
⟨2, (some 49), .bin .gtr (.t 48) (.c (.int .i64 32)), none⟩] none [0, 2, 3, 49])
(.cond (.t 49)
(.region [
⟨0, (some 50), .mv (.t 0), none⟩,
⟨1, (some 51), .fieldA 2 4 true (.t 3), none⟩,
⟨2, (some 52), .load 4 true (.t 51), none⟩,
⟨3, (some 53), .call f_glyph_scanner_early [((.t 50), false), ((.c (.int .i64 2)), true), ((.t 52), true)], none⟩] none [2, 3])
.skip))))))
(.seq
(.region [
⟨0, (some 55), .bin .eql (.t 13) (.c (.int .i64 5)), none⟩,
⟨1, (some 54), .mv (.t 55), none⟩] none [0, 2, 3, 13, 54])
(.cond (.t 54)
(.seq
(.region [
⟨0, (some 56), .fieldA 0 1 false (.t 3), none⟩,
⟨1, none, .store 1 (.t 56) (.c (.int .i64 3)), none⟩] none [0, 2, 3])
(.region [
⟨0, (some 57), .mv (.t 0), none⟩,
⟨1, (some 58), .call f_glyph_scanner_sign [((.t 57), false)], none⟩,
⟨2, (some 59), .fieldA 1 1 false (.t 3), none⟩,
⟨3, none, .store 1 (.t 59) (.t 58), none⟩] none [2, 3]))
(.seq
(.region [
⟨0, (some 61), .bin .eql (.t 13) (.c (.int .i64 (-1))), none⟩,
⟨1, (some 60), .mv (.t 61), none⟩] none [0, 2, 3, 60])
(.cond (.t 60)
.skip
(.region [
⟨0, (some 14), .mv (.t 0), none⟩,
⟨1, (some 15), .mv (.t 0), none⟩,
⟨2, (some 16), .nilCk (.t 15), none⟩,
⟨3, (some 17), .fieldA 1 4 true (.t 16), none⟩,
⟨4, (some 18), .load 4 true (.t 17), none⟩,
⟨5, (some 19), .call f_glyph_scanner_fail [((.t 14), false), ((.c (.int .i64 41)), true), ((.t 18), true)], none⟩] none [2, 3])))))))))))
(.seq
(.region [
⟨0, (some 62), .load 6 true (.t 3), none⟩,
⟨1, none, .store 6 (.t 2) (.t 62), none⟩] none [2])
.ret)))), [(.cell 2 6 true, true)]⟩

/-! rafter/lang.word -/
def a_lang_word : AFun := ⟨1,
(.seq
(.region [
⟨0, (some 2), .mv (.c (.bool false)), none⟩] none [0])
(.seq
(.seq
(.region [
⟨0, (some 3), .mv (.t 0), none⟩] none [3])
(.block 0
(.seq
(.seq
(.region [
⟨0, (some 5), .bin .eql (.t 3) (.c (.str [118, 97, 114, 115])), none⟩,
⟨1, (some 4), .mv (.t 5), none⟩] none [3, 4])
(.cond (.t 4)
.skip
(.seq
(.region [
⟨0, (some 6), .bin .eql (.t 3) (.c (.str [97, 110, 121])), none⟩,
⟨1, (some 4), .mv (.t 6), none⟩] none [3, 4])
(.cond (.t 4)
.skip
(.seq
(.region [
⟨0, (some 7), .bin .eql (.t 3) (.c (.str [115, 107, 105, 112])), none⟩,
⟨1, (some 4), .mv (.t 7), none⟩] none [3, 4])
(.cond (.t 4)
.skip
(.seq
(.region [
⟨0, (some 8), .bin .eql (.t 3) (.c (.str [115, 116, 111, 112])), none⟩,
⟨1, (some 4), .mv (.t 8), none⟩] none [3, 4])
(.cond (.t 4)
.skip
(.seq
(.region [
⟨0, (some 9), .bin .eql (.t 3) (.c (.str [109, 97, 114, 107])), none⟩,
⟨1, (some 4), .mv (.t 9), none⟩] none [3, 4])
(.cond (.t 4)
.skip
(.seq
(.region [
⟨0, (some 10), .bin .eql (.t 3) (.c (.str [99, 104, 111, 111, 115, 101])), none⟩,
⟨1, (some 4), .mv (.t 10), none⟩] none [3, 4])
(.cond (.t 4)
.skip
(.seq
(.region [
⟨0, (some 11), .bin .eql (.t 3) (.c (.str [111, 114])), none⟩,
⟨1, (some 4), .mv (.t 11), none⟩] none [3, 4])
(.cond (.t 4)
.skip
(.seq
(.region [
⟨0, (some 12), .bin .eql (.t 3) (.c (.str [108, 111, 111, 112])), none⟩,
⟨1, (some 4), .mv (.t 12), none⟩] none [3, 4])
(.cond (.t 4)
.skip
(.seq
(.region [
⟨0, (some 13), .bin .eql (.t 3) (.c (.str [105, 102])), none⟩,
⟨1, (some 4), .mv (.t 13), none⟩] none [3, 4])
(.cond (.t 4)
.skip
(.seq
(.region [
⟨0, (some 14), .bin .eql (.t 3) (.c (.str [101, 108, 115, 101])), none⟩,
⟨1, (some 4), .mv (.t 14), none⟩] none [3, 4])
(.cond (.t 4)
.skip
(.region [
⟨0, (some 15), .bin .eql (.t 3) (.c (.str [119, 104, 105, 108, 101])), none⟩,
⟨1, (some 4), .mv (.t 15), none⟩] none [4])))))))))))))))))))))
(.cond (.t 4)
(.seq
(.region [
⟨0, (some 2), .mv (.c (.bool true)), none⟩] none [2])
.ret)
.skip))))
(.seq
(.region [
⟨0, (some 2), .mv (.c (.bool false)), none⟩] none [2])
.ret))), [(.tmp 2, true)]⟩

/-! unicode/utf8.RuneCountInString -/
def a_utf8_RuneCountInString_b0 : ACode :=
(.seq
(.region [
⟨0, (some 5), .next (.t 4), none⟩,
⟨1, (some 6), .extract (.t 5) 0, none⟩] none [2, 4, 6])
(.seq
(.cond (.t 6)
.skip
(.exit 0 [2]))
(.block 1
(.region [
⟨0, (some 7), .mv (.t 2), none⟩,
⟨1, (some 8), .bin .add (.t 7) (.c (.int .i64 1)), none⟩,
⟨2, (some 2), .mv (.t 8), none⟩] none [2, 4]))))
def a_utf8_RuneCountInString_l0 : ACode := .loop [2, 4] a_utf8_RuneCountInString_b0
def a_utf8_RuneCountInString : AFun := ⟨1,
(.seq
(.region [
⟨0, (some 2), .mv (.c (.int .i64 0)), none⟩] none [0, 2])
(.seq
(.seq
(.region [
⟨0, (some 3), .mv (.t 0), none⟩,
⟨1, (some 4), .range (.t 3), none⟩] none [2, 4])
(.block 0
 a_utf8_RuneCountInString_l0))
(.seq
(.region [
⟨0, (some 9), .mv (.t 2), none⟩,
⟨1, (some 2), .mv (.t 9), none⟩] none [2])
.ret))), [(.tmp 2, true)]⟩

/-! unicode/utf8.RuneLen -/
def a_utf8_RuneLen : AFun := ⟨1,
(.seq
(.region [
⟨0, (some 2), .mv (.c (.int .i64 0)), none⟩] none [0])
(.seq
(.block 0
(.seq
(.region [
⟨0, (some 4), .mv (.t 0), none⟩,
⟨1, (some 5), .bin .lss (.t 4) (.c (.int .i32 0)), none⟩,
⟨2, (some 3), .mv (.t 5), none⟩] none [0, 3])
(.cond (.t 3)
(.seq
(.region [
⟨0, (some 2), .mv (.c (.int .i64 (-1))), none⟩] none [2])
.ret)
(.seq
(.region [
⟨0, (some 7), .mv (.t 0), none⟩,
⟨1, (some 8), .bin .leq (.t 7) (.c (.int .i32 127)), none⟩,
⟨2, (some 6), .mv (.t 8), none⟩] none [0, 6])
(.cond (.t 6)
(.seq
(.region [
⟨0, (some 2), .mv (.c (.int .i64 1)), none⟩] none [2])
.ret)
(.seq
(.region [
⟨0, (some 10), .mv (.t 0), none⟩,
⟨1, (some 11), .bin .leq (.t 10) (.c (.int .i32 2047)), none⟩,
⟨2, (some 9), .mv (.t 11), none⟩] none [0, 9])
(.cond (.t 9)
(.seq
(.region [
⟨0, (some 2), .mv (.c (.int .i64 2)), none⟩] none [2])
.ret)
(.seq
(.region [
⟨0, (some 13), .mv (.t 0), none⟩,
⟨1, (some 14), .bin .leq (.c (.int .i32 55296)) (.t 13), none⟩,
⟨2, (some 15), .mv (.t 14), none⟩,
⟨3, (some 16), .mv (.t 0), (some (15, true))⟩,
⟨4, (some 17), .bin .leq (.t 16) (.c (.int .i32 57343)), (some (15, true))⟩,
⟨5, (some 18), .pick (.t 15) (.t 17) (.c (.bool false)), none⟩,
⟨6, (some 12), .mv (.t 18), none⟩] none [0, 12])
(.cond (.t 12)
(.seq
(.region [
⟨0, (some 2), .mv (.c (.int .i64 (-1))), none⟩] none [2])
.ret)
(.seq
(.region [
⟨0, (some 20), .mv (.t 0), none⟩,
⟨1, (some 21), .bin .leq (.t 20) (.c (.int .i32 65535)), none⟩,
⟨2, (some 19), .mv (.t 21), none⟩] none [0, 19])
(.cond (.t 19)
(.seq
(.region [
⟨0, (some 2), .mv (.c (.int .i64 3)), none⟩] none [2])
.ret)
(.seq
(.region [
⟨0, (some 23), .mv (.t 0), none⟩,
⟨1, (some 24), .bin .leq (.t 23) (.c (.int .i32 1114111)), none⟩,
⟨2, (some 22), .mv (.t 24), none⟩] none [22])
(.cond (.t 22)
(.seq
(.region [
⟨0, (some 2), .mv (.c (.int .i64 4)), none⟩] none [2])
.ret)
.skip)))))))))))))
(.seq
(.region [
⟨0, (some 2), .mv (.c (.int .i64 (-1))), none⟩] none [2])
.ret))), [(.tmp 2, true)]⟩

/-! rafter/limbs.Parse -/
def a_limbs_Parse_b0 : ACode :=
(.seq
(.region [
⟨0, (some 21), .next (.t 20), none⟩,
⟨1, (some 22), .extract (.t 21) 0, none⟩] none [4, 5, 6, 20, 21, 22])
(.seq
(.cond (.t 22)
.skip
(.exit 0 [4, 5, 6]))
(.block 1
(.seq
(.region [
⟨0, (some 23), .extract (.t 21) 2, none⟩,
⟨1, (some 8), .mv (.t 23), none⟩] none [4, 5, 6, 8, 20])
(.seq
(.seq
(.region [
⟨0, (some 24), .mv (.t 8), none⟩,
⟨1, (some 25), .bin .lss (.t 24) (.c (.int .i32 48)), none⟩,
⟨2, (some 26), .mv (.t 25), none⟩,
⟨3, (some 27), .mv (.t 8), (some (26, false))⟩,
⟨4, (some 28), .bin .gtr (.t 27) (.c (.int .i32 57)), (some (26, false))⟩,
⟨5, (some 29), .pick (.t 26) (.c (.bool true)) (.t 28), none⟩] none [4, 5, 6, 8, 20, 29])
(.cond (.t 29)
(.seq
(.region [
⟨0, (some 2), .mv (.c (.sl [])), none⟩,
⟨1, (some 3), .mv (.c (.int .i64 10)), none⟩] none [2, 3])
.ret)
.skip))
(.seq
(.region [
⟨0, (some 30), .mv (.t 5), none⟩,
⟨1, (some 31), .bin .mul (.c (.int .u32 10)) (.t 30), none⟩,
⟨2, (some 32), .mv (.t 8), none⟩,
⟨3, (some 33), .bin .sub (.t 32) (.c (.int .i32 48)), none⟩,
⟨4, (some 34), .conv (.int .u32) (.t 33), none⟩,
⟨5, (some 35), .bin .add (.t 31) (.t 34), none⟩,
⟨6, (some 36), .mv (.t 6), none⟩,
⟨7, (some 37), .bin .mul (.c (.int .u32 10)) (.t 36), none⟩,
⟨8, (some 5), .mv (.t 35), none⟩,
⟨9, (some 6), .mv (.t 37), none⟩] none [4, 5, 6, 20])
(.seq
(.region [
⟨0, (some 38), .mv (.t 6), none⟩,
⟨1, (some 39), .bin .eql (.t 38) (.c (.int .u32 1000000000)), none⟩] none [4, 5, 6, 20, 39])
(.cond (.t 39)
(.seq
(.region [
⟨0, (some 40), .mv (.t 4), none⟩,
⟨1, (some 41), .mv (.t 6), none⟩,
⟨2, (some 42), .mv (.t 5), none⟩,
⟨3, (some 43), .call f_limbs_grow [((.t 40), false), ((.t 41), true), ((.t 42), true)], none⟩,
⟨4, (some 4), .mv (.t 43), none⟩] none [4, 20])
(.region [
⟨0, (some 5), .mv (.c (.int .u32 0)), none⟩,
⟨1, (some 6), .mv (.c (.int .u32 1)), none⟩] none [4, 5, 6, 20]))
.skip))))))))
def a_limbs_Parse_l0 : ACode := .loop [4, 5, 6, 20] a_limbs_Parse_b0
def a_limbs_Parse : AFun := ⟨1,
(.seq
(.region [
⟨0, (some 2), .mv (.c (.sl [])), none⟩,
⟨1, (some 3), .mv (.c (.int .i64 0)), none⟩] none [0])
(.seq
(.seq
(.region [
⟨0, (some 9), .mv (.t 0), none⟩,
⟨1, (some 10), .len true (.t 9), none⟩,
⟨2, (some 11), .bin .gtr (.t 10) (.c (.int .i64 5120)), none⟩] none [0, 11])
(.cond (.t 11)
(.seq
(.region [
⟨0, (some 2), .mv (.c (.sl [])), none⟩,
⟨1, (some 3), .mv (.c (.int .i64 2)), none⟩] none [2, 3])
.ret)
.skip))
(.seq
(.seq
(.region [
⟨0, (some 12), .mv (.t 0), none⟩,
⟨1, (some 13), .bin .eql (.t 12) (.c (.str [])), none⟩] none [0, 13])
(.cond (.t 13)
(.seq
(.region [
⟨0, (some 2), .mv (.c (.sl [])), none⟩,
⟨1, (some 3), .mv (.c (.int .i64 10)), none⟩] none [2, 3])
.ret)
.skip))
(.seq
(.region [
⟨0, (some 14), .mv (.t 0), none⟩,
⟨1, (some 15), .len true (.t 14), none⟩,
⟨2, (some 16), .bin .quo (.t 15) (.c (.int .i64 9)), none⟩,
⟨3, (some 17), .bin .add (.t 16) (.c (.int .i64 1)), none⟩,
⟨4, (some 18), .mkSl ⟨1, 4⟩ (.int .u32 0) (.c (.int .i64 0)) (.t 17), none⟩,
⟨5, (some 4), .mv (.t 18), none⟩] none [0, 4])
(.seq
(.region [
⟨0, (some 5), .mv (.c (.int .u32 0)), none⟩,
⟨1, (some 6), .mv (.c (.int .u32 1)), none⟩] none [0, 4, 5, 6])
(.seq
(.seq
(.region [
⟨0, (some 19), .mv (.t 0), none⟩,
⟨1, (some 20), .range (.t 19), none⟩] none [4, 5, 6, 20])
(.block 0
 a_limbs_Parse_l0))
(.seq
(.region [
⟨0, (some 44), .mv (.t 4), none⟩,
⟨1, (some 45), .mv (.t 6), none⟩,
⟨2, (some 46), .mv (.t 5), none⟩,
⟨3, (some 47), .call f_limbs_grow [((.t 44), false), ((.t 45), true), ((.t 46), true)], none⟩,
⟨4, (some 48), .call f_limbs_short [((.t 47), true)], none⟩,
⟨5, (some 2), .mv (.t 48), none⟩,
⟨6, (some 3), .mv (.c (.int .i64 0)), none⟩] none [2, 3])
.ret))))))), [(.tmp 2, true), (.tmp 3, true)]⟩

/-! (*rafter/lang.reader).assign -/
def a_lang_reader_unary : AFun := ⟨1,
(.seq
(.region [
⟨0, (some 2), .mv (.c (.nili)), none⟩] none [0])
(.seq
(.region [
⟨0, (some 8), .mv (.t 0), none⟩,
⟨1, (some 9), .call f_lang_reader_here [((.t 8), false)], none⟩,
⟨2, (some 3), .alloc (.agg [.int .i64 0, .str [], .int .i64 0, .int .i64 0, .int .i64 0, .int .i64 0]) [], none⟩,
⟨3, none, .store 6 (.t 3) (.t 9), none⟩] none [0, 3])
(.seq
(.block 0
(.seq
(.region [
⟨0, (some 11), .mv (.t 0), none⟩,
⟨1, (some 12), .call f_lang_reader_is [((.t 11), false), ((.c (.str [45])), true)], none⟩,
⟨2, (some 10), .mv (.t 12), none⟩] none [0, 3, 10])
(.cond (.t 10)
(.seq
(.region [
⟨0, (some 13), .mv (.t 0), none⟩,
⟨1, (some 14), .call f_lang_reader_unary [((.t 13), false)], none⟩,
⟨2, (some 15), .build (.agg [.nili]) [(0, 1, (.t 14))] [], none⟩,
⟨3, (some 16), .mkI t_lang_Minus (.t 15), none⟩,
⟨4, (some 2), .mv (.t 16), none⟩] none [2])
.ret)
(.seq
(.region [
⟨0, (some 18), .fieldA 0 1 false (.t 3), none⟩,
⟨1, (some 19), .load 1 false (.t 18), none⟩,
⟨2, (some 20), .bin .eql (.t 19) (.c (.int .i64 2)), none⟩,
⟨3, (some 17), .mv (.t 20), none⟩] none [0, 3, 17])
(.cond (.t 17)
(.seq
(.region [
⟨0, (some 22), .mv (.t 0), none⟩,
⟨1, (some 23), .call f_lang_reader_pass [((.t 22), false)], none⟩,
⟨2, (some 24), .field 1 1 false (.t 23), none⟩,
⟨3, (some 25), .call f_whole_Parse [((.t 24), true)], none⟩,
⟨4, (some 21), .mv (.t 25), none⟩,
⟨5, (some 26), .extract (.t 21) 0, none⟩,
⟨6, (some 27), .extract (.t 21) 1, none⟩,
⟨7, (some 4), .alloc (.agg [.bool false, .sl []]) [], none⟩,
⟨8, none, .store 2 (.t 4) (.t 26), none⟩,
⟨9, (some 5), .mv (.t 27), none⟩] none [4])
(.seq
(.region [
⟨0, (some 28), .load 2 true (.t 4), none⟩,
⟨1, (some 29), .build (.agg [.bool false, .sl []]) [(0, 2, (.t 28))] [], none⟩,
⟨2, (some 30), .mkI t_lang_Number (.t 29), none⟩,
⟨3, (some 2), .mv (.t 30), none⟩] none [2])
.ret))
(.seq
(.region [
⟨0, (some 32), .mv (.t 0), none⟩,
⟨1, (some 33), .call f_lang_reader_name [((.t 32), false)], none⟩,
⟨2, (some 31), .mv (.t 33), none⟩] none [0, 3, 31])
(.cond (.t 31)
(.seq
(.region [
⟨0, (some 34), .mv (.t 0), none⟩,
⟨1, (some 35), .fieldA 1 1 false (.t 3), none⟩,
⟨2, (some 36), .load 1 false (.t 35), none⟩,
⟨3, (some 37), .call f_lang_reader_variable [((.t 34), false), ((.t 36), true)], none⟩,
⟨4, (some 6), .mv (.t 37), none⟩] none [0, 3, 6])
(.seq
(.region [
⟨0, (some 38), .mv (.t 0), none⟩,
⟨1, (some 39), .mv (.t 6), none⟩,
⟨2, (some 40), .bin .geq (.t 39) (.c (.int .i64 0)), none⟩,
⟨3, (some 41), .call f_lang_reader_need [((.t 38), false), ((.t 40), true), ((.c (.int .i64 81)), true)], none⟩] none [0, 3, 6])
(.seq
(.region [
⟨0, (some 42), .mv (.t 0), none⟩,
⟨1, (some 43), .call f_lang_reader_pass [((.t 42), false)], none⟩] none [3, 6])
(.seq
(.region [
⟨0, (some 44), .mv (.t 6), none⟩,
⟨1, (some 45), .fieldA 1 1 false (.t 3), none⟩,
⟨2, (some 46), .load 1 false (.t 45), none⟩,
⟨3, (some 47), .build (.agg [.int .i64 0, .str []]) [(0, 1, (.t 44)), (1, 1, (.t 46))] [], none⟩,
⟨4, (some 48), .mkI t_lang_Name (.t 47), none⟩,
⟨5, (some 2), .mv (.t 48), none⟩] none [2])
.ret))))
.skip)))))))
(.seq
(.region [
⟨0, (some 49), .mv (.t 0), none⟩,
⟨1, (some 50), .call f_lang_reader_into [((.t 49), false), ((.c (.str [40])), true)], none⟩] none [0])
(.seq
(.region [
⟨0, (some 51), .mv (.t 0), none⟩,
⟨1, (some 52), .call f_lang_reader_sum [((.t 51), false)], none⟩,
⟨2, (some 7), .mv (.t 52), none⟩] none [0, 7])
(.seq
(.region [
⟨0, (some 53), .mv (.t 0), none⟩,
⟨1, (some 54), .call f_lang_reader_out [((.t 53), false), ((.c (.str [41])), true)], none⟩] none [7])
(.seq
(.region [
⟨0, (some 55), .mv (.t 7), none⟩,
⟨1, (some 2), .mv (.t 55), none⟩] none [2])
.ret))))))), [(.tmp 2, true)]⟩

/-! rafter/limbs.long -/
def a_limbs_long_b0 : ACode :=
(.seq
(.seq
(.region [
⟨0, (some 83), .mv (.t 15), none⟩,
⟨1, (some 84), .bin .shr (.t 83) (.c (.int .u64 32)), none⟩,
⟨2, (some 85), .bin .eql (.t 84) (.c (.int .u64 0)), none⟩,
⟨3, (some 86), .mv (.t 85), none⟩,
⟨4, (some 87), .mv (.t 14), (some (86, true))⟩,
⟨5, (some 88), .bin .shr (.t 87) (.c (.int .u64 32)), (some (86, true))⟩,
⟨6, (some 89), .bin .gtr (.t 88) (.c (.int .u64 0)), (some (86, true))⟩,
⟨7, (some 90), .mv (.t 89), (some (86, true))⟩,
⟨8, (some 91), .mv (.t 14), (some (90, false))⟩,
⟨9, (some 92), .mv (.t 11), (some (90, false))⟩,
⟨10, (some 93), .bin .mul (.t 91) (.t 92), (some (90, false))⟩,
⟨11, (some 94), .mv (.t 15), (some (90, false))⟩,
⟨12, (some 95), .bin .shl (.t 94) (.c (.int .u64 32)), (some (90, false))⟩,
⟨13, (some 96), .mv (.t 7), (some (90, false))⟩,
⟨14, (some 97), .mv (.t 12), (some (90, false))⟩,
⟨15, (some 98), .mv (.t 9), (some (90, false))⟩,
⟨16, (some 99), .bin .add (.t 97) (.t 98), (some (90, false))⟩,
⟨17, (some 100), .bin .sub (.t 99) (.c (.int .i64 2)), (some (90, false))⟩,
⟨18, (some 101), .idxA ⟨1, 4⟩ (.t 96) (.t 100), (some (90, false))⟩,
⟨19, (some 102), .load 1 false (.t 101), (some (90, false))⟩,
⟨20, (some 103), .conv (.int .u64) (.t 102), (some (90, false))⟩,
⟨21, (some 104), .bin .or (.t 95) (.t 103), (some (90, false))⟩,
⟨22, (some 105), .bin .gtr (.t 93) (.t 104), (some (90, false))⟩,
⟨23, (some 106), .pick (.t 90) (.c (.bool true)) (.t 105), (some (86, true))⟩,
⟨24, (some 107), .pick (.t 86) (.t 106) (.c (.bool false)), none⟩] none [4, 6, 7, 8, 9, 10, 11, 12, 14, 15, 107])
(.cond (.t 107)
.skip
(.exit 2 [4, 6, 7, 8, 9, 10, 11, 12, 14])))
(.block 3
(.seq
(.region [
⟨0, (some 108), .mv (.t 14), none⟩,
⟨1, (some 109), .bin .sub (.t 108) (.c (.int .u64 1)), none⟩,
⟨2, (some 14), .mv (.t 109), none⟩] none [4, 6, 7, 8, 9, 10, 11, 12, 14, 15])
(.region [
⟨0, (some 110), .mv (.t 15), none⟩,
⟨1, (some 111), .mv (.t 10), none⟩,
⟨2, (some 112), .bin .add (.t 110) (.t 111), none⟩,
⟨3, (some 15), .mv (.t 112), none⟩] none [4, 6, 7, 8, 9, 10, 11, 12, 14, 15]))))
def a_limbs_long_l0 : ACode := .loop [4, 6, 7, 8, 9, 10, 11, 12, 14, 15] a_limbs_long_b0
def a_limbs_long_b1 : ACode :=
(.seq
(.seq
(.region [
⟨0, (some 56), .mv (.t 12), none⟩,
⟨1, (some 57), .bin .geq (.t 56) (.c (.int .i64 0)), none⟩] none [4, 6, 7, 8, 9, 10, 11, 12, 57])
(.cond (.t 57)
.skip
(.exit 0 [4, 6, 7, 9])))
(.seq
(.block 1
(.seq
(.region [
⟨0, (some 60), .mv (.t 7), none⟩,
⟨1, (some 61), .mv (.t 12), none⟩,
⟨2, (some 62), .mv (.t 9), none⟩,
⟨3, (some 63), .bin .add (.t 61) (.t 62), none⟩,
⟨4, (some 64), .idxA ⟨1, 4⟩ (.t 60) (.t 63), none⟩,
⟨5, (some 65), .load 1 false (.t 64), none⟩,
⟨6, (some 66), .conv (.int .u64) (.t 65), none⟩,
⟨7, (some 67), .bin .shl (.t 66) (.c (.int .u64 32)), none⟩,
⟨8, (some 68), .mv (.t 7), none⟩,
⟨9, (some 69), .mv (.t 12), none⟩,
⟨10, (some 70), .mv (.t 9), none⟩,
⟨11, (some 71), .bin .add (.t 69) (.t 70), none⟩,
⟨12, (some 72), .bin .sub (.t 71) (.c (.int .i64 1)), none⟩,
⟨13, (some 73), .idxA ⟨1, 4⟩ (.t 68) (.t 72), none⟩,
⟨14, (some 74), .load 1 false (.t 73), none⟩,
⟨15, (some 75), .conv (.int .u64) (.t 74), none⟩,
⟨16, (some 76), .bin .or (.t 67) (.t 75), none⟩,
⟨17, (some 13), .mv (.t 76), none⟩] (some ([], [])) [4, 6, 7, 8, 9, 10, 11, 12, 13])
(.seq
(.region [
⟨0, (some 77), .mv (.t 13), none⟩,
⟨1, (some 78), .mv (.t 10), none⟩,
⟨2, (some 79), .bin .quo (.t 77) (.t 78), none⟩,
⟨3, (some 80), .mv (.t 13), none⟩,
⟨4, (some 81), .mv (.t 10), none⟩,
⟨5, (some 82), .bin .rem (.t 80) (.t 81), none⟩,
⟨6, (some 14), .mv (.t 79), none⟩,
⟨7, (some 15), .mv (.t 82), none⟩] (some ([], [])) [4, 6, 7, 8, 9, 10, 11, 12, 14, 15])
(.seq
(.block 2
 a_limbs_long_l0)
(.region [
⟨0, (some 113), .mv (.t 4), none⟩,
⟨1, (some 114), .mv (.t 12), none⟩,
⟨2, (some 115), .mv (.t 7), none⟩,
⟨3, (some 116), .mv (.t 12), none⟩,
⟨4, (some 117), .mv (.t 12), none⟩,
⟨5, (some 118), .mv (.t 9), none⟩,
⟨6, (some 119), .bin .add (.t 117) (.t 118), none⟩,
⟨7, (some 120), .bin .add (.t 119) (.c (.int .i64 1)), none⟩,
⟨8, (some 121), .slice (some ⟨1, 4⟩) (.t 115) (some (.t 116)) (some (.t 120)), none⟩,
⟨9, (some 122), .mv (.t 8), none⟩,
⟨10, (some 123), .mv (.t 14), none⟩,
⟨11, (some 124), .call f_limbs_take [((.t 121), false), ((.t 122), false), ((.t 123), true)], none⟩,
⟨12, (some 125), .idxA ⟨1, 4⟩ (.t 113) (.t 114), none⟩,
⟨13, none, .store 1 (.t 125) (.t 124), none⟩] none [4, 6, 7, 8, 9, 10, 11, 12])))))
(.region [
⟨0, (some 58), .mv (.t 12), none⟩,
⟨1, (some 59), .bin .sub (.t 58) (.c (.int .i64 1)), none⟩,
⟨2, (some 12), .mv (.t 59), none⟩] none [4, 6, 7, 8, 9, 10, 11, 12])))
def a_limbs_long_l1 : ACode := .loop [4, 6, 7, 8, 9, 10, 11, 12] a_limbs_long_b1
def a_limbs_long : AFun := ⟨2,
(.seq
(.region [
⟨0, (some 4), .mv (.c (.sl [])), none⟩,
⟨1, (some 5), .mv (.c (.sl [])), none⟩] none [0, 1])
(.seq
(.region [
⟨0, (some 16), .mv (.t 1), none⟩,
⟨1, (some 17), .mv (.t 1), none⟩,
⟨2, (some 18), .len false (.t 17), none⟩,
⟨3, (some 19), .bin .sub (.t 18) (.c (.int .i64 1)), none⟩,
⟨4, (some 20), .idxA ⟨1, 4⟩ (.t 16) (.t 19), none⟩,
⟨5, (some 21), .load 1 false (.t 20), none⟩,
⟨6, (some 22), .call f_bits_LeadingZeros32 [((.t 21), true)], none⟩,
⟨7, (some 6), .mv (.t 22), none⟩] none [0, 1, 6])
(.seq
(.region [
⟨0, (some 23), .mv (.t 0), none⟩,
⟨1, (some 24), .mv (.t 6), none⟩,
⟨2, (some 25), .mv (.t 0), none⟩,
⟨3, (some 26), .len false (.t 25), none⟩,
⟨4, (some 27), .bin .add (.t 26) (.c (.int .i64 1)), none⟩,
⟨5, (some 28), .call f_limbs_moved [((.t 23), true), ((.t 24), true), ((.t 27), true)], none⟩,
⟨6, (some 29), .mv (.t 1), none⟩,
⟨7, (some 30), .mv (.t 6), none⟩,
⟨8, (some 31), .mv (.t 1), none⟩,
⟨9, (some 32), .len false (.t 31), none⟩,
⟨10, (some 33), .call f_limbs_moved [((.t 29), true), ((.t 30), true), ((.t 32), true)], none⟩,
⟨11, (some 7), .mv (.t 28), none⟩,
⟨12, (some 8), .mv (.t 33), none⟩] none [6, 7, 8])
(.seq
(.region [
⟨0, (some 34), .mv (.t 8), none⟩,
⟨1, (some 35), .len false (.t 34), none⟩,
⟨2, (some 9), .mv (.t 35), none⟩] none [6, 7, 8, 9])
(.seq
(.region [
⟨0, (some 36), .mv (.t 7), none⟩,
⟨1, (some 37), .len false (.t 36), none⟩,
⟨2, (some 38), .mv (.t 9), none⟩,
⟨3, (some 39), .bin .sub (.t 37) (.t 38), none⟩,
⟨4, (some 40), .mkSl ⟨1, 4⟩ (.int .u32 0) (.t 39) (.t 39), none⟩,
⟨5, (some 4), .mv (.t 40), none⟩] none [4, 6, 7, 8, 9])
(.seq
(.region [
⟨0, (some 41), .mv (.t 8), none⟩,
⟨1, (some 42), .mv (.t 9), none⟩,
⟨2, (some 43), .bin .sub (.t 42) (.c (.int .i64 1)), none⟩,
⟨3, (some 44), .idxA ⟨1, 4⟩ (.t 41) (.t 43), none⟩,
⟨4, (some 45), .load 1 false (.t 44), none⟩,
⟨5, (some 46), .conv (.int .u64) (.t 45), none⟩,
⟨6, (some 47), .mv (.t 8), none⟩,
⟨7, (some 48), .mv (.t 9), none⟩,
⟨8, (some 49), .bin .sub (.t 48) (.c (.int .i64 2)), none⟩,
⟨9, (some 50), .idxA ⟨1, 4⟩ (.t 47) (.t 49), none⟩,
⟨10, (some 51), .load 1 false (.t 50), none⟩,
⟨11, (some 52), .conv (.int .u64) (.t 51), none⟩,
⟨12, (some 10), .mv (.t 46), none⟩,
⟨13, (some 11), .mv (.t 52), none⟩] (some ([], [])) [4, 6, 7, 8, 9, 10, 11])
(.seq
(.seq
(.region [
⟨0, (some 53), .mv (.t 4), none⟩,
⟨1, (some 54), .len false (.t 53), none⟩,
⟨2, (some 55), .bin .sub (.t 54) (.c (.int .i64 1)), none⟩,
⟨3, (some 12), .mv (.t 55), none⟩] none [4, 6, 7, 8, 9, 10, 11, 12])
(.block 0
 a_limbs_long_l1))
(.seq
(.region [
⟨0, (some 127), .mv (.t 7), none⟩,
⟨1, (some 128), .mv (.t 9), none⟩,
⟨2, (some 129), .slice (some ⟨1, 4⟩) (.t 127) none (some (.t 128)), none⟩,
⟨3, (some 130), .mv (.t 6), none⟩,
⟨4, (some 131), .call f_limbs_Right [((.t 129), true), ((.t 130), true)], none⟩,
⟨5, (some 126), .mv (.t 131), none⟩,
⟨6, (some 132), .extract (.t 126) 0, none⟩,
⟨7, (some 133), .extract (.t 126) 1, none⟩,
⟨8, (some 5), .mv (.t 132), none⟩] none [4, 5])
(.seq
(.region [
⟨0, (some 134), .mv (.t 4), none⟩,
⟨1, (some 135), .call f_limbs_short [((.t 134), true)], none⟩,
⟨2, (some 136), .mv (.t 5), none⟩,
⟨3, (some 4), .mv (.t 135), none⟩,
⟨4, (some 5), .mv (.t 136), none⟩] none [4, 5])
.ret))))))))), [(.tmp 4, true), (.tmp 5, true)]⟩

/-! (*rafter/glyph.scanner).class -/
def a_glyph_scanner_class : AFun := ⟨1,
(.seq
(.region [
⟨0, (some 2), .mv (.c (.int .i64 0)), none⟩] none [0])
(.seq
(.region [
⟨0, (some 4), .mv (.t 0), none⟩,
⟨1, (some 5), .call f_glyph_scanner_next [((.t 4), false)], none⟩,
⟨2, (some 3), .mv (.t 5), none⟩] none [3])
(.seq
(.seq
(.region [
⟨0, (some 6), .mv (.t 3), none⟩,
⟨1, (some 7), .bin .lss (.t 6) (.c (.int .i64 0)), none⟩] none [3, 7])
(.cond (.t 7)
(.seq
(.region [
⟨0, (some 2), .mv (.c (.int .i64 (-1))), none⟩] none [2])
.ret)
.skip))
(.seq
(.region [
⟨0, (some 8), .mv (.t 3), none⟩,
⟨1, (some 9), .call f_glyph_Class [((.t 8), true)], none⟩,
⟨2, (some 2), .mv (.t 9), none⟩] none [2])
.ret)))), [(.tmp 2, true)]⟩

/-! (*rafter/glyph.scanner).pass -/
def a_glyph_scanner_pass : AFun := ⟨1,
(.seq
(.region [
⟨0, (some 5), .mv (.t 0), none⟩,
⟨1, (some 6), .nilCk (.t 5), none⟩,
⟨2, (some 7), .fieldA 0 1 false (.t 6), none⟩,
⟨3, (some 8), .load 1 false (.t 7), none⟩,
⟨4, (some 9), .call f_utf8_DecodeRuneInString [((.t 8), true)], none⟩,
⟨5, (some 4), .mv (.t 9), none⟩,
⟨6, (some 10), .extract (.t 4) 0, none⟩,
⟨7, (some 11), .extract (.t 4) 1, none⟩,
⟨8, (some 2), .mv (.t 10), none⟩,
⟨9, (some 3), .mv (.t 11), none⟩] none [0, 2, 3])
(.seq
(.region [
⟨0, (some 12), .mv (.t 0), none⟩,
⟨1, (some 13), .mv (.t 0), none⟩,
⟨2, (some 14), .nilCk (.t 13), none⟩,
⟨3, (some 15), .fieldA 1 4 true (.t 14), none⟩,
⟨4, (some 16), .load 4 true (.t 15), none⟩,
⟨5, (some 17), .mv (.t 2), none⟩,
⟨6, (some 18), .call f_glyph_behind [((.t 16), true), ((.t 17), true)], none⟩,
⟨7, (some 19), .nilCk (.t 12), none⟩,
⟨8, (some 20), .fieldA 1 4 true (.t 19), none⟩,
⟨9, none, .store 4 (.t 20) (.t 18), none⟩] none [0, 3])
(.region [
⟨0, (some 21), .mv (.t 0), none⟩,
⟨1, (some 22), .mv (.t 0), none⟩,
⟨2, (some 23), .nilCk (.t 22), none⟩,
⟨3, (some 24), .fieldA 0 1 false (.t 23), none⟩,
⟨4, (some 25), .load 1 false (.t 24), none⟩,
⟨5, (some 26), .mv (.t 3), none⟩,
⟨6, (some 27), .slice none (.t 25) (some (.t 26)) none, none⟩,
⟨7, (some 28), .nilCk (.t 21), none⟩,
⟨8, (some 29), .fieldA 0 1 false (.t 28), none⟩,
⟨9, none, .store 1 (.t 29) (.t 27), none⟩] none []))), []⟩

/-! (*rafter/glyph.scanner).next -/
def a_glyph_scanner_next_b0 : ACode :=
(.seq
(.region [
⟨0, (some 10), .next (.t 9), none⟩,
⟨1, (some 11), .extract (.t 10) 0, none⟩] none [0, 10, 11])
(.seq
(.cond (.t 11)
.skip
(.exit 0 []))
(.block 1
(.seq
(.region [
⟨0, (some 12), .extract (.t 10) 2, none⟩,
⟨1, (some 4), .mv (.t 12), none⟩] none [0, 4])
(.seq
(.seq
(.region [
⟨0, (some 13), .mv (.t 0), none⟩,
⟨1, (some 14), .nilCk (.t 13), none⟩,
⟨2, (some 15), .fieldA 0 1 false (.t 14), none⟩,
⟨3, (some 16), .load 1 false (.t 15), none⟩,
⟨4, (some 17), .mv (.t 4), none⟩,
⟨5, (some 18), .call f_glyph_broken [((.t 16), true), ((.t 17), true)], none⟩] none [0, 4, 18])
(.cond (.t 18)
(.seq
(.region [
⟨0, (some 19), .mv (.t 0), none⟩,
⟨1, (some 20), .mv (.t 0), none⟩,
⟨2, (some 21), .nilCk (.t 20), none⟩,
⟨3, (some 22), .fieldA 1 4 true (.t 21), none⟩,
⟨4, (some 23), .load 4 true (.t 22), none⟩,
⟨5, (some 24), .call f_glyph_scanner_fail [((.t 19), false), ((.c (.int .i64 40)), true), ((.t 23), true)], none⟩] none [])
(.seq
(.region [
⟨0, (some 2), .mv (.c (.int .i64 (-1))), none⟩] none [2])
.ret))
.skip))
(.seq
(.region [
⟨0, (some 25), .mv (.t 4), none⟩,
⟨1, (some 26), .conv (.int .i64) (.t 25), none⟩,
⟨2, (some 2), .mv (.t 26), none⟩] none [2])
.ret))))))
def a_glyph_scanner_next_l0 : ACode := .loop [0, 9] a_glyph_scanner_next_b0
def a_glyph_scanner_next : AFun := ⟨1,
(.seq
(.region [
⟨0, (some 2), .mv (.c (.int .i64 0)), none⟩] none [0])
(.seq
(.seq
(.region [
⟨0, (some 5), .mv (.t 0), none⟩,
⟨1, (some 6), .nilCk (.t 5), none⟩,
⟨2, (some 7), .fieldA 0 1 false (.t 6), none⟩,
⟨3, (some 8), .load 1 false (.t 7), none⟩,
⟨4, (some 9), .range (.t 8), none⟩] none [0, 9])
(.block 0
 a_glyph_scanner_next_l0))
(.seq
(.region [
⟨0, (some 2), .mv (.c (.int .i64 (-1))), none⟩] none [2])
.ret))), [(.tmp 2, true)]⟩

/-! (*rafter/glyph.scanner).while -/
def a_glyph_scanner_while_b0 : ACode :=
(.seq
(.seq
(.region [
⟨0, (some 13), .mv (.t 6), none⟩,
⟨1, (some 14), .bin .geq (.t 13) (.c (.int .i64 0)), none⟩,
⟨2, (some 15), .mv (.t 14), none⟩,
⟨3, (some 16), .mv (.t 1), (some (15, true))⟩,
⟨4, (some 17), .mv (.t 6), (some (15, true))⟩,
⟨5, (some 18), .callV (.t 16) [((.t 17), true)], (some (15, true))⟩,
⟨6, (some 19), .pick (.t 15) (.t 18) (.c (.bool false)), none⟩] none [0, 1, 5, 19])
(.cond (.t 19)
.skip
(.exit 0 [0, 5])))
(.seq
(.block 1
(.region [
⟨0, (some 22), .mv (.t 0), none⟩,
⟨1, (some 23), .call f_glyph_scanner_pass [((.t 22), false)], none⟩] none [0, 1, 5]))
(.region [
⟨0, (some 20), .mv (.t 0), none⟩,
⟨1, (some 21), .call f_glyph_scanner_class [((.t 20), false)], none⟩,
⟨2, (some 6), .mv (.t 21), none⟩] none [0, 1, 5, 6])))
def a_glyph_scanner_while_l0 : ACode := .loop [0, 1, 5, 6] a_glyph_scanner_while_b0
def a_glyph_scanner_while : AFun := ⟨2,
(.seq
(.region [
⟨0, (some 4), .mv (.c (.str [])), none⟩] none [0, 1])
(.seq
(.region [
⟨0, (some 7), .mv (.t 0), none⟩,
⟨1, (some 8), .nilCk (.t 7), none⟩,
⟨2, (some 9), .fieldA 0 1 false (.t 8), none⟩,
⟨3, (some 10), .load 1 false (.t 9), none⟩,
⟨4, (some 5), .mv (.t 10), none⟩] none [0, 1, 5])
(.seq
(.seq
(.region [
⟨0, (some 11), .mv (.t 0), none⟩,
⟨1, (some 12), .call f_glyph_scanner_class [((.t 11), false)], none⟩,
⟨2, (some 6), .mv (.t 12), none⟩] none [0, 1, 5, 6])
(.block 0
 a_glyph_scanner_while_l0))
(.seq
(.region [
⟨0, (some 24), .mv (.t 5), none⟩,
⟨1, (some 25), .mv (.t 5), none⟩,
⟨2, (some 26), .len true (.t 25), none⟩,
⟨3, (some 27), .mv (.t 0), none⟩,
⟨4, (some 28), .nilCk (.t 27), none⟩,
⟨5, (some 29), .fieldA 0 1 false (.t 28), none⟩,
⟨6, (some 30), .load 1 false (.t 29), none⟩,
⟨7, (some 31), .len true (.t 30), none⟩,
⟨8, (some 32), .bin .sub (.t 26) (.t 31), none⟩,
⟨9, (some 33), .slice none (.t 24) none (some (.t 32)), none⟩,
⟨10, (some 4), .mv (.t 33), none⟩] none [4])
.ret)))), [(.tmp 4, true)]⟩

/-! (*rafter/glyph.scanner).token$1 -/
def a_glyph_scanner_token_1 : AFun := ⟨1,
(.seq
(.region [
⟨0, (some 2), .mv (.c (.bool false)), none⟩] none [0])
(.seq
(.region [
⟨0, (some 3), .mv (.t 0), none⟩,
⟨1, (some 4), .bin .eql (.t 3) (.c (.int .i64 2)), none⟩,
⟨2, (some 5), .mv (.t 4), none⟩,
⟨3, (some 6), .mv (.t 0), (some (5, false))⟩,
⟨4, (some 7), .bin .eql (.t 6) (.c (.int .i64 3)), (some (5, false))⟩,
⟨5, (some 8), .pick (.t 5) (.c (.bool true)) (.t 7), none⟩,
⟨6, (some 9), .mv (.t 8), none⟩,
⟨7, (some 10), .mv (.t 0), (some (9, false))⟩,
⟨8, (some 11), .bin .eql (.t 10) (.c (.int .i64 4)), (some (9, false))⟩,
⟨9, (some 12), .pick (.t 9) (.c (.bool true)) (.t 11), none⟩,
⟨10, (some 2), .mv (.t 12), none⟩] none [2])
.ret)), [(.tmp 2, true)]⟩

/-! (*rafter/glyph.scanner).early -/
def a_glyph_scanner_early : AFun := ⟨3,
(.seq
(.region [
⟨0, (some 5), .box 4 (.t 2), none⟩] none [0, 1, 5])
(.region [
⟨0, (some 6), .mv (.t 0), none⟩,
⟨1, (some 7), .mv (.t 0), none⟩,
⟨2, (some 8), .mv (.t 1), none⟩,
⟨3, (some 9), .load 4 true (.t 5), none⟩,
⟨4, (some 10), .nilCk (.t 6), none⟩,
⟨5, (some 11), .fieldA 5 1 false (.t 10), none⟩,
⟨6, none, .store 1 (.t 11) (.t 8), none⟩,
⟨7, (some 12), .nilCk (.t 7), none⟩,
⟨8, (some 13), .fieldA 6 4 true (.t 12), none⟩,
⟨9, none, .store 4 (.t 13) (.t 9), none⟩] (some ([(3, 6)], [])) [])), []⟩

/-! (*rafter/glyph.scanner).token$2 -/
def a_glyph_scanner_token_2 : AFun := ⟨1,
(.seq
(.region [
⟨0, (some 2), .mv (.c (.bool false)), none⟩] none [0])
(.seq
(.region [
⟨0, (some 3), .mv (.t 0), none⟩,
⟨1, (some 4), .bin .eql (.t 3) (.c (.int .i64 3)), none⟩,
⟨2, (some 2), .mv (.t 4), none⟩] none [2])
.ret)), [(.tmp 2, true)]⟩

/-! (*rafter/glyph.scanner).sign -/
def a_glyph_scanner_sign : AFun := ⟨1,
(.seq
(.region [
⟨0, (some 2), .mv (.c (.str [])), none⟩] none [0])
(.seq
(.region [
⟨0, (some 5), .mv (.t 0), none⟩,
⟨2, (some 7), .mv (.t 0), none⟩,
⟨3, (some 8), .nilCk (.t 7), none⟩,
⟨4, (some 9), .fieldA 1 4 true (.t 8), none⟩,
⟨5, (some 10), .load 4 true (.t 9), none⟩,
⟨6, (some 4), .alloc (.agg [.int .i64 0, .int .i64 0, .int .i64 0, .int .i64 0]) [], none⟩,
⟨1, (some 6), .call f_glyph_scanner_next [((.t 5), false)], none⟩,
⟨7, (some 3), .mv (.t 6), none⟩,
⟨8, none, .store 4 (.t 4) (.t 10), none⟩] (some ([(5, 6), (5, 1), (6, 1)], [1])) [0, 3, 4])
(.seq
(.region [
⟨0, (some 11), .mv (.t 0), none⟩,
⟨1, (some 12), .call f_glyph_scanner_pass [((.t 11), false)], none⟩] none [0, 3, 4])
(.seq
(.block 0
(.seq
(.region [
⟨0, (some 14), .mv (.t 3), none⟩,
⟨1, (some 15), .bin .eql (.t 14) (.c (.int .i64 8788)), none⟩,
⟨2, (some 13), .mv (.t 15), none⟩] none [0, 3, 4, 13])
(.cond (.t 13)
(.seq
(.region [
⟨0, (some 2), .mv (.c (.str [58, 61])), none⟩] none [2])
.ret)
(.seq
(.region [
⟨0, (some 17), .mv (.t 3), none⟩,
⟨1, (some 18), .bin .eql (.t 17) (.c (.int .i64 8800)), none⟩,
⟨2, (some 16), .mv (.t 18), none⟩] none [0, 3, 4, 16])
(.cond (.t 16)
(.seq
(.region [
⟨0, (some 2), .mv (.c (.str [33, 61])), none⟩] none [2])
.ret)
(.seq
(.region [
⟨0, (some 20), .mv (.t 3), none⟩,
⟨1, (some 21), .bin .eql (.t 20) (.c (.int .i64 58)), none⟩,
⟨2, (some 22), .mv (.t 21), none⟩,
⟨3, (some 23), .mv (.t 3), (some (22, false))⟩,
⟨4, (some 24), .bin .eql (.t 23) (.c (.int .i64 33)), (some (22, false))⟩,
⟨5, (some 25), .pick (.t 22) (.c (.bool true)) (.t 24), none⟩,
⟨6, (some 19), .mv (.t 25), none⟩] none [0, 3, 4, 19])
(.cond (.t 19)
(.seq
(.seq
(.region [
⟨0, (some 26), .mv (.t 0), none⟩,
⟨1, (some 27), .call f_glyph_scanner_next [((.t 26), false)], none⟩,
⟨2, (some 28), .bin .neq (.t 27) (.c (.int .i64 61)), none⟩] none [0, 3, 4, 28])
(.cond (.t 28)
(.seq
(.region [
⟨0, (some 29), .mv (.t 0), none⟩,
⟨1, (some 30), .load 4 true (.t 4), none⟩,
⟨2, (some 31), .call f_glyph_scanner_early [((.t 29), false), ((.c (.int .i64 41)), true), ((.t 30), true)], none⟩] none [])
(.seq
(.region [
⟨0, (some 2), .mv (.c (.str [])), none⟩] none [2])
.ret))
.skip))
(.seq
(.region [
⟨0, (some 32), .mv (.t 0), none⟩,
⟨1, (some 33), .call f_glyph_scanner_pass [((.t 32), false)], none⟩] none [3])
(.seq
(.region [
⟨0, (some 34), .mv (.t 3), none⟩,
⟨1, (some 35), .conv (.int .i32) (.t 34), none⟩,
⟨2, (some 36), .conv .rune (.t 35), none⟩,
⟨3, (some 37), .bin .add (.t 36) (.c (.str [61])), none⟩,
⟨4, (some 2), .mv (.t 37), none⟩] none [2])
.ret)))
.skip)))))))
(.seq
(.region [
⟨0, (some 38), .mv (.t 3), none⟩,
⟨1, (some 39), .call f_glyph_Fold [((.t 38), true)], none⟩,
⟨2, (some 40), .conv (.int .i32) (.t 39), none⟩,
⟨3, (some 41), .conv .rune (.t 40), none⟩,
⟨4, (some 2), .mv (.t 41), none⟩] none [2])
.ret))))), [(.tmp 2, true)]⟩

/-! (*rafter/glyph.scanner).fail -/
def a_glyph_scanner_fail : AFun := ⟨3,
(.seq
(.region [
⟨0, (some 5), .box 4 (.t 2), none⟩] none [0, 1, 5])
(.seq
(.region [
⟨0, (some 6), .mv (.t 0), none⟩,
⟨1, (some 7), .nilCk (.t 6), none⟩,
⟨2, (some 8), .fieldA 5 1 false (.t 7), none⟩,
⟨3, (some 9), .load 1 false (.t 8), none⟩,
⟨4, (some 10), .bin .eql (.t 9) (.c (.int .i64 0)), none⟩] none [0, 1, 5, 10])
(.cond (.t 10)
(.region [
⟨0, (some 11), .mv (.t 0), none⟩,
⟨1, (some 12), .mv (.t 0), none⟩,
⟨2, (some 13), .mv (.t 1), none⟩,
⟨3, (some 14), .load 4 true (.t 5), none⟩,
⟨4, (some 15), .nilCk (.t 11), none⟩,
⟨5, (some 16), .fieldA 5 1 false (.t 15), none⟩,
⟨6, none, .store 1 (.t 16) (.t 13), none⟩,
⟨7, (some 17), .nilCk (.t 12), none⟩,
⟨8, (some 18), .fieldA 6 4 true (.t 17), none⟩,
⟨9, none, .store 4 (.t 18) (.t 14), none⟩] (some ([(3, 6)], [])) [])
.skip))), []⟩

/-! rafter/limbs.grow -/
def a_limbs_grow_b0 : ACode :=
(.seq
(.region [
⟨0, (some 14), .bin .lss (.t 13) (.t 12), none⟩] none [0, 1, 7, 12, 13, 14])
(.seq
(.cond (.t 14)
.skip
(.exit 0 [0, 7]))
(.seq
(.block 1
(.seq
(.region [
⟨0, (some 15), .mv (.t 13), none⟩,
⟨1, (some 8), .mv (.t 15), none⟩] none [0, 1, 7, 8, 12, 13])
(.seq
(.region [
⟨0, (some 16), .mv (.t 7), none⟩,
⟨1, (some 17), .mv (.t 0), none⟩,
⟨2, (some 18), .mv (.t 8), none⟩,
⟨3, (some 19), .idxA ⟨1, 4⟩ (.t 17) (.t 18), none⟩,
⟨4, (some 20), .load 1 false (.t 19), none⟩,
⟨5, (some 21), .conv (.int .u64) (.t 20), none⟩,
⟨6, (some 22), .mv (.t 1), none⟩,
⟨7, (some 23), .conv (.int .u64) (.t 22), none⟩,
⟨8, (some 24), .bin .mul (.t 21) (.t 23), none⟩,
⟨9, (some 25), .bin .add (.t 16) (.t 24), none⟩,
⟨10, (some 7), .mv (.t 25), none⟩] none [0, 1, 7, 8, 12, 13])
(.seq
(.region [
⟨0, (some 26), .mv (.t 0), none⟩,
⟨1, (some 27), .mv (.t 8), none⟩,
⟨2, (some 28), .mv (.t 7), none⟩,
⟨3, (some 29), .conv (.int .u32) (.t 28), none⟩,
⟨4, (some 30), .idxA ⟨1, 4⟩ (.t 26) (.t 27), none⟩,
⟨5, none, .store 1 (.t 30) (.t 29), none⟩] none [0, 1, 7, 12, 13])
(.region [
⟨0, (some 31), .mv (.t 7), none⟩,
⟨1, (some 32), .bin .shr (.t 31) (.c (.int .u64 32)), none⟩,
⟨2, (some 7), .mv (.t 32), none⟩] none [0, 1, 7, 12, 13])))))
(.region [
⟨0, (some 33), .bin .add (.t 13) (.c (.int .i64 1)), none⟩,
⟨1, (some 13), .mv (.t 33), none⟩] none [0, 1, 7, 12, 13]))))
def a_limbs_grow_l0 : ACode := .loop [0, 1, 7, 12, 13] a_limbs_grow_b0
def a_limbs_grow : AFun := ⟨3,
(.seq
(.region [
⟨0, (some 6), .mv (.c (.sl [])), none⟩] none [0, 1, 2])
(.seq
(.region [
⟨0, (some 9), .mv (.t 2), none⟩,
⟨1, (some 10), .conv (.int .u64) (.t 9), none⟩,
⟨2, (some 7), .mv (.t 10), none⟩] none [0, 1, 7])
(.seq
(.seq
(.region [
⟨0, (some 11), .mv (.t 0), none⟩,
⟨1, (some 12), .len false (.t 11), none⟩,
⟨2, (some 13), .mv (.c (.int .i64 0)), none⟩] none [0, 1, 7, 12, 13])
(.block 0
 a_limbs_grow_l0))
(.seq
(.seq
(.region [
⟨0, (some 34), .mv (.t 7), none⟩,
⟨1, (some 35), .bin .gtr (.t 34) (.c (.int .u64 0)), none⟩] none [0, 7, 35])
(.cond (.t 35)
(.region [
⟨0, (some 36), .mv (.t 0), none⟩,
⟨1, (some 37), .mv (.t 7), none⟩,
⟨2, (some 38), .conv (.int .u32) (.t 37), none⟩,
⟨3, (some 39), .buildSl ⟨1, 4⟩ (.int .u32 0) 1 [(0, (.t 38))], none⟩,
⟨4, (some 40), .app ⟨1, 4⟩ (some (.t 36)) (.t 39), none⟩,
⟨5, (some 0), .mv (.t 40), none⟩] none [0])
.skip))
(.seq
(.region [
⟨0, (some 41), .mv (.t 0), none⟩,
⟨1, (some 6), .mv (.t 41), none⟩] none [6])
.ret))))), [(.tmp 6, false)]⟩

/-! (*rafter/lang.reader).into -/
def a_lang_reader_into : AFun := ⟨2,
(.seq
(.region [
⟨0, (some 5), .mv (.t 0), none⟩,
⟨1, (some 6), .call f_lang_reader_here [((.t 5), false)], none⟩,
⟨2, (some 4), .alloc (.agg [.int .i64 0, .str [], .int .i64 0, .int .i64 0, .int .i64 0, .int .i64 0]) [], none⟩,
⟨3, none, .store 6 (.t 4) (.t 6), none⟩] none [0, 1, 4])
(.seq
(.region [
⟨0, (some 7), .mv (.t 0), none⟩,
⟨1, (some 8), .fieldA 0 1 false (.t 4), none⟩,
⟨2, (some 9), .load 1 false (.t 8), none⟩,
⟨3, (some 10), .bin .eql (.t 9) (.c (.int .i64 3)), none⟩,
⟨4, (some 11), .mv (.t 10), none⟩,
⟨5, (some 12), .fieldA 1 1 false (.t 4), (some (11, true))⟩,
⟨6, (some 13), .load 1 false (.t 12), (some (11, true))⟩,
⟨7, (some 14), .mv (.t 1), (some (11, true))⟩,
⟨8, (some 15), .bin .eql (.t 13) (.t 14), (some (11, true))⟩,
⟨9, (some 16), .pick (.t 11) (.t 15) (.c (.bool false)), none⟩,
⟨10, (some 17), .call f_lang_reader_need [((.t 7), false), ((.t 16), true), ((.c (.int .i64 80)), true)], none⟩] none [0])
(.seq
(.region [
⟨0, (some 18), .mv (.t 0), none⟩,
⟨1, (some 19), .mv (.t 0), none⟩,
⟨2, (some 20), .nilCk (.t 19), none⟩,
⟨3, (some 21), .fieldA 3 1 false (.t 20), none⟩,
⟨4, (some 22), .load 1 false (.t 21), none⟩,
⟨5, (some 23), .bin .lss (.t 22) (.c (.int .i64 16)), none⟩,
⟨6, (some 24), .call f_lang_reader_need [((.t 18), false), ((.t 23), true), ((.c (.int .i64 83)), true)], none⟩] none [0])
(.seq
(.region [
⟨0, (some 25), .mv (.t 0), none⟩,
⟨1, (some 26), .nilCk (.t 25), none⟩,
⟨2, (some 27), .fieldA 3 1 false (.t 26), none⟩,
⟨3, (some 28), .load 1 false (.t 27), none⟩,
⟨4, (some 29), .bin .add (.t 28) (.c (.int .i64 1)), none⟩,
⟨5, (some 30), .nilCk (.t 25), none⟩,
⟨6, (some 31), .fieldA 3 1 false (.t 30), none⟩,
⟨7, none, .store 1 (.t 31) (.t 29), none⟩] none [0])
(.region [
⟨0, (some 32), .mv (.t 0), none⟩,
⟨1, (some 33), .call f_lang_reader_pass [((.t 32), false)], none⟩] none []))))), []⟩

/-! (*rafter/lang.reader).out -/
def a_lang_reader_out : AFun := ⟨2,
(.seq
(.region [
⟨0, (some 4), .mv (.t 0), none⟩,
⟨1, (some 5), .mv (.t 1), none⟩,
⟨2, (some 6), .call f_lang_reader_must [((.t 4), false), ((.t 5), true)], none⟩] none [0])
(.region [
⟨0, (some 7), .mv (.t 0), none⟩,
⟨1, (some 8), .nilCk (.t 7), none⟩,
⟨2, (some 9), .fieldA 3 1 false (.t 8), none⟩,
⟨3, (some 10), .load 1 false (.t 9), none⟩,
⟨4, (some 11), .bin .sub (.t 10) (.c (.int .i64 1)), none⟩,
⟨5, (some 12), .nilCk (.t 7), none⟩,
⟨6, (some 13), .fieldA 3 1 false (.t 12), none⟩,
⟨7, none, .store 1 (.t 13) (.t 11), none⟩] none [])), []⟩

/-! math/bits.LeadingZeros32 -/
def a_bits_LeadingZeros32 : AFun := ⟨1,
(.seq
(.region [
⟨0, (some 2), .mv (.c (.int .i64 0)), none⟩] none [0])
(.seq
(.region [
⟨0, (some 3), .mv (.t 0), none⟩,
⟨1, (some 4), .call f_bits_Len32 [((.t 3), true)], none⟩,
⟨2, (some 5), .bin .sub (.c (.int .i64 32)) (.t 4), none⟩,
⟨3, (some 2), .mv (.t 5), none⟩] none [2])
.ret)), [(.tmp 2, true)]⟩

/-! rafter/limbs.moved -/
def a_limbs_moved_b0 : ACode :=
(.seq
(.region [
⟨0, (some 15), .bin .lss (.t 14) (.t 13), none⟩] none [0, 1, 7, 8, 13, 14, 15])
(.seq
(.cond (.t 15)
.skip
(.exit 0 [7]))
(.seq
(.block 1
(.seq
(.region [
⟨0, (some 16), .mv (.t 14), none⟩,
⟨1, (some 9), .mv (.t 16), none⟩] none [0, 1, 7, 8, 9, 13, 14])
(.seq
(.seq
(.region [
⟨0, (some 17), .mv (.t 9), none⟩,
⟨1, (some 18), .mv (.t 0), none⟩,
⟨2, (some 19), .len false (.t 18), none⟩,
⟨3, (some 20), .bin .lss (.t 17) (.t 19), none⟩] none [0, 1, 7, 8, 9, 13, 14, 20])
(.cond (.t 20)
(.region [
⟨0, (some 21), .mv (.t 8), none⟩,
⟨1, (some 22), .mv (.t 0), none⟩,
⟨2, (some 23), .mv (.t 9), none⟩,
⟨3, (some 24), .idxA ⟨1, 4⟩ (.t 22) (.t 23), none⟩,
⟨4, (some 25), .load 1 false (.t 24), none⟩,
⟨5, (some 26), .conv (.int .u64) (.t 25), none⟩,
⟨6, (some 27), .mv (.t 1), none⟩,
⟨7, (some 28), .bin .shl (.t 26) (.t 27), none⟩,
⟨8, (some 29), .bin .or (.t 21) (.t 28), none⟩,
⟨9, (some 8), .mv (.t 29), none⟩] none [0, 1, 7, 8, 9, 13, 14])
.skip))
(.seq
(.region [
⟨0, (some 30), .mv (.t 7), none⟩,
⟨1, (some 31), .mv (.t 9), none⟩,
⟨2, (some 32), .mv (.t 8), none⟩,
⟨3, (some 33), .conv (.int .u32) (.t 32), none⟩,
⟨4, (some 34), .idxA ⟨1, 4⟩ (.t 30) (.t 31), none⟩,
⟨5, none, .store 1 (.t 34) (.t 33), none⟩] none [0, 1, 7, 8, 13, 14])
(.region [
⟨0, (some 35), .mv (.t 8), none⟩,
⟨1, (some 36), .bin .shr (.t 35) (.c (.int .u64 32)), none⟩,
⟨2, (some 8), .mv (.t 36), none⟩] none [0, 1, 7, 8, 13, 14])))))
(.region [
⟨0, (some 37), .bin .add (.t 14) (.c (.int .i64 1)), none⟩,
⟨1, (some 14), .mv (.t 37), none⟩] none [0, 1, 7, 8, 13, 14]))))
def a_limbs_moved_l0 : ACode := .loop [0, 1, 7, 8, 13, 14] a_limbs_moved_b0
def a_limbs_moved : AFun := ⟨3,
(.seq
(.region [
⟨0, (some 6), .mv (.c (.sl [])), none⟩] none [0, 1, 2])
(.seq
(.region [
⟨0, (some 10), .mv (.t 2), none⟩,
⟨1, (some 11), .mkSl ⟨1, 4⟩ (.int .u32 0) (.t 10) (.t 10), none⟩,
⟨2, (some 7), .mv (.t 11), none⟩] none [0, 1, 7])
(.seq
(.region [
⟨0, (some 8), .mv (.c (.int .u64 0)), none⟩] none [0, 1, 7, 8])
(.seq
(.seq
(.region [
⟨0, (some 12), .mv (.t 7), none⟩,
⟨1, (some 13), .len false (.t 12), none⟩,
⟨2, (some 14), .mv (.c (.int .i64 0)), none⟩] none [0, 1, 7, 8, 13, 14])
(.block 0
 a_limbs_moved_l0))
(.seq
(.region [
⟨0, (some 38), .mv (.t 7), none⟩,
⟨1, (some 6), .mv (.t 38), none⟩] none [6])
.ret))))), [(.tmp 6, false)]⟩

/-! rafter/limbs.take -/
def a_limbs_take_b0 : ACode :=
(.seq
(.region [
⟨0, (some 16), .bin .lss (.t 15) (.t 14), none⟩] none [0, 1, 2, 7, 8, 14, 15, 16])
(.seq
(.cond (.t 16)
.skip
(.exit 0 [0, 1, 2, 7, 8]))
(.seq
(.block 1
(.seq
(.region [
⟨0, (some 17), .mv (.t 15), none⟩,
⟨1, (some 9), .mv (.t 17), none⟩] none [0, 1, 2, 7, 8, 9, 14, 15])
(.seq
(.region [
⟨0, (some 18), .mv (.t 7), none⟩,
⟨1, (some 19), .mv (.t 2), none⟩,
⟨2, (some 20), .mv (.t 1), none⟩,
⟨3, (some 21), .mv (.t 9), none⟩,
⟨4, (some 22), .idxA ⟨1, 4⟩ (.t 20) (.t 21), none⟩,
⟨5, (some 23), .load 1 false (.t 22), none⟩,
⟨6, (some 24), .conv (.int .u64) (.t 23), none⟩,
⟨7, (some 25), .bin .mul (.t 19) (.t 24), none⟩,
⟨8, (some 26), .bin .add (.t 18) (.t 25), none⟩,
⟨9, (some 7), .mv (.t 26), none⟩] none [0, 1, 2, 7, 8, 9, 14, 15])
(.seq
(.region [
⟨0, (some 27), .mv (.t 0), none⟩,
⟨1, (some 28), .mv (.t 9), none⟩,
⟨2, (some 29), .idxA ⟨1, 4⟩ (.t 27) (.t 28), none⟩,
⟨3, (some 30), .load 1 false (.t 29), none⟩,
⟨4, (some 31), .conv (.int .u64) (.t 30), none⟩,
⟨5, (some 32), .mv (.t 7), none⟩,
⟨6, (some 33), .conv (.int .u32) (.t 32), none⟩,
⟨7, (some 34), .conv (.int .u64) (.t 33), none⟩,
⟨8, (some 35), .bin .sub (.t 31) (.t 34), none⟩,
⟨9, (some 36), .mv (.t 8), none⟩,
⟨10, (some 37), .bin .sub (.t 35) (.t 36), none⟩,
⟨11, (some 10), .mv (.t 37), none⟩] none [0, 1, 2, 7, 9, 10, 14, 15])
(.seq
(.region [
⟨0, (some 38), .mv (.t 0), none⟩,
⟨1, (some 39), .mv (.t 9), none⟩,
⟨2, (some 40), .mv (.t 10), none⟩,
⟨3, (some 41), .conv (.int .u32) (.t 40), none⟩,
⟨4, (some 42), .idxA ⟨1, 4⟩ (.t 38) (.t 39), none⟩,
⟨5, none, .store 1 (.t 42) (.t 41), none⟩] none [0, 1, 2, 7, 10, 14, 15])
(.seq
(.region [
⟨0, (some 43), .mv (.t 10), none⟩,
⟨1, (some 44), .bin .shr (.t 43) (.c (.int .u64 63)), none⟩,
⟨2, (some 8), .mv (.t 44), none⟩] none [0, 1, 2, 7, 8, 14, 15])
(.region [
⟨0, (some 45), .mv (.t 7), none⟩,
⟨1, (some 46), .bin .shr (.t 45) (.c (.int .u64 32)), none⟩,
⟨2, (some 7), .mv (.t 46), none⟩] none [0, 1, 2, 7, 8, 14, 15])))))))
(.region [
⟨0, (some 47), .bin .add (.t 15) (.c (.int .i64 1)), none⟩,
⟨1, (some 15), .mv (.t 47), none⟩] none [0, 1, 2, 7, 8, 14, 15]))))
def a_limbs_take_l0 : ACode := .loop [0, 1, 2, 7, 8, 14, 15] a_limbs_take_b0
def a_limbs_take_b1 : ACode :=
(.seq
(.region [
⟨0, (some 72), .bin .lss (.t 71) (.t 70), none⟩] none [0, 1, 2, 7, 70, 71, 72])
(.seq
(.cond (.t 72)
.skip
(.exit 2 [0, 1, 2, 7]))
(.seq
(.block 3
(.seq
(.region [
⟨0, (some 73), .mv (.t 71), none⟩,
⟨1, (some 12), .mv (.t 73), none⟩] none [0, 1, 2, 7, 12, 70, 71])
(.seq
(.region [
⟨0, (some 74), .mv (.t 7), none⟩,
⟨1, (some 75), .mv (.t 0), none⟩,
⟨2, (some 76), .mv (.t 12), none⟩,
⟨3, (some 77), .idxA ⟨1, 4⟩ (.t 75) (.t 76), none⟩,
⟨4, (some 78), .load 1 false (.t 77), none⟩,
⟨5, (some 79), .conv (.int .u64) (.t 78), none⟩,
⟨6, (some 80), .mv (.t 1), none⟩,
⟨7, (some 81), .mv (.t 12), none⟩,
⟨8, (some 82), .idxA ⟨1, 4⟩ (.t 80) (.t 81), none⟩,
⟨9, (some 83), .load 1 false (.t 82), none⟩,
⟨10, (some 84), .conv (.int .u64) (.t 83), none⟩,
⟨11, (some 85), .bin .add (.t 79) (.t 84), none⟩,
⟨12, (some 86), .bin .add (.t 74) (.t 85), none⟩,
⟨13, (some 7), .mv (.t 86), none⟩] (some ([], [])) [0, 1, 2, 7, 12, 70, 71])
(.seq
(.region [
⟨0, (some 87), .mv (.t 0), none⟩,
⟨1, (some 88), .mv (.t 12), none⟩,
⟨2, (some 89), .mv (.t 7), none⟩,
⟨3, (some 90), .conv (.int .u32) (.t 89), none⟩,
⟨4, (some 91), .idxA ⟨1, 4⟩ (.t 87) (.t 88), none⟩,
⟨5, none, .store 1 (.t 91) (.t 90), none⟩] none [0, 1, 2, 7, 70, 71])
(.region [
⟨0, (some 92), .mv (.t 7), none⟩,
⟨1, (some 93), .bin .shr (.t 92) (.c (.int .u64 32)), none⟩,
⟨2, (some 7), .mv (.t 93), none⟩] none [0, 1, 2, 7, 70, 71])))))
(.region [
⟨0, (some 94), .bin .add (.t 71) (.c (.int .i64 1)), none⟩,
⟨1, (some 71), .mv (.t 94), none⟩] none [0, 1, 2, 7, 70, 71]))))
def a_limbs_take_l1 : ACode := .loop [0, 1, 2, 7, 70, 71] a_limbs_take_b1
def a_limbs_take : AFun := ⟨3,
(.seq
(.region [
⟨0, (some 6), .mv (.c (.int .u32 0)), none⟩] none [0, 1, 2])
(.seq
(.region [
⟨0, (some 7), .mv (.c (.int .u64 0)), none⟩,
⟨1, (some 8), .mv (.c (.int .u64 0)), none⟩] none [0, 1, 2, 7, 8])
(.seq
(.seq
(.region [
⟨0, (some 13), .mv (.t 1), none⟩,
⟨1, (some 14), .len false (.t 13), none⟩,
⟨2, (some 15), .mv (.c (.int .i64 0)), none⟩] none [0, 1, 2, 7, 8, 14, 15])
(.block 0
 a_limbs_take_l0))
(.seq
(.region [
⟨0, (some 48), .mv (.t 0), none⟩,
⟨1, (some 49), .mv (.t 1), none⟩,
⟨2, (some 50), .len false (.t 49), none⟩,
⟨3, (some 51), .idxA ⟨1, 4⟩ (.t 48) (.t 50), none⟩,
⟨4, (some 52), .load 1 false (.t 51), none⟩,
⟨5, (some 53), .conv (.int .u64) (.t 52), none⟩,
⟨6, (some 54), .mv (.t 7), none⟩,
⟨7, (some 55), .bin .sub (.t 53) (.t 54), none⟩,
⟨8, (some 56), .mv (.t 8), none⟩,
⟨9, (some 57), .bin .sub (.t 55) (.t 56), none⟩,
⟨10, (some 11), .mv (.t 57), none⟩] none [0, 1, 2, 11])
(.seq
(.region [
⟨0, (some 58), .mv (.t 0), none⟩,
⟨1, (some 59), .mv (.t 1), none⟩,
⟨2, (some 60), .len false (.t 59), none⟩,
⟨3, (some 61), .mv (.t 11), none⟩,
⟨4, (some 62), .conv (.int .u32) (.t 61), none⟩,
⟨5, (some 63), .idxA ⟨1, 4⟩ (.t 58) (.t 60), none⟩,
⟨6, none, .store 1 (.t 63) (.t 62), none⟩] none [0, 1, 2, 11])
(.seq
(.seq
(.region [
⟨0, (some 64), .mv (.t 11), none⟩,
⟨1, (some 65), .bin .shr (.t 64) (.c (.int .u64 63)), none⟩,
⟨2, (some 66), .bin .eql (.t 65) (.c (.int .u64 0)), none⟩] none [0, 1, 2, 66])
(.cond (.t 66)
(.seq
(.region [
⟨0, (some 67), .mv (.t 2), none⟩,
⟨1, (some 68), .conv (.int .u32) (.t 67), none⟩,
⟨2, (some 6), .mv (.t 68), none⟩] none [6])
.ret)
.skip))
(.seq
(.region [
⟨0, (some 7), .mv (.c (.int .u64 0)), none⟩] none [0, 1, 2, 7])
(.seq
(.seq
(.region [
⟨0, (some 69), .mv (.t 1), none⟩,
⟨1, (some 70), .len false (.t 69), none⟩,
⟨2, (some 71), .mv (.c (.int .i64 0)), none⟩] none [0, 1, 2, 7, 70, 71])
(.block 2
 a_limbs_take_l1))
(.seq
(.region [
⟨0, (some 95), .mv (.t 0), none⟩,
⟨1, (some 96), .mv (.t 1), none⟩,
⟨2, (some 97), .len false (.t 96), none⟩,
⟨3, (some 98), .idxA ⟨1, 4⟩ (.t 95) (.t 97), none⟩,
⟨4, (some 99), .load 1 false (.t 98), none⟩,
⟨5, (some 100), .mv (.t 7), none⟩,
⟨6, (some 101), .conv (.int .u32) (.t 100), none⟩,
⟨7, (some 102), .bin .add (.t 99) (.t 101), none⟩,
⟨8, (some 103), .idxA ⟨1, 4⟩ (.t 95) (.t 97), none⟩,
⟨9, none, .store 1 (.t 103) (.t 102), none⟩] none [2])
(.seq
(.region [
⟨0, (some 104), .mv (.t 2), none⟩,
⟨1, (some 105), .bin .sub (.t 104) (.c (.int .u64 1)), none⟩,
⟨2, (some 106), .conv (.int .u32) (.t 105), none⟩,
⟨3, (some 6), .mv (.t 106), none⟩] none [6])
.ret)))))))))), [(.tmp 6, true)]⟩

/-! rafter/limbs.Right -/
def a_limbs_Right_b0 : ACode :=
(.seq
(.region [
⟨0, (some 28), .bin .lss (.t 27) (.t 26), none⟩] none [0, 1, 6, 26, 27, 28])
(.seq
(.cond (.t 28)
.skip
(.exit 0 [6]))
(.seq
(.block 1
(.seq
(.region [
⟨0, (some 29), .mv (.t 27), none⟩,
⟨1, (some 7), .mv (.t 29), none⟩] none [0, 1, 6, 7, 26, 27])
(.seq
(.region [
⟨0, (some 30), .mv (.t 0), none⟩,
⟨1, (some 31), .mv (.t 7), none⟩,
⟨2, (some 32), .idxA ⟨1, 4⟩ (.t 30) (.t 31), none⟩,
⟨3, (some 33), .load 1 false (.t 32), none⟩,
⟨4, (some 34), .conv (.int .u64) (.t 33), none⟩,
⟨5, (some 8), .mv (.t 34), none⟩] none [0, 1, 6, 7, 8, 26, 27])
(.seq
(.seq
(.region [
⟨0, (some 35), .mv (.t 7), none⟩,
⟨1, (some 36), .bin .add (.t 35) (.c (.int .i64 1)), none⟩,
⟨2, (some 37), .mv (.t 0), none⟩,
⟨3, (some 38), .len false (.t 37), none⟩,
⟨4, (some 39), .bin .lss (.t 36) (.t 38), none⟩] none [0, 1, 6, 7, 8, 26, 27, 39])
(.cond (.t 39)
(.region [
⟨0, (some 40), .mv (.t 8), none⟩,
⟨1, (some 41), .mv (.t 0), none⟩,
⟨2, (some 42), .mv (.t 7), none⟩,
⟨3, (some 43), .bin .add (.t 42) (.c (.int .i64 1)), none⟩,
⟨4, (some 44), .idxA ⟨1, 4⟩ (.t 41) (.t 43), none⟩,
⟨5, (some 45), .load 1 false (.t 44), none⟩,
⟨6, (some 46), .conv (.int .u64) (.t 45), none⟩,
⟨7, (some 47), .bin .shl (.t 46) (.c (.int .u64 32)), none⟩,
⟨8, (some 48), .bin .or (.t 40) (.t 47), none⟩,
⟨9, (some 8), .mv (.t 48), none⟩] none [0, 1, 6, 7, 8, 26, 27])
.skip))
(.region [
⟨0, (some 49), .mv (.t 6), none⟩,
⟨1, (some 50), .mv (.t 7), none⟩,
⟨2, (some 51), .mv (.t 8), none⟩,
⟨3, (some 52), .mv (.t 1), none⟩,
⟨4, (some 53), .bin .rem (.t 52) (.c (.int .i64 32)), none⟩,
⟨5, (some 54), .bin .shr (.t 51) (.t 53), none⟩,
⟨6, (some 55), .conv (.int .u32) (.t 54), none⟩,
⟨7, (some 56), .idxA ⟨1, 4⟩ (.t 49) (.t 50), none⟩,
⟨8, none, .store 1 (.t 56) (.t 55), none⟩] none [0, 1, 6, 26, 27])))))
(.region [
⟨0, (some 57), .bin .add (.t 27) (.c (.int .i64 1)), none⟩,
⟨1, (some 27), .mv (.t 57), none⟩] none [0, 1, 6, 26, 27]))))
def a_limbs_Right_l0 : ACode := .loop [0, 1, 6, 26, 27] a_limbs_Right_b0
def a_limbs_Right : AFun := ⟨2,
(.seq
(.region [
⟨0, (some 4), .mv (.c (.sl [])), none⟩,
⟨1, (some 5), .mv (.c (.int .i64 0)), none⟩] none [0, 1])
(.seq
(.seq
(.region [
⟨0, (some 9), .mv (.t 1), none⟩,
⟨1, (some 10), .bin .lss (.t 9) (.c (.int .i64 0)), none⟩] none [0, 1, 10])
(.cond (.t 10)
(.seq
(.region [
⟨0, (some 4), .mv (.c (.sl [])), none⟩,
⟨1, (some 5), .mv (.c (.int .i64 1)), none⟩] none [4, 5])
.ret)
.skip))
(.seq
(.region [
⟨0, (some 11), .mv (.t 0), none⟩,
⟨1, (some 12), .call f_limbs_short [((.t 11), true)], none⟩,
⟨2, (some 0), .mv (.t 12), none⟩] none [0, 1])
(.seq
(.seq
(.region [
⟨0, (some 13), .mv (.t 1), none⟩,
⟨1, (some 14), .bin .quo (.t 13) (.c (.int .i64 32)), none⟩,
⟨2, (some 15), .mv (.t 0), none⟩,
⟨3, (some 16), .len false (.t 15), none⟩,
⟨4, (some 17), .bin .geq (.t 14) (.t 16), none⟩] none [0, 1, 17])
(.cond (.t 17)
(.seq
(.region [
⟨0, (some 4), .mv (.c (.sl [])), none⟩,
⟨1, (some 5), .mv (.c (.int .i64 0)), none⟩] none [4, 5])
.ret)
.skip))
(.seq
(.region [
⟨0, (some 18), .mv (.t 0), none⟩,
⟨1, (some 19), .mv (.t 1), none⟩,
⟨2, (some 20), .bin .quo (.t 19) (.c (.int .i64 32)), none⟩,
⟨3, (some 21), .slice (some ⟨1, 4⟩) (.t 18) (some (.t 20)) none, none⟩,
⟨4, (some 0), .mv (.t 21), none⟩] none [0, 1])
(.seq
(.region [
⟨0, (some 22), .mv (.t 0), none⟩,
⟨1, (some 23), .len false (.t 22), none⟩,
⟨2, (some 24), .mkSl ⟨1, 4⟩ (.int .u32 0) (.t 23) (.t 23), none⟩,
⟨3, (some 6), .mv (.t 24), none⟩] none [0, 1, 6])
(.seq
(.seq
(.region [
⟨0, (some 25), .mv (.t 0), none⟩,
⟨1, (some 26), .len false (.t 25), none⟩,
⟨2, (some 27), .mv (.c (.int .i64 0)), none⟩] none [0, 1, 6, 26, 27])
(.block 0
 a_limbs_Right_l0))
(.seq
(.region [
⟨0, (some 58), .mv (.t 6), none⟩,
⟨1, (some 59), .call f_limbs_short [((.t 58), true)], none⟩,
⟨2, (some 4), .mv (.t 59), none⟩,
⟨3, (some 5), .mv (.c (.int .i64 0)), none⟩] none [4, 5])
.ret)))))))), [(.tmp 4, true), (.tmp 5, true)]⟩

/-! rafter/glyph.Class -/
def a_glyph_Class : AFun := ⟨1,
(.seq
(.region [
⟨0, (some 2), .mv (.c (.int .i64 0)), none⟩] none [0])
(.seq
(.block 0
(.seq
(.seq
(.region [
⟨0, (some 4), .mv (.t 0), none⟩,
⟨1, (some 5), .bin .eql (.t 4) (.c (.int .i64 9)), none⟩,
⟨2, (some 3), .mv (.t 5), none⟩] none [0, 3])
(.cond (.t 3)
.skip
(.seq
(.region [
⟨0, (some 6), .mv (.t 0), none⟩,
⟨1, (some 7), .bin .eql (.t 6) (.c (.int .i64 10)), none⟩,
⟨2, (some 3), .mv (.t 7), none⟩] none [0, 3])
(.cond (.t 3)
.skip
(.seq
(.region [
⟨0, (some 8), .mv (.t 0), none⟩,
⟨1, (some 9), .bin .eql (.t 8) (.c (.int .i64 13)), none⟩,
⟨2, (some 3), .mv (.t 9), none⟩] none [0, 3])
(.cond (.t 3)
.skip
(.seq
(.region [
⟨0, (some 10), .mv (.t 0), none⟩,
⟨1, (some 11), .bin .eql (.t 10) (.c (.int .i64 32)), none⟩,
⟨2, (some 3), .mv (.t 11), none⟩] none [0, 3])
(.cond (.t 3)
.skip
(.seq
(.region [
⟨0, (some 12), .mv (.t 0), none⟩,
⟨1, (some 13), .bin .eql (.t 12) (.c (.int .i64 160)), none⟩,
⟨2, (some 3), .mv (.t 13), none⟩] none [0, 3])
(.cond (.t 3)
.skip
(.region [
⟨0, (some 14), .mv (.t 0), none⟩,
⟨1, (some 15), .bin .eql (.t 14) (.c (.int .i64 12288)), none⟩,
⟨2, (some 3), .mv (.t 15), none⟩] none [0, 3])))))))))))
(.cond (.t 3)
(.seq
(.region [
⟨0, (some 2), .mv (.c (.int .i64 1)), none⟩] none [2])
.ret)
(.seq
(.region [
⟨0, (some 17), .mv (.t 0), none⟩,
⟨1, (some 18), .call f_glyph_letter [((.t 17), true)], none⟩,
⟨2, (some 16), .mv (.t 18), none⟩] none [0, 16])
(.cond (.t 16)
(.seq
(.region [
⟨0, (some 2), .mv (.c (.int .i64 2)), none⟩] none [2])
.ret)
(.seq
(.region [
⟨0, (some 20), .mv (.t 0), none⟩,
⟨1, (some 21), .bin .geq (.t 20) (.c (.int .i64 48)), none⟩,
⟨2, (some 22), .mv (.t 21), none⟩,
⟨3, (some 23), .mv (.t 0), (some (22, true))⟩,
⟨4, (some 24), .bin .leq (.t 23) (.c (.int .i64 57)), (some (22, true))⟩,
⟨5, (some 25), .pick (.t 22) (.t 24) (.c (.bool false)), none⟩,
⟨6, (some 19), .mv (.t 25), none⟩] none [0, 19])
(.cond (.t 19)
(.seq
(.region [
⟨0, (some 2), .mv (.c (.int .i64 3)), none⟩] none [2])
.ret)
(.seq
(.seq
(.region [
⟨0, (some 27), .mv (.t 0), none⟩,
⟨1, (some 28), .bin .eql (.t 27) (.c (.int .i64 95)), none⟩,
⟨2, (some 26), .mv (.t 28), none⟩] none [0, 26])
(.cond (.t 26)
.skip
(.seq
(.region [
⟨0, (some 29), .mv (.t 0), none⟩,
⟨1, (some 30), .bin .eql (.t 29) (.c (.int .i64 176)), none⟩,
⟨2, (some 26), .mv (.t 30), none⟩] none [0, 26])
(.cond (.t 26)
.skip
(.seq
(.region [
⟨0, (some 31), .mv (.t 0), none⟩,
⟨1, (some 32), .bin .eql (.t 31) (.c (.int .i64 8242)), none⟩,
⟨2, (some 26), .mv (.t 32), none⟩] none [0, 26])
(.cond (.t 26)
.skip
(.region [
⟨0, (some 33), .mv (.t 0), none⟩,
⟨1, (some 34), .bin .geq (.t 33) (.c (.int .i64 8320)), none⟩,
⟨2, (some 35), .mv (.t 34), none⟩,
⟨3, (some 36), .mv (.t 0), (some (35, true))⟩,
⟨4, (some 37), .bin .leq (.t 36) (.c (.int .i64 8329)), (some (35, true))⟩,
⟨5, (some 38), .pick (.t 35) (.t 37) (.c (.bool false)), none⟩,
⟨6, (some 26), .mv (.t 38), none⟩] none [0, 26])))))))
(.cond (.t 26)
(.seq
(.region [
⟨0, (some 2), .mv (.c (.int .i64 4)), none⟩] none [2])
.ret)
(.seq
(.region [
⟨0, (some 40), .mv (.t 0), none⟩,
⟨1, (some 41), .bin .eql (.t 40) (.c (.int .i64 35)), none⟩,
⟨2, (some 39), .mv (.t 41), none⟩] none [0, 39])
(.cond (.t 39)
(.seq
(.region [
⟨0, (some 2), .mv (.c (.int .i64 6)), none⟩] none [2])
.ret)
(.seq
(.region [
⟨0, (some 43), .mv (.t 0), none⟩,
⟨1, (some 44), .call f_glyph_sign [((.t 43), true)], none⟩,
⟨2, (some 42), .mv (.t 44), none⟩] none [42])
(.cond (.t 42)
(.seq
(.region [
⟨0, (some 2), .mv (.c (.int .i64 5)), none⟩] none [2])
.ret)
.skip)))))))))))))
(.seq
(.region [
⟨0, (some 2), .mv (.c (.int .i64 0)), none⟩] none [2])
.ret))), [(.tmp 2, true)]⟩

/-! unicode/utf8.DecodeRuneInString -/
def a_utf8_DecodeRuneInString : AFun := ⟨1,
(.seq
(.region [
⟨0, (some 2), .mv (.c (.int .i32 0)), none⟩,
⟨1, (some 3), .mv (.c (.int .i64 0)), none⟩] none [0])
(.seq
(.seq
(.region [
⟨0, (some 4), .mv (.t 0), none⟩,
⟨1, (some 5), .bin .neq (.t 4) (.c (.str [])), none⟩,
⟨2, (some 6), .mv (.t 5), none⟩,
⟨3, (some 7), .mv (.t 0), (some (6, true))⟩,
⟨4, (some 8), .idxS (.t 7) (.c (.int .i64 0)), (some (6, true))⟩,
⟨5, (some 9), .bin .lss (.t 8) (.c (.int .u8 128)), (some (6, true))⟩,
⟨6, (some 10), .pick (.t 6) (.t 9) (.c (.bool false)), none⟩] none [0, 10])
(.cond (.t 10)
(.seq
(.region [
⟨0, (some 11), .mv (.t 0), none⟩,
⟨1, (some 12), .idxS (.t 11) (.c (.int .i64 0)), none⟩,
⟨2, (some 13), .conv (.int .i32) (.t 12), none⟩,
⟨3, (some 2), .mv (.t 13), none⟩,
⟨4, (some 3), .mv (.c (.int .i64 1)), none⟩] none [2, 3])
.ret)
(.region [
⟨0, (some 15), .mv (.t 0), none⟩,
⟨1, (some 16), .call f_utf8_decodeRuneInStringSlow [((.t 15), true)], none⟩,
⟨2, (some 14), .mv (.t 16), none⟩,
⟨3, (some 17), .extract (.t 14) 0, none⟩,
⟨4, (some 18), .extract (.t 14) 1, none⟩,
⟨5, (some 2), .mv (.t 17), none⟩,
⟨6, (some 3), .mv (.t 18), none⟩] none [2, 3])))
.ret)), [(.tmp 2, true), (.tmp 3, true)]⟩

/-! rafter/glyph.behind -/
def a_glyph_behind : AFun := ⟨2,
(.seq
(.region [
⟨0, (some 2), .box 4 (.t 0), none⟩,
⟨1, (some 4), .alloc (.agg [.int .i64 0, .int .i64 0, .int .i64 0, .int .i64 0]) [], none⟩] none [1, 2, 4])
(.seq
(.region [
⟨0, (some 5), .fieldA 0 1 false (.t 2), none⟩,
⟨1, (some 6), .load 1 false (.t 5), none⟩,
⟨2, (some 7), .mv (.t 1), none⟩,
⟨3, (some 8), .call f_utf8_RuneLen [((.t 7), true)], none⟩,
⟨4, (some 9), .bin .add (.t 6) (.t 8), none⟩,
⟨5, (some 10), .fieldA 0 1 false (.t 2), none⟩,
⟨6, none, .store 1 (.t 10) (.t 9), none⟩] (some ([(1, 3)], [3])) [1, 2, 4])
(.seq
(.region [
⟨0, (some 11), .fieldA 1 1 false (.t 2), none⟩,
⟨1, (some 12), .load 1 false (.t 11), none⟩,
⟨2, (some 13), .bin .add (.t 12) (.c (.int .i64 1)), none⟩,
⟨3, (some 14), .fieldA 1 1 false (.t 2), none⟩,
⟨4, none, .store 1 (.t 14) (.t 13), none⟩] none [1, 2, 4])
(.seq
(.region [
⟨0, (some 15), .fieldA 3 1 false (.t 2), none⟩,
⟨1, (some 16), .load 1 false (.t 15), none⟩,
⟨2, (some 17), .bin .add (.t 16) (.c (.int .i64 1)), none⟩,
⟨3, (some 18), .fieldA 3 1 false (.t 2), none⟩,
⟨4, none, .store 1 (.t 18) (.t 17), none⟩] none [1, 2, 4])
(.seq
(.seq
(.region [
⟨0, (some 19), .mv (.t 1), none⟩,
⟨1, (some 20), .bin .eql (.t 19) (.c (.int .i32 10)), none⟩] none [2, 4, 20])
(.cond (.t 20)
(.seq
(.region [
⟨0, (some 21), .fieldA 2 1 false (.t 2), none⟩,
⟨1, (some 22), .load 1 false (.t 21), none⟩,
⟨2, (some 23), .bin .add (.t 22) (.c (.int .i64 1)), none⟩,
⟨3, (some 24), .fieldA 2 1 false (.t 2), none⟩,
⟨4, none, .store 1 (.t 24) (.t 23), none⟩] none [2, 4])
(.region [
⟨0, (some 25), .fieldA 3 1 false (.t 2), none⟩,
⟨1, none, .store 1 (.t 25) (.c (.int .i64 1)), none⟩] none [2, 4]))
.skip))
(.seq
(.region [
⟨0, (some 26), .load 4 true (.t 2), none⟩,
⟨1, none, .store 4 (.t 4) (.t 26), none⟩] none [4])
.ret)))))), [(.cell 4 4 true, true)]⟩

/-! rafter/glyph.broken -/
def a_glyph_broken : AFun := ⟨2,
(.seq
(.region [
⟨0, (some 4), .mv (.c (.bool false)), none⟩] none [0, 1])
(.seq
(.seq
(.region [
⟨0, (some 7), .mv (.t 1), none⟩,
⟨1, (some 8), .bin .neq (.t 7) (.c (.int .i32 65533)), none⟩] none [0, 8])
(.cond (.t 8)
(.seq
(.region [
⟨0, (some 4), .mv (.c (.bool false)), none⟩] none [4])
.ret)
.skip))
(.seq
(.region [
⟨0, (some 10), .mv (.t 0), none⟩,
⟨1, (some 11), .call f_utf8_DecodeRuneInString [((.t 10), true)], none⟩,
⟨2, (some 9), .mv (.t 11), none⟩,
⟨3, (some 12), .extract (.t 9) 0, none⟩,
⟨4, (some 13), .extract (.t 9) 1, none⟩,
⟨5, (some 5), .mv (.t 12), none⟩,
⟨6, (some 6), .mv (.t 13), none⟩] none [6])
(.seq
(.region [
⟨0, (some 14), .mv (.t 6), none⟩,
⟨1, (some 15), .bin .eql (.t 14) (.c (.int .i64 1)), none⟩,
⟨2, (some 4), .mv (.t 15), none⟩] none [4])
.ret)))), [(.tmp 4, true)]⟩

/-! rafter/glyph.Fold -/
def a_glyph_Fold : AFun := ⟨1,
(.seq
(.region [
⟨0, (some 2), .mv (.c (.int .i64 0)), none⟩] none [0])
(.seq
(.seq
(.region [
⟨0, (some 3), .mv (.t 0), none⟩] none [0, 3])
(.block 0
(.seq
(.seq
(.region [
⟨0, (some 5), .bin .eql (.t 3) (.c (.int .i64 183)), none⟩,
⟨1, (some 4), .mv (.t 5), none⟩] none [0, 3, 4])
(.cond (.t 4)
.skip
(.region [
⟨0, (some 6), .bin .eql (.t 3) (.c (.int .i64 215)), none⟩,
⟨1, (some 4), .mv (.t 6), none⟩] none [0, 3, 4])))
(.cond (.t 4)
(.seq
(.region [
⟨0, (some 2), .mv (.c (.int .i64 42)), none⟩] none [2])
.ret)
(.seq
(.region [
⟨0, (some 8), .bin .eql (.t 3) (.c (.int .i64 247)), none⟩,
⟨1, (some 7), .mv (.t 8), none⟩] none [0, 3, 7])
(.cond (.t 7)
(.seq
(.region [
⟨0, (some 2), .mv (.c (.int .i64 47)), none⟩] none [2])
.ret)
(.seq
(.region [
⟨0, (some 10), .bin .eql (.t 3) (.c (.int .i64 8722)), none⟩,
⟨1, (some 9), .mv (.t 10), none⟩] none [0, 9])
(.cond (.t 9)
(.seq
(.region [
⟨0, (some 2), .mv (.c (.int .i64 45)), none⟩] none [2])
.ret)
.skip))))))))
(.seq
(.region [
⟨0, (some 11), .mv (.t 0), none⟩,
⟨1, (some 2), .mv (.t 11), none⟩] none [2])
.ret))), [(.tmp 2, true)]⟩

/-! rafter/glyph.letter -/
def a_glyph_letter : AFun := ⟨1,
(.seq
(.region [
⟨0, (some 2), .mv (.c (.bool false)), none⟩] none [0])
(.seq
(.block 0
(.seq
(.seq
(.region [
⟨0, (some 4), .mv (.t 0), none⟩,
⟨1, (some 5), .bin .geq (.t 4) (.c (.int .i64 65)), none⟩,
⟨2, (some 6), .mv (.t 5), none⟩,
⟨3, (some 7), .mv (.t 0), (some (6, true))⟩,
⟨4, (some 8), .bin .leq (.t 7) (.c (.int .i64 90)), (some (6, true))⟩,
⟨5, (some 9), .pick (.t 6) (.t 8) (.c (.bool false)), none⟩,
⟨6, (some 3), .mv (.t 9), none⟩] none [0, 3])
(.cond (.t 3)
.skip
(.region [
⟨0, (some 10), .mv (.t 0), none⟩,
⟨1, (some 11), .bin .geq (.t 10) (.c (.int .i64 97)), none⟩,
⟨2, (some 12), .mv (.t 11), none⟩,
⟨3, (some 13), .mv (.t 0), (some (12, true))⟩,
⟨4, (some 14), .bin .leq (.t 13) (.c (.int .i64 122)), (some (12, true))⟩,
⟨5, (some 15), .pick (.t 12) (.t 14) (.c (.bool false)), none⟩,
⟨6, (some 3), .mv (.t 15), none⟩] none [0, 3])))
(.cond (.t 3)
(.seq
(.region [
⟨0, (some 2), .mv (.c (.bool true)), none⟩] none [2])
.ret)
(.seq
(.seq
(.region [
⟨0, (some 17), .mv (.t 0), none⟩,
⟨1, (some 18), .bin .geq (.t 17) (.c (.int .i64 913)), none⟩,
⟨2, (some 19), .mv (.t 18), none⟩,
⟨3, (some 20), .mv (.t 0), (some (19, true))⟩,
⟨4, (some 21), .bin .leq (.t 20) (.c (.int .i64 929)), (some (19, true))⟩,
⟨5, (some 22), .pick (.t 19) (.t 21) (.c (.bool false)), none⟩,
⟨6, (some 16), .mv (.t 22), none⟩] none [0, 16])
(.cond (.t 16)
.skip
(.seq
(.region [
⟨0, (some 23), .mv (.t 0), none⟩,
⟨1, (some 24), .bin .geq (.t 23) (.c (.int .i64 931)), none⟩,
⟨2, (some 25), .mv (.t 24), none⟩,
⟨3, (some 26), .mv (.t 0), (some (25, true))⟩,
⟨4, (some 27), .bin .leq (.t 26) (.c (.int .i64 937)), (some (25, true))⟩,
⟨5, (some 28), .pick (.t 25) (.t 27) (.c (.bool false)), none⟩,
⟨6, (some 16), .mv (.t 28), none⟩] none [0, 16])
(.cond (.t 16)
.skip
(.region [
⟨0, (some 29), .mv (.t 0), none⟩,
⟨1, (some 30), .bin .geq (.t 29) (.c (.int .i64 945)), none⟩,
⟨2, (some 31), .mv (.t 30), none⟩,
⟨3, (some 32), .mv (.t 0), (some (31, true))⟩,
⟨4, (some 33), .bin .leq (.t 32) (.c (.int .i64 969)), (some (31, true))⟩,
⟨5, (some 34), .pick (.t 31) (.t 33) (.c (.bool false)), none⟩,
⟨6, (some 16), .mv (.t 34), none⟩] none [0, 16])))))
(.cond (.t 16)
(.seq
(.region [
⟨0, (some 2), .mv (.c (.bool true)), none⟩] none [2])
.ret)
.skip)))))
(.seq
(.region [
⟨0, (some 35), .mv (.t 0), none⟩,
⟨1, (some 36), .bin .geq (.t 35) (.c (.int .i64 1040)), none⟩,
⟨2, (some 37), .mv (.t 36), none⟩,
⟨3, (some 38), .mv (.t 0), (some (37, true))⟩,
⟨4, (some 39), .bin .leq (.t 38) (.c (.int .i64 1103)), (some (37, true))⟩,
⟨5, (some 40), .pick (.t 37) (.t 39) (.c (.bool false)), none⟩,
⟨6, (some 2), .mv (.t 40), none⟩] none [2])
.ret))), [(.tmp 2, true)]⟩

/-! rafter/glyph.sign -/
def a_glyph_sign : AFun := ⟨1,
(.seq
(.region [
⟨0, (some 2), .mv (.c (.bool false)), none⟩] none [0])
(.seq
(.seq
(.region [
⟨0, (some 3), .mv (.t 0), none⟩] none [3])
(.block 0
(.seq
(.seq
(.region [
⟨0, (some 5), .bin .eql (.t 3) (.c (.int .i64 43)), none⟩,
⟨1, (some 4), .mv (.t 5), none⟩] none [3, 4])
(.cond (.t 4)
.skip
(.seq
(.region [
⟨0, (some 6), .bin .eql (.t 3) (.c (.int .i64 45)), none⟩,
⟨1, (some 4), .mv (.t 6), none⟩] none [3, 4])
(.cond (.t 4)
.skip
(.seq
(.region [
⟨0, (some 7), .bin .eql (.t 3) (.c (.int .i64 42)), none⟩,
⟨1, (some 4), .mv (.t 7), none⟩] none [3, 4])
(.cond (.t 4)
.skip
(.seq
(.region [
⟨0, (some 8), .bin .eql (.t 3) (.c (.int .i64 47)), none⟩,
⟨1, (some 4), .mv (.t 8), none⟩] none [3, 4])
(.cond (.t 4)
.skip
(.seq
(.region [
⟨0, (some 9), .bin .eql (.t 3) (.c (.int .i64 37)), none⟩,
⟨1, (some 4), .mv (.t 9), none⟩] none [3, 4])
(.cond (.t 4)
.skip
(.seq
(.region [
⟨0, (some 10), .bin .eql (.t 3) (.c (.int .i64 40)), none⟩,
⟨1, (some 4), .mv (.t 10), none⟩] none [3, 4])
(.cond (.t 4)
.skip
(.seq
(.region [
⟨0, (some 11), .bin .eql (.t 3) (.c (.int .i64 41)), none⟩,
⟨1, (some 4), .mv (.t 11), none⟩] none [3, 4])
(.cond (.t 4)
.skip
(.seq
(.region [
⟨0, (some 12), .bin .eql (.t 3) (.c (.int .i64 123)), none⟩,
⟨1, (some 4), .mv (.t 12), none⟩] none [3, 4])
(.cond (.t 4)
.skip
(.seq
(.region [
⟨0, (some 13), .bin .eql (.t 3) (.c (.int .i64 125)), none⟩,
⟨1, (some 4), .mv (.t 13), none⟩] none [3, 4])
(.cond (.t 4)
.skip
(.seq
(.region [
⟨0, (some 14), .bin .eql (.t 3) (.c (.int .i64 44)), none⟩,
⟨1, (some 4), .mv (.t 14), none⟩] none [3, 4])
(.cond (.t 4)
.skip
(.seq
(.region [
⟨0, (some 15), .bin .eql (.t 3) (.c (.int .i64 59)), none⟩,
⟨1, (some 4), .mv (.t 15), none⟩] none [3, 4])
(.cond (.t 4)
.skip
(.seq
(.region [
⟨0, (some 16), .bin .eql (.t 3) (.c (.int .i64 58)), none⟩,
⟨1, (some 4), .mv (.t 16), none⟩] none [3, 4])
(.cond (.t 4)
.skip
(.seq
(.region [
⟨0, (some 17), .bin .eql (.t 3) (.c (.int .i64 61)), none⟩,
⟨1, (some 4), .mv (.t 17), none⟩] none [3, 4])
(.cond (.t 4)
.skip
(.seq
(.region [
⟨0, (some 18), .bin .eql (.t 3) (.c (.int .i64 33)), none⟩,
⟨1, (some 4), .mv (.t 18), none⟩] none [3, 4])
(.cond (.t 4)
.skip
(.seq
(.region [
⟨0, (some 19), .bin .eql (.t 3) (.c (.int .i64 63)), none⟩,
⟨1, (some 4), .mv (.t 19), none⟩] none [3, 4])
(.cond (.t 4)
.skip
(.region [
⟨0, (some 20), .bin .eql (.t 3) (.c (.int .i64 64)), none⟩,
⟨1, (some 4), .mv (.t 20), none⟩] none [3, 4])))))))))))))))))))))))))))))))
(.cond (.t 4)
(.seq
(.region [
⟨0, (some 2), .mv (.c (.bool true)), none⟩] none [2])
.ret)
(.seq
(.seq
(.region [
⟨0, (some 22), .bin .eql (.t 3) (.c (.int .i64 183)), none⟩,
⟨1, (some 21), .mv (.t 22), none⟩] none [3, 21])
(.cond (.t 21)
.skip
(.seq
(.region [
⟨0, (some 23), .bin .eql (.t 3) (.c (.int .i64 215)), none⟩,
⟨1, (some 21), .mv (.t 23), none⟩] none [3, 21])
(.cond (.t 21)
.skip
(.seq
(.region [
⟨0, (some 24), .bin .eql (.t 3) (.c (.int .i64 247)), none⟩,
⟨1, (some 21), .mv (.t 24), none⟩] none [3, 21])
(.cond (.t 21)
.skip
(.seq
(.region [
⟨0, (some 25), .bin .eql (.t 3) (.c (.int .i64 8722)), none⟩,
⟨1, (some 21), .mv (.t 25), none⟩] none [3, 21])
(.cond (.t 21)
.skip
(.seq
(.region [
⟨0, (some 26), .bin .eql (.t 3) (.c (.int .i64 8788)), none⟩,
⟨1, (some 21), .mv (.t 26), none⟩] none [3, 21])
(.cond (.t 21)
.skip
(.region [
⟨0, (some 27), .bin .eql (.t 3) (.c (.int .i64 8800)), none⟩,
⟨1, (some 21), .mv (.t 27), none⟩] none [21])))))))))))
(.cond (.t 21)
(.seq
(.region [
⟨0, (some 2), .mv (.c (.bool true)), none⟩] none [2])
.ret)
.skip))))))
(.seq
(.region [
⟨0, (some 2), .mv (.c (.bool false)), none⟩] none [2])
.ret))), [(.tmp 2, true)]⟩
def T0 : Tab where
  funs f := match f with
    | 4 => some a_rafterlaw09_GuardEquals
    | 6 => some a_rafterlaw09_awake
    | 7 => some a_lang_Expr
    | 8 => some a_rafterlaw09_deep
    | 9 => some a_guard_Affine
    | 10 => some a_whole_Text
    | 11 => some a_whole_Of
    | 12 => some a_whole_Neg
    | 13 => some a_whole_Add
    | 14 => some a_whole_Sub
    | 15 => some a_whole_Mul
    | 16 => some a_rafterlaw00_SameWhole
    | 17 => some a_rafterlaw00_LenWholes
    | 18 => some a_guard_Cond
    | 19 => some a_rafterlaw00_SameWholes
    | 20 => some a_lang_Value
    | 21 => some a_affine_Left
    | 22 => some a_affine_Canonical
    | 23 => some a_whole_Cmp
    | 24 => some a_whole_Sign
    | 31 => some a_rafterlaw00_Row
    | 32 => some a_lang_ReadExpr
    | 33 => some a_lang_Write
    | 34 => some a_guard_Form
    | 35 => some a_limbs_Text
    | 36 => some a_whole_made
    | 37 => some a_limbs_Small
    | 38 => some a_limbs_Trim
    | 39 => some a_limbs_Add
    | 40 => some a_limbs_Sub
    | 41 => some a_limbs_Mul
    | 42 => some a_rafterlaw00_SameLimbs
    | 43 => some a_rafterlaw00_LenWhole
    | 44 => some a_lang_ReadCond
    | 45 => some a_guard_Row
    | 46 => some a_lang_Reckon
    | 47 => some a_affine_sum
    | 48 => some a_whole_Gcd
    | 49 => some a_limbs_Cmp
    | 50 => some a_limbs_Bits
    | 53 => some a_lang_reader_here
    | 54 => some a_lang_reader_must
    | 55 => some a_lang_reader_is
    | 61 => some a_rafterlaw00_Small
    | 62 => some a_affine_Names
    | 63 => some a_lang_ReadExpr_1
    | 64 => some a_lang_reader_sum
    | 65 => some a_lang_write
    | 67 => some a_whole_Trim
    | 68 => some a_guard_times
    | 69 => some a_guard_both
    | 70 => some a_limbs_short
    | 71 => some a_limbs_byLimb
    | 72 => some a_lang_ReadCond_1
    | 73 => some a_lang_reader_cond
    | 74 => some a_ratio_From
    | 75 => some a_affine_Canon
    | 76 => some a_lang_join
    | 77 => some a_whole_Limbs
    | 78 => some a_limbs_Gcd
    | 79 => some a_bits_Len32
    | 80 => some a_glyph_Scan
    | 82 => some a_lang_reader_need
    | 83 => some a_lang_reader_pass
    | 84 => some a_lang_reader_name
    | 86 => some a_lang_reader_variable
    | 87 => some a_whole_Parse
    | 94 => some a_glyph_Name
    | 95 => some a_lang_reader_product
    | 96 => some a_strings_Builder_WriteString
    | 97 => some a_strings_Builder_WriteByte
    | 98 => some a_lang_part
    | 99 => some a_lang_single
    | 100 => some a_lang_sum
    | 101 => some a_lang_adds
    | 102 => some a_guard_constant
    | 103 => some a_whole_DivMod
    | 104 => some a_ratio_lowest
    | 105 => some a_ratio_one
    | 106 => some a_ratio_Trim
    | 107 => some a_ratio_Whole
    | 108 => some a_ratio_Mul
    | 109 => some a_affine_told
    | 110 => some a_affine_lowest
    | 111 => some a_limbs_Uint
    | 112 => some a_limbs_DivMod
    | 113 => some a_glyph_start
    | 114 => some a_glyph_scanner_blanks
    | 115 => some a_glyph_scanner_token
    | 116 => some a_lang_word
    | 117 => some a_utf8_RuneCountInString
    | 118 => some a_utf8_RuneLen
    | 119 => some a_limbs_Parse
    | 126 => some a_lang_reader_unary
    | 128 => some a_limbs_long
    | 129 => some a_glyph_scanner_class
    | 130 => some a_glyph_scanner_pass
    | 131 => some a_glyph_scanner_next
    | 132 => some a_glyph_scanner_while
    | 133 => some a_glyph_scanner_token_1
    | 134 => some a_glyph_scanner_early
    | 135 => some a_glyph_scanner_token_2
    | 136 => some a_glyph_scanner_sign
    | 137 => some a_glyph_scanner_fail
    | 138 => some a_limbs_grow
    | 139 => some a_lang_reader_into
    | 140 => some a_lang_reader_out
    | 142 => some a_bits_LeadingZeros32
    | 143 => some a_limbs_moved
    | 144 => some a_limbs_take
    | 145 => some a_limbs_Right
    | 146 => some a_glyph_Class
    | 147 => some a_utf8_DecodeRuneInString
    | 148 => some a_glyph_behind
    | 149 => some a_glyph_broken
    | 150 => some a_glyph_Fold
    | 151 => some a_glyph_letter
    | 152 => some a_glyph_sign
    | _ => none
  recs f := match f with
    | 51 => some r_lang_read
    | _ => none
  meth _ _ := none
end Go.Rf
