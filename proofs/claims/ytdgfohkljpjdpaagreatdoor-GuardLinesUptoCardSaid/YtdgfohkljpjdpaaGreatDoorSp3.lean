/- Parts of the proof: GvDig. -/
import Derived.Test.YtdgfohkljpjdpaaGreatDoorSp2

set_option linter.unusedSimpArgs false
set_option linter.unusedVariables false
set_option linter.unnecessarySimpa false
namespace Go.Rf
abbrev qnm : FuncId := 5
abbrev qlv : FuncId := 6
abbrev qge : FuncId := 9
abbrev qmh : FuncId := 10
abbrev qll : FuncId := 11
abbrev qn9 : FuncId := 12
abbrev qe5 : FuncId := 13
abbrev qh4 : FuncId := 14
abbrev qlu : FuncId := 15
abbrev qfx : FuncId := 16
abbrev qie : FuncId := 19
abbrev qid : FuncId := 24
abbrev qtz : FuncId := 25
abbrev qk3 : FuncId := 26
abbrev qt2 : FuncId := 27
abbrev qt1 : FuncId := 28
abbrev qio : FuncId := 29
abbrev qh6 : FuncId := 30
abbrev qnn : FuncId := 31
abbrev qis : FuncId := 32
abbrev qif : FuncId := 33
abbrev qci : FuncId := 34
abbrev qmk : FuncId := 35
abbrev qb4 : FuncId := 36
abbrev qk8 : FuncId := 37
abbrev qmj : FuncId := 38
abbrev qv5 : FuncId := 39
abbrev qq6 : FuncId := 40
abbrev qv4 : FuncId := 41
abbrev qip : FuncId := 42
abbrev qoq : FuncId := 43
abbrev qla : FuncId := 46
abbrev qq7 : FuncId := 49
abbrev qpf : FuncId := 50
abbrev qjp : FuncId := 51
abbrev qmz : FuncId := 52
abbrev qal : FuncId := 53
abbrev qbh : FuncId := 54
abbrev qai : FuncId := 55
abbrev qdl : FuncId := 56
abbrev qjo : FuncId := 57
abbrev qit : FuncId := 58
abbrev qgw : FuncId := 59
abbrev qm0 : FuncId := 60
abbrev qlw : FuncId := 61
abbrev qqc : FuncId := 62
abbrev qfm : FuncId := 63
abbrev qcg : FuncId := 64
abbrev qb5 : FuncId := 65
abbrev qds : FuncId := 66
abbrev qkf : FuncId := 67
abbrev qiu : FuncId := 68
abbrev qt0 : FuncId := 69
abbrev qav : FuncId := 70
abbrev qmx : FuncId := 71
abbrev qdt : FuncId := 73
abbrev q4l : FuncId := 76
abbrev qz9 : FuncId := 77
abbrev qpi : FuncId := 79
abbrev qph : FuncId := 80
abbrev q0a : FuncId := 81
abbrev qar : FuncId := 82
abbrev qbv : FuncId := 83
abbrev qev : FuncId := 84
abbrev qpg : FuncId := 85
abbrev qeo : FuncId := 86
abbrev qn8 : FuncId := 87
abbrev qat : FuncId := 88
abbrev qjy : FuncId := 89
abbrev qq8 : FuncId := 90
abbrev qv7 : FuncId := 91
abbrev qbm : FuncId := 92
abbrev qlx : FuncId := 93
abbrev qt4 : FuncId := 94
abbrev qch : FuncId := 95
abbrev qa4 : FuncId := 96
abbrev qbz : FuncId := 97
abbrev qgv : FuncId := 98
abbrev qiq : FuncId := 99
abbrev qjn : FuncId := 100
abbrev qh5 : FuncId := 101
abbrev qkv : FuncId := 102
abbrev qgd : FuncId := 103
abbrev qmy : FuncId := 112
abbrev qse : FuncId := 113
abbrev qji : FuncId := 114
abbrev qkh : FuncId := 115
abbrev qv6 : FuncId := 116
abbrev qfl : FuncId := 117
abbrev qmw : FuncId := 118
abbrev qk9 : FuncId := 119
abbrev qhi : FuncId := 120
abbrev qir : FuncId := 121
abbrev qax : FuncId := 122
abbrev qku : FuncId := 123
abbrev qp8 : FuncId := 124
abbrev qkg : FuncId := 125
abbrev qb0 : FuncId := 126
abbrev qby : FuncId := 127
abbrev qty : FuncId := 128
abbrev qdn : FuncId := 129
abbrev qcz : FuncId := 130
abbrev qc0 : FuncId := 131
abbrev qdm : FuncId := 132
abbrev qiw : FuncId := 133
abbrev qew : FuncId := 134
abbrev qiv : FuncId := 135
abbrev qk4 : FuncId := 136
abbrev qhj : FuncId := 137
abbrev qmi : FuncId := 138
abbrev qgm : FuncId := 139
abbrev qg8 : FuncId := 140
abbrev qki : FuncId := 142
abbrev qoa : FuncId := 143
abbrev qtx : FuncId := 144
abbrev qsd : FuncId := 145
abbrev qsf : FuncId := 146
abbrev qe6 : FuncId := 147
abbrev qqb : FuncId := 148
abbrev qqa : FuncId := 149
abbrev qt5 : FuncId := 150
abbrev qp9 : FuncId := 151
abbrev qt3 : FuncId := 152
abbrev qd0 : FuncId := 153
abbrev qaa : FuncId := 176
abbrev qes : TypeId := 168
abbrev qah : TypeId := 166
abbrev qfu : TypeId := 163
abbrev qas : TypeId := 174
abbrev qao : TypeId := 169
abbrev qaw : TypeId := 213
abbrev qdj : TypeId := 127
abbrev qei : TypeId := 125
abbrev qcp : TypeId := 123
abbrev qa1 : TypeId := 211
abbrev qaz : TypeId := 208
abbrev qay : TypeId := 209
abbrev qce : TypeId := 130
abbrev qaj : TypeId := 171
abbrev qou : TypeId := 148
def tab0 : List UInt8 := [0, 1, 2, 2, 3, 3, 3, 3, 4, 4, 4, 4, 4, 4, 4, 4, 5, 5, 5, 5, 5, 5, 5, 5, 5, 5, 5, 5, 5, 5, 5, 5, 6, 6, 6, 6, 6, 6, 6, 6, 6, 6, 6, 6, 6, 6, 6, 6, 6, 6, 6, 6, 6, 6, 6, 6, 6, 6, 6, 6, 6, 6, 6, 6, 7, 7, 7, 7, 7, 7, 7, 7, 7, 7, 7, 7, 7, 7, 7, 7, 7, 7, 7, 7, 7, 7, 7, 7, 7, 7, 7, 7, 7, 7, 7, 7, 7, 7, 7, 7, 7, 7, 7, 7, 7, 7, 7, 7, 7, 7, 7, 7, 7, 7, 7, 7, 7, 7, 7, 7, 7, 7, 7, 7, 7, 7, 7, 7, 8, 8, 8, 8, 8, 8, 8, 8, 8, 8, 8, 8, 8, 8, 8, 8, 8, 8, 8, 8, 8, 8, 8, 8, 8, 8, 8, 8, 8, 8, 8, 8, 8, 8, 8, 8, 8, 8, 8, 8, 8, 8, 8, 8, 8, 8, 8, 8, 8, 8, 8, 8, 8, 8, 8, 8, 8, 8, 8, 8, 8, 8, 8, 8, 8, 8, 8, 8, 8, 8, 8, 8, 8, 8, 8, 8, 8, 8, 8, 8, 8, 8, 8, 8, 8, 8, 8, 8, 8, 8, 8, 8, 8, 8, 8, 8, 8, 8, 8, 8, 8, 8, 8, 8, 8, 8, 8, 8, 8, 8, 8, 8, 8, 8, 8, 8, 8, 8, 8, 8, 8, 8, 8, 8, 8, 8, 8, 8]
@[simp] abbrev iM (i d x : Nat) : AIns := ⟨i, some d, .mv (.t x), none⟩
@[simp] abbrev iK (i d : Nat) (k : Int) : AIns := ⟨i, some d, .mv (.c (.int .i64 k)), none⟩
@[simp] abbrev iC (i d : Nat) (x : D) : AIns := ⟨i, some d, .mv (.c x), none⟩
@[simp] abbrev iB (i d : Nat) (o : BinOp) (x y : Nat) : AIns := ⟨i, some d, .bin o (.t x) (.t y), none⟩
@[simp] abbrev iI (i d : Nat) (o : BinOp) (x : Nat) (k : Int) : AIns := ⟨i, some d, .bin o (.t x) (.c (.int .i64 k)), none⟩
@[simp] abbrev iL (i d n : Nat) (a : Bool) (x : Nat) : AIns := ⟨i, some d, .load n a (.t x), none⟩
@[simp] abbrev iO (i d x : Nat) : AIns := ⟨i, some d, .load 1 false (.t x), none⟩
@[simp] abbrev iS (i n x y : Nat) : AIns := ⟨i, none, .store n (.t x) (.t y), none⟩
@[simp] abbrev iE (i d x k : Nat) : AIns := ⟨i, some d, .extract (.t x) k, none⟩
@[simp] abbrev iF (i d f n : Nat) (a : Bool) (x : Nat) : AIns := ⟨i, some d, .fieldA f n a (.t x), none⟩
@[simp] abbrev iP (i d f x : Nat) : AIns := ⟨i, some d, .fieldA f 1 false (.t x), none⟩
@[simp] abbrev iN (i d : Nat) (s : Bool) (x : Nat) : AIns := ⟨i, some d, .len s (.t x), none⟩
@[simp] abbrev iX (i d : Nat) (w : W) (x y : Nat) : AIns := ⟨i, some d, .idxA w (.t x) (.t y), none⟩
@[simp] abbrev iA (i d : Nat) (f : FuncId) (l : List (Opnd × Bool)) : AIns := ⟨i, some d, .call f l, none⟩
@[simp] abbrev iV (i : Nat) (f : FuncId) (l : List (Opnd × Bool)) : AIns := ⟨i, none, .call f l, none⟩
@[simp] abbrev iZ (i d : Nat) (z : D) (l : List (Nat × W)) : AIns := ⟨i, some d, .alloc z l, none⟩
@[simp] abbrev iH (i d x : Nat) : AIns := ⟨i, some d, .nilCk (.t x), none⟩
@[simp] abbrev tT (n : Nat) : Opnd × Bool := (.t n, true)
@[simp] abbrev tF (n : Nat) : Opnd × Bool := (.t n, false)
@[simp] abbrev kI (n : Int) : D := .int .i64 n
@[simp] abbrev zD0 : D := .agg [kI 0, kI 0, kI 0, kI 0]
@[simp] abbrev zD1 : D := .agg [.int .u8 0, .nili, .nili]
@[simp] abbrev zD2 : D := .agg [.nili, .nili, .bool false]
@[simp] abbrev zD3 : D := .agg [.nili]
def qem : ACode :=
(.seq
(.seq
(.region [
 iM 0 125 6,
 iM 1 126 11,
 iX 2 127 ⟨7, 64⟩ 125 126,
 iP 3 128 2 127,
 iO 4 129 128,
 iM 5 130 14,
⟨6, (some 131), .idxS (.t 129) (.t 130), none⟩,
⟨7, (some 132), .bin .neq (.t 131) (.c (.int .u8 58)), none⟩] none [3, 6, 7, 9, 10, 11, 12, 14, 132])
(.cond (.t 132)
.skip
(.exit 2 [3, 6, 7, 9, 10, 11, 12, 14])))
(.block 3
(.region [
 iM 0 133 14,
 iI 1 134 .add 133 1,
 iM 2 14 134] none [3, 6, 7, 9, 10, 11, 12, 14])))
def qct : ACode := .loop [3, 6, 7, 9, 10, 11, 12, 14] qem
def qag : ACode :=
(.seq
(.seq
(.region [
 iM 0 43 11,
 iM 1 44 6,
 iN 2 45 false 44,
 iB 3 46 .lss 43 45] none [3, 6, 7, 9, 10, 11, 46])
(.cond (.t 46)
.skip
(.exit 0 [7, 10])))
(.seq
(.block 1
(.seq
(.region [
 iM 0 49 10,
 iM 1 50 7,
 iN 2 51 false 50,
 iB 3 52 .lss 49 51,
 iM 4 53 52,
⟨5, (some 54), .mv (.t 7), (some (53, true))⟩,
⟨6, (some 55), .mv (.t 10), (some (53, true))⟩,
⟨7, (some 56), .idxA ⟨1, 8⟩ (.t 54) (.t 55), (some (53, true))⟩,
⟨8, (some 57), .load 1 false (.t 56), (some (53, true))⟩,
⟨9, (some 58), .mv (.t 11), (some (53, true))⟩,
⟨10, (some 59), .bin .eql (.t 57) (.t 58), (some (53, true))⟩,
⟨11, (some 60), .pick (.t 53) (.t 59) (.c (.bool false)), none⟩,
 iM 12 12 60] none [3, 6, 7, 9, 10, 11, 12])
(.seq
(.seq
(.region [
 iM 0 61 12,
 iM 1 62 61,
⟨2, (some 63), .mv (.t 10), (some (62, true))⟩,
⟨3, (some 64), .bin .eql (.t 63) (.c (kI 0)), (some (62, true))⟩,
⟨4, (some 65), .pick (.t 62) (.t 64) (.c (.bool false)), none⟩,
 iM 5 66 65,
⟨6, (some 67), .load 4 true (.t 9), (some (66, true))⟩,
⟨7, (some 68), .mv (.t 6), (some (66, true))⟩,
⟨8, (some 69), .mv (.t 11), (some (66, true))⟩,
⟨9, (some 70), .idxA ⟨7, 64⟩ (.t 68) (.t 69), (some (66, true))⟩,
⟨10, (some 71), .fieldA 3 4 true (.t 70), (some (66, true))⟩,
⟨11, (some 72), .load 4 true (.t 71), (some (66, true))⟩,
⟨12, (some 73), .call qio [tT 67, tT 72], (some (66, true))⟩,
⟨13, (some 74), .un .not (.t 73), (some (66, true))⟩,
⟨14, (some 75), .pick (.t 66) (.t 74) (.c (.bool false)), none⟩] (some ([], [12])) [3, 6, 7, 9, 10, 11, 12, 75])
(.cond (.t 75)
(.seq
(.region [
 iC 0 2 (.bool false)] none [2])
.ret)
.skip))
(.seq
(.seq
(.region [
 iM 0 76 12] none [3, 6, 7, 9, 10, 11, 12, 76])
(.cond (.t 76)
(.region [
 iM 0 77 10,
 iI 1 78 .add 77 1,
 iM 2 10 78] none [3, 6, 7, 9, 10, 11, 12])
.skip))
(.seq
(.region [
 iM 0 79 6,
 iM 1 80 11,
 iX 2 81 ⟨7, 64⟩ 79 80,
 iP 3 82 0 81,
 iO 4 83 82,
 iI 5 84 .eql 83 10,
 iM 6 85 84,
⟨7, (some 86), .mv (.t 6), (some (85, false))⟩,
⟨8, (some 87), .mv (.t 11), (some (85, false))⟩,
⟨9, (some 88), .idxA ⟨7, 64⟩ (.t 86) (.t 87), (some (85, false))⟩,
⟨10, (some 89), .fieldA 0 1 false (.t 88), (some (85, false))⟩,
⟨11, (some 90), .load 1 false (.t 89), (some (85, false))⟩,
⟨12, (some 91), .bin .eql (.t 90) (.c (kI 12)), (some (85, false))⟩,
⟨13, (some 92), .pick (.t 85) (.c (.bool true)) (.t 91), none⟩,
 iM 14 13 92] none [3, 6, 7, 9, 10, 11, 12, 13])
(.seq
(.seq
(.region [
 iM 0 93 13,
 iM 1 94 12,
⟨2, (some 95), .eqB false (.t 93) (.t 94), none⟩,
 iM 3 96 95,
⟨4, (some 97), .mv (.t 6), (some (96, true))⟩,
⟨5, (some 98), .mv (.t 11), (some (96, true))⟩,
⟨6, (some 99), .idxA ⟨7, 64⟩ (.t 97) (.t 98), (some (96, true))⟩,
⟨7, (some 100), .fieldA 0 1 false (.t 99), (some (96, true))⟩,
⟨8, (some 101), .load 1 false (.t 100), (some (96, true))⟩,
⟨9, (some 102), .bin .neq (.t 101) (.c (kI 2)), (some (96, true))⟩,
⟨10, (some 103), .pick (.t 96) (.t 102) (.c (.bool false)), none⟩,
 iM 11 104 103,
⟨12, (some 105), .mv (.t 12), (some (104, false))⟩,
⟨13, (some 106), .mv (.t 105), (some (104, false))⟩,
⟨14, (some 107), .mv (.t 13), (some (106, true))⟩,
⟨15, (some 108), .un .not (.t 107), (some (106, true))⟩,
⟨16, (some 109), .pick (.t 106) (.t 108) (.c (.bool false)), (some (104, false))⟩,
⟨17, (some 110), .mv (.t 109), (some (104, false))⟩,
⟨18, (some 111), .mv (.t 6), (some (110, true))⟩,
⟨19, (some 112), .mv (.t 11), (some (110, true))⟩,
⟨20, (some 113), .idxA ⟨7, 64⟩ (.t 111) (.t 112), (some (110, true))⟩,
⟨21, (some 114), .fieldA 0 1 false (.t 113), (some (110, true))⟩,
⟨22, (some 115), .load 1 false (.t 114), (some (110, true))⟩,
⟨23, (some 116), .bin .neq (.t 115) (.c (kI 2)), (some (110, true))⟩,
⟨24, (some 117), .pick (.t 110) (.t 116) (.c (.bool false)), (some (104, false))⟩,
⟨25, (some 118), .pick (.t 104) (.c (.bool true)) (.t 117), none⟩] none [3, 6, 7, 9, 10, 11, 12, 118])
(.cond (.t 118)
(.seq
(.region [
 iC 0 2 (.bool false)] none [2])
.ret)
.skip))
(.seq
(.region [
 iM 0 119 6,
 iM 1 120 11,
 iX 2 121 ⟨7, 64⟩ 119 120,
 iP 3 122 0 121,
 iO 4 123 122,
 iI 5 124 .eql 123 2] none [3, 6, 7, 9, 10, 11, 12, 124])
(.cond (.t 124)
(.seq
(.region [
 iK 0 14 0] none [3, 6, 7, 9, 10, 11, 12, 14])
(.seq
(.block 2
 qct)
(.seq
(.region [
 iM 0 136 6,
 iM 1 137 11,
 iX 2 138 ⟨7, 64⟩ 136 137,
 iP 3 139 2 138,
 iO 4 140 139,
 iM 5 141 14,
 iI 6 142 .add 141 2,
⟨7, (some 143), .slice none (.t 140) (some (.t 142)) none, none⟩,
 iM 8 144 3,
 iZ 16 18 zD0 [],
 iA 9 145 qh6 [tF 144],
 iA 10 146 qge [tT 143, tT 145],
 iM 11 135 146,
 iE 12 147 135 0,
 iE 13 148 135 1,
 iE 14 149 135 2,
 iE 15 150 135 3,
 iM 17 15 147,
 iM 18 16 148,
 iM 19 17 149,
 iS 20 4 18 150] (some ([(4, 16), (4, 9), (16, 9), (16, 10)], [9, 10])) [3, 6, 7, 9, 10, 11, 12, 16, 17])
(.seq
(.region [
 iM 0 151 17,
 iI 1 152 .eql 151 0,
 iM 2 153 152,
⟨3, (some 154), .mv (.t 16), (some (153, true))⟩,
⟨4, (some 155), .mv (.t 12), (some (153, true))⟩,
⟨5, (some 156), .eqB true (.t 154) (.t 155), (some (153, true))⟩,
⟨6, (some 157), .pick (.t 153) (.t 156) (.c (.bool false)), none⟩] none [3, 6, 7, 9, 10, 11, 157])
(.cond (.t 157)
(.seq
(.region [
 iC 0 2 (.bool false)] none [2])
.ret)
.skip)))))
.skip))))))))
(.region [
 iM 0 47 11,
 iI 1 48 .add 47 1,
 iM 2 11 48] none [3, 6, 7, 9, 10, 11])))
def qak : ACode := .loop [3, 6, 7, 9, 10, 11] qag
def qck : AFun := ⟨1,
(.seq
(.region [
 iC 0 2 (.bool false)] none [0])
(.seq
(.seq
(.region [
 iA 0 19 qlv [],
⟨1, (some 20), .un .not (.t 19), none⟩] none [0, 20])
(.cond (.t 20)
(.seq
(.region [
 iC 0 2 (.bool false)] none [2])
.ret)
.skip))
(.seq
(.region [
 iM 0 22 0,
 iA 1 23 qtz [tT 22],
 iM 2 21 23,
 iE 3 24 21 0,
 iE 4 25 21 1,
 iE 5 26 21 2,
 iZ 6 5 zD0 [],
 iM 7 3 24,
 iM 8 4 25,
 iS 9 4 5 26] none [3])
(.seq
(.seq
(.region [
 iM 0 27 3,
⟨1, (some 28), .isN true false (.t 27), none⟩] none [3, 28])
(.cond (.t 28)
(.seq
(.region [
 iC 0 2 (.bool true)] none [2])
.ret)
.skip))
(.seq
(.region [
 iM 0 29 3,
 iA 1 30 qk3 [tF 29],
 iM 2 6 30] none [3, 6])
(.seq
(.region [
 iM 0 31 3,
 iA 1 32 qt2 [tF 31],
 iM 2 7 32] none [3, 6, 7])
(.seq
(.region [
 iM 0 34 3,
 iA 1 35 qt1 [tF 34],
 iM 2 33 35,
 iE 3 36 33 0,
 iE 4 37 33 1,
 iZ 5 9 zD0 [],
 iM 6 8 36,
 iS 7 4 9 37] none [3, 6, 7, 8, 9])
(.seq
(.seq
(.region [
 iM 0 38 8,
 iM 1 39 7,
 iN 2 40 false 39,
 iI 3 41 .eql 40 0,
⟨4, (some 42), .eqB false (.t 38) (.t 41), none⟩] none [3, 6, 7, 9, 42])
(.cond (.t 42)
(.seq
(.region [
 iC 0 2 (.bool false)] none [2])
.ret)
.skip))
(.seq
(.region [
 iK 0 10 0] none [3, 6, 7, 9, 10])
(.seq
(.seq
(.region [
 iK 0 11 0] none [3, 6, 7, 9, 10, 11])
(.block 0
 qak))
(.seq
(.region [
 iM 0 158 10,
 iM 1 159 7,
 iN 2 160 false 159,
 iB 3 161 .eql 158 160,
 iM 4 2 161] none [2])
.ret))))))))))), [(.tmp 2, true)]⟩
def qf1 : AFun := ⟨0,
(.seq
(.region [
 iC 0 0 (.bool false)] none [])
(.seq
(.region [
⟨0, (some 10), .buildSl ⟨1, 16⟩ (.str []) 2 [(0, (.c (.str [120]))), (1, (.c (.str [121])))], none⟩,
 iA 1 11 qge [((.c (.str [50, 42, 40, 120, 43, 51, 42, 121, 41, 45, 120])), true), tT 10],
 iM 2 9 11,
 iE 3 12 9 0,
 iE 4 13 9 1,
 iE 5 14 9 2,
 iE 6 15 9 3,
 iZ 7 4 zD0 [],
 iM 8 1 12,
 iM 9 2 13,
 iM 10 3 14,
 iS 11 4 4 15] none [1, 2, 3])
(.seq
(.region [
⟨0, (some 17), .buildSl ⟨1, 16⟩ (.str []) 2 [(0, (.c (.str [120]))), (1, (.c (.str [121])))], none⟩,
 iA 1 18 qge [((.c (.str [120, 42, 121])), true), tT 17],
 iM 2 16 18,
 iE 3 19 16 0,
 iE 4 20 16 1,
 iE 5 21 16 2,
 iE 6 22 16 3,
 iZ 7 8 zD0 [],
 iM 8 5 19,
 iM 9 6 20,
 iM 10 7 21,
 iS 11 4 8 22] none [1, 2, 3, 6, 7])
(.seq
(.region [
 iM 0 23 3,
 iI 1 24 .eql 23 0,
 iM 2 25 24,
⟨3, (some 26), .mv (.t 2), (some (25, true))⟩,
⟨4, (some 27), .pick (.t 25) (.t 26) (.c (.bool false)), none⟩,
 iM 5 28 27,
⟨6, (some 29), .mv (.t 1), (some (28, true))⟩,
⟨7, (some 30), .buildSl ⟨1, 8⟩ (kI 0) 3 [(0, (.c (kI 1))), (1, (.c (kI 6))), (2, (.c (kI 0)))], (some (28, true))⟩,
⟨8, (some 31), .call qnn [tT 30], (some (28, true))⟩,
⟨9, (some 32), .call qie [tT 29, tT 31], (some (28, true))⟩,
⟨10, (some 33), .pick (.t 28) (.t 32) (.c (.bool false)), none⟩,
 iM 11 34 33,
⟨12, (some 35), .mv (.t 7), (some (34, true))⟩,
⟨13, (some 36), .bin .eql (.t 35) (.c (kI 0)), (some (34, true))⟩,
⟨14, (some 37), .pick (.t 34) (.t 36) (.c (.bool false)), none⟩,
 iM 15 38 37,
⟨16, (some 39), .mv (.t 6), (some (38, true))⟩,
⟨17, (some 40), .un .not (.t 39), (some (38, true))⟩,
⟨18, (some 41), .pick (.t 38) (.t 40) (.c (.bool false)), none⟩,
 iM 19 0 41] none [0])
.ret)))), [(.tmp 0, true)]⟩
def qef : AFun := ⟨2,
(.seq
(.region [
 iC 0 4 (.sl []),
 iC 1 5 (.bool false),
 iK 2 6 0,
 iZ 3 7 zD0 []] none [0, 1, 7])
(.seq
(.region [
 iM 0 14 0,
 iM 1 15 1,
 iA 2 16 qis [tT 14, tT 15],
 iM 3 13 16,
 iE 4 17 13 0,
 iE 5 18 13 1,
 iE 6 19 13 2,
 iZ 7 10 zD0 [],
 iM 8 8 17,
 iM 9 9 18,
 iS 10 4 10 19] none [1, 7, 8, 9, 10])
(.seq
(.seq
(.region [
 iM 0 20 9,
 iI 1 21 .neq 20 0] none [1, 7, 8, 9, 10, 21])
(.cond (.t 21)
(.seq
(.region [
 iM 0 22 9,
 iL 1 23 4 true 10,
 iC 2 4 (.sl []),
 iC 3 5 (.bool false),
 iM 4 6 22,
 iS 5 4 7 23] (some ([], [])) [4, 5, 6, 7])
.ret)
.skip))
(.seq
(.region [
 iM 0 25 8,
 iM 1 26 1,
 iN 2 27 false 26,
 iA 3 28 qci [tT 25, tT 27],
 iM 4 24 28,
 iE 5 29 24 0,
 iE 6 30 24 1,
 iM 7 11 29,
 iM 8 12 30] none [7, 11, 12])
(.seq
(.seq
(.region [
 iM 0 31 12,
⟨1, (some 32), .un .not (.t 31), none⟩] none [7, 11, 32])
(.cond (.t 32)
(.seq
(.region [
⟨0, (some 33), .build zD0 [] [], none⟩,
 iC 1 4 (.sl []),
 iC 2 5 (.bool false),
 iK 3 6 0,
 iS 4 4 7 33] none [4, 5, 6, 7])
.ret)
.skip))
(.seq
(.region [
 iM 0 34 11,
⟨1, (some 35), .build zD0 [] [], none⟩,
 iM 2 4 34,
 iC 3 5 (.bool true),
 iK 4 6 0,
 iS 5 4 7 35] none [4, 5, 6, 7])
.ret)))))), [(.tmp 4, true), (.tmp 5, true), (.tmp 6, true), (.cell 7 4 true, true)]⟩
def qij : AFun := ⟨1,
(.seq
(.region [
⟨0, (some 1), .box 2 (.t 0), none⟩,
 iC 1 2 (.str [])] none [1])
(.seq
(.seq
(.region [
 iL 0 3 2 true 1,
 iA 1 4 qid [tT 3],
 iI 2 5 .lss 4 0] none [1, 5])
(.cond (.t 5)
(.seq
(.region [
 iP 0 6 1 1,
 iO 1 7 6,
 iA 2 8 qmk [tT 7],
⟨3, (some 9), .bin .add (.c (.str [45])) (.t 8), none⟩,
 iM 4 2 9] none [2])
.ret)
.skip))
(.seq
(.region [
 iP 0 10 1 1,
 iO 1 11 10,
 iA 2 12 qmk [tT 11],
 iM 3 2 12] none [2])
.ret))), [(.tmp 2, true)]⟩
def qnp : AFun := ⟨1,
(.seq
(.region [
 iZ 0 2 (.agg [.bool false, .sl []]) []] none [0, 2])
(.seq
(.seq
(.region [
 iM 0 3 0,
 iI 1 4 .lss 3 0] none [0, 2, 4])
(.cond (.t 4)
(.seq
(.region [
 iM 0 5 0,
 iI 1 6 .add 5 1,
⟨2, (some 7), .un .neg (.t 6), none⟩,
⟨3, (some 8), .conv (.int .u64) (.t 7), none⟩,
⟨4, (some 9), .bin .add (.t 8) (.c (.int .u64 1)), none⟩,
 iA 5 10 qk8 [tT 9],
 iA 6 11 qb4 [((.c (.bool true)), true), tT 10],
 iS 7 2 2 11] none [2])
.ret)
.skip))
(.seq
(.region [
 iM 0 12 0,
⟨1, (some 13), .conv (.int .u64) (.t 12), none⟩,
 iA 2 14 qk8 [tT 13],
 iA 3 15 qb4 [((.c (.bool false)), true), tT 14],
 iS 4 2 2 15] none [2])
.ret))), [(.cell 2 2 true, true)]⟩
def qod : AFun := ⟨1,
(.seq
(.region [
⟨0, (some 1), .box 2 (.t 0), none⟩,
 iZ 1 2 (.agg [.bool false, .sl []]) []] none [1, 2])
(.seq
(.region [
 iP 0 3 0 1,
 iO 1 4 3,
⟨2, (some 5), .un .not (.t 4), none⟩,
 iP 3 6 1 1,
 iO 4 7 6,
 iA 5 8 qmj [tT 7],
 iA 6 9 qb4 [tT 5, tT 8],
 iS 7 2 2 9] (some ([(1, 5)], [5, 6])) [2])
.ret)), [(.cell 2 2 true, true)]⟩
def qjt : AFun := ⟨2,
(.seq
(.region [
⟨0, (some 2), .box 2 (.t 0), none⟩,
⟨1, (some 3), .box 2 (.t 1), none⟩,
 iZ 2 4 (.agg [.bool false, .sl []]) []] none [2, 3, 4])
(.seq
(.seq
(.region [
 iP 0 9 0 2,
 iO 1 10 9,
 iP 2 11 0 3,
 iO 3 12 11,
⟨4, (some 13), .eqB true (.t 10) (.t 12), none⟩] none [2, 3, 4, 13])
(.cond (.t 13)
(.seq
(.region [
 iP 0 14 0 2,
 iO 1 15 14,
 iP 2 16 1 2,
 iO 3 17 16,
 iP 4 18 1 3,
 iO 5 19 18,
 iA 6 20 qv5 [tT 17, tT 19],
 iA 7 21 qb4 [tT 15, tT 20],
 iS 8 2 4 21] (some ([(1, 6)], [6, 7])) [4])
.ret)
.skip))
(.seq
(.seq
(.region [
 iP 0 23 1 2,
 iO 1 24 23,
 iP 2 25 1 3,
 iO 3 26 25,
 iA 4 27 qq6 [tT 24, tT 26],
 iM 5 22 27,
 iE 6 28 22 0,
 iE 7 29 22 1,
 iM 8 5 28,
 iM 9 6 29] none [2, 3, 4, 5, 6])
(.seq
(.region [
 iM 0 30 6] none [2, 3, 4, 5, 30])
(.cond (.t 30)
(.seq
(.region [
 iP 0 31 0 2,
 iO 1 32 31,
 iM 2 33 5,
 iA 3 34 qb4 [tT 32, tT 33],
 iS 4 2 4 34] none [4])
.ret)
.skip)))
(.seq
(.region [
 iP 0 36 1 3,
 iO 1 37 36,
 iP 2 38 1 2,
 iO 3 39 38,
 iA 4 40 qq6 [tT 37, tT 39],
 iM 5 35 40,
 iE 6 41 35 0,
 iE 7 42 35 1,
 iM 8 7 41,
 iM 9 8 42] none [3, 4, 7])
(.seq
(.region [
 iP 0 43 0 3,
 iO 1 44 43,
 iM 2 45 7,
 iA 3 46 qb4 [tT 44, tT 45],
 iS 4 2 4 46] none [4])
.ret))))), [(.cell 4 2 true, true)]⟩
def qoc : AFun := ⟨2,
(.seq
(.region [
⟨0, (some 2), .box 2 (.t 0), none⟩,
⟨1, (some 3), .box 2 (.t 1), none⟩,
 iZ 2 4 (.agg [.bool false, .sl []]) []] none [2, 3, 4])
(.seq
(.region [
 iP 0 5 0 3,
 iO 1 6 5,
⟨2, (some 7), .un .not (.t 6), none⟩,
 iP 3 8 0 3,
 iS 4 1 8 7] none [2, 3, 4])
(.seq
(.region [
 iL 0 9 2 true 2,
 iL 1 10 2 true 3,
 iA 2 11 qe5 [tT 9, tT 10],
 iS 3 2 4 11] none [4])
.ret))), [(.cell 4 2 true, true)]⟩
def qoe : AFun := ⟨2,
(.seq
(.region [
⟨0, (some 2), .box 2 (.t 0), none⟩,
⟨1, (some 3), .box 2 (.t 1), none⟩,
 iZ 2 4 (.agg [.bool false, .sl []]) []] none [2, 3, 4])
(.seq
(.region [
 iP 0 5 0 2,
 iO 1 6 5,
 iP 2 7 0 3,
 iO 3 8 7,
⟨4, (some 9), .eqB false (.t 6) (.t 8), none⟩,
 iP 5 10 1 2,
 iO 6 11 10,
 iP 7 12 1 3,
 iO 8 13 12,
 iA 9 14 qv4 [tT 11, tT 13],
 iA 10 15 qb4 [tT 9, tT 14],
 iS 11 2 4 15] (some ([(1, 9), (3, 9)], [9, 10])) [4])
.ret)), [(.cell 4 2 true, true)]⟩
def qd9 : AFun := ⟨2,
(.seq
(.region [
⟨0, (some 2), .box 2 (.t 0), none⟩,
⟨1, (some 3), .box 2 (.t 1), none⟩,
 iC 2 4 (.bool false)] none [2, 3])
(.seq
(.region [
 iP 0 5 0 2,
 iO 1 6 5,
 iP 2 7 0 3,
 iO 3 8 7,
⟨4, (some 9), .eqB true (.t 6) (.t 8), none⟩,
 iM 5 10 9,
⟨6, (some 11), .fieldA 1 1 false (.t 2), (some (10, true))⟩,
⟨7, (some 12), .load 1 false (.t 11), (some (10, true))⟩,
⟨8, (some 13), .fieldA 1 1 false (.t 3), (some (10, true))⟩,
⟨9, (some 14), .load 1 false (.t 13), (some (10, true))⟩,
⟨10, (some 15), .call qip [tT 12, tT 14], (some (10, true))⟩,
⟨11, (some 16), .pick (.t 10) (.t 15) (.c (.bool false)), none⟩,
 iM 12 4 16] none [4])
.ret)), [(.tmp 4, true)]⟩
def qmd : ACode :=
(.seq
(.seq
(.region [
 iM 0 5 4,
 iM 1 6 0,
 iN 2 7 false 6,
 iB 3 8 .lss 5 7] none [0, 3, 4, 8])
(.cond (.t 8)
.skip
(.exit 0 [3])))
(.seq
(.block 1
(.region [
 iM 0 11 3,
 iM 1 12 0,
 iM 2 13 4,
 iX 3 14 ⟨2, 32⟩ 12 13,
 iL 4 15 2 true 14,
 iA 5 16 qoq [tT 15],
 iB 6 17 .add 11 16,
 iM 7 3 17] none [0, 3, 4]))
(.region [
 iM 0 9 4,
 iI 1 10 .add 9 1,
 iM 2 4 10] none [0, 3, 4])))
def qmc : ACode := .loop [0, 3, 4] qmd
def qi1 : AFun := ⟨1,
(.seq
(.region [
 iK 0 2 0] none [0])
(.seq
(.region [
 iK 0 3 0] none [0, 3])
(.seq
(.seq
(.region [
 iK 0 4 0] none [0, 3, 4])
(.block 0
 qmc))
(.seq
(.region [
 iM 0 18 3,
 iM 1 2 18] none [2])
.ret)))), [(.tmp 2, true)]⟩
def qcv : ACode :=
(.seq
(.seq
(.region [
 iM 0 11 5,
 iM 1 12 0,
 iN 2 13 false 12,
 iB 3 14 .lss 11 13] none [0, 1, 5, 14])
(.cond (.t 14)
.skip
(.exit 0 [])))
(.seq
(.block 1
(.seq
(.region [
 iM 0 17 0,
 iM 1 18 5,
 iX 2 19 ⟨2, 32⟩ 17 18,
 iL 3 20 2 true 19,
 iM 4 21 1,
 iM 5 22 5,
 iX 6 23 ⟨2, 32⟩ 21 22,
 iL 7 24 2 true 23,
 iA 8 25 qfx [tT 20, tT 24],
⟨9, (some 26), .un .not (.t 25), none⟩] (some ([], [8])) [0, 1, 5, 26])
(.cond (.t 26)
(.seq
(.region [
 iC 0 4 (.bool false)] none [4])
.ret)
.skip)))
(.region [
 iM 0 15 5,
 iI 1 16 .add 15 1,
 iM 2 5 16] none [0, 1, 5])))
def qcu : ACode := .loop [0, 1, 5] qcv
def qbw : AFun := ⟨2,
(.seq
(.region [
 iC 0 4 (.bool false)] none [0, 1])
(.seq
(.seq
(.region [
 iM 0 6 0,
 iN 1 7 false 6,
 iM 2 8 1,
 iN 3 9 false 8,
 iB 4 10 .neq 7 9] none [0, 1, 10])
(.cond (.t 10)
(.seq
(.region [
 iC 0 4 (.bool false)] none [4])
.ret)
.skip))
(.seq
(.seq
(.region [
 iK 0 5 0] none [0, 1, 5])
(.block 0
 qcu))
(.seq
(.region [
 iC 0 4 (.bool true)] none [4])
.ret)))), [(.tmp 4, true)]⟩
def qt8 : AFun := ⟨3,
(.seq
(.region [
 iZ 0 6 (.agg [.bool false, .sl []]) [],
 iK 1 7 0] none [0, 1, 2, 6])
(.seq
(.region [
 iM 0 12 0,
 iM 1 13 1,
 iA 2 14 qis [tT 12, tT 13],
 iM 3 11 14,
 iE 4 15 11 0,
 iE 5 16 11 1,
 iE 6 17 11 2,
 iZ 7 10 zD0 [],
 iM 8 8 15,
 iM 9 9 16,
 iS 10 4 10 17] none [1, 2, 6, 8, 9])
(.seq
(.seq
(.region [
 iM 0 18 9,
 iI 1 19 .neq 18 0] none [1, 2, 6, 8, 9, 19])
(.cond (.t 19)
(.seq
(.region [
⟨0, (some 20), .build (.agg [.bool false, .sl []]) [] [], none⟩,
 iM 1 21 9,
 iS 2 2 6 20,
 iM 3 7 21] none [6, 7])
.ret)
.skip))
(.seq
(.seq
(.region [
 iM 0 22 2,
 iN 1 23 false 22,
 iM 2 24 1,
 iN 3 25 false 24,
 iB 4 26 .neq 23 25] none [2, 6, 8, 26])
(.cond (.t 26)
(.seq
(.region [
⟨0, (some 27), .build (.agg [.bool false, .sl []]) [] [], none⟩,
 iS 1 2 6 27,
 iK 2 7 1] none [6, 7])
.ret)
.skip))
(.seq
(.region [
 iM 0 28 8,
 iM 1 29 2,
 iA 2 30 qla [tT 28, tT 29],
 iE 3 31 30 0,
 iE 4 32 30 1,
 iS 5 2 6 31,
 iM 6 7 32] none [6, 7])
.ret))))), [(.cell 6 2 true, true), (.tmp 7, true)]⟩
def qik : AFun := ⟨1,
(.seq
(.region [
⟨0, (some 1), .box 2 (.t 0), none⟩,
 iK 1 2 0] none [1])
(.seq
(.block 0
(.seq
(.region [
 iP 0 4 1 1,
 iO 1 5 4,
 iA 2 6 qpf [tT 5],
 iI 3 7 .eql 6 0,
 iM 4 3 7] none [1, 3])
(.cond (.t 3)
(.seq
(.region [
 iK 0 2 0] none [2])
.ret)
(.seq
(.region [
 iP 0 9 0 1,
 iO 1 10 9,
 iM 2 8 10] none [8])
(.cond (.t 8)
(.seq
(.region [
 iK 0 2 (-1)] none [2])
.ret)
.skip)))))
(.seq
(.region [
 iK 0 2 1] none [2])
.ret))), [(.tmp 2, true)]⟩
def qil : AFun := ⟨1,
(.seq
(.region [
 iC 0 2 (.nilp),
 iK 1 3 0,
 iZ 2 4 zD0 []] none [0, 4])
(.seq
(.region [
⟨0, (some 8), .build (.agg [kI 0, kI 0, kI 0, kI 0, .sl [], .sl []]) [] [(4, ⟨4, 56⟩)], none⟩,
⟨1, (some 9), .box 6 (.t 8), none⟩,
 iZ 2 5 (.nilp) [],
 iS 3 1 5 9] none [0, 4, 5])
(.seq
(.region [
 iM 0 11 0,
⟨1, (some 12), .mkF qmz [(.t 5)], none⟩,
 iA 2 13 qjp [tT 11, ((.c (.nils)), true), tF 12],
 iM 3 10 13,
 iE 4 14 10 0,
 iE 5 15 10 1,
 iZ 6 7 zD0 [],
 iM 7 6 14,
 iS 8 4 7 15] none [4, 5, 6, 7])
(.seq
(.seq
(.region [
 iM 0 16 6,
 iI 1 17 .neq 16 0] none [4, 5, 6, 7, 17])
(.cond (.t 17)
(.seq
(.region [
 iM 0 18 6,
 iL 1 19 4 true 7,
 iC 2 2 (.nilp),
 iM 3 3 18,
 iS 4 4 4 19] (some ([], [])) [2, 3, 4])
.ret)
.skip))
(.seq
(.region [
 iO 0 20 5,
⟨1, (some 21), .build zD0 [] [], none⟩,
 iM 2 2 20,
 iK 3 3 0,
 iS 4 4 4 21] none [2, 3, 4])
.ret))))), [(.tmp 2, true), (.tmp 3, true), (.cell 4 4 true, true)]⟩
def qfe : AFun := ⟨1,
(.seq
(.region [
 iC 0 2 (.sl [])] none [0])
(.seq
(.region [
 iM 0 4 0,
 iM 2 6 0,
 iH 3 7 6,
 iF 4 8 0 4 true 7,
 iL 5 9 4 true 8,
 iA 1 5 qit [tF 4],
⟨6, (some 10), .build (.agg [kI 0, kI 0, .str [], kI 0, kI 0, kI 0, kI 0]) [(0, 1, (.c (kI 1))), (2, 1, (.t 5)), (3, 4, (.t 9))] [], none⟩,
⟨7, (some 11), .buildSl ⟨7, 64⟩ (.agg [kI 0, kI 0, .str [], kI 0, kI 0, kI 0, kI 0]) 1 [(0, (.t 10))], none⟩,
 iM 8 3 11] (some ([(5, 1)], [1])) [0, 3])
(.seq
(.region [
 iM 0 12 3,
 iM 1 13 0,
 iH 2 14 13,
 iP 3 15 5 14,
 iO 4 16 15,
 iA 5 17 qgw [tF 12, tT 16, ((.c (kI 0)), true)],
 iM 6 2 17] none [2])
.ret))), [(.tmp 2, true)]⟩
def qms : AFun := ⟨1,
(.seq
(.region [
 iC 0 2 (.sl [])] none [0])
(.seq
(.seq
(.region [
 iM 0 3 0,
⟨1, (some 4), .isN true false (.t 3), none⟩] none [0, 4])
(.cond (.t 4)
(.seq
(.region [
 iC 0 2 (.sl [])] none [2])
.ret)
.skip))
(.seq
(.region [
 iM 0 5 0,
 iA 1 6 qm0 [tF 5],
 iH 2 7 6,
 iP 3 8 2 7,
 iO 4 9 8,
 iM 5 2 9] none [2])
.ret))), [(.tmp 2, true)]⟩
def qmr : AFun := ⟨1,
(.seq
(.region [
 iC 0 2 (.bool false),
 iZ 1 3 zD0 []] none [0, 3])
(.seq
(.seq
(.region [
 iM 0 5 0,
⟨1, (some 6), .isN true false (.t 5), none⟩] none [0, 3, 6])
(.cond (.t 6)
(.seq
(.region [
⟨0, (some 7), .build zD0 [] [], none⟩,
 iC 1 2 (.bool false),
 iS 2 4 3 7] none [2, 3])
.ret)
.skip))
(.seq
(.region [
 iM 0 8 0,
 iA 1 9 qm0 [tF 8],
 iM 2 4 9] none [3, 4])
(.seq
(.region [
 iM 0 10 4,
 iH 1 11 10,
 iP 2 12 2 11,
 iO 3 13 12,
 iN 4 14 false 13,
 iI 5 15 .eql 14 0,
 iM 6 16 4,
 iH 7 17 16,
 iF 8 18 3 4 true 17,
 iL 9 19 4 true 18,
 iM 10 2 15,
 iS 11 4 3 19] (some ([], [])) [2, 3])
.ret)))), [(.tmp 2, true), (.cell 3 4 true, true)]⟩
def qea : AFun := ⟨2,
(.seq
(.region [
⟨0, (some 2), .box 4 (.t 0), none⟩,
⟨1, (some 3), .box 4 (.t 1), none⟩,
 iC 2 4 (.bool false)] none [2, 3])
(.seq
(.region [
 iP 0 5 0 2,
 iO 1 6 5,
 iP 2 7 0 3,
 iO 3 8 7,
 iB 4 9 .eql 6 8,
 iM 5 10 9,
⟨6, (some 11), .fieldA 1 1 false (.t 2), (some (10, true))⟩,
⟨7, (some 12), .load 1 false (.t 11), (some (10, true))⟩,
⟨8, (some 13), .fieldA 1 1 false (.t 3), (some (10, true))⟩,
⟨9, (some 14), .load 1 false (.t 13), (some (10, true))⟩,
⟨10, (some 15), .bin .eql (.t 12) (.t 14), (some (10, true))⟩,
⟨11, (some 16), .pick (.t 10) (.t 15) (.c (.bool false)), none⟩,
 iM 12 17 16,
⟨13, (some 18), .fieldA 2 1 false (.t 2), (some (17, true))⟩,
⟨14, (some 19), .load 1 false (.t 18), (some (17, true))⟩,
⟨15, (some 20), .fieldA 2 1 false (.t 3), (some (17, true))⟩,
⟨16, (some 21), .load 1 false (.t 20), (some (17, true))⟩,
⟨17, (some 22), .bin .eql (.t 19) (.t 21), (some (17, true))⟩,
⟨18, (some 23), .pick (.t 17) (.t 22) (.c (.bool false)), none⟩,
 iM 19 24 23,
⟨20, (some 25), .fieldA 3 1 false (.t 2), (some (24, true))⟩,
⟨21, (some 26), .load 1 false (.t 25), (some (24, true))⟩,
⟨22, (some 27), .fieldA 3 1 false (.t 3), (some (24, true))⟩,
⟨23, (some 28), .load 1 false (.t 27), (some (24, true))⟩,
⟨24, (some 29), .bin .eql (.t 26) (.t 28), (some (24, true))⟩,
⟨25, (some 30), .pick (.t 24) (.t 29) (.c (.bool false)), none⟩,
 iM 26 4 30] none [4])
.ret)), [(.tmp 4, true)]⟩
def qgl : ACode :=
(.seq
(.region [
 iB 0 12 .lss 11 10] none [3, 9, 10, 11, 12])
(.seq
(.cond (.t 12)
.skip
(.exit 0 [3]))
(.seq
(.block 1
(.seq
(.region [
 iX 0 13 ⟨4, 56⟩ 9 11,
 iL 1 14 4 true 13,
 iZ 2 5 (.agg [.str [], .bool false, .bool false, .sl []]) [],
 iS 3 4 5 14] none [3, 5, 9, 10, 11])
(.region [
 iM 0 15 3,
 iP 1 16 0 5,
 iO 2 17 16,
⟨3, (some 18), .buildSl ⟨1, 16⟩ (.str []) 1 [(0, (.t 17))], none⟩,
⟨4, (some 19), .app ⟨1, 16⟩ (some (.t 15)) (.t 18), none⟩,
 iM 5 3 19] none [3, 9, 10, 11])))
(.region [
 iI 0 20 .add 11 1,
 iM 1 11 20] none [3, 9, 10, 11]))))
def qep : ACode := .loop [3, 9, 10, 11] qgl
def qf3 : AFun := ⟨1,
(.seq
(.region [
 iC 0 2 (.sl [])] none [0])
(.seq
(.region [
⟨0, (some 3), .own ⟨1, 16⟩, none⟩] none [0, 3])
(.seq
(.seq
(.region [
 iM 0 6 0,
 iH 1 7 6,
 iP 2 8 4 7,
 iO 3 9 8,
 iN 4 10 false 9,
 iK 5 11 0] none [3, 9, 10, 11])
(.block 0
 qep))
(.seq
(.region [
 iM 0 21 3,
 iM 1 2 21] none [2])
.ret)))), [(.tmp 2, true)]⟩
def qhk : ACode :=
(.seq
(.seq
(.region [
 iM 0 5 4,
 iM 1 6 0,
 iN 2 7 false 6,
 iB 3 8 .lss 5 7] none [0, 3, 4, 8])
(.cond (.t 8)
.skip
(.exit 0 [3])))
(.seq
(.block 1
(.region [
 iM 0 11 3,
 iM 1 12 0,
 iM 2 13 4,
 iX 3 14 ⟨1, 8⟩ 12 13,
 iO 4 15 14,
 iA 5 16 qlw [tT 15],
⟨6, (some 17), .buildSl ⟨2, 32⟩ (.agg [.bool false, .sl []]) 1 [(0, (.t 16))], none⟩,
⟨7, (some 18), .app ⟨2, 32⟩ (some (.t 11)) (.t 17), none⟩,
 iM 8 3 18] none [0, 3, 4]))
(.region [
 iM 0 9 4,
 iI 1 10 .add 9 1,
 iM 2 4 10] none [0, 3, 4])))
def qfd : ACode := .loop [0, 3, 4] qhk
def qg9 : AFun := ⟨1,
(.seq
(.region [
 iC 0 2 (.sl [])] none [0])
(.seq
(.region [
⟨0, (some 3), .own ⟨2, 32⟩, none⟩] none [0, 3])
(.seq
(.seq
(.region [
 iK 0 4 0] none [0, 3, 4])
(.block 0
 qfd))
(.seq
(.region [
 iM 0 19 3,
 iM 1 2 19] none [2])
.ret)))), [(.tmp 2, true)]⟩
def qb1 : AFun := ⟨2,
(.seq
(.region [
 iZ 0 4 (.nili) [],
 iK 1 5 0,
 iZ 2 6 zD0 []] none [0, 1, 4, 6])
(.seq
(.seq
(.region [
 iM 0 7 1,
 iA 1 8 qqc [tT 7],
 iI 2 9 .neq 8 0] none [0, 1, 4, 6, 9])
(.cond (.t 9)
(.seq
(.region [
⟨0, (some 10), .build zD0 [] [], none⟩,
⟨1, none, .store 1 (.t 4) (.c (.nili)), none⟩,
 iK 2 5 1,
 iS 3 4 6 10] none [4, 5, 6])
.ret)
.skip))
(.seq
(.region [
 iM 0 12 0,
 iM 1 13 1,
⟨2, (some 14), .mkF qfm [(.t 4)], none⟩,
 iA 3 15 qjp [tT 12, tT 13, tF 14],
 iM 4 11 15,
 iE 5 16 11 0,
 iE 6 17 11 1,
 iM 7 5 16,
 iS 8 4 6 17] none [4, 5, 6])
(.seq
(.seq
(.region [
 iM 0 18 5,
 iI 1 19 .neq 18 0] none [4, 5, 6, 19])
(.cond (.t 19)
(.seq
(.region [
 iM 0 20 5,
 iL 1 21 4 true 6,
⟨2, none, .store 1 (.t 4) (.c (.nili)), none⟩,
 iM 3 5 20,
 iS 4 4 6 21] (some ([(1, 2)], [])) [4, 5, 6])
.ret)
.skip))
(.seq
(.region [
 iO 0 22 4,
⟨1, (some 23), .build zD0 [] [], none⟩,
 iS 2 1 4 22,
 iK 3 5 0,
 iS 4 4 6 23] none [4, 5, 6])
.ret))))), [(.cell 4 1 false, true), (.tmp 5, true), (.cell 6 4 true, true)]⟩
def qmq : AFun := ⟨1,
(.seq
(.region [
 iC 0 2 (.str [])] none [0])
(.seq
(.region [
⟨0, (some 3), .allocT 120 (.agg [.nilp, .sl []]) [(1, ⟨1, 1000005⟩)], none⟩] none [0, 3])
(.seq
(.region [
 iM 0 4 0,
 iA 1 5 qb5 [tF 3, tT 4]] none [3])
(.seq
(.region [
 iA 0 6 qds [tF 3],
 iM 1 2 6] none [2])
.ret)))), [(.tmp 2, true)]⟩
def qdp : AFun := ⟨2,
(.seq
(.region [
 iC 0 4 (.sl []),
 iC 1 5 (.bool false)] none [0, 1])
(.seq
(.region [
 iM 0 17 1,
 iI 1 18 .add 17 1,
⟨2, (some 19), .mkSl ⟨2, 32⟩ (.agg [.bool false, .sl []]) (.t 18) (.t 18), none⟩,
 iM 3 6 19] none [0, 1, 6])
(.seq
(.seq
(.region [
 iM 0 20 0] none [1, 6, 20])
(.block 0
(.seq
(.region [
⟨0, (some 21), .tass qcp true (.agg [.bool false, .sl []]) (.t 20), none⟩,
 iE 1 22 21 1,
 iE 2 23 21 0] none [1, 6, 20, 22, 23])
(.cond (.t 22)
(.seq
(.region [
 iZ 0 7 (.agg [.bool false, .sl []]) [],
 iS 1 2 7 23] none [1, 6, 7])
(.region [
 iM 0 24 6,
 iM 1 25 1,
 iF 2 26 0 2 true 7,
 iL 3 27 2 true 26,
 iA 4 28 qkf [tT 27],
 iX 5 29 ⟨2, 32⟩ 24 25,
 iS 6 2 29 28] none [6]))
(.seq
(.region [
⟨0, (some 30), .tass qei true (.agg [kI 0, .str []]) (.t 20), none⟩,
 iE 1 31 30 1,
 iE 2 32 30 0] none [1, 6, 20, 31, 32])
(.cond (.t 31)
(.seq
(.region [
 iZ 0 8 (.agg [kI 0, .str []]) [],
 iS 1 2 8 32] none [6, 8])
(.region [
 iM 0 33 6,
 iP 1 34 0 8,
 iO 2 35 34,
 iA 3 36 qll [((.c (kI 1)), true)],
 iX 4 37 ⟨2, 32⟩ 33 35,
 iS 5 2 37 36] (some ([(2, 3)], [3])) [6]))
(.seq
(.region [
⟨0, (some 38), .tass qdj true zD3 (.t 20), none⟩,
 iE 1 39 38 1,
 iE 2 40 38 0] none [1, 6, 20, 39, 40])
(.cond (.t 39)
(.seq
(.region [
 iZ 0 9 zD3 [],
 iS 1 1 9 40] none [1, 9])
(.seq
(.region [
 iP 0 42 0 9,
 iO 1 43 42,
 iM 2 44 1,
 iA 3 45 qci [tT 43, tT 44],
 iM 4 41 45,
 iE 5 46 41 0,
 iE 6 47 41 1,
 iM 7 10 46,
 iM 8 11 47] none [10, 11])
(.seq
(.region [
 iM 0 48 10,
 iA 1 49 qll [((.c (kI (-1))), true)],
 iA 2 50 qiu [tT 48, tT 49],
 iM 3 51 11,
 iM 4 4 50,
 iM 5 5 51] none [4, 5])
.ret)))
(.seq
(.region [
⟨0, (some 52), .tass qce true zD1 (.t 20), none⟩,
 iE 1 53 52 1,
 iE 2 54 52 0] none [1, 6, 53, 54])
(.cond (.t 53)
(.seq
(.region [
 iZ 0 12 zD1 [],
 iS 1 3 12 54] none [1, 12])
(.seq
(.region [
 iP 0 56 1 12,
 iO 1 57 56,
 iM 2 58 1,
 iA 3 59 qci [tT 57, tT 58],
 iM 4 55 59,
 iE 5 60 55 0,
 iE 6 61 55 1,
 iM 7 13 60,
 iM 8 14 61] none [1, 12, 13, 14])
(.seq
(.region [
 iP 0 63 2 12,
 iO 1 64 63,
 iM 2 65 1,
 iA 3 66 qci [tT 64, tT 65],
 iM 4 62 66,
 iE 5 67 62 0,
 iE 6 68 62 1,
 iM 7 15 67,
 iM 8 16 68] none [12, 13, 14, 15, 16])
(.seq
(.seq
(.region [
 iM 0 69 14,
⟨1, (some 70), .un .not (.t 69), none⟩,
 iM 2 71 70,
⟨3, (some 72), .mv (.t 16), (some (71, false))⟩,
⟨4, (some 73), .un .not (.t 72), (some (71, false))⟩,
⟨5, (some 74), .pick (.t 71) (.c (.bool true)) (.t 73), none⟩] none [12, 13, 15, 74])
(.cond (.t 74)
(.seq
(.region [
 iC 0 4 (.sl []),
 iC 1 5 (.bool false)] none [4, 5])
.ret)
.skip))
(.seq
(.region [
 iP 0 75 0 12,
 iO 1 76 75,
 iM 2 77 13,
 iM 3 78 15,
 iA 4 79 qt0 [tT 76, tT 77, tT 78],
 iE 5 80 79 0,
 iE 6 81 79 1,
 iM 7 4 80,
 iM 8 5 81] none [4, 5])
.ret)))))
.skip))))))))))
(.seq
(.region [
 iM 0 82 6,
 iM 1 4 82,
 iC 2 5 (.bool true)] none [4, 5])
.ret)))), [(.tmp 4, true), (.tmp 5, true)]⟩
def qg0 : ACode :=
(.seq
(.seq
(.region [
 iM 0 22 5,
 iI 1 23 .lss 22 9,
 iM 2 24 23,
⟨3, (some 25), .mv (.t 4), (some (24, true))⟩,
⟨4, (some 26), .bin .gtr (.t 25) (.c (.int .u32 0)), (some (24, true))⟩,
⟨5, (some 27), .mv (.t 26), (some (24, true))⟩,
⟨6, (some 28), .mv (.t 0), (some (27, false))⟩,
⟨7, (some 29), .len false (.t 28), (some (27, false))⟩,
⟨8, (some 30), .bin .gtr (.t 29) (.c (kI 0)), (some (27, false))⟩,
⟨9, (some 31), .pick (.t 27) (.c (.bool true)) (.t 30), (some (24, true))⟩,
⟨10, (some 32), .pick (.t 24) (.t 31) (.c (.bool false)), none⟩] none [0, 3, 4, 5, 32])
(.cond (.t 32)
.skip
(.exit 2 [0, 3])))
(.seq
(.block 3
(.seq
(.region [
 iM 0 35 3,
 iM 1 36 4,
⟨2, (some 37), .bin .rem (.t 36) (.c (.int .u32 10)), none⟩,
⟨3, (some 38), .bin .add (.c (.int .u32 48)) (.t 37), none⟩,
⟨4, (some 39), .conv (.int .u8) (.t 38), none⟩,
⟨5, (some 40), .buildSl ⟨1, 1⟩ (.int .u8 0) 1 [(0, (.t 39))], none⟩,
⟨6, (some 41), .app ⟨1, 1⟩ (some (.t 35)) (.t 40), none⟩,
 iM 7 3 41] none [0, 3, 4, 5])
(.region [
 iM 0 42 4,
⟨1, (some 43), .bin .quo (.t 42) (.c (.int .u32 10)), none⟩,
 iM 2 4 43] none [0, 3, 4, 5])))
(.region [
 iM 0 33 5,
 iI 1 34 .add 33 1,
 iM 2 5 34] none [0, 3, 4, 5])))
def qi9 : ACode := .loop [0, 3, 4, 5] qg0
def qja : ACode :=
(.seq
(.seq
(.region [
 iM 0 14 0,
 iN 1 15 false 14,
 iI 2 16 .gtr 15 0] none [0, 3, 16])
(.cond (.t 16)
.skip
(.exit 0 [3])))
(.block 1
(.seq
(.region [
 iC 0 4 (.int .u32 0)] none [0, 3])
(.seq
(.region [
 iM 0 18 0,
 iA 1 19 qmx [tT 18, ((.c (.int .u32 1000000000)), true)],
 iM 2 17 19,
 iE 3 20 17 0,
 iE 4 21 17 1,
 iM 5 0 20,
 iM 6 4 21] none [0, 3, 4])
(.seq
(.region [
 iK 0 5 0] none [0, 3, 4, 5])
(.block 2
 qi9))))))
def qi8 : ACode := .loop [0, 3] qja
def ql5 : ACode :=
(.seq
(.region [
 iB 0 50 .lss 49 48] none [3, 6, 47, 48, 49, 50])
(.seq
(.cond (.t 50)
.skip
(.exit 4 [6]))
(.seq
(.block 5
(.seq
(.region [
 iM 0 51 49,
 iX 1 52 ⟨1, 1⟩ 47 49,
 iO 2 53 52,
 iM 3 7 51,
 iM 4 8 53] none [3, 6, 7, 8, 47, 48, 49])
(.region [
 iM 0 54 6,
 iM 1 55 3,
 iN 2 56 false 55,
 iI 3 57 .sub 56 1,
 iM 4 58 7,
 iB 5 59 .sub 57 58,
 iM 6 60 8,
 iX 7 61 ⟨1, 1⟩ 54 59,
 iS 8 1 61 60] none [3, 6, 47, 48, 49])))
(.region [
 iI 0 62 .add 49 1,
 iM 1 49 62] none [3, 6, 47, 48, 49]))))
def qi7 : ACode := .loop [3, 6, 47, 48, 49] ql5
def qkn : AFun := ⟨1,
(.seq
(.region [
 iC 0 2 (.str [])] none [0])
(.seq
(.region [
 iM 0 9 0,
 iA 1 10 qav [tT 9],
 iM 2 0 10] none [0])
(.seq
(.seq
(.region [
 iM 0 11 0,
 iN 1 12 false 11,
 iI 2 13 .eql 12 0] none [0, 13])
(.cond (.t 13)
(.seq
(.region [
 iC 0 2 (.str [48])] none [2])
.ret)
.skip))
(.seq
(.region [
⟨0, (some 3), .own ⟨1, 1⟩, none⟩] none [0, 3])
(.seq
(.block 0
 qi8)
(.seq
(.region [
 iM 0 44 3,
 iN 1 45 false 44,
⟨2, (some 46), .mkSl ⟨1, 1⟩ (.int .u8 0) (.t 45) (.t 45), none⟩,
 iM 3 6 46] none [3, 6])
(.seq
(.seq
(.region [
 iM 0 47 3,
 iN 1 48 false 47,
 iK 2 49 0] none [3, 6, 47, 48, 49])
(.block 4
 qi7))
(.seq
(.region [
 iM 0 63 6,
⟨1, (some 64), .conv .b2s (.t 63), none⟩,
 iM 2 2 64] none [2])
.ret)))))))), [(.tmp 2, true)]⟩
def qii : AFun := ⟨2,
(.seq
(.region [
 iZ 0 4 (.agg [.bool false, .sl []]) []] none [0, 1, 4])
(.seq
(.region [
 iM 0 5 0,
 iM 1 6 5,
⟨2, (some 7), .mv (.t 1), (some (6, true))⟩,
⟨3, (some 8), .len false (.t 7), (some (6, true))⟩,
⟨4, (some 9), .bin .gtr (.t 8) (.c (kI 0)), (some (6, true))⟩,
⟨5, (some 10), .pick (.t 6) (.t 9) (.c (.bool false)), none⟩,
 iM 6 11 1,
⟨7, (some 12), .build (.agg [.bool false, .sl []]) [(0, 1, (.t 10)), (1, 1, (.t 11))] [], none⟩,
 iS 8 2 4 12] none [4])
.ret)), [(.cell 4 2 true, true)]⟩
def qlf : AFun := ⟨1,
(.seq
(.region [
 iC 0 2 (.sl [])] none [0])
(.seq
(.region [
 iM 0 3 0,
⟨1, (some 4), .conv (.int .u32) (.t 3), none⟩,
 iM 2 5 0,
⟨3, (some 6), .bin .shr (.t 5) (.c (.int .u64 32)), none⟩,
⟨4, (some 7), .conv (.int .u32) (.t 6), none⟩,
⟨5, (some 8), .buildSl ⟨1, 4⟩ (.int .u32 0) 2 [(0, (.t 4)), (1, (.t 7))], none⟩,
 iA 6 9 qav [tT 8],
 iM 7 2 9] none [2])
.ret)), [(.tmp 2, true)]⟩
def qmp : AFun := ⟨1,
(.seq
(.region [
 iC 0 2 (.sl [])] none [0])
(.seq
(.region [
 iM 0 3 0,
 iA 1 4 qav [tT 3],
⟨2, (some 5), .app ⟨1, 4⟩ none (.t 4), none⟩,
 iM 3 2 5] none [2])
.ret)), [(.tmp 2, true)]⟩
def qj8 : ACode :=
(.seq
(.region [
 iB 0 26 .lss 25 24] none [0, 1, 5, 6, 24, 25, 26])
(.seq
(.cond (.t 26)
.skip
(.exit 0 [5, 6]))
(.seq
(.block 1
(.seq
(.region [
 iM 0 27 25,
 iM 1 7 27] none [0, 1, 5, 6, 7, 24, 25])
(.seq
(.region [
 iM 0 28 6,
 iM 1 29 0,
 iM 2 30 7,
 iX 3 31 ⟨1, 4⟩ 29 30,
 iO 4 32 31,
⟨5, (some 33), .conv (.int .u64) (.t 32), none⟩,
 iB 6 34 .add 28 33,
 iM 7 6 34] none [0, 1, 5, 6, 7, 24, 25])
(.seq
(.seq
(.region [
 iM 0 35 7,
 iM 1 36 1,
 iN 2 37 false 36,
 iB 3 38 .lss 35 37] none [0, 1, 5, 6, 7, 24, 25, 38])
(.cond (.t 38)
(.region [
 iM 0 39 6,
 iM 1 40 1,
 iM 2 41 7,
 iX 3 42 ⟨1, 4⟩ 40 41,
 iO 4 43 42,
⟨5, (some 44), .conv (.int .u64) (.t 43), none⟩,
 iB 6 45 .add 39 44,
 iM 7 6 45] none [0, 1, 5, 6, 24, 25])
.skip))
(.seq
(.region [
 iM 0 46 5,
 iM 1 47 6,
⟨2, (some 48), .conv (.int .u32) (.t 47), none⟩,
⟨3, (some 49), .buildSl ⟨1, 4⟩ (.int .u32 0) 1 [(0, (.t 48))], none⟩,
⟨4, (some 50), .app ⟨1, 4⟩ (some (.t 46)) (.t 49), none⟩,
 iM 5 5 50] none [0, 1, 5, 6, 24, 25])
(.region [
 iM 0 51 6,
⟨1, (some 52), .bin .shr (.t 51) (.c (.int .u64 32)), none⟩,
 iM 2 6 52] none [0, 1, 5, 6, 24, 25]))))))
(.region [
 iI 0 53 .add 25 1,
 iM 1 25 53] none [0, 1, 5, 6, 24, 25]))))
def qj7 : ACode := .loop [0, 1, 5, 6, 24, 25] qj8
def qh8 : AFun := ⟨2,
(.seq
(.region [
 iC 0 4 (.sl [])] none [0, 1])
(.seq
(.region [
 iM 0 8 0,
 iA 1 9 qav [tT 8],
 iM 2 10 1,
 iA 3 11 qav [tT 10],
 iM 4 0 9,
 iM 5 1 11] none [0, 1])
(.seq
(.seq
(.region [
 iM 0 12 0,
 iN 1 13 false 12,
 iM 2 14 1,
 iN 3 15 false 14,
 iB 4 16 .lss 13 15] none [0, 1, 16])
(.cond (.t 16)
(.region [
 iM 0 17 1,
 iM 1 18 0,
 iM 2 0 17,
 iM 3 1 18] none [0, 1])
.skip))
(.seq
(.region [
 iM 0 19 0,
 iN 1 20 false 19,
 iI 2 21 .add 20 1,
⟨3, (some 22), .mkSl ⟨1, 4⟩ (.int .u32 0) (.c (kI 0)) (.t 21), none⟩,
 iM 4 5 22] none [0, 1, 5])
(.seq
(.region [
 iC 0 6 (.int .u64 0)] none [0, 1, 5, 6])
(.seq
(.seq
(.region [
 iM 0 23 0,
 iN 1 24 false 23,
 iK 2 25 0] none [0, 1, 5, 6, 24, 25])
(.block 0
 qj7))
(.seq
(.seq
(.region [
 iM 0 54 6,
⟨1, (some 55), .bin .gtr (.t 54) (.c (.int .u64 0)), none⟩] none [5, 6, 55])
(.cond (.t 55)
(.region [
 iM 0 56 5,
 iM 1 57 6,
⟨2, (some 58), .conv (.int .u32) (.t 57), none⟩,
⟨3, (some 59), .buildSl ⟨1, 4⟩ (.int .u32 0) 1 [(0, (.t 58))], none⟩,
⟨4, (some 60), .app ⟨1, 4⟩ (some (.t 56)) (.t 59), none⟩,
 iM 5 5 60] none [5])
.skip))
(.seq
(.region [
 iM 0 61 5,
 iM 1 4 61] none [4])
.ret)))))))), [(.tmp 4, true)]⟩
def qj3 : ACode :=
(.seq
(.region [
 iB 0 24 .lss 23 22] none [0, 1, 6, 7, 22, 23, 24])
(.seq
(.cond (.t 24)
.skip
(.exit 0 [6]))
(.seq
(.block 1
(.seq
(.region [
 iM 0 25 23,
 iM 1 8 25] none [0, 1, 6, 7, 8, 22, 23])
(.seq
(.region [
 iM 0 26 0,
 iM 1 27 8,
 iX 2 28 ⟨1, 4⟩ 26 27,
 iO 3 29 28,
⟨4, (some 30), .conv (.int .u64) (.t 29), none⟩,
 iM 5 31 7,
 iB 6 32 .sub 30 31,
 iM 7 9 32] none [0, 1, 6, 8, 9, 22, 23])
(.seq
(.seq
(.region [
 iM 0 33 8,
 iM 1 34 1,
 iN 2 35 false 34,
 iB 3 36 .lss 33 35] none [0, 1, 6, 8, 9, 22, 23, 36])
(.cond (.t 36)
(.region [
 iM 0 37 9,
 iM 1 38 1,
 iM 2 39 8,
 iX 3 40 ⟨1, 4⟩ 38 39,
 iO 4 41 40,
⟨5, (some 42), .conv (.int .u64) (.t 41), none⟩,
 iB 6 43 .sub 37 42,
 iM 7 9 43] none [0, 1, 6, 8, 9, 22, 23])
.skip))
(.seq
(.region [
 iM 0 44 6,
 iM 1 45 8,
 iM 2 46 9,
⟨3, (some 47), .conv (.int .u32) (.t 46), none⟩,
 iX 4 48 ⟨1, 4⟩ 44 45,
 iS 5 1 48 47] none [0, 1, 6, 9, 22, 23])
(.region [
 iM 0 49 9,
⟨1, (some 50), .bin .shr (.t 49) (.c (.int .u64 63)), none⟩,
 iM 2 7 50] none [0, 1, 6, 7, 22, 23]))))))
(.region [
 iI 0 51 .add 23 1,
 iM 1 23 51] none [0, 1, 6, 7, 22, 23]))))
def qj2 : ACode := .loop [0, 1, 6, 7, 22, 23] qj3
def ql6 : AFun := ⟨2,
(.seq
(.region [
 iC 0 4 (.sl []),
 iC 1 5 (.bool false)] none [0, 1])
(.seq
(.region [
 iM 0 10 0,
 iA 1 11 qav [tT 10],
 iM 2 12 1,
 iA 3 13 qav [tT 12],
 iM 4 0 11,
 iM 5 1 13] none [0, 1])
(.seq
(.seq
(.region [
 iM 0 14 0,
 iM 1 15 1,
 iA 2 16 qq7 [tT 14, tT 15],
 iI 3 17 .lss 16 0] none [0, 1, 17])
(.cond (.t 17)
(.seq
(.region [
 iC 0 4 (.sl []),
 iC 1 5 (.bool false)] none [4, 5])
.ret)
.skip))
(.seq
(.region [
 iM 0 18 0,
 iN 1 19 false 18,
⟨2, (some 20), .mkSl ⟨1, 4⟩ (.int .u32 0) (.t 19) (.t 19), none⟩,
 iM 3 6 20] none [0, 1, 6])
(.seq
(.region [
 iC 0 7 (.int .u64 0)] none [0, 1, 6, 7])
(.seq
(.seq
(.region [
 iM 0 21 0,
 iN 1 22 false 21,
 iK 2 23 0] none [0, 1, 6, 7, 22, 23])
(.block 0
 qj2))
(.seq
(.region [
 iM 0 52 6,
 iA 1 53 qav [tT 52],
 iM 2 4 53,
 iC 3 5 (.bool true)] none [4, 5])
.ret))))))), [(.tmp 4, true), (.tmp 5, true)]⟩
def qm2 : ACode :=
(.seq
(.region [
 iB 0 39 .lss 38 37] none [1, 5, 6, 7, 8, 29, 30, 31, 36, 37, 38, 39])
(.seq
(.cond (.t 39)
.skip
(.exit 2 [1, 5, 6, 8, 29, 30, 31]))
(.seq
(.block 3
(.seq
(.region [
 iM 0 40 38,
 iX 1 41 ⟨1, 4⟩ 36 38,
 iO 2 42 41,
 iM 3 9 40,
 iM 4 10 42] none [1, 5, 6, 7, 8, 9, 10, 29, 30, 31, 36, 37, 38])
(.seq
(.region [
 iM 0 43 8,
 iM 1 44 7,
⟨2, (some 45), .conv (.int .u64) (.t 44), none⟩,
 iM 3 46 10,
⟨4, (some 47), .conv (.int .u64) (.t 46), none⟩,
 iB 5 48 .mul 45 47,
 iM 6 49 5,
 iM 7 50 6,
 iM 8 51 9,
 iB 9 52 .add 50 51,
 iX 10 53 ⟨1, 4⟩ 49 52,
 iO 11 54 53,
⟨12, (some 55), .conv (.int .u64) (.t 54), none⟩,
 iB 13 56 .add 48 55,
 iB 14 57 .add 43 56,
 iM 15 8 57] none [1, 5, 6, 7, 8, 9, 29, 30, 31, 36, 37, 38])
(.seq
(.region [
 iM 0 58 5,
 iM 1 59 6,
 iM 2 60 9,
 iB 3 61 .add 59 60,
 iM 4 62 8,
⟨5, (some 63), .conv (.int .u32) (.t 62), none⟩,
 iX 6 64 ⟨1, 4⟩ 58 61,
 iS 7 1 64 63] none [1, 5, 6, 7, 8, 29, 30, 31, 36, 37, 38])
(.region [
 iM 0 65 8,
⟨1, (some 66), .bin .shr (.t 65) (.c (.int .u64 32)), none⟩,
 iM 2 8 66] none [1, 5, 6, 7, 8, 29, 30, 31, 36, 37, 38])))))
(.region [
 iI 0 67 .add 38 1,
 iM 1 38 67] none [1, 5, 6, 7, 8, 29, 30, 31, 36, 37, 38]))))
def qj5 : ACode := .loop [1, 5, 6, 7, 8, 29, 30, 31, 36, 37, 38] qm2
def qm1 : ACode :=
(.seq
(.region [
 iB 0 32 .lss 31 30] none [1, 5, 29, 30, 31, 32])
(.seq
(.cond (.t 32)
.skip
(.exit 0 [5]))
(.seq
(.block 1
(.seq
(.region [
 iM 0 33 31,
 iX 1 34 ⟨1, 4⟩ 29 31,
 iO 2 35 34,
 iM 3 6 33,
 iM 4 7 35] none [1, 5, 6, 7, 29, 30, 31])
(.seq
(.region [
 iC 0 8 (.int .u64 0)] none [1, 5, 6, 7, 8, 29, 30, 31])
(.seq
(.seq
(.region [
 iM 0 36 1,
 iN 1 37 false 36,
 iK 2 38 0] none [1, 5, 6, 7, 8, 29, 30, 31, 36, 37, 38])
(.block 2
 qj5))
(.region [
 iM 0 68 5,
 iM 1 69 6,
 iM 2 70 1,
 iN 3 71 false 70,
 iB 4 72 .add 69 71,
 iM 5 73 8,
⟨6, (some 74), .conv (.int .u32) (.t 73), none⟩,
 iX 7 75 ⟨1, 4⟩ 68 72,
 iS 8 1 75 74] none [1, 5, 29, 30, 31])))))
(.region [
 iI 0 76 .add 31 1,
 iM 1 31 76] none [1, 5, 29, 30, 31]))))
def qj4 : ACode := .loop [1, 5, 29, 30, 31] qm1
def qjv : AFun := ⟨2,
(.seq
(.region [
 iC 0 4 (.sl [])] none [0, 1])
(.seq
(.region [
 iM 0 11 0,
 iA 1 12 qav [tT 11],
 iM 2 13 1,
 iA 3 14 qav [tT 13],
 iM 4 0 12,
 iM 5 1 14] none [0, 1])
(.seq
(.seq
(.region [
 iM 0 15 0,
 iN 1 16 false 15,
 iI 2 17 .eql 16 0,
 iM 3 18 17,
⟨4, (some 19), .mv (.t 1), (some (18, false))⟩,
⟨5, (some 20), .len false (.t 19), (some (18, false))⟩,
⟨6, (some 21), .bin .eql (.t 20) (.c (kI 0)), (some (18, false))⟩,
⟨7, (some 22), .pick (.t 18) (.c (.bool true)) (.t 21), none⟩] none [0, 1, 22])
(.cond (.t 22)
(.seq
(.region [
 iC 0 4 (.sl [])] none [4])
.ret)
.skip))
(.seq
(.region [
 iM 0 23 0,
 iN 1 24 false 23,
 iM 2 25 1,
 iN 3 26 false 25,
 iB 4 27 .add 24 26,
⟨5, (some 28), .mkSl ⟨1, 4⟩ (.int .u32 0) (.t 27) (.t 27), none⟩,
 iM 6 5 28] none [0, 1, 5])
(.seq
(.seq
(.region [
 iM 0 29 0,
 iN 1 30 false 29,
 iK 2 31 0] none [1, 5, 29, 30, 31])
(.block 0
 qj4))
(.seq
(.region [
 iM 0 77 5,
 iA 1 78 qav [tT 77],
 iM 2 4 78] none [4])
.ret)))))), [(.tmp 4, true)]⟩
def qc6 : ACode :=
(.seq
(.seq
(.region [
 iM 0 11 5,
 iM 1 12 0,
 iN 2 13 false 12,
 iB 3 14 .lss 11 13] none [0, 1, 5, 14])
(.cond (.t 14)
.skip
(.exit 0 [])))
(.seq
(.block 1
(.seq
(.region [
 iM 0 17 0,
 iM 1 18 5,
 iX 2 19 ⟨1, 4⟩ 17 18,
 iO 3 20 19,
 iM 4 21 1,
 iM 5 22 5,
 iX 6 23 ⟨1, 4⟩ 21 22,
 iO 7 24 23,
 iB 8 25 .neq 20 24] (some ([], [])) [0, 1, 5, 25])
(.cond (.t 25)
(.seq
(.region [
 iC 0 4 (.bool false)] none [4])
.ret)
.skip)))
(.region [
 iM 0 15 5,
 iI 1 16 .add 15 1,
 iM 2 5 16] none [0, 1, 5])))
def qc5 : ACode := .loop [0, 1, 5] qc6
def qb2 : AFun := ⟨2,
(.seq
(.region [
 iC 0 4 (.bool false)] none [0, 1])
(.seq
(.seq
(.region [
 iM 0 6 0,
 iN 1 7 false 6,
 iM 2 8 1,
 iN 3 9 false 8,
 iB 4 10 .neq 7 9] none [0, 1, 10])
(.cond (.t 10)
(.seq
(.region [
 iC 0 4 (.bool false)] none [4])
.ret)
.skip))
(.seq
(.seq
(.region [
 iK 0 5 0] none [0, 1, 5])
(.block 0
 qc5))
(.seq
(.region [
 iC 0 4 (.bool true)] none [4])
.ret)))), [(.tmp 4, true)]⟩
def qjk : AFun := ⟨1,
(.seq
(.region [
⟨0, (some 1), .box 2 (.t 0), none⟩,
 iK 1 2 0] none [1])
(.seq
(.region [
 iP 0 3 1 1,
 iO 1 4 3,
 iN 2 5 false 4,
⟨3, (some 6), .bin .add (.c (kI 1)) (.t 5), none⟩,
 iM 4 2 6] none [2])
.ret)), [(.tmp 2, true)]⟩
def qsn : AFun := ⟨2,
(.seq
(.region [
 iZ 0 4 (.agg [.bool false, .sl []]) [],
 iK 1 5 0] none [0, 1, 4])
(.seq
(.region [
 iM 0 9 0,
 iM 1 10 1,
 iA 2 11 q4l [tT 9, tT 10],
 iM 3 8 11,
 iE 4 12 8 0,
 iE 5 13 8 1,
 iZ 6 6 (.agg [.bool false, .sl []]) [],
 iS 7 2 6 12,
 iM 8 7 13] none [4, 6, 7])
(.seq
(.seq
(.region [
 iM 0 14 7,
 iI 1 15 .eql 14 0,
 iM 2 16 15,
⟨3, (some 17), .load 2 true (.t 6), (some (16, true))⟩,
⟨4, (some 18), .call qz9 [tT 17], (some (16, true))⟩,
⟨5, (some 19), .bin .gtr (.t 18) (.c (kI 512)), (some (16, true))⟩,
⟨6, (some 20), .pick (.t 16) (.t 19) (.c (.bool false)), none⟩] none [4, 6, 7, 20])
(.cond (.t 20)
(.region [
 iK 0 7 2] none [4, 6, 7])
.skip))
(.seq
(.seq
(.region [
 iM 0 21 7,
 iI 1 22 .neq 21 0] none [4, 6, 7, 22])
(.cond (.t 22)
(.seq
(.region [
⟨0, (some 23), .build (.agg [.bool false, .sl []]) [] [], none⟩,
 iM 1 24 7,
 iS 2 2 4 23,
 iM 3 5 24] none [4, 5])
.ret)
.skip))
(.seq
(.region [
 iL 0 25 2 true 6,
 iS 1 2 4 25,
 iK 2 5 0] none [4, 5])
.ret))))), [(.cell 4 2 true, true), (.tmp 5, true)]⟩
def qwq : ACode :=
(.seq
(.region [
 iB 0 12 .lss 11 10] none [0, 4, 5, 9, 10, 11, 12])
(.seq
(.cond (.t 12)
.skip
(.exit 0 [4, 5]))
(.seq
(.block 1
(.seq
(.region [
 iM 0 13 11,
 iX 1 14 ⟨2, 32⟩ 9 11,
 iL 2 15 2 true 14,
 iZ 3 7 (.agg [.bool false, .sl []]) [],
 iM 4 6 13,
 iS 5 2 7 15] none [0, 4, 5, 6, 7, 9, 10, 11])
(.region [
 iL 0 16 2 true 5,
 iM 1 17 0,
 iM 2 18 6,
 iX 3 19 ⟨2, 32⟩ 17 18,
 iL 4 20 2 true 19,
 iL 5 21 2 true 7,
 iA 6 22 qlu [tT 20, tT 21],
 iA 7 23 qe5 [tT 16, tT 22],
 iS 8 2 5 23] (some ([(0, 6)], [6, 7])) [0, 4, 5, 9, 10, 11])))
(.region [
 iI 0 24 .add 11 1,
 iM 1 11 24] none [0, 4, 5, 9, 10, 11]))))
def qwp : ACode := .loop [0, 4, 5, 9, 10, 11] qwq
def qt9 : AFun := ⟨2,
(.seq
(.region [
 iZ 0 4 (.agg [.bool false, .sl []]) []] none [0, 1, 4])
(.seq
(.region [
⟨0, (some 8), .build (.agg [.bool false, .sl []]) [] [], none⟩,
 iZ 1 5 (.agg [.bool false, .sl []]) [],
 iS 2 2 5 8] none [0, 1, 4, 5])
(.seq
(.seq
(.region [
 iM 0 9 1,
 iN 1 10 false 9,
 iK 2 11 0] none [0, 4, 5, 9, 10, 11])
(.block 0
 qwp))
(.seq
(.region [
 iL 0 25 2 true 5,
 iS 1 2 4 25] none [4])
.ret)))), [(.cell 4 2 true, true)]⟩
def qhn : ACode :=
(.seq
(.seq
(.region [
 iM 0 23 5,
 iI 1 24 .geq 23 0] none [0, 1, 5, 24])
(.cond (.t 24)
.skip
(.exit 0 [])))
(.seq
(.block 1
(.seq
(.seq
(.region [
 iM 0 27 0,
 iM 1 28 5,
 iX 2 29 ⟨1, 4⟩ 27 28,
 iO 3 30 29,
 iM 4 31 1,
 iM 5 32 5,
 iX 6 33 ⟨1, 4⟩ 31 32,
 iO 7 34 33,
 iB 8 35 .lss 30 34] (some ([], [])) [0, 1, 5, 35])
(.cond (.t 35)
(.seq
(.region [
 iK 0 4 (-1)] none [4])
.ret)
.skip))
(.seq
(.region [
 iM 0 36 0,
 iM 1 37 5,
 iX 2 38 ⟨1, 4⟩ 36 37,
 iO 3 39 38,
 iM 4 40 1,
 iM 5 41 5,
 iX 6 42 ⟨1, 4⟩ 40 41,
 iO 7 43 42,
 iB 8 44 .gtr 39 43] (some ([], [])) [0, 1, 5, 44])
(.cond (.t 44)
(.seq
(.region [
 iK 0 4 1] none [4])
.ret)
.skip))))
(.region [
 iM 0 25 5,
 iI 1 26 .sub 25 1,
 iM 2 5 26] none [0, 1, 5])))
def qj6 : ACode := .loop [0, 1, 5] qhn
def qg1 : AFun := ⟨2,
(.seq
(.region [
 iK 0 4 0] none [0, 1])
(.seq
(.region [
 iM 0 6 0,
 iA 1 7 qav [tT 6],
 iM 2 8 1,
 iA 3 9 qav [tT 8],
 iM 4 0 7,
 iM 5 1 9] none [0, 1])
(.seq
(.seq
(.region [
 iM 0 10 0,
 iN 1 11 false 10,
 iM 2 12 1,
 iN 3 13 false 12,
 iB 4 14 .neq 11 13] none [0, 1, 14])
(.cond (.t 14)
(.seq
(.seq
(.region [
 iM 0 15 0,
 iN 1 16 false 15,
 iM 2 17 1,
 iN 3 18 false 17,
 iB 4 19 .lss 16 18] none [19])
(.cond (.t 19)
(.seq
(.region [
 iK 0 4 (-1)] none [4])
.ret)
.skip))
(.seq
(.region [
 iK 0 4 1] none [4])
.ret))
.skip))
(.seq
(.seq
(.region [
 iM 0 20 0,
 iN 1 21 false 20,
 iI 2 22 .sub 21 1,
 iM 3 5 22] none [0, 1, 5])
(.block 0
 qj6))
(.seq
(.region [
 iK 0 4 0] none [4])
.ret))))), [(.tmp 4, true)]⟩
def qko : AFun := ⟨1,
(.seq
(.region [
 iK 0 2 0] none [0])
(.seq
(.region [
 iM 0 3 0,
 iA 1 4 qav [tT 3],
 iM 2 0 4] none [0])
(.seq
(.seq
(.region [
 iM 0 5 0,
 iN 1 6 false 5,
 iI 2 7 .eql 6 0] none [0, 7])
(.cond (.t 7)
(.seq
(.region [
 iK 0 2 0] none [2])
.ret)
.skip))
(.seq
(.region [
 iM 0 8 0,
 iN 1 9 false 8,
 iI 2 10 .sub 9 1,
⟨3, (some 11), .bin .mul (.c (kI 32)) (.t 10), none⟩,
 iM 4 12 0,
 iM 5 13 0,
 iN 6 14 false 13,
 iI 7 15 .sub 14 1,
 iX 8 16 ⟨1, 4⟩ 12 15,
 iO 9 17 16,
 iA 10 18 qpi [tT 17],
 iB 11 19 .add 11 18,
 iM 12 2 19] none [2])
.ret)))), [(.tmp 2, true)]⟩
def qbn : ACode :=
(.seq
(.region [
 iZ 0 6 (kI 0) [],
 iZ 1 7 zD0 []] none [0, 1, 2, 6, 7])
(.seq
(.region [
 iM 0 11 0,
 iA 1 12 qph [tT 11],
 iM 2 10 12,
 iE 3 13 10 0,
 iE 4 14 10 1,
 iE 5 15 10 2,
 iM 6 8 13,
 iS 7 1 6 14,
 iS 8 4 7 15] none [1, 2, 6, 7, 8])
(.seq
(.seq
(.region [
 iO 0 16 6,
 iI 1 17 .neq 16 0] none [1, 2, 6, 7, 8, 17])
(.cond (.t 17)
(.seq
(.region [
 iO 0 18 6,
 iL 1 19 4 true 7,
 iS 2 1 6 18,
 iS 3 4 7 19] (some ([(1, 2)], [])) [6, 7])
.ret)
.skip))
.skip)))
def qb9 : ACode :=
(.seq
(.region [
 iM 0 21 8,
 iM 1 22 1,
⟨2, (some 23), .mkMap, none⟩,
⟨3, (some 24), .build (.agg [.sl [], kI 0, .sl [], kI 0, .nilm]) [(0, 1, (.t 21)), (2, 1, (.t 22)), (4, 1, (.t 23))] [], none⟩,
⟨4, (some 25), .box 5 (.t 24), none⟩,
 iM 5 9 25] none [2, 6, 7, 9])
(.seq
(.region [
 iM 0 26 2,
 iM 1 27 9,
⟨2, (some 28), .callV (.t 26) [tF 27], none⟩] none [6, 7, 9])
(.seq
(.region [
 iM 0 29 9,
 iM 1 30 9,
 iA 2 31 qal [tF 30],
⟨3, (some 32), .field 0 1 false (.t 31), none⟩,
 iI 4 33 .eql 32 0,
 iA 5 34 qar [tF 29, tT 33, ((.c (kI 80)), true)]] none [6, 7])
(.seq
(.region [
⟨0, (some 35), .build zD0 [] [], none⟩,
⟨1, none, .store 1 (.t 6) (.c (kI 0)), none⟩,
 iS 2 4 7 35] none [6, 7])
.ret))))
def qb8 : ACode :=
(.seq
(.region [
 iM 0 5 2,
⟨1, (some 6), .isN false true (.t 5), none⟩] none [0, 1, 2, 6])
(.cond (.t 6)
(.seq
(.region [
 iM 0 7 2,
⟨1, (some 8), .tass qou false (.nilp) (.t 7), none⟩,
 iZ 2 3 (.agg [kI 0, kI 0, kI 0, kI 0, kI 0]) [],
 iS 3 5 3 8] none [0, 1, 3])
(.region [
 iP 0 9 0 3,
 iO 1 10 9,
 iF 2 11 1 4 true 3,
 iL 3 12 4 true 11,
 iS 4 1 0 10,
 iS 5 4 1 12] (some ([(3, 4)], [])) []))
.skip))
def qbt : ARec := ⟨3, qbn, 20, q0a, [6, 7], qb9, [(.cell 6 1 false, true), (.cell 7 4 true, true)], 2, qb8⟩
def qbq : ACode :=
(.seq
(.seq
(.region [
 iM 0 15 3] none [0, 1, 15])
(.cond (.t 15)
.skip
(.exit 0 [0, 1])))
(.seq
(.block 1
(.seq
(.seq
(.region [
 iO 0 19 1,
 iH 1 20 19,
 iP 2 21 4 20,
 iO 3 22 21,
 iN 4 23 false 22,
 iI 5 24 .gtr 23 0] none [0, 1, 24])
(.cond (.t 24)
(.region [
 iM 0 25 0,
 iA 1 26 qbh [tF 25, ((.c (.str [44])), true)]] none [0, 1])
.skip))
(.region [
 iO 0 27 1,
 iO 1 28 1,
 iH 2 29 28,
 iP 3 30 4 29,
 iO 4 31 30,
 iM 5 32 0,
 iA 6 33 qdl [tF 32],
⟨7, (some 34), .buildSl ⟨4, 56⟩ (.agg [.str [], .bool false, .bool false, .sl []]) 1 [(0, (.t 33))], none⟩,
⟨8, (some 35), .app ⟨4, 56⟩ (some (.t 31)) (.t 34), none⟩,
 iH 9 36 27,
 iP 10 37 4 36,
 iS 11 1 37 35] (some ([(0, 6), (0, 7), (0, 8), (1, 6), (1, 7), (4, 6), (4, 7)], [6, 8])) [0, 1])))
(.region [
 iM 0 16 0,
 iA 1 17 qai [tF 16, ((.c (.str [59])), true)],
⟨2, (some 18), .un .not (.t 17), none⟩,
 iM 3 3 18] none [0, 1, 3])))
def qhd : ACode := .loop [0, 1, 3] qbq
def qdg : AFun := ⟨2,
(.seq
(.region [
 iO 0 4 1,
 iM 1 5 0,
 iA 2 6 qal [tF 5],
⟨3, (some 7), .field 2 4 true (.t 6), none⟩,
 iH 4 8 4,
 iF 5 9 0 4 true 8,
 iS 6 4 9 7] (some ([(0, 2)], [2])) [0, 1])
(.seq
(.region [
 iM 0 10 0,
 iA 1 11 qbh [tF 10, ((.c (.str [118, 97, 114, 115])), true)]] none [0, 1])
(.seq
(.seq
(.region [
 iM 0 12 0,
 iA 1 13 qai [tF 12, ((.c (.str [59])), true)],
⟨2, (some 14), .un .not (.t 13), none⟩,
 iM 3 3 14] none [0, 1, 3])
(.block 0
 qhd))
(.region [
 iO 0 38 1,
 iM 1 39 0,
 iA 2 40 qjo [tF 39],
 iH 3 41 38,
 iP 4 42 5 41,
 iS 5 1 42 40] (some ([(0, 2)], [2])) [])))), []⟩
def qgp : AFun := ⟨1,
(.seq
(.region [
 iZ 0 2 (.agg [kI 0, .str [], kI 0, kI 0, kI 0, kI 0]) []] none [0, 2])
(.seq
(.region [
 iM 0 3 0,
 iH 1 4 3,
 iP 2 5 0 4,
 iO 3 6 5,
 iM 4 7 0,
 iH 5 8 7,
 iP 6 9 1 8,
 iO 7 10 9,
 iX 8 11 ⟨6, 56⟩ 6 10,
 iL 9 12 6 true 11,
 iS 10 6 2 12] (some ([], [])) [2])
.ret)), [(.cell 2 6 true, true)]⟩
def qdx : AFun := ⟨2,
(.region [
 iM 0 4 0,
 iM 1 5 0,
 iM 2 6 1,
 iA 3 7 qai [tF 5, tT 6],
 iA 4 8 qar [tF 4, tT 7, ((.c (kI 80)), true)]] none []), []⟩
def qd2 : AFun := ⟨2,
(.seq
(.region [
 iC 0 4 (.bool false)] none [0, 1])
(.seq
(.region [
 iM 0 6 0,
 iA 1 7 qal [tF 6],
 iZ 2 5 (.agg [kI 0, .str [], kI 0, kI 0, kI 0, kI 0]) [],
 iS 3 6 5 7] none [0, 1, 5])
(.seq
(.seq
(.region [
 iP 0 8 1 5,
 iO 1 9 8,
 iM 2 10 1,
 iB 3 11 .neq 9 10,
 iM 4 12 11,
⟨5, (some 13), .fieldA 0 1 false (.t 5), (some (12, false))⟩,
⟨6, (some 14), .load 1 false (.t 13), (some (12, false))⟩,
⟨7, (some 15), .bin .neq (.t 14) (.c (kI 3)), (some (12, false))⟩,
⟨8, (some 16), .mv (.t 15), (some (12, false))⟩,
⟨9, (some 17), .fieldA 0 1 false (.t 5), (some (16, true))⟩,
⟨10, (some 18), .load 1 false (.t 17), (some (16, true))⟩,
⟨11, (some 19), .bin .neq (.t 18) (.c (kI 1)), (some (16, true))⟩,
⟨12, (some 20), .pick (.t 16) (.t 19) (.c (.bool false)), (some (12, false))⟩,
⟨13, (some 21), .pick (.t 12) (.c (.bool true)) (.t 20), none⟩] none [0, 21])
(.cond (.t 21)
(.seq
(.region [
 iC 0 4 (.bool false)] none [4])
.ret)
.skip))
(.seq
(.region [
 iM 0 22 0,
 iA 1 23 qbv [tF 22]] none [])
(.seq
(.region [
 iC 0 4 (.bool true)] none [4])
.ret))))), [(.tmp 4, true)]⟩
def qa0 : AFun := ⟨1,
(.seq
(.region [
 iZ 0 2 (.agg [.str [], .bool false, .bool false, .sl []]) []] none [0, 2])
(.seq
(.region [
 iM 0 7 0,
 iM 1 8 0,
 iA 2 9 qev [tF 8],
 iA 3 10 qar [tF 7, tT 9, ((.c (kI 80)), true)]] none [0, 2])
(.seq
(.region [
 iM 0 11 0,
 iA 1 12 qal [tF 11],
⟨2, (some 13), .field 1 1 false (.t 12), none⟩,
 iM 3 3 13] none [0, 2, 3])
(.seq
(.region [
 iM 0 14 0,
 iM 1 15 3,
 iA 2 16 qpg [tT 15],
 iA 3 17 qar [tF 14, tT 16, ((.c (kI 42)), true)]] none [0, 2, 3])
(.seq
(.region [
 iM 0 18 0,
 iM 1 19 0,
 iM 2 20 3,
 iA 3 21 qeo [tF 19, tT 20],
 iI 4 22 .lss 21 0,
 iA 5 23 qar [tF 18, tT 22, ((.c (kI 82)), true)]] none [0, 2, 3])
(.seq
(.region [
 iM 0 24 0,
 iM 1 25 0,
 iH 2 26 25,
 iP 3 27 2 26,
 iO 4 28 27,
 iN 5 29 false 28,
 iI 6 30 .lss 29 8,
 iA 7 31 qar [tF 24, tT 30, ((.c (kI 2)), true)]] none [0, 2, 3])
(.seq
(.region [
 iM 0 32 0,
 iA 1 33 qbv [tF 32]] none [0, 2, 3])
(.seq
(.region [
 iM 0 34 0,
 iM 1 35 0,
 iH 2 36 35,
 iP 3 37 2 36,
 iO 4 38 37,
 iM 5 39 3,
⟨6, (some 40), .buildSl ⟨1, 16⟩ (.str []) 1 [(0, (.t 39))], none⟩,
⟨7, (some 41), .app ⟨1, 16⟩ (some (.t 38)) (.t 40), none⟩,
 iH 8 42 34,
 iP 9 43 2 42,
 iS 10 1 43 41] none [0, 2, 3])
(.seq
(.seq
(.region [
 iM 0 44 0,
 iA 1 45 qai [tF 44, ((.c (.str [61])), true)],
⟨2, (some 46), .un .not (.t 45), none⟩] none [0, 2, 3, 46])
(.cond (.t 46)
(.seq
(.region [
 iM 0 47 3,
⟨1, (some 48), .build (.agg [.str [], .bool false, .bool false, .sl []]) [(0, 1, (.t 47)), (1, 1, (.c (.bool true)))] [], none⟩,
 iS 2 4 2 48] none [2])
.ret)
.skip))
(.seq
(.region [
 iM 0 49 0,
 iA 1 50 qai [tF 49, ((.c (.str [45])), true)],
 iM 2 4 50] none [0, 2, 3, 4])
(.seq
(.region [
 iM 0 51 0,
 iM 1 52 0,
 iA 2 53 qal [tF 52],
⟨3, (some 54), .field 0 1 false (.t 53), none⟩,
 iI 4 55 .eql 54 2,
 iA 5 56 qar [tF 51, tT 55, ((.c (kI 80)), true)]] none [0, 2, 3, 4])
(.seq
(.region [
 iM 0 58 0,
 iA 1 59 qbv [tF 58],
⟨2, (some 60), .field 1 1 false (.t 59), none⟩,
 iA 3 61 qn8 [tT 60],
 iM 4 57 61,
 iE 5 62 57 0,
 iE 6 63 57 1,
 iZ 7 5 (.agg [.bool false, .sl []]) [],
 iS 8 2 5 62,
 iM 9 6 63] none [2, 3, 4, 5])
(.seq
(.seq
(.region [
 iM 0 64 4] none [2, 3, 5, 64])
(.cond (.t 64)
(.region [
 iL 0 65 2 true 5,
 iA 1 66 qn9 [tT 65],
 iS 2 2 5 66] none [2, 3, 5])
.skip))
(.seq
(.region [
 iM 0 67 3,
 iL 1 68 2 true 5,
⟨2, (some 69), .build (.agg [.str [], .bool false, .bool false, .sl []]) [(0, 1, (.t 67)), (2, 2, (.t 68))] [], none⟩,
 iS 3 4 2 69] none [2])
.ret)))))))))))))), [(.cell 2 4 true, true)]⟩
def qd5 : ACode :=
(.seq
(.seq
(.region [
 iM 0 6 0,
 iA 1 7 qal [tF 6],
⟨2, (some 8), .field 0 1 false (.t 7), none⟩,
 iI 3 9 .eql 8 1] none [0, 3, 9])
(.cond (.t 9)
.skip
(.exit 0 [3])))
(.block 1
(.seq
(.region [
 iM 0 11 0,
 iA 1 12 qat [tF 11],
 iM 2 10 12,
 iE 3 13 10 0,
 iE 4 14 10 1,
 iM 5 4 13,
 iM 6 5 14] none [0, 3, 4, 5])
(.seq
(.seq
(.region [
 iM 0 15 5,
⟨1, (some 16), .un .not (.t 15), none⟩] none [0, 3, 4, 16])
(.cond (.t 16)
(.exit 0 [3])
.skip))
(.region [
 iM 0 17 3,
 iM 1 18 4,
⟨2, (some 19), .buildSl ⟨1, 16⟩ (.nili) 1 [(0, (.t 18))], none⟩,
⟨3, (some 20), .app ⟨1, 16⟩ (some (.t 17)) (.t 19), none⟩,
 iM 4 3 20] none [0, 3])))))
def qc2 : ACode := .loop [0, 3] qd5
def qhb : AFun := ⟨1,
(.seq
(.region [
 iC 0 2 (.sl [])] none [0])
(.seq
(.region [
⟨0, (some 3), .own ⟨1, 16⟩, none⟩] none [0, 3])
(.seq
(.block 0
 qc2)
(.seq
(.region [
 iM 0 21 3,
 iM 1 2 21] none [2])
.ret)))), [(.tmp 2, true)]⟩
def qc9 : ACode :=
(.seq
(.region [
 iB 0 12 .lss 11 10] none [3, 9, 10, 11, 12])
(.seq
(.cond (.t 12)
.skip
(.exit 0 [3]))
(.seq
(.block 1
(.seq
(.region [
 iM 0 13 11,
 iX 1 14 ⟨4, 56⟩ 9 11,
 iL 2 15 4 true 14,
 iZ 3 5 (.agg [.str [], .bool false, .bool false, .sl []]) [],
 iM 4 4 13,
 iS 5 4 5 15] none [3, 4, 5, 9, 10, 11])
(.seq
(.seq
(.region [
 iM 0 16 4,
 iI 1 17 .gtr 16 0] none [3, 5, 9, 10, 11, 17])
(.cond (.t 17)
(.region [
 iM 0 18 3,
⟨1, (some 19), .bin .add (.t 18) (.c (.str [44])), none⟩,
 iM 2 3 19] none [3, 5, 9, 10, 11])
.skip))
(.seq
(.region [
 iM 0 20 3,
 iP 1 21 0 5,
 iO 2 22 21,
⟨3, (some 23), .bin .add (.c (.str [32])) (.t 22), none⟩,
 iB 4 24 .add 20 23,
 iM 5 3 24] none [3, 5, 9, 10, 11])
(.seq
(.region [
 iP 0 25 1 5,
 iO 1 26 25,
⟨2, (some 27), .un .not (.t 26), none⟩] none [3, 5, 9, 10, 11, 27])
(.cond (.t 27)
(.region [
 iM 0 28 3,
 iF 1 29 2 2 true 5,
 iL 2 30 2 true 29,
 iA 3 31 qmh [tT 30],
⟨4, (some 32), .bin .add (.c (.str [32, 61, 32])) (.t 31), none⟩,
 iB 5 33 .add 28 32,
 iM 6 3 33] none [3, 9, 10, 11])
.skip))))))
(.region [
 iI 0 34 .add 11 1,
 iM 1 11 34] none [3, 9, 10, 11]))))
def qc8 : ACode := .loop [3, 9, 10, 11] qc9
def qeb : AFun := ⟨1,
(.seq
(.region [
 iC 0 2 (.str [])] none [0])
(.seq
(.region [
 iC 0 3 (.str [118, 97, 114, 115])] none [0, 3])
(.seq
(.seq
(.region [
 iM 0 6 0,
 iH 1 7 6,
 iP 2 8 4 7,
 iO 3 9 8,
 iN 4 10 false 9,
 iK 5 11 0] none [3, 9, 10, 11])
(.block 0
 qc8))
(.seq
(.region [
 iM 0 35 3,
 iM 1 2 35] none [2])
.ret)))), [(.tmp 2, true)]⟩
def qg3 : ACode :=
(.seq
(.region [
 iB 0 39 .lss 38 37] none [3, 5, 7, 17, 18, 19, 36, 37, 38, 39])
(.seq
(.cond (.t 39)
.skip
(.exit 3 [3, 5, 7, 17, 18, 19]))
(.seq
(.block 4
(.seq
(.region [
 iM 0 40 38,
 iX 1 41 ⟨5, 56⟩ 36 38,
 iL 2 42 5 true 41,
 iZ 3 12 (.agg [kI 0, kI 0, kI 0, kI 0, .sl []]) [],
 iM 4 11 40,
 iS 5 5 12 42] none [3, 5, 7, 11, 12, 17, 18, 19, 36, 37, 38])
(.seq
(.seq
(.region [
 iM 0 43 11,
 iI 1 44 .gtr 43 0] none [3, 5, 7, 12, 17, 18, 19, 36, 37, 38, 44])
(.cond (.t 44)
(.region [
 iM 0 45 7,
 iF 1 46 0 4 true 12,
 iF 2 47 0 4 true 46,
 iL 3 48 4 true 47,
⟨4, (some 49), .callV (.t 45) [((.c (kI 8)), true), ((.c (.str [111, 114])), true), tT 48], none⟩] none [3, 5, 7, 12, 17, 18, 19, 36, 37, 38])
.skip))
(.region [
 iO 0 50 3,
 iP 1 51 4 12,
 iO 2 52 51,
 iO 3 53 5,
 iI 4 54 .add 53 1,
 iA 5 55 qgw [tF 50, tT 52, tT 54],
 iS 6 1 3 55] none [3, 5, 7, 17, 18, 19, 36, 37, 38]))))
(.region [
 iI 0 56 .add 38 1,
 iM 1 38 56] none [3, 5, 7, 17, 18, 19, 36, 37, 38]))))
def qje : ACode := .loop [3, 5, 7, 17, 18, 19, 36, 37, 38] qg3
def qcx : ACode :=
(.seq
(.region [
 iB 0 20 .lss 19 18] none [3, 5, 7, 17, 18, 19, 20])
(.seq
(.cond (.t 20)
.skip
(.exit 0 [3]))
(.seq
(.block 1
(.seq
(.region [
 iX 0 21 ⟨1, 16⟩ 17 19,
 iO 1 22 21,
 iM 2 9 22] none [3, 5, 7, 9, 17, 18, 19])
(.seq
(.region [
 iM 0 23 7,
 iM 1 24 9,
 iA 2 25 qq8 [tT 24],
 iM 3 26 9,
 iA 4 27 qv7 [tT 26],
 iM 5 28 9,
⟨6, (some 29), .inv [(qfu, qaa, none), (qah, qaa, some (0, 4, true)), (qes, qaa, some (0, 4, true)), (qao, qaa, some (0, 4, true)), (qaj, qaa, some (0, 4, true)), (qas, qaa, some (0, 4, true)), (qaz, qaa, some (0, 4, true)), (qay, qaa, some (0, 4, true)), (qa1, qaa, some (0, 4, true)), (qaw, qaa, some (0, 4, true))] (.t 28) [], none⟩,
⟨7, (some 30), .callV (.t 23) [tT 25, tT 27, tT 29], none⟩] none [3, 5, 7, 9, 17, 18, 19])
(.seq
(.region [
 iM 0 31 9] none [3, 5, 7, 17, 18, 19, 31])
(.block 2
(.seq
(.region [
⟨0, (some 32), .tass qah true (.agg [kI 0, kI 0, kI 0, kI 0, .sl []]) (.t 31), none⟩,
 iE 1 33 32 1,
 iE 2 34 32 0] none [3, 5, 7, 17, 18, 19, 31, 33, 34])
(.cond (.t 33)
(.seq
(.region [
 iZ 0 10 (.agg [kI 0, kI 0, kI 0, kI 0, .sl []]) [(4, ⟨5, 56⟩)],
 iS 1 5 10 34] none [3, 5, 7, 10, 17, 18, 19])
(.seq
(.region [
 iP 0 35 4 10,
 iO 1 36 35,
 iN 2 37 false 36,
 iK 3 38 0] none [3, 5, 7, 17, 18, 19, 36, 37, 38])
(.block 3
 qje)))
(.seq
(.region [
⟨0, (some 57), .tass qao true (.agg [kI 0, kI 0, kI 0, kI 0, .sl []]) (.t 31), none⟩,
 iE 1 58 57 1,
 iE 2 59 57 0] none [3, 5, 7, 17, 18, 19, 31, 58, 59])
(.cond (.t 58)
(.seq
(.region [
 iZ 0 13 (.agg [kI 0, kI 0, kI 0, kI 0, .sl []]) [],
 iS 1 5 13 59] none [3, 5, 7, 13, 17, 18, 19])
(.region [
 iO 0 60 3,
 iP 1 61 4 13,
 iO 2 62 61,
 iO 3 63 5,
 iI 4 64 .add 63 1,
 iA 5 65 qgw [tF 60, tT 62, tT 64],
 iS 6 1 3 65] none [3, 5, 7, 17, 18, 19]))
(.seq
(.region [
⟨0, (some 66), .tass qaj true (.agg [kI 0, kI 0, kI 0, kI 0, .nili, .nili, .bool false, .sl []]) (.t 31), none⟩,
 iE 1 67 66 1,
 iE 2 68 66 0] none [3, 5, 7, 17, 18, 19, 31, 67, 68])
(.cond (.t 67)
(.seq
(.region [
 iZ 0 14 (.agg [kI 0, kI 0, kI 0, kI 0, .nili, .nili, .bool false, .sl []]) [],
 iS 1 8 14 68] none [3, 5, 7, 14, 17, 18, 19])
(.region [
 iO 0 69 3,
 iP 1 70 7 14,
 iO 2 71 70,
 iO 3 72 5,
 iI 4 73 .add 72 1,
 iA 5 74 qgw [tF 69, tT 71, tT 73],
 iS 6 1 3 74] none [3, 5, 7, 17, 18, 19]))
(.seq
(.region [
⟨0, (some 75), .tass qas true (.agg [kI 0, kI 0, kI 0, kI 0, .nili, .nili, .bool false, .sl [], .nilp]) (.t 31), none⟩,
 iE 1 76 75 1,
 iE 2 77 75 0] none [3, 5, 7, 17, 18, 19, 76, 77])
(.cond (.t 76)
(.seq
(.region [
 iZ 0 15 (.agg [kI 0, kI 0, kI 0, kI 0, .nili, .nili, .bool false, .sl [], .nilp]) [],
 iS 1 9 15 77] none [3, 5, 7, 15, 17, 18, 19])
(.seq
(.region [
 iO 0 78 3,
 iP 1 79 7 15,
 iO 2 80 79,
 iO 3 81 5,
 iI 4 82 .add 81 1,
 iA 5 83 qgw [tF 78, tT 80, tT 82],
 iS 6 1 3 83] none [3, 5, 7, 15, 17, 18, 19])
(.seq
(.region [
 iP 0 84 8 15,
 iO 1 85 84,
⟨2, (some 86), .isN false false (.t 85), none⟩] none [3, 5, 7, 15, 17, 18, 19, 86])
(.cond (.t 86)
(.seq
(.region [
 iM 0 87 7,
 iP 1 88 8 15,
 iO 2 89 88,
 iH 3 90 89,
 iF 4 91 0 4 true 90,
 iF 5 92 0 4 true 91,
 iL 6 93 4 true 92,
⟨7, (some 94), .callV (.t 87) [((.c (kI 11)), true), ((.c (.str [101, 108, 115, 101])), true), tT 93], none⟩] none [3, 5, 7, 15, 17, 18, 19])
(.region [
 iO 0 95 3,
 iP 1 96 8 15,
 iO 2 97 96,
 iH 3 98 97,
 iP 4 99 4 98,
 iO 5 100 99,
 iO 6 101 5,
 iI 7 102 .add 101 1,
 iA 8 103 qgw [tF 95, tT 100, tT 102],
 iS 9 1 3 103] (some ([], [8])) [3, 5, 7, 17, 18, 19]))
.skip))))
.skip)))))))))))))
(.region [
 iI 0 104 .add 19 1,
 iM 1 19 104] none [3, 5, 7, 17, 18, 19]))))
def qjd : ACode := .loop [3, 5, 7, 17, 18, 19] qcx
def qkq : AFun := ⟨3,
(.seq
(.region [
⟨0, (some 3), .box 1 (.t 0), none⟩,
⟨1, (some 5), .box 1 (.t 2), none⟩,
 iC 2 6 (.sl [])] none [1, 3, 5])
(.seq
(.region [
⟨0, (some 16), .mkF qjy [(.t 3), (.t 5)], none⟩,
 iM 1 7 16] none [1, 3, 5, 7])
(.seq
(.seq
(.region [
 iM 0 17 1,
 iN 1 18 false 17,
 iK 2 19 0] none [3, 5, 7, 17, 18, 19])
(.block 0
 qjd))
(.seq
(.region [
 iO 0 105 3,
 iM 1 6 105] none [6])
.ret)))), [(.tmp 6, false)]⟩
def qka : AFun := ⟨1,
(.seq
(.region [
 iC 0 2 (.nilp)] none [0])
(.seq
(.region [
 iM 0 4 0,
 iA 1 5 qh6 [tF 4],
 iN 2 6 false 5,
⟨3, (some 7), .build (.agg [kI 0, kI 0, .sl [], kI 0, kI 0, kI 0, kI 0]) [(0, 1, (.t 6))] [(2, ⟨1, 8⟩)], none⟩,
⟨4, (some 8), .box 7 (.t 7), none⟩,
 iM 5 3 8] none [0, 3])
(.seq
(.region [
 iM 0 9 3,
 iM 1 10 0,
 iA 2 11 qlx [tF 10],
 iA 3 12 qbm [tF 9, tT 11]] none [3])
(.seq
(.region [
 iM 0 13 3,
 iM 1 2 13] none [2])
.ret)))), [(.tmp 2, true)]⟩
def qgk : ACode :=
(.seq
(.seq
(.region [
 iM 0 11 3,
⟨1, (some 12), .bin .gtr (.t 11) (.c (.int .u64 0)), none⟩] none [0, 2, 3, 4, 12])
(.cond (.t 12)
.skip
(.exit 0 [0, 2, 4])))
(.block 1
(.seq
(.region [
 iM 0 13 4,
 iM 1 14 3,
⟨2, (some 15), .conv (.int .u32) (.t 14), none⟩,
⟨3, (some 16), .buildSl ⟨1, 4⟩ (.int .u32 0) 1 [(0, (.t 15))], none⟩,
⟨4, (some 17), .app ⟨1, 4⟩ (some (.t 13)) (.t 16), none⟩,
 iM 5 4 17] none [0, 2, 3, 4])
(.region [
 iM 0 18 3,
⟨1, (some 19), .bin .shr (.t 18) (.c (.int .u64 32)), none⟩,
 iM 2 3 19] none [0, 2, 3, 4]))))
def qgj : ACode := .loop [0, 2, 3, 4] qgk
def qen : AFun := ⟨1,
(.seq
(.region [
 iZ 0 2 (.agg [.bool false, .sl []]) []] none [0, 2])
(.seq
(.region [
 iM 0 5 0,
⟨1, (some 6), .conv (.int .u64) (.t 5), none⟩,
 iM 2 3 6] none [0, 2, 3])
(.seq
(.seq
(.region [
 iM 0 7 0,
 iI 1 8 .lss 7 0] none [0, 2, 3, 8])
(.cond (.t 8)
(.region [
 iM 0 9 3,
⟨1, (some 10), .un .neg (.t 9), none⟩,
 iM 2 3 10] none [0, 2, 3])
.skip))
(.seq
(.region [
⟨0, (some 4), .own ⟨1, 4⟩, none⟩] none [0, 2, 3, 4])
(.seq
(.block 0
 qgj)
(.seq
(.region [
 iM 0 20 0,
 iI 1 21 .lss 20 0,
 iM 2 22 4,
⟨3, (some 23), .build (.agg [.bool false, .sl []]) [(0, 1, (.t 21)), (1, 1, (.t 22))] [], none⟩,
 iS 4 2 2 23] none [2])
.ret)))))), [(.cell 2 2 true, true)]⟩
def qhh : ACode :=
(.seq
(.region [
 iB 0 25 .lss 24 23] none [0, 4, 10, 11, 12, 22, 23, 24, 25])
(.seq
(.cond (.t 25)
.skip
(.exit 2 [0, 10, 11, 12]))
(.seq
(.block 3
(.seq
(.region [
 iX 0 26 ⟨1, 16⟩ 22 24,
 iO 1 27 26,
 iM 2 6 27] none [0, 4, 6, 10, 11, 12, 22, 23, 24])
(.seq
(.region [
 iM 0 28 4,
 iM 1 29 6,
 iB 2 30 .eql 28 29] none [0, 4, 10, 11, 12, 22, 23, 24, 30])
(.cond (.t 30)
(.seq
(.region [
 iK 0 2 1] none [2])
.ret)
.skip))))
(.region [
 iI 0 31 .add 24 1,
 iM 1 24 31] none [0, 4, 10, 11, 12, 22, 23, 24]))))
def qhg : ACode := .loop [0, 4, 10, 11, 12, 22, 23, 24] qhh
def qfp : ACode :=
(.seq
(.region [
 iB 0 13 .lss 12 11] none [0, 10, 11, 12, 13])
(.seq
(.cond (.t 13)
.skip
(.exit 0 []))
(.seq
(.block 1
(.seq
(.region [
 iM 0 14 12,
 iX 1 15 ⟨1, 16⟩ 10 12,
 iO 2 16 15,
 iM 3 3 14,
 iM 4 4 16] none [0, 3, 4, 10, 11, 12])
(.seq
(.seq
(.region [
 iM 0 17 4,
 iA 1 18 qt4 [tT 17],
⟨2, (some 19), .un .not (.t 18), none⟩] none [0, 3, 4, 10, 11, 12, 19])
(.cond (.t 19)
(.seq
(.region [
 iK 0 2 1] none [2])
.ret)
.skip))
(.seq
(.region [
 iM 0 20 0,
 iM 1 21 3,
⟨2, (some 22), .slice (some ⟨1, 16⟩) (.t 20) none (some (.t 21)), none⟩,
 iN 3 23 false 22,
 iK 4 24 0] none [0, 4, 10, 11, 12, 22, 23, 24])
(.block 2
 qhg)))))
(.region [
 iI 0 32 .add 12 1,
 iM 1 12 32] none [0, 10, 11, 12]))))
def qhf : ACode := .loop [0, 10, 11, 12] qfp
def qgg : AFun := ⟨1,
(.seq
(.region [
 iK 0 2 0] none [0])
(.seq
(.seq
(.region [
 iM 0 7 0,
 iN 1 8 false 7,
 iI 2 9 .gtr 8 16] none [0, 9])
(.cond (.t 9)
(.seq
(.region [
 iK 0 2 1] none [2])
.ret)
.skip))
(.seq
(.seq
(.region [
 iM 0 10 0,
 iN 1 11 false 10,
 iK 2 12 0] none [0, 10, 11, 12])
(.block 0
 qhf))
(.seq
(.region [
 iK 0 2 0] none [2])
.ret)))), [(.tmp 2, true)]⟩
def qhc : AFun := ⟨2,
(.region [
 iM 0 3 0,
 iA 1 4 qcg [tF 3],
 iS 2 1 1 4] none []), []⟩
def qc1 : ACode :=
(.block 1
(.block 2
(.seq
(.region [
 iM 0 8 0,
 iA 1 9 qai [tF 8, ((.c (.str [43])), true)],
 iM 2 7 9] none [0, 3, 7])
(.cond (.t 7)
(.region [
 iM 0 10 3,
 iM 1 11 0,
 iA 2 12 qch [tF 11],
⟨3, (some 13), .build zD1 [(0, 1, (.c (.int .u8 43))), (1, 1, (.t 10)), (2, 1, (.t 12))] [], none⟩,
⟨4, (some 14), .mkI qce (.t 13), none⟩,
 iM 5 3 14] none [0, 3])
(.seq
(.region [
 iM 0 16 0,
 iA 1 17 qai [tF 16, ((.c (.str [45])), true)],
 iM 2 15 17] none [0, 3, 15])
(.cond (.t 15)
(.region [
 iM 0 18 3,
 iM 1 19 0,
 iA 2 20 qch [tF 19],
⟨3, (some 21), .build zD1 [(0, 1, (.c (.int .u8 45))), (1, 1, (.t 18)), (2, 1, (.t 20))] [], none⟩,
⟨4, (some 22), .mkI qce (.t 21), none⟩,
 iM 5 3 22] none [0, 3])
(.seq
(.region [
 iM 0 6 3,
 iM 1 2 6] none [2])
.ret)))))))
def qd4 : ACode := .loop [0, 3] qc1
def qfn : AFun := ⟨1,
(.seq
(.region [
 iC 0 2 (.nili)] none [0])
(.seq
(.region [
 iM 0 4 0,
 iA 1 5 qch [tF 4],
 iM 2 3 5] none [0, 3])
(.block 0
 qd4))), [(.tmp 2, true)]⟩
def qbb : AFun := ⟨2,
(.seq
(.region [
 iM 0 8 1] none [0, 8])
(.block 0
(.seq
(.region [
⟨0, (some 9), .tass qcp true (.agg [.bool false, .sl []]) (.t 8), none⟩,
 iE 1 10 9 1,
 iE 2 11 9 0] none [0, 8, 10, 11])
(.cond (.t 10)
(.seq
(.region [
 iZ 0 4 (.agg [.bool false, .sl []]) [],
 iS 1 2 4 11] none [0, 4])
(.region [
 iM 0 12 0,
 iF 1 13 0 2 true 4,
 iL 2 14 2 true 13,
 iA 3 15 qmh [tT 14],
 iA 4 16 qa4 [tF 12, tT 15]] none []))
(.seq
(.region [
⟨0, (some 17), .tass qei true (.agg [kI 0, .str []]) (.t 8), none⟩,
 iE 1 18 17 1,
 iE 2 19 17 0] none [0, 8, 18, 19])
(.cond (.t 18)
(.seq
(.region [
 iZ 0 5 (.agg [kI 0, .str []]) [],
 iS 1 2 5 19] none [0, 5])
(.region [
 iM 0 20 0,
 iP 1 21 1 5,
 iO 2 22 21,
 iA 3 23 qa4 [tF 20, tT 22]] none []))
(.seq
(.region [
⟨0, (some 24), .tass qdj true zD3 (.t 8), none⟩,
 iE 1 25 24 1,
 iE 2 26 24 0] none [0, 8, 25, 26])
(.cond (.t 25)
(.seq
(.region [
 iZ 0 6 zD3 [],
 iS 1 1 6 26] none [0, 6])
(.seq
(.region [
 iM 0 27 0,
 iA 1 28 qbz [tF 27, ((.c (.int .u8 45)), true)]] none [0, 6])
(.region [
 iM 0 29 0,
 iP 1 30 0 6,
 iO 2 31 30,
 iP 3 32 0 6,
 iO 4 33 32,
 iA 5 34 qiq [tT 33],
⟨6, (some 35), .un .not (.t 34), none⟩,
 iA 7 36 qgv [tF 29, tT 31, tT 35]] (some ([(2, 5)], [5, 7])) [])))
(.seq
(.region [
⟨0, (some 37), .tass qce true zD1 (.t 8), none⟩,
 iE 1 38 37 1,
 iE 2 39 37 0] none [0, 38, 39])
(.cond (.t 38)
(.seq
(.region [
 iZ 0 7 zD1 [],
 iS 1 3 7 39] none [0, 7])
(.seq
(.region [
 iM 0 40 0,
 iP 1 41 1 7,
 iO 2 42 41,
 iP 3 43 0 7,
 iO 4 44 43,
 iA 5 45 qjn [tT 44],
⟨6, (some 46), .un .not (.t 45), none⟩,
 iM 7 47 46,
⟨8, (some 48), .fieldA 1 1 false (.t 7), (some (47, true))⟩,
⟨9, (some 49), .load 1 false (.t 48), (some (47, true))⟩,
⟨10, (some 50), .call qh5 [tT 49], (some (47, true))⟩,
⟨11, (some 51), .pick (.t 47) (.t 50) (.c (.bool false)), none⟩,
 iA 12 52 qgv [tF 40, tT 42, tT 51]] (some ([(2, 5), (2, 10)], [5, 10, 12])) [0, 7])
(.seq
(.region [
 iM 0 53 0,
 iP 1 54 0 7,
 iO 2 55 54,
⟨3, (some 56), .conv (.int .i32) (.t 55), none⟩,
⟨4, (some 57), .conv .rune (.t 56), none⟩,
⟨5, (some 58), .bin .add (.c (.str [32])) (.t 57), none⟩,
⟨6, (some 59), .bin .add (.t 58) (.c (.str [32])), none⟩,
 iA 7 60 qa4 [tF 53, tT 59]] none [0, 7])
(.region [
 iM 0 61 0,
 iP 1 62 2 7,
 iO 2 63 62,
 iP 3 64 0 7,
 iO 4 65 64,
 iA 5 66 qjn [tT 65],
 iM 6 67 66,
⟨7, (some 68), .fieldA 2 1 false (.t 7), (some (67, true))⟩,
⟨8, (some 69), .load 1 false (.t 68), (some (67, true))⟩,
⟨9, (some 70), .call qh5 [tT 69], (some (67, true))⟩,
⟨10, (some 71), .pick (.t 67) (.t 70) (.c (.bool false)), none⟩,
 iM 11 72 71,
⟨12, (some 73), .fieldA 0 1 false (.t 7), (some (72, false))⟩,
⟨13, (some 74), .load 1 false (.t 73), (some (72, false))⟩,
⟨14, (some 75), .call qjn [tT 74], (some (72, false))⟩,
⟨15, (some 76), .un .not (.t 75), (some (72, false))⟩,
⟨16, (some 77), .mv (.t 76), (some (72, false))⟩,
⟨17, (some 78), .fieldA 2 1 false (.t 7), (some (77, true))⟩,
⟨18, (some 79), .load 1 false (.t 78), (some (77, true))⟩,
⟨19, (some 80), .call qiq [tT 79], (some (77, true))⟩,
⟨20, (some 81), .un .not (.t 80), (some (77, true))⟩,
⟨21, (some 82), .pick (.t 77) (.t 81) (.c (.bool false)), (some (72, false))⟩,
⟨22, (some 83), .pick (.t 72) (.c (.bool true)) (.t 82), none⟩,
 iA 23 84 qgv [tF 61, tT 63, tT 83]] (some ([(2, 5), (2, 9), (2, 14), (2, 19)], [5, 9, 14, 19, 23])) []))))
.skip)))))))))), []⟩
def qmn : AFun := ⟨1,
(.seq
(.region [
⟨0, (some 1), .box 2 (.t 0), none⟩,
 iZ 1 2 (.agg [.bool false, .sl []]) []] none [1, 2])
(.seq
(.region [
 iP 0 3 0 1,
 iO 1 4 3,
 iP 2 5 1 1,
 iO 3 6 5,
 iA 4 7 qmj [tT 6],
 iA 5 8 qb4 [tT 4, tT 7],
 iS 6 2 2 8] (some ([(1, 4)], [4, 5])) [2])
.ret)), [(.cell 2 2 true, true)]⟩
def qky : ACode :=
(.seq
(.region [
 iB 0 11 .lss 10 9] none [3, 5, 8, 9, 10, 11])
(.seq
(.cond (.t 11)
.skip
(.exit 0 [5]))
(.seq
(.block 1
(.seq
(.region [
 iX 0 12 ⟨2, 32⟩ 8 10,
 iL 1 13 2 true 12,
 iZ 2 7 (.agg [.bool false, .sl []]) [],
 iS 3 2 7 13] none [3, 5, 7, 8, 9, 10])
(.region [
 iM 0 14 5,
 iL 1 15 2 true 7,
 iL 2 16 2 true 3,
 iA 3 17 qlu [tT 15, tT 16],
⟨4, (some 18), .buildSl ⟨2, 32⟩ (.agg [.bool false, .sl []]) 1 [(0, (.t 17))], none⟩,
⟨5, (some 19), .app ⟨2, 32⟩ (some (.t 14)) (.t 18), none⟩,
 iM 6 5 19] none [3, 5, 8, 9, 10])))
(.region [
 iI 0 20 .add 10 1,
 iM 1 10 20] none [3, 5, 8, 9, 10]))))
def qhy : ACode := .loop [3, 5, 8, 9, 10] qky
def qlh : AFun := ⟨2,
(.seq
(.region [
⟨0, (some 3), .box 2 (.t 1), none⟩,
 iC 1 4 (.sl [])] none [0, 3])
(.seq
(.region [
⟨0, (some 5), .own ⟨2, 32⟩, none⟩] none [0, 3, 5])
(.seq
(.seq
(.region [
 iM 0 8 0,
 iN 1 9 false 8,
 iK 2 10 0] none [3, 5, 8, 9, 10])
(.block 0
 qhy))
(.seq
(.region [
 iM 0 21 5,
 iM 1 4 21] none [4])
.ret)))), [(.tmp 4, true)]⟩
def ql9 : ACode :=
(.seq
(.region [
 iB 0 43 .lss 42 41] none [1, 2, 12, 41, 42, 43])
(.seq
(.cond (.t 43)
.skip
(.exit 1 [12]))
(.seq
(.block 2
(.seq
(.region [
 iM 0 44 42,
 iM 1 13 44] none [1, 2, 12, 13, 41, 42])
(.region [
 iM 0 45 12,
 iM 1 46 13,
 iM 2 47 1,
 iM 3 48 13,
 iX 4 49 ⟨2, 32⟩ 47 48,
 iL 5 50 2 true 49,
 iM 6 51 2,
 iM 7 52 13,
 iX 8 53 ⟨2, 32⟩ 51 52,
 iL 9 54 2 true 53,
 iA 10 55 qe5 [tT 50, tT 54],
 iX 11 56 ⟨2, 32⟩ 45 46,
 iS 12 2 56 55] (some ([], [10])) [1, 2, 12, 41, 42])))
(.region [
 iI 0 57 .add 42 1,
 iM 1 42 57] none [1, 2, 12, 41, 42]))))
def qjf : ACode := .loop [1, 2, 12, 41, 42] ql9
def qc3 : AFun := ⟨3,
(.seq
(.region [
 iC 0 6 (.sl []),
 iC 1 7 (.bool false)] none [0, 1, 2])
(.seq
(.region [
 iM 0 19 1,
 iA 1 20 qkv [tT 19],
 iM 2 18 20,
 iE 3 21 18 0,
 iE 4 22 18 1,
 iZ 5 8 (.agg [.bool false, .sl []]) [],
 iS 6 2 8 21,
 iM 7 9 22] none [0, 1, 2, 8, 9])
(.seq
(.region [
 iM 0 24 2,
 iA 1 25 qkv [tT 24],
 iM 2 23 25,
 iE 3 26 23 0,
 iE 4 27 23 1,
 iZ 5 10 (.agg [.bool false, .sl []]) [],
 iS 6 2 10 26,
 iM 7 11 27] none [0, 1, 2, 8, 9, 10, 11])
(.seq
(.seq
(.region [
 iM 0 28 0] none [0, 1, 2, 8, 9, 10, 11, 28])
(.block 0
(.seq
(.seq
(.region [
⟨0, (some 30), .bin .eql (.t 28) (.c (.int .u8 43)), none⟩,
 iM 1 29 30] none [0, 1, 2, 8, 9, 10, 11, 28, 29])
(.cond (.t 29)
.skip
(.region [
⟨0, (some 31), .bin .eql (.t 28) (.c (.int .u8 45)), none⟩,
 iM 1 29 31] none [0, 1, 2, 8, 9, 10, 11, 28, 29])))
(.cond (.t 29)
(.seq
(.seq
(.region [
 iM 0 32 0,
⟨1, (some 33), .bin .eql (.t 32) (.c (.int .u8 45)), none⟩] none [1, 2, 33])
(.cond (.t 33)
(.region [
 iM 0 34 2,
 iA 1 35 qll [((.c (kI (-1))), true)],
 iA 2 36 qiu [tT 34, tT 35],
 iM 3 2 36] none [1, 2])
.skip))
(.seq
(.region [
 iM 0 37 1,
 iN 1 38 false 37,
⟨2, (some 39), .mkSl ⟨2, 32⟩ (.agg [.bool false, .sl []]) (.t 38) (.t 38), none⟩,
 iM 3 12 39] none [1, 2, 12])
(.seq
(.seq
(.region [
 iM 0 40 1,
 iN 1 41 false 40,
 iK 2 42 0] none [1, 2, 12, 41, 42])
(.block 1
 qjf))
(.seq
(.region [
 iM 0 58 12,
 iM 1 6 58,
 iC 2 7 (.bool true)] none [6, 7])
.ret))))
(.seq
(.region [
⟨0, (some 60), .bin .eql (.t 28) (.c (.int .u8 42)), none⟩,
 iM 1 59 60] none [0, 1, 2, 8, 9, 10, 11, 59])
(.cond (.t 59)
(.seq
(.seq
(.region [
 iM 0 61 9] none [1, 2, 8, 10, 11, 61])
(.cond (.t 61)
(.seq
(.region [
 iM 0 62 2,
 iL 1 63 2 true 8,
 iA 2 64 qiu [tT 62, tT 63],
 iM 3 6 64,
 iC 4 7 (.bool true)] none [6, 7])
.ret)
.skip))
(.seq
(.region [
 iM 0 65 1,
 iL 1 66 2 true 10,
 iA 2 67 qiu [tT 65, tT 66],
 iM 3 68 11,
 iM 4 6 67,
 iM 5 7 68] none [6, 7])
.ret))
.skip))))))
(.seq
(.region [
 iL 0 70 2 true 8,
 iL 1 71 2 true 10,
 iA 2 72 qgd [tT 70, tT 71],
 iM 3 69 72,
 iE 4 73 69 0,
 iE 5 74 69 1,
 iE 6 75 69 2,
 iZ 7 14 (.agg [.bool false, .sl []]) [],
 iZ 8 15 (.agg [.bool false, .sl []]) [],
 iS 9 2 14 73,
 iS 10 2 15 74,
 iM 11 16 75] none [0, 1, 9, 11, 14, 15, 16])
(.seq
(.seq
(.region [
 iM 0 76 9,
⟨1, (some 77), .un .not (.t 76), none⟩,
 iM 2 78 77,
⟨3, (some 79), .mv (.t 11), (some (78, false))⟩,
⟨4, (some 80), .un .not (.t 79), (some (78, false))⟩,
⟨5, (some 81), .pick (.t 78) (.c (.bool true)) (.t 80), none⟩,
 iM 6 82 81,
⟨7, (some 83), .mv (.t 16), (some (82, false))⟩,
⟨8, (some 84), .un .not (.t 83), (some (82, false))⟩,
⟨9, (some 85), .pick (.t 82) (.c (.bool true)) (.t 84), none⟩] none [0, 1, 14, 15, 85])
(.cond (.t 85)
(.seq
(.region [
 iC 0 6 (.sl []),
 iC 1 7 (.bool false)] none [6, 7])
.ret)
.skip))
(.seq
(.region [
 iM 0 86 1,
 iN 1 87 false 86,
⟨2, (some 88), .mkSl ⟨2, 32⟩ (.agg [.bool false, .sl []]) (.t 87) (.t 87), none⟩,
 iM 3 17 88] none [0, 1, 14, 15, 17])
(.seq
(.region [
 iM 0 89 17,
 iM 1 90 1,
 iN 2 91 false 90,
 iI 3 92 .sub 91 1,
 iL 4 93 2 true 14,
 iX 5 94 ⟨2, 32⟩ 89 92,
 iS 6 2 94 93] none [0, 1, 15, 17])
(.seq
(.seq
(.region [
 iM 0 95 0,
⟨1, (some 96), .bin .eql (.t 95) (.c (.int .u8 37)), none⟩] none [1, 15, 17, 96])
(.cond (.t 96)
(.region [
 iM 0 97 17,
 iM 1 98 1,
 iN 2 99 false 98,
 iI 3 100 .sub 99 1,
 iL 4 101 2 true 15,
 iX 5 102 ⟨2, 32⟩ 97 100,
 iS 6 2 102 101] none [17])
.skip))
(.seq
(.region [
 iM 0 103 17,
 iM 1 6 103,
 iC 2 7 (.bool true)] none [6, 7])
.ret)))))))))), [(.tmp 6, true), (.tmp 7, true)]⟩
def qhr : ACode :=
(.seq
(.seq
(.region [
 iM 0 6 3,
 iI 1 7 .gtr 6 0,
 iM 2 8 7,
⟨3, (some 9), .mv (.t 0), (some (8, true))⟩,
⟨4, (some 10), .mv (.t 3), (some (8, true))⟩,
⟨5, (some 11), .bin .sub (.t 10) (.c (kI 1)), (some (8, true))⟩,
⟨6, (some 12), .idxA ⟨1, 4⟩ (.t 9) (.t 11), (some (8, true))⟩,
⟨7, (some 13), .load 1 false (.t 12), (some (8, true))⟩,
⟨8, (some 14), .bin .eql (.t 13) (.c (.int .u32 0)), (some (8, true))⟩,
⟨9, (some 15), .pick (.t 8) (.t 14) (.c (.bool false)), none⟩] none [0, 3, 15])
(.cond (.t 15)
.skip
(.exit 0 [0, 3])))
(.block 1
(.region [
 iM 0 16 3,
 iI 1 17 .sub 16 1,
 iM 2 3 17] none [0, 3])))
def qhq : ACode := .loop [0, 3] qhr
def qld : AFun := ⟨1,
(.seq
(.region [
 iC 0 2 (.sl [])] none [0])
(.seq
(.region [
 iM 0 4 0,
 iN 1 5 false 4,
 iM 2 3 5] none [0, 3])
(.seq
(.block 0
 qhq)
(.seq
(.region [
 iM 0 18 0,
 iM 1 19 3,
⟨2, (some 20), .slice (some ⟨1, 4⟩) (.t 18) none (some (.t 19)), none⟩,
 iM 3 2 20] none [2])
.ret)))), [(.tmp 2, true)]⟩
def qju : ACode :=
(.seq
(.seq
(.region [
 iM 0 15 8,
 iI 1 16 .geq 15 0] none [0, 1, 6, 7, 8, 16])
(.cond (.t 16)
.skip
(.exit 0 [6, 7])))
(.seq
(.block 1
(.seq
(.region [
 iM 0 19 7,
⟨1, (some 20), .bin .shl (.t 19) (.c (.int .u64 32)), none⟩,
 iM 2 21 0,
 iM 3 22 8,
 iX 4 23 ⟨1, 4⟩ 21 22,
 iO 5 24 23,
⟨6, (some 25), .conv (.int .u64) (.t 24), none⟩,
 iB 7 26 .or 20 25,
 iM 8 7 26] none [0, 1, 6, 7, 8])
(.seq
(.region [
 iM 0 27 6,
 iM 1 28 8,
 iM 2 29 7,
 iM 3 30 1,
⟨4, (some 31), .conv (.int .u64) (.t 30), none⟩,
 iB 5 32 .quo 29 31,
⟨6, (some 33), .conv (.int .u32) (.t 32), none⟩,
 iX 7 34 ⟨1, 4⟩ 27 28,
 iS 8 1 34 33] none [0, 1, 6, 7, 8])
(.region [
 iM 0 35 7,
 iM 1 36 1,
⟨2, (some 37), .conv (.int .u64) (.t 36), none⟩,
 iB 3 38 .rem 35 37,
 iM 4 7 38] none [0, 1, 6, 7, 8]))))
(.region [
 iM 0 17 8,
 iI 1 18 .sub 17 1,
 iM 2 8 18] none [0, 1, 6, 7, 8])))
def qha : ACode := .loop [0, 1, 6, 7, 8] qju
def qj1 : AFun := ⟨2,
(.seq
(.region [
 iC 0 4 (.sl []),
 iC 1 5 (.int .u32 0)] none [0, 1])
(.seq
(.region [
 iM 0 9 0,
 iN 1 10 false 9,
⟨2, (some 11), .mkSl ⟨1, 4⟩ (.int .u32 0) (.t 10) (.t 10), none⟩,
 iM 3 6 11] none [0, 1, 6])
(.seq
(.region [
 iC 0 7 (.int .u64 0)] none [0, 1, 6, 7])
(.seq
(.seq
(.region [
 iM 0 12 0,
 iN 1 13 false 12,
 iI 2 14 .sub 13 1,
 iM 3 8 14] none [0, 1, 6, 7, 8])
(.block 0
 qha))
(.seq
(.region [
 iM 0 39 6,
 iA 1 40 qav [tT 39],
 iM 2 41 7,
⟨3, (some 42), .conv (.int .u32) (.t 41), none⟩,
 iM 4 4 40,
 iM 5 5 42] none [4, 5])
.ret))))), [(.tmp 4, true), (.tmp 5, true)]⟩
def qcw : AFun := ⟨1,
(.seq
(.region [
 iZ 0 2 zD2 []] none [0, 2])
(.seq
(.region [
 iM 0 5 0,
 iA 1 6 qcg [tF 5],
 iM 2 3 6] none [0, 2, 3])
(.seq
(.region [
 iM 0 7 0,
 iA 1 8 qai [tF 7, ((.c (.str [61])), true)],
 iM 2 4 8] none [0, 2, 3, 4])
(.seq
(.seq
(.region [
 iM 0 9 4,
⟨1, (some 10), .un .not (.t 9), none⟩] none [0, 2, 3, 4, 10])
(.cond (.t 10)
(.region [
 iM 0 11 0,
 iA 1 12 qbh [tF 11, ((.c (.str [33, 61])), true)]] none [0, 2, 3, 4])
.skip))
(.seq
(.region [
 iM 0 13 3,
 iM 1 14 0,
 iA 2 15 qcg [tF 14],
 iM 3 16 4,
⟨4, (some 17), .build zD2 [(0, 1, (.t 13)), (1, 1, (.t 15)), (2, 1, (.t 16))] [], none⟩,
 iS 5 3 2 17] none [2])
.ret))))), [(.cell 2 3 true, true)]⟩
def qwo : AFun := ⟨2,
(.seq
(.region [
 iZ 0 4 (.agg [.bool false, .sl []]) [],
 iK 1 5 0] none [0, 1, 4])
(.seq
(.seq
(.region [
 iM 0 18 0] none [0, 1, 4, 18])
(.block 0
(.seq
(.region [
⟨0, (some 19), .tass qcp true (.agg [.bool false, .sl []]) (.t 18), none⟩,
 iE 1 20 19 1,
 iE 2 21 19 0] none [0, 1, 4, 18, 20, 21])
(.cond (.t 20)
(.seq
(.region [
 iZ 0 6 (.agg [.bool false, .sl []]) [],
 iS 1 2 6 21] none [4, 6])
(.seq
(.region [
 iF 0 22 0 2 true 6,
 iL 1 23 2 true 22,
 iA 2 24 qkf [tT 23],
 iS 3 2 4 24,
 iK 4 5 0] none [4, 5])
.ret))
(.seq
(.region [
⟨0, (some 25), .tass qei true (.agg [kI 0, .str []]) (.t 18), none⟩,
 iE 1 26 25 1,
 iE 2 27 25 0] none [0, 1, 4, 18, 26, 27])
(.cond (.t 26)
(.seq
(.region [
 iZ 0 7 (.agg [kI 0, .str []]) [],
 iS 1 2 7 27] none [1, 4, 7])
(.seq
(.region [
 iM 0 28 1,
 iP 1 29 0 7,
 iO 2 30 29,
 iX 3 31 ⟨2, 32⟩ 28 30,
 iL 4 32 2 true 31,
 iA 5 33 qkf [tT 32],
 iS 6 2 4 33,
 iK 7 5 0] none [4, 5])
.ret))
(.seq
(.region [
⟨0, (some 34), .tass qdj true zD3 (.t 18), none⟩,
 iE 1 35 34 1,
 iE 2 36 34 0] none [0, 1, 4, 35, 36])
(.cond (.t 35)
(.seq
(.region [
 iZ 0 8 zD3 [],
 iS 1 1 8 36] none [1, 4, 8])
(.seq
(.region [
 iP 0 38 0 8,
 iO 1 39 38,
 iM 2 40 1,
 iA 3 41 qla [tT 39, tT 40],
 iM 4 37 41,
 iE 5 42 37 0,
 iE 6 43 37 1,
 iZ 7 9 (.agg [.bool false, .sl []]) [],
 iS 8 2 9 42,
 iM 9 10 43] none [4, 9, 10])
(.seq
(.region [
 iL 0 44 2 true 9,
 iA 1 45 qn9 [tT 44],
 iM 2 46 10,
 iS 3 2 4 45,
 iM 4 5 46] none [4, 5])
.ret)))
.skip))))))))
(.seq
(.region [
 iM 0 47 0,
⟨1, (some 48), .tass qce false (.nilp) (.t 47), none⟩,
 iZ 2 11 zD1 [],
 iS 3 3 11 48] none [1, 4, 11])
(.seq
(.region [
 iP 0 50 1 11,
 iO 1 51 50,
 iM 2 52 1,
 iA 3 53 qla [tT 51, tT 52],
 iM 4 49 53,
 iE 5 54 49 0,
 iE 6 55 49 1,
 iZ 7 12 (.agg [.bool false, .sl []]) [],
 iS 8 2 12 54,
 iM 9 13 55] none [1, 4, 11, 12, 13])
(.seq
(.seq
(.region [
 iM 0 56 13,
 iI 1 57 .neq 56 0] none [1, 4, 11, 12, 13, 57])
(.cond (.t 57)
(.seq
(.region [
 iL 0 58 2 true 12,
 iM 1 59 13,
 iS 2 2 4 58,
 iM 3 5 59] none [4, 5])
.ret)
.skip))
(.seq
(.region [
 iP 0 61 2 11,
 iO 1 62 61,
 iM 2 63 1,
 iA 3 64 qla [tT 62, tT 63],
 iM 4 60 64,
 iE 5 65 60 0,
 iE 6 66 60 1,
 iZ 7 14 (.agg [.bool false, .sl []]) [],
 iS 8 2 14 65,
 iM 9 13 66] none [4, 11, 12, 13, 14])
(.seq
(.seq
(.region [
 iM 0 67 13,
 iI 1 68 .neq 67 0] none [4, 11, 12, 13, 14, 68])
(.cond (.t 68)
(.seq
(.region [
 iL 0 69 2 true 14,
 iM 1 70 13,
 iS 2 2 4 69,
 iM 3 5 70] none [4, 5])
.ret)
.skip))
(.seq
(.seq
(.region [
 iP 0 71 0 11,
 iO 1 72 71] none [4, 11, 12, 14, 72])
(.block 1
(.seq
(.region [
⟨0, (some 74), .bin .eql (.t 72) (.c (.int .u8 43)), none⟩,
 iM 1 73 74] none [4, 11, 12, 14, 72, 73])
(.cond (.t 73)
(.seq
(.region [
 iL 0 75 2 true 12,
 iL 1 76 2 true 14,
 iA 2 77 qe5 [tT 75, tT 76],
 iS 3 2 4 77,
 iK 4 5 0] none [4, 5])
.ret)
(.seq
(.region [
⟨0, (some 79), .bin .eql (.t 72) (.c (.int .u8 45)), none⟩,
 iM 1 78 79] none [4, 11, 12, 14, 72, 78])
(.cond (.t 78)
(.seq
(.region [
 iL 0 80 2 true 12,
 iL 1 81 2 true 14,
 iA 2 82 qh4 [tT 80, tT 81],
 iS 3 2 4 82,
 iK 4 5 0] none [4, 5])
.ret)
(.seq
(.region [
⟨0, (some 84), .bin .eql (.t 72) (.c (.int .u8 42)), none⟩,
 iM 1 83 84] none [4, 11, 12, 14, 83])
(.cond (.t 83)
(.seq
(.region [
 iL 0 85 2 true 12,
 iL 1 86 2 true 14,
 iA 2 87 qlu [tT 85, tT 86],
 iS 3 2 4 87,
 iK 4 5 0] none [4, 5])
.ret)
.skip))))))))
(.seq
(.region [
 iL 0 89 2 true 12,
 iL 1 90 2 true 14,
 iA 2 91 qgd [tT 89, tT 90],
 iM 3 88 91,
 iE 4 92 88 0,
 iE 5 93 88 1,
 iE 6 94 88 2,
 iZ 7 15 (.agg [.bool false, .sl []]) [],
 iZ 8 16 (.agg [.bool false, .sl []]) [],
 iS 9 2 15 92,
 iS 10 2 16 93,
 iM 11 17 94] none [4, 11, 15, 16, 17])
(.seq
(.block 2
(.seq
(.region [
 iM 0 96 17,
⟨1, (some 97), .un .not (.t 96), none⟩,
 iM 2 95 97] none [4, 11, 15, 16, 95])
(.cond (.t 95)
(.seq
(.region [
 iL 0 98 2 true 15,
 iS 1 2 4 98,
 iK 2 5 20] none [4, 5])
.ret)
(.seq
(.region [
 iP 0 100 0 11,
 iO 1 101 100,
⟨2, (some 102), .bin .eql (.t 101) (.c (.int .u8 47)), none⟩,
 iM 3 99 102] none [4, 15, 16, 99])
(.cond (.t 99)
(.seq
(.region [
 iL 0 103 2 true 15,
 iS 1 2 4 103,
 iK 2 5 0] none [4, 5])
.ret)
.skip)))))
(.seq
(.region [
 iL 0 104 2 true 16,
 iS 1 2 4 104,
 iK 2 5 0] none [4, 5])
.ret))))))))))), [(.cell 4 2 true, true), (.tmp 5, true)]⟩
def qsm : AFun := ⟨1,
(.seq
(.region [
⟨0, (some 1), .box 2 (.t 0), none⟩,
 iK 1 2 0] none [1])
(.seq
(.region [
 iP 0 3 1 1,
 iO 1 4 3,
 iA 2 5 qpf [tT 4],
 iI 3 6 .add 5 31,
 iI 4 7 .quo 6 32,
 iM 5 2 7] none [2])
.ret)), [(.tmp 2, true)]⟩
def qg4 : AFun := ⟨1,
(.seq
(.region [
 iK 0 2 0] none [0, 2])
(.seq
(.seq
(.region [
 iM 0 3 0,
⟨1, (some 4), .bin .geq (.t 3) (.c (.int .u32 65536)), none⟩] none [0, 2, 4])
(.cond (.t 4)
(.seq
(.region [
 iM 0 5 0,
⟨1, (some 6), .bin .shr (.t 5) (.c (.int .u64 16)), none⟩,
 iM 2 0 6] none [0])
(.region [
 iK 0 2 16] none [0, 2]))
.skip))
(.seq
(.seq
(.region [
 iM 0 7 0,
⟨1, (some 8), .bin .geq (.t 7) (.c (.int .u32 256)), none⟩] none [0, 2, 8])
(.cond (.t 8)
(.seq
(.region [
 iM 0 9 0,
⟨1, (some 10), .bin .shr (.t 9) (.c (.int .u64 8)), none⟩,
 iM 2 0 10] none [0, 2])
(.region [
 iM 0 11 2,
 iI 1 12 .add 11 8,
 iM 2 2 12] none [0, 2]))
.skip))
(.seq
(.region [
 iM 0 13 2,
 iM 1 14 0,
⟨2, (some 15), .conv (.int .u8) (.t 14), none⟩,
⟨3, (some 16), .idxS (.c (.str tab0)) (.t 15), none⟩,
⟨4, (some 17), .conv (.int .i64) (.t 16), none⟩,
 iB 5 18 .add 13 17,
 iM 6 2 18] none [2])
.ret)))), [(.tmp 2, true)]⟩
def qjg : ACode :=
(.block 1
(.seq
(.region [
 iM 0 16 5,
 iA 1 17 qji [tF 16]] none [4, 5, 6])
(.seq
(.region [
 iM 0 18 5,
 iA 1 19 qkh [tF 18],
 iZ 2 7 (.agg [kI 0, .str [], kI 0, kI 0, kI 0, kI 0]) [],
 iS 3 6 7 19] none [4, 5, 6, 7])
(.seq
(.seq
(.region [
 iM 0 20 5,
 iH 1 21 20,
 iP 2 22 5 21,
 iO 3 23 22,
 iI 4 24 .neq 23 0] none [4, 5, 6, 7, 24])
(.cond (.t 24)
(.seq
(.region [
 iM 0 25 5,
 iH 1 26 25,
 iP 2 27 5 26,
 iO 3 28 27,
 iM 4 29 5,
 iH 5 30 29,
 iF 6 31 6 4 true 30,
 iL 7 32 4 true 31,
 iC 8 2 (.sl []),
 iM 9 3 28,
 iS 10 4 4 32] (some ([], [])) [2, 3, 4])
.ret)
.skip))
(.seq
(.region [
 iM 0 33 6,
 iL 1 34 6 true 7,
⟨2, (some 35), .buildSl ⟨6, 56⟩ (.agg [kI 0, .str [], kI 0, kI 0, kI 0, kI 0]) 1 [(0, (.t 34))], none⟩,
⟨3, (some 36), .app ⟨6, 56⟩ (some (.t 33)) (.t 35), none⟩,
 iM 4 6 36] none [4, 5, 6, 7])
(.seq
(.region [
 iP 0 37 0 7,
 iO 1 38 37,
 iI 2 39 .eql 38 0] none [4, 5, 6, 39])
(.cond (.t 39)
(.seq
(.region [
 iM 0 40 6,
⟨1, (some 41), .build zD0 [] [], none⟩,
 iM 2 2 40,
 iK 3 3 0,
 iS 4 4 4 41] none [2, 3, 4])
.ret)
.skip)))))))
def qma : ACode := .loop [4, 5, 6] qjg
def qim : AFun := ⟨1,
(.seq
(.region [
 iC 0 2 (.sl []),
 iK 1 3 0,
 iZ 2 4 zD0 []] none [0, 4])
(.seq
(.seq
(.region [
 iM 0 8 0,
 iN 1 9 true 8,
 iI 2 10 .gtr 9 4096] none [0, 4, 10])
(.cond (.t 10)
(.seq
(.region [
⟨0, (some 11), .build zD0 [] [], none⟩,
 iC 1 2 (.sl []),
 iK 2 3 2,
 iS 3 4 4 11] none [2, 3, 4])
.ret)
.skip))
(.seq
(.region [
 iM 0 12 0,
 iA 1 13 qse [],
⟨2, (some 14), .build (.agg [.str [], kI 0, kI 0, kI 0, kI 0, kI 0, kI 0, kI 0, kI 0, kI 0]) [(0, 1, (.t 12)), (1, 4, (.t 13))] [], none⟩,
⟨3, (some 15), .box 10 (.t 14), none⟩,
 iM 4 5 15] none [4, 5])
(.seq
(.region [
⟨0, (some 6), .own ⟨6, 56⟩, none⟩] none [4, 5, 6])
(.block 0
 qma))))), [(.tmp 2, true), (.tmp 3, true), (.cell 4 4 true, true)]⟩
def qdw : AFun := ⟨3,
(.seq
(.region [
 iM 0 6 1,
⟨1, (some 7), .un .not (.t 6), none⟩] none [0, 2, 7])
(.cond (.t 7)
(.region [
 iM 0 8 2,
 iM 1 9 0,
 iA 2 10 qal [tF 9],
⟨3, (some 11), .field 2 4 true (.t 10), none⟩,
⟨4, (some 12), .build (.agg [kI 0, kI 0, kI 0, kI 0, kI 0]) [(0, 1, (.t 8)), (1, 4, (.t 11))] [], none⟩,
⟨5, (some 13), .mkI qou (.t 12), none⟩,
⟨6, none, .panic (.t 13), none⟩] none [])
.skip)), []⟩
def qey : AFun := ⟨1,
(.seq
(.region [
 iZ 0 2 (.agg [kI 0, .str [], kI 0, kI 0, kI 0, kI 0]) []] none [0, 2])
(.seq
(.region [
 iM 0 4 0,
 iA 1 5 qal [tF 4],
 iZ 2 3 (.agg [kI 0, .str [], kI 0, kI 0, kI 0, kI 0]) [],
 iS 3 6 3 5] none [0, 2, 3])
(.seq
(.seq
(.region [
 iP 0 6 0 3,
 iO 1 7 6,
 iI 2 8 .neq 7 0] none [0, 2, 3, 8])
(.cond (.t 8)
(.region [
 iM 0 9 0,
 iH 1 10 9,
 iP 2 11 1 10,
 iO 3 12 11,
 iI 4 13 .add 12 1,
 iH 5 14 9,
 iP 6 15 1 14,
 iS 7 1 15 13] none [2, 3])
.skip))
(.seq
(.region [
 iL 0 16 6 true 3,
 iS 1 6 2 16] none [2])
.ret)))), [(.cell 2 6 true, true)]⟩
def qez : AFun := ⟨1,
(.seq
(.region [
 iC 0 2 (.bool false)] none [0])
(.seq
(.region [
 iM 0 3 0,
 iA 1 4 qal [tF 3],
⟨2, (some 5), .field 0 1 false (.t 4), none⟩,
 iI 3 6 .eql 5 1,
 iM 4 7 6,
⟨5, (some 8), .mv (.t 0), (some (7, true))⟩,
⟨6, (some 9), .call qal [tF 8], (some (7, true))⟩,
⟨7, (some 10), .field 1 1 false (.t 9), (some (7, true))⟩,
⟨8, (some 11), .call qv6 [tT 10], (some (7, true))⟩,
⟨9, (some 12), .un .not (.t 11), (some (7, true))⟩,
⟨10, (some 13), .pick (.t 7) (.t 12) (.c (.bool false)), none⟩,
 iM 11 2 13] none [2])
.ret)), [(.tmp 2, true)]⟩
def qjc : ACode :=
(.seq
(.region [
⟨0, (some 7), .next (.t 6), none⟩,
 iE 1 8 7 0] none [0, 6, 7, 8])
(.seq
(.cond (.t 8)
.skip
(.exit 0 [0]))
(.block 1
(.seq
(.region [
 iE 0 9 7 2,
 iM 1 4 9] none [0, 4, 6])
(.seq
(.region [
 iM 0 10 4,
⟨1, (some 11), .bin .eql (.t 10) (.c (.int .i32 176)), none⟩] none [0, 6, 11])
(.cond (.t 11)
(.seq
(.region [
 iC 0 2 (.bool false)] none [2])
.ret)
.skip))))))
def ql8 : ACode := .loop [0, 6] qjc
def qkp : AFun := ⟨1,
(.seq
(.region [
 iC 0 2 (.bool false)] none [0])
(.seq
(.seq
(.region [
 iM 0 5 0,
⟨1, (some 6), .range (.t 5), none⟩] none [0, 6])
(.block 0
 ql8))
(.seq
(.region [
 iM 0 12 0,
 iA 1 13 qfl [tT 12],
 iI 2 14 .lss 13 16,
 iM 3 2 14] none [2])
.ret))), [(.tmp 2, true)]⟩
def qdf : ACode :=
(.seq
(.region [
 iB 0 13 .lss 12 11] none [1, 10, 11, 12, 13])
(.seq
(.cond (.t 13)
.skip
(.exit 0 []))
(.seq
(.block 1
(.seq
(.region [
 iM 0 14 12,
 iX 1 15 ⟨1, 16⟩ 10 12,
 iO 2 16 15,
 iM 3 5 14,
 iM 4 6 16] none [1, 5, 6, 10, 11, 12])
(.seq
(.region [
 iM 0 17 1,
 iM 1 18 6,
 iB 2 19 .eql 17 18] none [1, 5, 10, 11, 12, 19])
(.cond (.t 19)
(.seq
(.region [
 iM 0 20 5,
 iM 1 4 20] none [4])
.ret)
.skip))))
(.region [
 iI 0 21 .add 12 1,
 iM 1 12 21] none [1, 10, 11, 12]))))
def qde : ACode := .loop [1, 10, 11, 12] qdf
def qda : AFun := ⟨2,
(.seq
(.region [
 iK 0 4 0] none [0, 1])
(.seq
(.seq
(.region [
 iM 0 7 0,
 iH 1 8 7,
 iP 2 9 2 8,
 iO 3 10 9,
 iN 4 11 false 10,
 iK 5 12 0] none [1, 10, 11, 12])
(.block 0
 qde))
(.seq
(.region [
 iK 0 4 (-1)] none [4])
.ret))), [(.tmp 4, true)]⟩
def qkx : ACode :=
(.seq
(.region [
⟨0, (some 11), .next (.t 10), none⟩,
 iE 1 12 11 0] none [0, 2, 4, 11, 12])
(.seq
(.cond (.t 12)
.skip
(.exit 0 [0, 2, 4]))
(.block 1
(.seq
(.region [
 iE 0 13 11 2,
 iM 1 6 13] none [0, 2, 4, 6])
(.seq
(.seq
(.region [
 iM 0 14 6,
⟨1, (some 15), .bin .eql (.t 14) (.c (.int .i32 45)), none⟩,
 iM 2 16 15,
⟨3, (some 17), .mv (.t 6), (some (16, false))⟩,
⟨4, (some 18), .bin .eql (.t 17) (.c (.int .i32 8722)), (some (16, false))⟩,
⟨5, (some 19), .pick (.t 16) (.c (.bool true)) (.t 18), none⟩] none [0, 2, 4, 6, 19])
(.cond (.t 19)
(.seq
(.region [
 iC 0 4 (.bool true)] none [0, 2, 4, 6])
(.region [
 iM 0 20 0,
 iM 1 21 6,
 iA 2 22 qmw [tT 21],
⟨3, (some 23), .slice none (.t 20) (some (.t 22)) none, none⟩,
 iM 4 0 23] none [0, 2, 4]))
.skip))
(.exit 0 [0, 2, 4]))))))
def qkw : ACode := .loop [0, 2, 4, 10] qkx
def qi0 : AFun := ⟨1,
(.seq
(.region [
 iZ 0 2 (.agg [.bool false, .sl []]) [],
 iK 1 3 0] none [0, 2])
(.seq
(.region [
 iC 0 4 (.bool false)] none [0, 2, 4])
(.seq
(.seq
(.region [
 iM 0 9 0,
⟨1, (some 10), .range (.t 9), none⟩] none [0, 2, 4, 10])
(.block 0
 qkw))
(.seq
(.region [
 iM 0 25 0,
 iA 1 26 qk9 [tT 25],
 iM 2 24 26,
 iE 3 27 24 0,
 iE 4 28 24 1,
 iM 5 7 27,
 iM 6 8 28] none [2, 4, 7, 8])
(.seq
(.seq
(.region [
 iM 0 29 8,
 iI 1 30 .neq 29 0] none [2, 4, 7, 8, 30])
(.cond (.t 30)
(.seq
(.region [
⟨0, (some 31), .build (.agg [.bool false, .sl []]) [] [], none⟩,
 iM 1 32 8,
 iS 2 2 2 31,
 iM 3 3 32] none [2, 3])
.ret)
.skip))
(.seq
(.region [
 iM 0 33 4,
 iM 1 34 7,
 iA 2 35 qb4 [tT 33, tT 34],
 iS 3 2 2 35,
 iK 4 3 0] none [2, 3])
.ret)))))), [(.cell 2 2 true, true), (.tmp 3, true)]⟩
def qc7 : ACode :=
(.seq
(.seq
(.region [
 iM 0 55 0,
 iA 1 56 qai [tF 55, ((.c (.str [111, 114])), true)]] none [0, 5, 6, 56])
(.cond (.t 56)
.skip
(.exit 1 [5])))
(.seq
(.block 2
(.region [
 iP 0 60 4 5,
 iO 1 61 60,
 iL 2 62 4 true 6,
⟨3, (some 63), .build zD0 [(0, 4, (.t 62))] [], none⟩,
 iM 4 64 0,
 iA 5 65 qax [tF 64],
⟨6, (some 66), .build (.agg [kI 0, kI 0, kI 0, kI 0, .sl []]) [(0, 4, (.t 63)), (4, 1, (.t 65))] [], none⟩,
⟨7, (some 67), .buildSl ⟨5, 56⟩ (.agg [kI 0, kI 0, kI 0, kI 0, .sl []]) 1 [(0, (.t 66))], none⟩,
⟨8, (some 68), .app ⟨5, 56⟩ (some (.t 61)) (.t 67), none⟩,
 iP 9 69 4 5,
 iS 10 1 69 68] (some ([(1, 5), (1, 7), (2, 5)], [5, 8])) [0, 5, 6]))
(.seq
(.seq
(.region [
 iL 0 70 4 true 6] none [0, 5, 70])
(.region [
 iZ 0 6 zD0 [],
 iS 1 4 6 70] none [0, 5, 6]))
(.region [
 iM 0 57 0,
 iA 1 58 qal [tF 57],
⟨2, (some 59), .field 2 4 true (.t 58), none⟩,
 iS 3 4 6 59] none [0, 5, 6]))))
def qbe : ACode := .loop [0, 5, 6] qc7
def qad : AFun := ⟨1,
(.seq
(.region [
 iC 0 2 (.nili),
 iC 1 3 (.bool false)] none [0])
(.seq
(.region [
 iM 0 10 0,
 iA 1 11 qal [tF 10],
⟨2, (some 12), .field 2 4 true (.t 11), none⟩,
⟨3, (some 13), .build zD0 [(0, 4, (.t 12))] [], none⟩,
 iZ 4 4 zD0 [],
 iS 5 4 4 13] none [0, 4])
(.seq
(.block 0
(.seq
(.region [
 iM 0 15 0,
 iA 1 16 qev [tF 15],
 iM 2 14 16] none [0, 4, 14])
(.cond (.t 14)
(.seq
(.region [
 iM 0 17 0,
 iL 1 18 4 true 4,
 iA 2 19 qhi [tF 17, tT 18],
 iM 3 2 19,
 iC 4 3 (.bool true)] none [2, 3])
.ret)
(.seq
(.region [
 iM 0 21 0,
 iA 1 22 qai [tF 21, ((.c (.str [115, 107, 105, 112])), true)],
 iM 2 20 22] none [0, 4, 20])
(.cond (.t 20)
(.seq
(.region [
 iM 0 23 0,
 iA 1 24 qbh [tF 23, ((.c (.str [59])), true)]] none [4])
(.seq
(.region [
 iL 0 25 4 true 4,
⟨1, (some 26), .build zD0 [(0, 4, (.t 25))] [], none⟩,
⟨2, (some 27), .mkI qaz (.t 26), none⟩,
 iM 3 2 27,
 iC 4 3 (.bool true)] none [2, 3])
.ret))
(.seq
(.region [
 iM 0 29 0,
 iA 1 30 qai [tF 29, ((.c (.str [115, 116, 111, 112])), true)],
 iM 2 28 30] none [0, 4, 28])
(.cond (.t 28)
(.seq
(.region [
 iM 0 31 0,
 iA 1 32 qbh [tF 31, ((.c (.str [59])), true)]] none [4])
(.seq
(.region [
 iL 0 33 4 true 4,
⟨1, (some 34), .build zD0 [(0, 4, (.t 33))] [], none⟩,
⟨2, (some 35), .mkI qay (.t 34), none⟩,
 iM 3 2 35,
 iC 4 3 (.bool true)] none [2, 3])
.ret))
(.seq
(.region [
 iM 0 37 0,
 iA 1 38 qai [tF 37, ((.c (.str [109, 97, 114, 107])), true)],
 iM 2 36 38] none [0, 4, 36])
(.cond (.t 36)
(.seq
(.region [
 iM 0 39 0,
 iL 1 40 4 true 4,
 iA 2 41 qir [tF 39, tT 40],
 iM 3 2 41,
 iC 4 3 (.bool true)] none [2, 3])
.ret)
(.seq
(.region [
 iM 0 43 0,
 iA 1 44 qai [tF 43, ((.c (.str [99, 104, 111, 111, 115, 101])), true)],
 iM 2 42 44] none [0, 4, 42])
(.cond (.t 42)
(.seq
(.region [
 iL 0 45 4 true 4,
 iL 1 46 4 true 4,
 iM 2 47 0,
 iZ 7 5 (.agg [kI 0, kI 0, kI 0, kI 0, .sl []]) [(4, ⟨5, 56⟩)],
 iA 3 48 qax [tF 47],
⟨4, (some 49), .build (.agg [kI 0, kI 0, kI 0, kI 0, .sl []]) [(0, 4, (.t 46)), (4, 1, (.t 48))] [], none⟩,
⟨5, (some 50), .buildSl ⟨5, 56⟩ (.agg [kI 0, kI 0, kI 0, kI 0, .sl []]) 1 [(0, (.t 49))], none⟩,
⟨6, (some 51), .build (.agg [kI 0, kI 0, kI 0, kI 0, .sl []]) [(0, 4, (.t 45)), (4, 1, (.t 50))] [], none⟩,
 iS 8 5 5 51] (some ([(0, 7), (0, 3), (0, 5), (1, 7), (1, 3), (7, 3), (7, 5)], [3])) [0, 5])
(.seq
(.seq
(.region [
 iM 0 52 0,
 iA 1 53 qal [tF 52],
⟨2, (some 54), .field 2 4 true (.t 53), none⟩,
 iZ 3 6 zD0 [],
 iS 4 4 6 54] none [0, 5, 6])
(.block 1
 qbe))
(.seq
(.region [
 iL 0 71 5 true 5,
⟨1, (some 72), .mkI qah (.t 71), none⟩,
 iM 2 2 72,
 iC 3 3 (.bool true)] none [2, 3])
.ret)))
(.seq
(.region [
 iM 0 74 0,
 iA 1 75 qai [tF 74, ((.c (.str [108, 111, 111, 112])), true)],
 iM 2 73 75] none [0, 4, 73])
(.cond (.t 73)
(.seq
(.region [
 iL 0 76 4 true 4,
 iM 1 77 0,
 iA 2 78 qax [tF 77],
⟨3, (some 79), .build (.agg [kI 0, kI 0, kI 0, kI 0, .sl []]) [(0, 4, (.t 76)), (4, 1, (.t 78))] [], none⟩,
⟨4, (some 80), .mkI qao (.t 79), none⟩,
 iM 5 2 80,
 iC 6 3 (.bool true)] (some ([(0, 2)], [2])) [2, 3])
.ret)
(.seq
(.region [
 iM 0 82 0,
 iA 1 83 qai [tF 82, ((.c (.str [105, 102])), true)],
 iM 2 81 83] none [0, 4, 81])
(.cond (.t 81)
(.seq
(.region [
 iL 0 84 4 true 4,
 iM 1 85 0,
 iZ 4 7 (.agg [kI 0, kI 0, kI 0, kI 0, .nili, .nili, .bool false, .sl [], .nilp]) [],
 iA 2 86 qdt [tF 85],
⟨3, (some 87), .build (.agg [kI 0, kI 0, kI 0, kI 0, .nili, .nili, .bool false, .sl [], .nilp]) [(0, 4, (.t 84)), (4, 3, (.t 86))] [], none⟩,
 iS 5 9 7 87] (some ([(0, 4), (0, 2), (4, 2)], [2])) [0, 7])
(.seq
(.region [
 iM 0 88 0,
 iA 1 89 qax [tF 88],
 iP 2 90 7 7,
 iS 3 1 90 89] none [0, 7])
(.seq
(.seq
(.region [
 iM 0 91 0,
 iA 1 92 qal [tF 91],
⟨2, (some 93), .field 2 4 true (.t 92), none⟩,
 iZ 3 8 zD0 [],
 iS 4 4 8 93] none [0, 7, 8])
(.seq
(.region [
 iM 0 94 0,
 iA 1 95 qai [tF 94, ((.c (.str [101, 108, 115, 101])), true)]] none [0, 7, 8, 95])
(.cond (.t 95)
(.region [
 iL 0 96 4 true 8,
⟨1, (some 97), .build zD0 [(0, 4, (.t 96))] [], none⟩,
 iM 2 98 0,
 iA 3 99 qax [tF 98],
⟨4, (some 100), .build (.agg [kI 0, kI 0, kI 0, kI 0, .sl []]) [(0, 4, (.t 97)), (4, 1, (.t 99))] [], none⟩,
⟨5, (some 101), .box 5 (.t 100), none⟩,
 iP 6 102 8 7,
 iS 7 1 102 101] (some ([(0, 3)], [3])) [7])
.skip)))
(.seq
(.region [
 iL 0 103 9 true 7,
⟨1, (some 104), .mkI qas (.t 103), none⟩,
 iM 2 2 104,
 iC 3 3 (.bool true)] none [2, 3])
.ret))))
(.seq
(.region [
 iM 0 106 0,
 iA 1 107 qai [tF 106, ((.c (.str [119, 104, 105, 108, 101])), true)],
 iM 2 105 107] none [0, 4, 105])
(.cond (.t 105)
(.seq
(.region [
 iM 0 108 0,
 iA 1 109 qdt [tF 108],
 iZ 2 9 zD2 [],
 iS 3 3 9 109] none [0, 4, 9])
(.seq
(.region [
 iL 0 110 4 true 4,
 iL 1 111 3 true 9,
 iM 2 112 0,
 iA 3 113 qax [tF 112],
⟨4, (some 114), .build (.agg [kI 0, kI 0, kI 0, kI 0, .nili, .nili, .bool false, .sl []]) [(0, 4, (.t 110)), (4, 3, (.t 111)), (7, 1, (.t 113))] [], none⟩,
⟨5, (some 115), .mkI qaj (.t 114), none⟩,
 iM 6 2 115,
 iC 7 3 (.bool true)] (some ([(0, 3), (1, 3)], [3])) [2, 3])
.ret))
.skip)))))))))))))))))
(.seq
(.region [
 iC 0 2 (.nili),
 iC 1 3 (.bool false)] none [2, 3])
.ret)))), [(.tmp 2, true), (.tmp 3, true)]⟩
def qj9 : AFun := ⟨5,
(.seq
(.region [
⟨0, (some 7), .box 4 (.t 2), none⟩] none [0, 1, 3, 4, 7])
(.region [
 iO 0 8 3,
 iM 1 9 0,
 iO 2 10 4,
 iM 3 11 1,
 iL 4 12 4 true 7,
⟨5, (some 13), .build (.agg [kI 0, kI 0, .str [], kI 0, kI 0, kI 0, kI 0]) [(0, 1, (.t 9)), (1, 1, (.t 10)), (2, 1, (.t 11)), (3, 4, (.t 12))] [], none⟩,
⟨6, (some 14), .buildSl ⟨7, 64⟩ (.agg [kI 0, kI 0, .str [], kI 0, kI 0, kI 0, kI 0]) 1 [(0, (.t 13))], none⟩,
⟨7, (some 15), .app ⟨7, 64⟩ (some (.t 8)) (.t 14), none⟩,
 iS 8 1 3 15] none [])), []⟩
def qjw : AFun := ⟨1,
(.seq
(.region [
 iK 0 2 0] none [0])
(.seq
(.seq
(.region [
 iM 0 10 0] none [10])
(.block 0
(.seq
(.region [
⟨0, (some 11), .tass qa1 true (.agg [kI 0, kI 0, kI 0, kI 0, kI 0, .str [], .nili]) (.t 10), none⟩,
 iE 1 12 11 1,
 iE 2 13 11 0] none [10, 12, 13])
(.cond (.t 12)
(.seq
(.region [
 iZ 0 3 (.agg [kI 0, kI 0, kI 0, kI 0, kI 0, .str [], .nili]) [],
 iS 1 7 3 13] none [3])
(.seq
(.seq
(.region [
 iP 0 14 6 3,
 iO 1 15 14,
⟨2, (some 16), .isN true true (.t 15), none⟩] none [16])
(.cond (.t 16)
(.seq
(.region [
 iK 0 2 3] none [2])
.ret)
.skip))
(.seq
(.region [
 iK 0 2 2] none [2])
.ret)))
(.seq
(.region [
⟨0, (some 17), .tass qaz true zD0 (.t 10), none⟩,
 iE 1 18 17 1,
 iE 2 19 17 0] none [10, 18, 19])
(.cond (.t 18)
(.seq
(.region [
 iZ 0 4 zD0 [],
 iS 1 4 4 19] none [])
(.seq
(.region [
 iK 0 2 4] none [2])
.ret))
(.seq
(.region [
⟨0, (some 20), .tass qay true zD0 (.t 10), none⟩,
 iE 1 21 20 1,
 iE 2 22 20 0] none [10, 21, 22])
(.cond (.t 21)
(.seq
(.region [
 iZ 0 5 zD0 [],
 iS 1 4 5 22] none [])
(.seq
(.region [
 iK 0 2 5] none [2])
.ret))
(.seq
(.region [
⟨0, (some 23), .tass qaw true (.agg [kI 0, kI 0, kI 0, kI 0, .str []]) (.t 10), none⟩,
 iE 1 24 23 1,
 iE 2 25 23 0] none [10, 24, 25])
(.cond (.t 24)
(.seq
(.region [
 iZ 0 6 (.agg [kI 0, kI 0, kI 0, kI 0, .str []]) [],
 iS 1 5 6 25] none [])
(.seq
(.region [
 iK 0 2 6] none [2])
.ret))
(.seq
(.region [
⟨0, (some 26), .tass qah true (.agg [kI 0, kI 0, kI 0, kI 0, .sl []]) (.t 10), none⟩,
 iE 1 27 26 1,
 iE 2 28 26 0] none [10, 27, 28])
(.cond (.t 27)
(.seq
(.region [
 iZ 0 7 (.agg [kI 0, kI 0, kI 0, kI 0, .sl []]) [(4, ⟨5, 56⟩)],
 iS 1 5 7 28] none [])
(.seq
(.region [
 iK 0 2 7] none [2])
.ret))
(.seq
(.region [
⟨0, (some 29), .tass qao true (.agg [kI 0, kI 0, kI 0, kI 0, .sl []]) (.t 10), none⟩,
 iE 1 30 29 1,
 iE 2 31 29 0] none [10, 30, 31])
(.cond (.t 30)
(.seq
(.region [
 iZ 0 8 (.agg [kI 0, kI 0, kI 0, kI 0, .sl []]) [],
 iS 1 5 8 31] none [])
(.seq
(.region [
 iK 0 2 9] none [2])
.ret))
(.seq
(.region [
⟨0, (some 32), .tass qas true (.agg [kI 0, kI 0, kI 0, kI 0, .nili, .nili, .bool false, .sl [], .nilp]) (.t 10), none⟩,
 iE 1 33 32 1,
 iE 2 34 32 0] none [33, 34])
(.cond (.t 33)
(.seq
(.region [
 iZ 0 9 (.agg [kI 0, kI 0, kI 0, kI 0, .nili, .nili, .bool false, .sl [], .nilp]) [],
 iS 1 9 9 34] none [])
(.seq
(.region [
 iK 0 2 10] none [2])
.ret))
.skip))))))))))))))))
(.seq
(.region [
 iK 0 2 12] none [2])
.ret))), [(.tmp 2, true)]⟩
def qe8 : AFun := ⟨1,
(.seq
(.region [
 iC 0 2 (.str [])] none [0])
(.seq
(.seq
(.region [
 iM 0 4 0,
 iA 1 5 qq8 [tT 4]] none [0, 5])
(.block 0
(.seq
(.region [
 iI 0 7 .eql 5 3,
 iM 1 6 7] none [0, 5, 6])
(.cond (.t 6)
(.seq
(.region [
 iM 0 8 0,
⟨1, (some 9), .tass qa1 false (.nilp) (.t 8), none⟩,
⟨2, (some 10), .field 5 1 false (.t 9), none⟩,
⟨3, (some 11), .bin .add (.t 10) (.c (.str [32, 58, 61, 32, 97, 110, 121])), none⟩,
 iM 4 2 11] none [2])
.ret)
(.seq
(.region [
 iI 0 13 .eql 5 2,
 iM 1 12 13] none [0, 5, 12])
(.cond (.t 12)
(.seq
(.region [
 iM 0 14 0,
⟨1, (some 15), .tass qa1 false (.nilp) (.t 14), none⟩,
 iZ 2 3 (.agg [kI 0, kI 0, kI 0, kI 0, kI 0, .str [], .nili]) [],
 iS 3 7 3 15] none [3])
(.seq
(.region [
 iP 0 16 5 3,
 iO 1 17 16,
⟨2, (some 18), .bin .add (.t 17) (.c (.str [32, 58, 61, 32])), none⟩,
 iP 3 19 6 3,
 iO 4 20 19,
 iA 5 21 qif [tT 20],
 iB 6 22 .add 18 21,
 iM 7 2 22] (some ([(1, 5)], [5])) [2])
.ret))
(.seq
(.region [
 iI 0 24 .eql 5 4,
 iM 1 23 24] none [0, 5, 23])
(.cond (.t 23)
(.seq
(.region [
 iC 0 2 (.str [115, 107, 105, 112])] none [2])
.ret)
(.seq
(.region [
 iI 0 26 .eql 5 5,
 iM 1 25 26] none [0, 5, 25])
(.cond (.t 25)
(.seq
(.region [
 iC 0 2 (.str [115, 116, 111, 112])] none [2])
.ret)
(.seq
(.region [
 iI 0 28 .eql 5 6,
 iM 1 27 28] none [0, 5, 27])
(.cond (.t 27)
(.seq
(.region [
 iM 0 29 0,
⟨1, (some 30), .tass qaw false (.nilp) (.t 29), none⟩,
⟨2, (some 31), .field 4 1 false (.t 30), none⟩,
⟨3, (some 32), .bin .add (.c (.str [109, 97, 114, 107, 32])) (.t 31), none⟩,
 iM 4 2 32] none [2])
.ret)
(.seq
(.region [
 iI 0 34 .eql 5 7,
 iM 1 33 34] none [0, 5, 33])
(.cond (.t 33)
(.seq
(.region [
 iC 0 2 (.str [99, 104, 111, 111, 115, 101])] none [2])
.ret)
(.seq
(.region [
 iI 0 36 .eql 5 9,
 iM 1 35 36] none [0, 5, 35])
(.cond (.t 35)
(.seq
(.region [
 iC 0 2 (.str [108, 111, 111, 112])] none [2])
.ret)
(.seq
(.region [
 iI 0 38 .eql 5 10,
 iM 1 37 38] none [0, 37])
(.cond (.t 37)
(.seq
(.region [
 iM 0 39 0,
⟨1, (some 40), .tass qas false (.nilp) (.t 39), none⟩,
⟨2, (some 41), .field 4 3 true (.t 40), none⟩,
 iA 3 42 qku [tT 41],
⟨4, (some 43), .bin .add (.c (.str [105, 102, 32])) (.t 42), none⟩,
 iM 5 2 43] none [2])
.ret)
.skip))))))))))))))))))
(.seq
(.region [
 iM 0 44 0,
⟨1, (some 45), .tass qaj false (.nilp) (.t 44), none⟩,
⟨2, (some 46), .field 4 3 true (.t 45), none⟩,
 iA 3 47 qku [tT 46],
⟨4, (some 48), .bin .add (.c (.str [119, 104, 105, 108, 101, 32])) (.t 47), none⟩,
 iM 5 2 48] none [2])
.ret))), [(.tmp 2, true)]⟩
def qcn : ACode :=
(.seq
(.region [
 iB 0 9 .lss 8 7] none [0, 6, 7, 8, 9])
(.seq
(.cond (.t 9)
.skip
(.exit 0 []))
(.seq
(.block 1
(.seq
(.region [
 iX 0 10 ⟨1, 16⟩ 6 8,
 iO 1 11 10,
 iM 2 5 11] none [0, 5, 6, 7, 8])
(.seq
(.region [
 iM 0 12 0,
 iH 1 13 12,
 iP 2 14 1 13,
 iO 3 15 14,
 iI 4 16 .add 15 1,
 iH 5 17 12,
 iP 6 18 1 17,
 iS 7 1 18 16] none [0, 5, 6, 7, 8])
(.seq
(.seq
(.region [
 iM 0 19 5,
 iM 1 20 0,
 iH 2 21 20,
 iP 3 22 0 21,
 iO 4 23 22,
 iA 5 24 qp8 [tT 19, tT 23],
⟨6, (some 25), .un .not (.t 24), none⟩] none [0, 5, 6, 7, 8, 25])
(.cond (.t 25)
(.seq
(.seq
(.region [
 iM 0 26 0,
 iH 1 27 26,
 iP 2 28 2 27,
 iO 3 29 28,
 iN 4 30 false 29,
 iI 5 31 .eql 30 0] none [0, 5, 6, 7, 8, 31])
(.cond (.t 31)
(.region [
 iM 0 32 0,
 iM 1 33 5,
⟨2, (some 34), .inv [(qfu, qaa, none), (qah, qaa, some (0, 4, true)), (qes, qaa, some (0, 4, true)), (qao, qaa, some (0, 4, true)), (qaj, qaa, some (0, 4, true)), (qas, qaa, some (0, 4, true)), (qaz, qaa, some (0, 4, true)), (qay, qaa, some (0, 4, true)), (qa1, qaa, some (0, 4, true)), (qaw, qaa, some (0, 4, true))] (.t 33) [], none⟩,
 iH 3 35 32,
 iF 4 36 3 4 true 35,
 iS 5 4 36 34] none [0, 5, 6, 7, 8])
.skip))
(.region [
 iM 0 37 0,
 iM 1 38 0,
 iH 2 39 38,
 iP 3 40 2 39,
 iO 4 41 40,
 iM 5 42 0,
 iH 6 43 42,
 iP 7 44 1 43,
 iO 8 45 44,
⟨9, (some 46), .buildSl ⟨1, 8⟩ (kI 0) 1 [(0, (.t 45))], none⟩,
⟨10, (some 47), .app ⟨1, 8⟩ (some (.t 41)) (.t 46), none⟩,
 iH 11 48 37,
 iP 12 49 2 48,
 iS 13 1 49 47] (some ([(4, 9)], [10])) [0, 5, 6, 7, 8]))
.skip))
(.region [
 iM 0 50 0,
 iM 1 51 5,
 iA 2 52 qkg [tF 50, tT 51]] none [0, 6, 7, 8])))))
(.region [
 iI 0 53 .add 8 1,
 iM 1 8 53] none [0, 6, 7, 8]))))
def qe0 : ACode := .loop [0, 6, 7, 8] qcn
def qgq : AFun := ⟨2,
(.seq
(.region [
 iM 0 6 1,
 iN 1 7 false 6,
 iK 2 8 0] none [0, 6, 7, 8])
(.block 0
 qe0)), []⟩
def qf4 : AFun := ⟨1,
(.seq
(.region [
 iC 0 2 (.sl [])] none [0])
(.seq
(.region [
 iM 0 3 0,
 iH 1 4 3,
 iP 2 5 5 4,
 iO 3 6 5,
 iM 4 2 6] none [2])
.ret)), [(.tmp 2, true)]⟩
def qft : AFun := ⟨1,
(.seq
(.region [
 iC 0 2 (.bool false)] none [0])
(.seq
(.region [
 iM 0 7 0,
 iA 1 8 qph [tT 7],
 iM 2 6 8,
 iE 3 9 6 0,
 iE 4 10 6 1,
 iE 5 11 6 2,
 iZ 6 5 zD0 [],
 iM 7 3 9,
 iM 8 4 10,
 iS 9 4 5 11] none [0, 3, 4])
(.seq
(.region [
 iM 0 12 4,
 iI 1 13 .eql 12 0,
 iM 2 14 13,
⟨3, (some 15), .mv (.t 3), (some (14, true))⟩,
⟨4, (some 16), .len false (.t 15), (some (14, true))⟩,
⟨5, (some 17), .bin .eql (.t 16) (.c (kI 2)), (some (14, true))⟩,
⟨6, (some 18), .pick (.t 14) (.t 17) (.c (.bool false)), none⟩,
 iM 7 19 18,
⟨8, (some 20), .mv (.t 3), (some (19, true))⟩,
⟨9, (some 21), .idxA ⟨6, 56⟩ (.t 20) (.c (kI 0)), (some (19, true))⟩,
⟨10, (some 22), .fieldA 0 1 false (.t 21), (some (19, true))⟩,
⟨11, (some 23), .load 1 false (.t 22), (some (19, true))⟩,
⟨12, (some 24), .bin .eql (.t 23) (.c (kI 1)), (some (19, true))⟩,
⟨13, (some 25), .pick (.t 19) (.t 24) (.c (.bool false)), none⟩,
 iM 14 26 25,
⟨15, (some 27), .mv (.t 3), (some (26, true))⟩,
⟨16, (some 28), .idxA ⟨6, 56⟩ (.t 27) (.c (kI 0)), (some (26, true))⟩,
⟨17, (some 29), .fieldA 1 1 false (.t 28), (some (26, true))⟩,
⟨18, (some 30), .load 1 false (.t 29), (some (26, true))⟩,
⟨19, (some 31), .mv (.t 0), (some (26, true))⟩,
⟨20, (some 32), .bin .eql (.t 30) (.t 31), (some (26, true))⟩,
⟨21, (some 33), .pick (.t 26) (.t 32) (.c (.bool false)), none⟩,
 iM 22 2 33] none [2])
.ret))), [(.tmp 2, true)]⟩
def qbc : ACode :=
(.block 1
(.block 2
(.seq
(.region [
 iM 0 8 0,
 iA 1 9 qai [tF 8, ((.c (.str [42])), true)],
 iM 2 7 9] none [0, 3, 7])
(.cond (.t 7)
(.region [
 iM 0 10 3,
 iM 1 11 0,
 iA 2 12 qb0 [tF 11],
⟨3, (some 13), .build zD1 [(0, 1, (.c (.int .u8 42))), (1, 1, (.t 10)), (2, 1, (.t 12))] [], none⟩,
⟨4, (some 14), .mkI qce (.t 13), none⟩,
 iM 5 3 14] none [0, 3])
(.seq
(.region [
 iM 0 16 0,
 iA 1 17 qai [tF 16, ((.c (.str [47])), true)],
 iM 2 15 17] none [0, 3, 15])
(.cond (.t 15)
(.region [
 iM 0 18 3,
 iM 1 19 0,
 iA 2 20 qb0 [tF 19],
⟨3, (some 21), .build zD1 [(0, 1, (.c (.int .u8 47))), (1, 1, (.t 18)), (2, 1, (.t 20))] [], none⟩,
⟨4, (some 22), .mkI qce (.t 21), none⟩,
 iM 5 3 22] none [0, 3])
(.seq
(.region [
 iM 0 24 0,
 iA 1 25 qai [tF 24, ((.c (.str [37])), true)],
 iM 2 23 25] none [0, 3, 23])
(.cond (.t 23)
(.region [
 iM 0 26 3,
 iM 1 27 0,
 iA 2 28 qb0 [tF 27],
⟨3, (some 29), .build zD1 [(0, 1, (.c (.int .u8 37))), (1, 1, (.t 26)), (2, 1, (.t 28))] [], none⟩,
⟨4, (some 30), .mkI qce (.t 29), none⟩,
 iM 5 3 30] none [0, 3])
(.seq
(.region [
 iM 0 6 3,
 iM 1 2 6] none [2])
.ret)))))))))
def qcl : ACode := .loop [0, 3] qbc
def qdo : AFun := ⟨1,
(.seq
(.region [
 iC 0 2 (.nili)] none [0])
(.seq
(.region [
 iM 0 4 0,
 iA 1 5 qb0 [tF 4],
 iM 2 3 5] none [0, 3])
(.block 0
 qcl))), [(.tmp 2, true)]⟩
def qbf : AFun := ⟨2,
(.seq
(.region [
 iK 0 4 0,
 iC 1 5 (.nili)] none [0, 1])
(.seq
(.region [
 iM 0 6 0,
 iA 1 7 qby [tF 6]] none [0, 1])
(.seq
(.region [
 iM 0 8 0,
 iM 1 9 0,
 iH 2 10 9,
 iP 3 11 1 10,
 iO 4 12 11,
 iM 5 13 1,
⟨6, (some 14), .app ⟨1, 1000005⟩ (some (.t 12)) (.t 13), none⟩,
 iH 7 15 8,
 iP 8 16 1 15,
 iS 9 1 16 14] none [1])
(.seq
(.region [
 iM 0 17 1,
 iN 1 18 true 17,
 iM 2 4 18,
 iC 3 5 (.nili)] none [4, 5])
.ret)))), [(.tmp 4, true), (.tmp 5, true)]⟩
def qbl : AFun := ⟨2,
(.seq
(.region [
 iC 0 4 (.nili)] none [0, 1])
(.seq
(.region [
 iM 0 5 0,
 iA 1 6 qby [tF 5]] none [0, 1])
(.seq
(.region [
 iM 0 7 0,
 iM 1 8 0,
 iH 2 9 8,
 iP 3 10 1 9,
 iO 4 11 10,
 iM 5 12 1,
⟨6, (some 13), .buildSl ⟨1, 1⟩ (.int .u8 0) 1 [(0, (.t 12))], none⟩,
⟨7, (some 14), .app ⟨1, 1000005⟩ (some (.t 11)) (.t 13), none⟩,
 iH 8 15 7,
 iP 9 16 1 15,
 iS 10 1 16 14] none [])
(.seq
(.region [
 iC 0 4 (.nili)] none [4])
.ret)))), [(.tmp 4, true)]⟩
def qg2 : AFun := ⟨3,
(.seq
(.seq
(.region [
 iM 0 6 2,
⟨1, (some 7), .un .not (.t 6), none⟩] none [0, 1, 7])
(.cond (.t 7)
(.seq
(.region [
 iM 0 8 0,
 iM 1 9 1,
 iA 2 10 qb5 [tF 8, tT 9]] none [])
.ret)
.skip))
(.seq
(.region [
 iM 0 11 0,
 iA 1 12 qbz [tF 11, ((.c (.int .u8 40)), true)]] none [0, 1])
(.seq
(.region [
 iM 0 13 0,
 iM 1 14 1,
 iA 2 15 qb5 [tF 13, tT 14]] none [0])
(.region [
 iM 0 16 0,
 iA 1 17 qbz [tF 16, ((.c (.int .u8 41)), true)]] none [])))), []⟩
def qlg : AFun := ⟨1,
(.seq
(.region [
 iC 0 2 (.bool false)] none [0])
(.seq
(.region [
 iM 0 6 0,
⟨1, (some 7), .tass qce true zD1 (.t 6), none⟩,
 iM 2 5 7,
 iE 3 8 5 0,
 iE 4 9 5 1,
 iZ 5 3 zD1 [],
 iS 6 3 3 8,
 iM 7 4 9] none [4])
(.seq
(.region [
 iM 0 10 4,
⟨1, (some 11), .un .not (.t 10), none⟩,
 iM 2 2 11] none [2])
.ret))), [(.tmp 2, true)]⟩
def qlm : AFun := ⟨1,
(.seq
(.region [
 iC 0 2 (.bool false)] none [0])
(.seq
(.region [
 iM 0 3 0,
⟨1, (some 4), .bin .eql (.t 3) (.c (.int .u8 43)), none⟩,
 iM 2 5 4,
⟨3, (some 6), .mv (.t 0), (some (5, false))⟩,
⟨4, (some 7), .bin .eql (.t 6) (.c (.int .u8 45)), (some (5, false))⟩,
⟨5, (some 8), .pick (.t 5) (.c (.bool true)) (.t 7), none⟩,
 iM 6 2 8] none [2])
.ret)), [(.tmp 2, true)]⟩
def qh9 : AFun := ⟨1,
(.seq
(.region [
 iC 0 2 (.bool false)] none [0])
(.seq
(.region [
 iM 0 6 0,
⟨1, (some 7), .tass qce true zD1 (.t 6), none⟩,
 iM 2 5 7,
 iE 3 8 5 0,
 iE 4 9 5 1,
 iZ 5 3 zD1 [],
 iS 6 3 3 8,
 iM 7 4 9] none [3, 4])
(.seq
(.region [
 iM 0 10 4,
 iM 1 11 10,
⟨2, (some 12), .fieldA 0 1 false (.t 3), (some (11, true))⟩,
⟨3, (some 13), .load 1 false (.t 12), (some (11, true))⟩,
⟨4, (some 14), .call qjn [tT 13], (some (11, true))⟩,
⟨5, (some 15), .pick (.t 11) (.t 14) (.c (.bool false)), none⟩,
 iM 6 2 15] none [2])
.ret))), [(.tmp 2, true)]⟩
def qf6 : ACode :=
(.seq
(.region [
 iB 0 15 .lss 14 13] none [0, 2, 4, 12, 13, 14, 15])
(.seq
(.cond (.t 15)
.skip
(.exit 0 [0, 2, 4]))
(.seq
(.block 1
(.seq
(.region [
 iX 0 16 ⟨2, 32⟩ 12 14,
 iL 1 17 2 true 16,
 iZ 2 6 (.agg [.bool false, .sl []]) [],
 iS 3 2 6 17] none [0, 2, 4, 6, 12, 13, 14])
(.seq
(.region [
 iL 0 18 2 true 6,
 iA 1 19 qid [tT 18],
 iI 2 20 .neq 19 0] none [0, 2, 4, 12, 13, 14, 20])
(.cond (.t 20)
(.seq
(.region [
⟨0, (some 21), .build (.agg [.bool false, .sl []]) [] [], none⟩,
 iS 1 2 2 21,
 iC 2 3 (.bool false)] none [2, 3])
.ret)
.skip))))
(.region [
 iI 0 22 .add 14 1,
 iM 1 14 22] none [0, 2, 4, 12, 13, 14]))))
def qf5 : ACode := .loop [0, 2, 4, 12, 13, 14] qf6
def qgb : AFun := ⟨1,
(.seq
(.region [
 iZ 0 2 (.agg [.bool false, .sl []]) [],
 iC 1 3 (.bool false)] none [0, 2])
(.seq
(.region [
 iM 0 7 0,
 iN 1 8 false 7,
 iI 2 9 .sub 8 1,
 iM 3 4 9] none [0, 2, 4])
(.seq
(.seq
(.region [
 iM 0 10 0,
 iM 1 11 4,
⟨2, (some 12), .slice (some ⟨2, 32⟩) (.t 10) none (some (.t 11)), none⟩,
 iN 3 13 false 12,
 iK 4 14 0] none [0, 2, 4, 12, 13, 14])
(.block 0
 qf5))
(.seq
(.region [
 iM 0 23 0,
 iM 1 24 4,
 iX 2 25 ⟨2, 32⟩ 23 24,
 iL 3 26 2 true 25,
 iS 4 2 2 26,
 iC 5 3 (.bool true)] none [2, 3])
.ret)))), [(.cell 2 2 true, true), (.tmp 3, true)]⟩
def qco : AFun := ⟨2,
(.seq
(.region [
⟨0, (some 2), .box 2 (.t 0), none⟩,
⟨1, (some 3), .box 2 (.t 1), none⟩,
 iZ 2 4 (.agg [.bool false, .sl []]) [],
 iZ 3 5 (.agg [.bool false, .sl []]) [],
 iC 4 6 (.bool false)] none [2, 3, 4, 5])
(.seq
(.region [
 iP 0 11 1 2,
 iO 1 12 11,
 iP 2 13 1 3,
 iO 3 14 13,
 iA 4 15 qmy [tT 12, tT 14],
 iM 5 10 15,
 iE 6 16 10 0,
 iE 7 17 10 1,
 iE 8 18 10 2,
 iM 9 7 16,
 iM 10 8 17,
 iM 11 6 18] none [2, 3, 4, 5, 6, 7, 8])
(.seq
(.seq
(.region [
 iM 0 19 6,
⟨1, (some 20), .un .not (.t 19), none⟩] none [2, 3, 4, 5, 7, 8, 20])
(.cond (.t 20)
(.seq
(.region [
⟨0, (some 21), .build (.agg [.bool false, .sl []]) [] [], none⟩,
⟨1, (some 22), .build (.agg [.bool false, .sl []]) [] [], none⟩,
 iS 2 2 4 21,
 iS 3 2 5 22,
 iC 4 6 (.bool false)] none [4, 5, 6])
.ret)
.skip))
(.seq
(.region [
 iP 0 23 0 2,
 iO 1 24 23,
 iP 2 25 0 3,
 iO 3 26 25,
⟨4, (some 27), .eqB false (.t 24) (.t 26), none⟩,
 iM 5 28 7,
 iP 7 30 0 2,
 iO 8 31 30,
 iM 9 32 8,
 iA 6 29 qb4 [tT 27, tT 28],
 iA 10 33 qb4 [tT 31, tT 32],
 iS 11 2 4 29,
 iS 12 2 5 33] (some ([(8, 6)], [6, 10])) [3, 4, 5])
(.seq
(.seq
(.region [
 iP 0 34 0 5,
 iO 1 35 34,
⟨2, (some 36), .un .not (.t 35), none⟩] none [3, 4, 5, 36])
(.cond (.t 36)
(.seq
(.region [
 iL 0 37 2 true 4,
 iL 1 38 2 true 5,
 iS 2 2 4 37,
 iS 3 2 5 38,
 iC 4 6 (.bool true)] (some ([(1, 2)], [])) [4, 5, 6])
.ret)
.skip))
(.seq
(.region [
 iA 0 39 qll [((.c (kI 1)), true)],
 iZ 1 9 (.agg [.bool false, .sl []]) [],
 iS 2 2 9 39] none [3, 4, 5, 9])
(.seq
(.seq
(.region [
 iL 0 40 2 true 3,
 iA 1 41 qid [tT 40],
 iI 2 42 .lss 41 0] none [3, 4, 5, 9, 42])
(.cond (.t 42)
(.seq
(.region [
 iL 0 43 2 true 4,
 iL 1 44 2 true 9,
 iL 3 46 2 true 5,
 iL 4 47 2 true 3,
 iA 2 45 qe5 [tT 43, tT 44],
 iA 5 48 qh4 [tT 46, tT 47],
 iS 6 2 4 45,
 iS 7 2 5 48,
 iC 8 6 (.bool true)] (some ([(3, 2), (4, 2)], [2, 5])) [4, 5, 6])
.ret)
.skip))
(.seq
(.region [
 iL 0 49 2 true 4,
 iL 1 50 2 true 9,
 iL 3 52 2 true 5,
 iL 4 53 2 true 3,
 iA 2 51 qh4 [tT 49, tT 50],
 iA 5 54 qe5 [tT 52, tT 53],
 iS 6 2 4 51,
 iS 7 2 5 54,
 iC 8 6 (.bool true)] (some ([(3, 2), (4, 2)], [2, 5])) [4, 5, 6])
.ret)))))))), [(.cell 4 2 true, true), (.cell 5 2 true, true), (.tmp 6, true)]⟩
def qe7 : AFun := ⟨2,
(.seq
(.region [
 iC 0 4 (.sl []),
 iC 1 5 (.sl []),
 iC 2 6 (.bool false)] none [0, 1])
(.seq
(.region [
 iM 0 9 0,
 iA 1 10 qav [tT 9],
 iM 2 11 1,
 iA 3 12 qav [tT 11],
 iM 4 0 10,
 iM 5 1 12] none [0, 1])
(.seq
(.block 0
(.seq
(.region [
 iM 0 14 1,
 iN 1 15 false 14,
 iI 2 16 .eql 15 0,
 iM 3 13 16] none [0, 1, 13])
(.cond (.t 13)
(.seq
(.region [
 iC 0 4 (.sl []),
 iC 1 5 (.sl []),
 iC 2 6 (.bool false)] none [4, 5, 6])
.ret)
(.seq
(.region [
 iM 0 18 0,
 iM 1 19 1,
 iA 2 20 qq7 [tT 18, tT 19],
 iI 3 21 .lss 20 0,
 iM 4 17 21] none [0, 1, 17])
(.cond (.t 17)
(.seq
(.region [
 iM 0 22 0,
 iA 1 23 qmj [tT 22],
 iC 2 4 (.sl []),
 iM 3 5 23,
 iC 4 6 (.bool true)] none [4, 5, 6])
.ret)
(.seq
(.region [
 iM 0 25 1,
 iN 1 26 false 25,
 iI 2 27 .eql 26 1,
 iM 3 24 27] none [0, 1, 24])
(.cond (.t 24)
(.seq
(.region [
 iM 0 29 0,
 iM 1 30 1,
⟨2, (some 31), .idxA ⟨1, 4⟩ (.t 30) (.c (kI 0)), none⟩,
 iO 3 32 31,
 iA 4 33 qmx [tT 29, tT 32],
 iM 5 28 33,
 iE 6 34 28 0,
 iE 7 35 28 1,
 iM 8 7 34,
 iM 9 8 35] none [7, 8])
(.seq
(.region [
 iM 0 36 7,
 iM 1 37 8,
⟨2, (some 38), .conv (.int .u64) (.t 37), none⟩,
 iA 3 39 qk8 [tT 38],
 iM 4 4 36,
 iM 5 5 39,
 iC 6 6 (.bool true)] none [4, 5, 6])
.ret))
.skip)))))))
(.seq
(.region [
 iM 0 41 0,
 iM 1 42 1,
 iA 2 43 qty [tT 41, tT 42],
 iM 3 40 43,
 iE 4 44 40 0,
 iE 5 45 40 1,
 iM 6 4 44,
 iM 7 5 45] none [4, 5])
(.seq
(.region [
 iM 0 46 4,
 iM 1 47 5,
 iM 2 4 46,
 iM 3 5 47,
 iC 4 6 (.bool true)] none [4, 5, 6])
.ret))))), [(.tmp 4, true), (.tmp 5, true), (.tmp 6, true)]⟩
def qli : AFun := ⟨0,
(.seq
(.region [
 iZ 0 0 zD0 []] none [0])
(.seq
(.region [
⟨0, (some 1), .build zD0 [(2, 1, (.c (kI 1))), (3, 1, (.c (kI 1)))] [], none⟩,
 iS 1 4 0 1] none [0])
.ret)), [(.cell 0 4 true, true)]⟩
def qdi : ACode :=
(.seq
(.seq
(.region [
 iM 0 13 2,
 iI 1 14 .geq 13 0,
 iM 2 15 14,
⟨3, (some 16), .mv (.t 2), (some (15, true))⟩,
⟨4, (some 17), .bin .neq (.t 16) (.c (kI 10)), (some (15, true))⟩,
⟨5, (some 18), .pick (.t 15) (.t 17) (.c (.bool false)), none⟩] none [0, 18])
(.cond (.t 18)
.skip
(.exit 3 [0])))
(.seq
(.block 4
(.region [
 iM 0 21 0,
 iA 1 22 qcz [tF 21]] none [0]))
(.region [
 iM 0 19 0,
 iA 1 20 qc0 [tF 19],
 iM 2 2 20] none [0, 2])))
def qfa : ACode := .loop [0, 2] qdi
def qdh : ACode :=
(.block 1
(.seq
(.region [
 iM 0 3 0,
 iA 1 4 qdn [tF 3]] none [0, 4])
(.block 2
(.seq
(.region [
 iI 0 6 .eql 4 1,
 iM 1 5 6] none [0, 4, 5])
(.cond (.t 5)
(.region [
 iM 0 7 0,
 iA 1 8 qcz [tF 7]] none [0])
(.seq
(.region [
 iI 0 10 .eql 4 6,
 iM 1 9 10] none [0, 9])
(.cond (.t 9)
(.seq
(.region [
 iM 0 11 0,
 iA 1 12 qc0 [tF 11],
 iM 2 2 12] none [0, 2])
(.block 3
 qfa))
.ret)))))))
def qe9 : ACode := .loop [0] qdh
def qeq : AFun := ⟨1,
(.block 0
 qe9), []⟩
def qa8 : AFun := ⟨1,
(.seq
(.region [
 iZ 0 2 (.agg [kI 0, .str [], kI 0, kI 0, kI 0, kI 0]) []] none [0, 2])
(.seq
(.region [
 iM 0 7 0,
 iH 1 8 7,
 iF 2 9 1 4 true 8,
 iL 3 10 4 true 9,
⟨4, (some 11), .build (.agg [kI 0, .str [], kI 0, kI 0, kI 0, kI 0]) [(2, 4, (.t 10))] [], none⟩,
 iZ 5 3 (.agg [kI 0, .str [], kI 0, kI 0, kI 0, kI 0]) [],
 iS 6 6 3 11] none [0, 2, 3])
(.seq
(.seq
(.region [
 iM 0 12 0,
 iA 1 13 qdn [tF 12]] none [0, 2, 3, 13])
(.block 0
(.seq
(.region [
 iI 0 21 .eql 13 2,
 iM 1 20 21] none [0, 2, 3, 13, 20])
(.cond (.t 20)
(.seq
(.region [
 iP 0 22 0 3,
⟨1, none, .store 1 (.t 22) (.c (kI 1)), none⟩] none [0, 2, 3])
(.seq
(.region [
 iM 0 23 0,
 iA 1 24 qdm [tF 23, ((.c (.fn qiw [])), false)],
 iP 2 25 1 3,
 iS 3 1 25 24] none [0, 2, 3])
(.seq
(.region [
 iP 0 26 1 3,
 iO 1 27 26,
 iA 2 28 qfl [tT 27],
 iI 3 29 .gtr 28 16] none [0, 2, 3, 29])
(.cond (.t 29)
(.region [
 iM 0 30 0,
 iF 1 31 2 4 true 3,
 iL 2 32 4 true 31,
 iA 3 33 qew [tF 30, ((.c (kI 42)), true), tT 32]] none [2, 3])
.skip))))
(.seq
(.region [
 iI 0 35 .eql 13 3,
 iM 1 34 35] none [0, 2, 3, 13, 34])
(.cond (.t 34)
(.seq
(.region [
 iP 0 36 0 3,
⟨1, none, .store 1 (.t 36) (.c (kI 2)), none⟩] none [0, 2, 3])
(.seq
(.region [
 iM 0 37 0,
 iA 1 38 qdm [tF 37, ((.c (.fn qiv [])), false)],
 iM 2 4 38] none [0, 2, 3, 4])
(.seq
(.region [
 iM 0 40 4,
 iA 1 41 qk9 [tT 40],
 iM 2 39 41,
 iE 3 42 39 0,
 iE 4 43 39 1,
 iM 5 5 42,
 iM 6 6 43] none [0, 2, 3, 5])
(.seq
(.region [
 iM 0 44 5,
 iA 1 45 qmk [tT 44],
 iP 2 46 1 3,
 iS 3 1 46 45] none [0, 2, 3, 5])
(.seq
(.region [
 iM 0 47 5,
 iN 1 48 false 47,
 iI 2 49 .gtr 48 32] none [0, 2, 3, 49])
(.cond (.t 49)
(.region [
 iM 0 50 0,
 iF 1 51 2 4 true 3,
 iL 2 52 4 true 51,
 iA 3 53 qew [tF 50, ((.c (kI 2)), true), tT 52]] none [2, 3])
.skip))))))
(.seq
(.region [
 iI 0 55 .eql 13 5,
 iM 1 54 55] none [0, 2, 3, 13, 54])
(.cond (.t 54)
(.seq
(.region [
 iP 0 56 0 3,
⟨1, none, .store 1 (.t 56) (.c (kI 3)), none⟩] none [0, 2, 3])
(.region [
 iM 0 57 0,
 iA 1 58 qk4 [tF 57],
 iP 2 59 1 3,
 iS 3 1 59 58] none [2, 3]))
(.seq
(.region [
 iI 0 61 .eql 13 (-1),
 iM 1 60 61] none [0, 2, 3, 60])
(.cond (.t 60)
.skip
(.region [
 iM 0 14 0,
 iM 1 15 0,
 iH 2 16 15,
 iF 3 17 1 4 true 16,
 iL 4 18 4 true 17,
 iA 5 19 qhj [tF 14, ((.c (kI 41)), true), tT 18]] none [2, 3])))))))))))
(.seq
(.region [
 iL 0 62 6 true 3,
 iS 1 6 2 62] none [2])
.ret)))), [(.cell 2 6 true, true)]⟩
def ql7 : AFun := ⟨1,
(.seq
(.region [
 iC 0 2 (.bool false)] none [0])
(.seq
(.seq
(.region [
 iM 0 3 0] none [3])
(.block 0
(.seq
(.seq
(.region [
⟨0, (some 5), .bin .eql (.t 3) (.c (.str [118, 97, 114, 115])), none⟩,
 iM 1 4 5] none [3, 4])
(.cond (.t 4)
.skip
(.seq
(.region [
⟨0, (some 6), .bin .eql (.t 3) (.c (.str [97, 110, 121])), none⟩,
 iM 1 4 6] none [3, 4])
(.cond (.t 4)
.skip
(.seq
(.region [
⟨0, (some 7), .bin .eql (.t 3) (.c (.str [115, 107, 105, 112])), none⟩,
 iM 1 4 7] none [3, 4])
(.cond (.t 4)
.skip
(.seq
(.region [
⟨0, (some 8), .bin .eql (.t 3) (.c (.str [115, 116, 111, 112])), none⟩,
 iM 1 4 8] none [3, 4])
(.cond (.t 4)
.skip
(.seq
(.region [
⟨0, (some 9), .bin .eql (.t 3) (.c (.str [109, 97, 114, 107])), none⟩,
 iM 1 4 9] none [3, 4])
(.cond (.t 4)
.skip
(.seq
(.region [
⟨0, (some 10), .bin .eql (.t 3) (.c (.str [99, 104, 111, 111, 115, 101])), none⟩,
 iM 1 4 10] none [3, 4])
(.cond (.t 4)
.skip
(.seq
(.region [
⟨0, (some 11), .bin .eql (.t 3) (.c (.str [111, 114])), none⟩,
 iM 1 4 11] none [3, 4])
(.cond (.t 4)
.skip
(.seq
(.region [
⟨0, (some 12), .bin .eql (.t 3) (.c (.str [108, 111, 111, 112])), none⟩,
 iM 1 4 12] none [3, 4])
(.cond (.t 4)
.skip
(.seq
(.region [
⟨0, (some 13), .bin .eql (.t 3) (.c (.str [105, 102])), none⟩,
 iM 1 4 13] none [3, 4])
(.cond (.t 4)
.skip
(.seq
(.region [
⟨0, (some 14), .bin .eql (.t 3) (.c (.str [101, 108, 115, 101])), none⟩,
 iM 1 4 14] none [3, 4])
(.cond (.t 4)
.skip
(.region [
⟨0, (some 15), .bin .eql (.t 3) (.c (.str [119, 104, 105, 108, 101])), none⟩,
 iM 1 4 15] none [4])))))))))))))))))))))
(.cond (.t 4)
(.seq
(.region [
 iC 0 2 (.bool true)] none [2])
.ret)
.skip))))
(.seq
(.region [
 iC 0 2 (.bool false)] none [2])
.ret))), [(.tmp 2, true)]⟩
def qel : ACode :=
(.seq
(.region [
⟨0, (some 5), .next (.t 4), none⟩,
 iE 1 6 5 0] none [2, 4, 6])
(.seq
(.cond (.t 6)
.skip
(.exit 0 [2]))
(.block 1
(.region [
 iM 0 7 2,
 iI 1 8 .add 7 1,
 iM 2 2 8] none [2, 4]))))
def qek : ACode := .loop [2, 4] qel
def qdv : AFun := ⟨1,
(.seq
(.region [
 iK 0 2 0] none [0, 2])
(.seq
(.seq
(.region [
 iM 0 3 0,
⟨1, (some 4), .range (.t 3), none⟩] none [2, 4])
(.block 0
 qek))
(.seq
(.region [
 iM 0 9 2,
 iM 1 2 9] none [2])
.ret))), [(.tmp 2, true)]⟩
def qj0 : AFun := ⟨1,
(.seq
(.region [
 iK 0 2 0] none [0])
(.seq
(.block 0
(.seq
(.region [
 iM 0 4 0,
⟨1, (some 5), .bin .lss (.t 4) (.c (.int .i32 0)), none⟩,
 iM 2 3 5] none [0, 3])
(.cond (.t 3)
(.seq
(.region [
 iK 0 2 (-1)] none [2])
.ret)
(.seq
(.region [
 iM 0 7 0,
⟨1, (some 8), .bin .leq (.t 7) (.c (.int .i32 127)), none⟩,
 iM 2 6 8] none [0, 6])
(.cond (.t 6)
(.seq
(.region [
 iK 0 2 1] none [2])
.ret)
(.seq
(.region [
 iM 0 10 0,
⟨1, (some 11), .bin .leq (.t 10) (.c (.int .i32 2047)), none⟩,
 iM 2 9 11] none [0, 9])
(.cond (.t 9)
(.seq
(.region [
 iK 0 2 2] none [2])
.ret)
(.seq
(.region [
 iM 0 13 0,
⟨1, (some 14), .bin .leq (.c (.int .i32 55296)) (.t 13), none⟩,
 iM 2 15 14,
⟨3, (some 16), .mv (.t 0), (some (15, true))⟩,
⟨4, (some 17), .bin .leq (.t 16) (.c (.int .i32 57343)), (some (15, true))⟩,
⟨5, (some 18), .pick (.t 15) (.t 17) (.c (.bool false)), none⟩,
 iM 6 12 18] none [0, 12])
(.cond (.t 12)
(.seq
(.region [
 iK 0 2 (-1)] none [2])
.ret)
(.seq
(.region [
 iM 0 20 0,
⟨1, (some 21), .bin .leq (.t 20) (.c (.int .i32 65535)), none⟩,
 iM 2 19 21] none [0, 19])
(.cond (.t 19)
(.seq
(.region [
 iK 0 2 3] none [2])
.ret)
(.seq
(.region [
 iM 0 23 0,
⟨1, (some 24), .bin .leq (.t 23) (.c (.int .i32 1114111)), none⟩,
 iM 2 22 24] none [22])
(.cond (.t 22)
(.seq
(.region [
 iK 0 2 4] none [2])
.ret)
.skip)))))))))))))
(.seq
(.region [
 iK 0 2 (-1)] none [2])
.ret))), [(.tmp 2, true)]⟩
def qd1 : ACode :=
(.seq
(.region [
⟨0, (some 21), .next (.t 20), none⟩,
 iE 1 22 21 0] none [4, 5, 6, 20, 21, 22])
(.seq
(.cond (.t 22)
.skip
(.exit 0 [4, 5, 6]))
(.block 1
(.seq
(.region [
 iE 0 23 21 2,
 iM 1 8 23] none [4, 5, 6, 8, 20])
(.seq
(.seq
(.region [
 iM 0 24 8,
⟨1, (some 25), .bin .lss (.t 24) (.c (.int .i32 48)), none⟩,
 iM 2 26 25,
⟨3, (some 27), .mv (.t 8), (some (26, false))⟩,
⟨4, (some 28), .bin .gtr (.t 27) (.c (.int .i32 57)), (some (26, false))⟩,
⟨5, (some 29), .pick (.t 26) (.c (.bool true)) (.t 28), none⟩] none [4, 5, 6, 8, 20, 29])
(.cond (.t 29)
(.seq
(.region [
 iC 0 2 (.sl []),
 iK 1 3 10] none [2, 3])
.ret)
.skip))
(.seq
(.region [
 iM 0 30 5,
⟨1, (some 31), .bin .mul (.c (.int .u32 10)) (.t 30), none⟩,
 iM 2 32 8,
⟨3, (some 33), .bin .sub (.t 32) (.c (.int .i32 48)), none⟩,
⟨4, (some 34), .conv (.int .u32) (.t 33), none⟩,
 iB 5 35 .add 31 34,
 iM 6 36 6,
⟨7, (some 37), .bin .mul (.c (.int .u32 10)) (.t 36), none⟩,
 iM 8 5 35,
 iM 9 6 37] none [4, 5, 6, 20])
(.seq
(.region [
 iM 0 38 6,
⟨1, (some 39), .bin .eql (.t 38) (.c (.int .u32 1000000000)), none⟩] none [4, 5, 6, 20, 39])
(.cond (.t 39)
(.seq
(.region [
 iM 0 40 4,
 iM 1 41 6,
 iM 2 42 5,
 iA 3 43 qmi [tF 40, tT 41, tT 42],
 iM 4 4 43] none [4, 20])
(.region [
 iC 0 5 (.int .u32 0),
 iC 1 6 (.int .u32 1)] none [4, 5, 6, 20]))
.skip))))))))
def qhw : ACode := .loop [4, 5, 6, 20] qd1
def qf2 : AFun := ⟨1,
(.seq
(.region [
 iC 0 2 (.sl []),
 iK 1 3 0] none [0])
(.seq
(.seq
(.region [
 iM 0 9 0,
 iN 1 10 true 9,
 iI 2 11 .gtr 10 5120] none [0, 11])
(.cond (.t 11)
(.seq
(.region [
 iC 0 2 (.sl []),
 iK 1 3 2] none [2, 3])
.ret)
.skip))
(.seq
(.seq
(.region [
 iM 0 12 0,
⟨1, (some 13), .bin .eql (.t 12) (.c (.str [])), none⟩] none [0, 13])
(.cond (.t 13)
(.seq
(.region [
 iC 0 2 (.sl []),
 iK 1 3 10] none [2, 3])
.ret)
.skip))
(.seq
(.region [
 iM 0 14 0,
 iN 1 15 true 14,
 iI 2 16 .quo 15 9,
 iI 3 17 .add 16 1,
⟨4, (some 18), .mkSl ⟨1, 4⟩ (.int .u32 0) (.c (kI 0)) (.t 17), none⟩,
 iM 5 4 18] none [0, 4])
(.seq
(.region [
 iC 0 5 (.int .u32 0),
 iC 1 6 (.int .u32 1)] none [0, 4, 5, 6])
(.seq
(.seq
(.region [
 iM 0 19 0,
⟨1, (some 20), .range (.t 19), none⟩] none [4, 5, 6, 20])
(.block 0
 qhw))
(.seq
(.region [
 iM 0 44 4,
 iM 1 45 6,
 iM 2 46 5,
 iA 3 47 qmi [tF 44, tT 45, tT 46],
 iA 4 48 qav [tT 47],
 iM 5 2 48,
 iK 6 3 0] none [2, 3])
.ret))))))), [(.tmp 2, true), (.tmp 3, true)]⟩
def qbd : AFun := ⟨2,
(.seq
(.region [
⟨0, (some 3), .box 4 (.t 1), none⟩,
 iC 1 4 (.nili)] none [0, 3])
(.seq
(.region [
 iL 0 6 4 true 3,
 iM 1 7 0,
 iZ 5 5 (.agg [kI 0, kI 0, kI 0, kI 0, kI 0, .str [], .nili]) [],
 iA 2 8 qal [tF 7],
⟨3, (some 9), .field 1 1 false (.t 8), none⟩,
⟨4, (some 10), .build (.agg [kI 0, kI 0, kI 0, kI 0, kI 0, .str [], .nili]) [(0, 4, (.t 6)), (5, 1, (.t 9))] [], none⟩,
 iS 6 7 5 10] (some ([(0, 5), (0, 2), (5, 2)], [2])) [0, 5])
(.seq
(.region [
 iM 0 11 0,
 iP 1 12 5 5,
 iO 2 13 12,
 iA 3 14 qeo [tF 11, tT 13],
 iP 4 15 4 5,
 iS 5 1 15 14] none [0, 5])
(.seq
(.region [
 iM 0 16 0,
 iP 1 17 4 5,
 iO 2 18 17,
 iI 3 19 .geq 18 0,
 iA 4 20 qar [tF 16, tT 19, ((.c (kI 81)), true)]] none [0, 5])
(.seq
(.region [
 iM 0 21 0,
 iA 1 22 qbv [tF 21]] none [0, 5])
(.seq
(.region [
 iM 0 23 0,
 iA 1 24 qbh [tF 23, ((.c (.str [58, 61])), true)]] none [0, 5])
(.seq
(.seq
(.region [
 iM 0 25 0,
 iA 1 26 qai [tF 25, ((.c (.str [97, 110, 121])), true)],
⟨2, (some 27), .un .not (.t 26), none⟩] none [0, 5, 27])
(.cond (.t 27)
(.region [
 iM 0 28 0,
 iA 1 29 qcg [tF 28],
 iP 2 30 6 5,
 iS 3 1 30 29] none [0, 5])
.skip))
(.seq
(.region [
 iM 0 31 0,
 iA 1 32 qbh [tF 31, ((.c (.str [59])), true)]] none [5])
(.seq
(.region [
 iL 0 33 7 true 5,
⟨1, (some 34), .mkI qa1 (.t 33), none⟩,
 iM 2 4 34] none [4])
.ret))))))))), [(.tmp 4, true)]⟩
def qb6 : AFun := ⟨2,
(.seq
(.region [
⟨0, (some 3), .box 4 (.t 1), none⟩,
 iC 1 4 (.nili)] none [0, 3])
(.seq
(.region [
 iM 0 6 0,
 iM 1 7 0,
 iA 2 8 qev [tF 7],
 iA 3 9 qar [tF 6, tT 8, ((.c (kI 80)), true)]] none [0, 3])
(.seq
(.region [
 iM 0 10 0,
 iA 1 11 qal [tF 10],
⟨2, (some 12), .field 1 1 false (.t 11), none⟩,
 iM 3 5 12] none [0, 3, 5])
(.seq
(.region [
 iM 0 13 0,
 iM 1 14 5,
 iA 2 15 qpg [tT 14],
 iA 3 16 qar [tF 13, tT 15, ((.c (kI 42)), true)]] none [0, 3, 5])
(.seq
(.region [
 iM 0 17 0,
 iM 1 18 0,
 iH 2 19 18,
 iP 3 20 4 19,
 iO 4 21 20,
 iM 5 22 5,
⟨6, (some 23), .look true (kI 0) (.t 21) (.t 22), none⟩,
 iI 7 24 .eql 23 0,
 iA 8 25 qar [tF 17, tT 24, ((.c (kI 82)), true)]] none [0, 3, 5])
(.seq
(.region [
 iM 0 26 0,
 iH 1 27 26,
 iP 2 28 4 27,
 iO 3 29 28,
 iM 4 30 5,
⟨5, none, .upd true (.t 29) (.t 30) (.c (kI 1)), none⟩] none [0, 3, 5])
(.seq
(.region [
 iM 0 31 0,
 iA 1 32 qbv [tF 31]] none [0, 3, 5])
(.seq
(.region [
 iM 0 33 0,
 iA 1 34 qbh [tF 33, ((.c (.str [59])), true)]] none [3, 5])
(.seq
(.region [
 iL 0 35 4 true 3,
 iM 1 36 5,
⟨2, (some 37), .build (.agg [kI 0, kI 0, kI 0, kI 0, .str []]) [(0, 4, (.t 35)), (4, 1, (.t 36))] [], none⟩,
⟨3, (some 38), .mkI qaw (.t 37), none⟩,
 iM 4 4 38] none [4])
.ret))))))))), [(.tmp 4, true)]⟩
def qcd : AFun := ⟨1,
(.seq
(.region [
 iC 0 2 (.sl [])] none [0])
(.seq
(.region [
 iM 0 4 0,
 iA 1 5 qgm [tF 4, ((.c (.str [123])), true)]] none [0])
(.seq
(.region [
 iM 0 6 0,
 iA 1 7 qjo [tF 6],
 iM 2 3 7] none [0, 3])
(.seq
(.region [
 iM 0 8 0,
 iA 1 9 qg8 [tF 8, ((.c (.str [125])), true)]] none [3])
(.seq
(.region [
 iM 0 10 3,
 iM 1 2 10] none [2])
.ret))))), [(.tmp 2, true)]⟩
def qhx : AFun := ⟨1,
(.seq
(.region [
⟨0, (some 1), .box 3 (.t 0), none⟩,
 iC 1 2 (.str [])] none [1])
(.seq
(.seq
(.region [
 iP 0 3 2 1,
 iO 1 4 3] none [1, 4])
(.cond (.t 4)
(.seq
(.region [
 iP 0 5 0 1,
 iO 1 6 5,
 iP 4 9 1 1,
 iO 5 10 9,
 iA 2 7 qif [tT 6],
⟨3, (some 8), .bin .add (.t 7) (.c (.str [32, 61, 32])), none⟩,
 iA 6 11 qif [tT 10],
 iB 7 12 .add 8 11,
 iM 8 2 12] (some ([(5, 2)], [2, 6])) [2])
.ret)
.skip))
(.seq
(.region [
 iP 0 13 0 1,
 iO 1 14 13,
 iP 4 17 1 1,
 iO 5 18 17,
 iA 2 15 qif [tT 14],
⟨3, (some 16), .bin .add (.t 15) (.c (.str [32, 33, 61, 32])), none⟩,
 iA 6 19 qif [tT 18],
 iB 7 20 .add 16 19,
 iM 8 2 20] (some ([(5, 2)], [2, 6])) [2])
.ret))), [(.tmp 2, true)]⟩
def qgf : AFun := ⟨2,
(.seq
(.region [
 iC 0 4 (.bool false)] none [0, 1])
(.seq
(.seq
(.region [
 iM 0 10 0,
⟨1, (some 11), .tass qa1 true (.agg [kI 0, kI 0, kI 0, kI 0, kI 0, .str [], .nili]) (.t 10), none⟩,
 iM 2 9 11,
 iE 3 12 9 0,
 iE 4 13 9 1,
 iZ 5 5 (.agg [kI 0, kI 0, kI 0, kI 0, kI 0, .str [], .nili]) [],
 iS 6 7 5 12,
 iM 7 6 13] none [0, 1, 5, 6])
(.seq
(.region [
 iM 0 14 6,
 iM 1 15 14,
⟨2, (some 16), .fieldA 6 1 false (.t 5), (some (15, true))⟩,
⟨3, (some 17), .load 1 false (.t 16), (some (15, true))⟩,
⟨4, (some 18), .isN false true (.t 17), (some (15, true))⟩,
⟨5, (some 19), .pick (.t 15) (.t 18) (.c (.bool false)), none⟩] none [0, 1, 5, 19])
(.cond (.t 19)
(.seq
(.region [
 iP 0 21 6 5,
 iO 1 22 21,
 iM 2 23 1,
 iA 3 24 qci [tT 22, tT 23],
 iM 4 20 24,
 iE 5 25 20 0,
 iE 6 26 20 1,
 iM 7 7 25,
 iM 8 8 26] none [8])
(.seq
(.region [
 iM 0 27 8,
 iM 1 4 27] none [4])
.ret))
.skip)))
(.seq
(.seq
(.region [
 iM 0 28 0] none [28])
(.block 0
(.seq
(.region [
⟨0, (some 29), .tass qas true (.agg [kI 0, kI 0, kI 0, kI 0, .nili, .nili, .bool false, .sl [], .nilp]) (.t 28), none⟩,
 iE 1 30 29 1,
 iE 2 31 29 0,
⟨3, (some 32), .tass qaj true (.agg [kI 0, kI 0, kI 0, kI 0, .nili, .nili, .bool false, .sl []]) (.t 28), none⟩,
 iE 4 33 32 1,
 iE 5 34 32 0,
⟨6, (some 35), .pick (.t 30) (.c (.bool true)) (.t 33), none⟩] none [35])
(.cond (.t 35)
(.seq
(.region [
 iC 0 4 (.bool false)] none [4])
.ret)
.skip))))
(.seq
(.region [
 iC 0 4 (.bool true)] none [4])
.ret)))), [(.tmp 4, true)]⟩
def qcm : ACode :=
(.seq
(.region [
 iB 0 18 .lss 17 16] none [0, 15, 16, 17, 18])
(.seq
(.cond (.t 18)
.skip
(.exit 1 []))
(.seq
(.block 2
(.seq
(.region [
 iM 0 19 17,
 iX 1 20 ⟨5, 56⟩ 15 17,
 iL 2 21 5 true 20,
 iZ 3 6 (.agg [kI 0, kI 0, kI 0, kI 0, .sl []]) [],
 iM 4 5 19,
 iS 5 5 6 21] none [0, 5, 6, 15, 16, 17])
(.seq
(.seq
(.region [
 iM 0 22 5,
 iI 1 23 .gtr 22 0] none [0, 6, 15, 16, 17, 23])
(.cond (.t 23)
(.region [
 iM 0 24 0,
 iH 1 25 24,
 iP 2 26 1 25,
 iO 3 27 26,
 iI 4 28 .add 27 1,
 iH 5 29 24,
 iP 6 30 1 29,
 iS 7 1 30 28] none [0, 6, 15, 16, 17])
.skip))
(.region [
 iM 0 31 0,
 iP 1 32 4 6,
 iO 2 33 32,
 iA 3 34 qbm [tF 31, tT 33]] none [0, 15, 16, 17]))))
(.region [
 iI 0 35 .add 17 1,
 iM 1 17 35] none [0, 15, 16, 17]))))
def qdy : ACode := .loop [0, 15, 16, 17] qcm
def qaf : AFun := ⟨2,
(.seq
(.region [
 iM 0 10 1] none [0, 10])
(.block 0
(.seq
(.region [
⟨0, (some 11), .tass qah true (.agg [kI 0, kI 0, kI 0, kI 0, .sl []]) (.t 10), none⟩,
 iE 1 12 11 1,
 iE 2 13 11 0] none [0, 10, 12, 13])
(.cond (.t 12)
(.seq
(.region [
 iZ 0 4 (.agg [kI 0, kI 0, kI 0, kI 0, .sl []]) [(4, ⟨5, 56⟩)],
 iS 1 5 4 13] none [0, 4])
(.seq
(.region [
 iP 0 14 4 4,
 iO 1 15 14,
 iN 2 16 false 15,
 iK 3 17 0] none [0, 15, 16, 17])
(.block 1
 qdy)))
(.seq
(.region [
⟨0, (some 36), .tass qao true (.agg [kI 0, kI 0, kI 0, kI 0, .sl []]) (.t 10), none⟩,
 iE 1 37 36 1,
 iE 2 38 36 0] none [0, 10, 37, 38])
(.cond (.t 37)
(.seq
(.region [
 iZ 0 7 (.agg [kI 0, kI 0, kI 0, kI 0, .sl []]) [],
 iS 1 5 7 38] none [0, 7])
(.region [
 iM 0 39 0,
 iP 1 40 4 7,
 iO 2 41 40,
 iA 3 42 qbm [tF 39, tT 41]] none []))
(.seq
(.region [
⟨0, (some 43), .tass qaj true (.agg [kI 0, kI 0, kI 0, kI 0, .nili, .nili, .bool false, .sl []]) (.t 10), none⟩,
 iE 1 44 43 1,
 iE 2 45 43 0] none [0, 10, 44, 45])
(.cond (.t 44)
(.seq
(.region [
 iZ 0 8 (.agg [kI 0, kI 0, kI 0, kI 0, .nili, .nili, .bool false, .sl []]) [],
 iS 1 8 8 45] none [0, 8])
(.region [
 iM 0 46 0,
 iP 1 47 7 8,
 iO 2 48 47,
 iA 3 49 qbm [tF 46, tT 48]] none []))
(.seq
(.region [
⟨0, (some 50), .tass qas true (.agg [kI 0, kI 0, kI 0, kI 0, .nili, .nili, .bool false, .sl [], .nilp]) (.t 10), none⟩,
 iE 1 51 50 1,
 iE 2 52 50 0] none [0, 51, 52])
(.cond (.t 51)
(.seq
(.region [
 iZ 0 9 (.agg [kI 0, kI 0, kI 0, kI 0, .nili, .nili, .bool false, .sl [], .nilp]) [],
 iS 1 9 9 52] none [0, 9])
(.seq
(.region [
 iM 0 53 0,
 iP 1 54 7 9,
 iO 2 55 54,
 iA 3 56 qbm [tF 53, tT 55]] none [0, 9])
(.seq
(.region [
 iP 0 57 8 9,
 iO 1 58 57,
⟨2, (some 59), .isN false false (.t 58), none⟩] none [0, 9, 59])
(.cond (.t 59)
(.seq
(.region [
 iM 0 60 0,
 iH 1 61 60,
 iP 2 62 1 61,
 iO 3 63 62,
 iI 4 64 .add 63 1,
 iH 5 65 60,
 iP 6 66 1 65,
 iS 7 1 66 64] none [0, 9])
(.region [
 iM 0 67 0,
 iP 1 68 8 9,
 iO 2 69 68,
 iH 3 70 69,
 iP 4 71 4 70,
 iO 5 72 71,
 iA 6 73 qbm [tF 67, tT 72]] none []))
.skip))))
.skip)))))))))), []⟩
def qa9 : AFun := ⟨1,
(.seq
(.region [
 iC 0 2 (.nili)] none [0])
(.seq
(.region [
 iM 0 8 0,
 iA 1 9 qal [tF 8],
 iZ 2 3 (.agg [kI 0, .str [], kI 0, kI 0, kI 0, kI 0]) [],
 iS 3 6 3 9] none [0, 3])
(.seq
(.block 0
(.seq
(.region [
 iM 0 11 0,
 iA 1 12 qai [tF 11, ((.c (.str [45])), true)],
 iM 2 10 12] none [0, 3, 10])
(.cond (.t 10)
(.seq
(.region [
 iM 0 13 0,
 iA 1 14 qb0 [tF 13],
⟨2, (some 15), .build zD3 [(0, 1, (.t 14))] [], none⟩,
⟨3, (some 16), .mkI qdj (.t 15), none⟩,
 iM 4 2 16] none [2])
.ret)
(.seq
(.region [
 iP 0 18 0 3,
 iO 1 19 18,
 iI 2 20 .eql 19 2,
 iM 3 17 20] none [0, 3, 17])
(.cond (.t 17)
(.seq
(.region [
 iM 0 22 0,
 iA 1 23 qbv [tF 22],
⟨2, (some 24), .field 1 1 false (.t 23), none⟩,
 iA 3 25 qn8 [tT 24],
 iM 4 21 25,
 iE 5 26 21 0,
 iE 6 27 21 1,
 iZ 7 4 (.agg [.bool false, .sl []]) [],
 iS 8 2 4 26,
 iM 9 5 27] none [4])
(.seq
(.region [
 iL 0 28 2 true 4,
⟨1, (some 29), .build (.agg [.bool false, .sl []]) [(0, 2, (.t 28))] [], none⟩,
⟨2, (some 30), .mkI qcp (.t 29), none⟩,
 iM 3 2 30] none [2])
.ret))
(.seq
(.region [
 iM 0 32 0,
 iA 1 33 qev [tF 32],
 iM 2 31 33] none [0, 3, 31])
(.cond (.t 31)
(.seq
(.region [
 iM 0 34 0,
 iP 1 35 1 3,
 iO 2 36 35,
 iA 3 37 qeo [tF 34, tT 36],
 iM 4 6 37] none [0, 3, 6])
(.seq
(.region [
 iM 0 38 0,
 iM 1 39 6,
 iI 2 40 .geq 39 0,
 iA 3 41 qar [tF 38, tT 40, ((.c (kI 81)), true)]] none [0, 3, 6])
(.seq
(.region [
 iM 0 42 0,
 iA 1 43 qbv [tF 42]] none [3, 6])
(.seq
(.region [
 iM 0 44 6,
 iP 1 45 1 3,
 iO 2 46 45,
⟨3, (some 47), .build (.agg [kI 0, .str []]) [(0, 1, (.t 44)), (1, 1, (.t 46))] [], none⟩,
⟨4, (some 48), .mkI qei (.t 47), none⟩,
 iM 5 2 48] none [2])
.ret))))
.skip)))))))
(.seq
(.region [
 iM 0 49 0,
 iA 1 50 qgm [tF 49, ((.c (.str [40])), true)]] none [0])
(.seq
(.region [
 iM 0 51 0,
 iA 1 52 qcg [tF 51],
 iM 2 7 52] none [0, 7])
(.seq
(.region [
 iM 0 53 0,
 iA 1 54 qg8 [tF 53, ((.c (.str [41])), true)]] none [7])
(.seq
(.region [
 iM 0 55 7,
 iM 1 2 55] none [2])
.ret))))))), [(.tmp 2, true)]⟩
def qgz : ACode :=
(.seq
(.seq
(.region [
 iM 0 83 15,
⟨1, (some 84), .bin .shr (.t 83) (.c (.int .u64 32)), none⟩,
⟨2, (some 85), .bin .eql (.t 84) (.c (.int .u64 0)), none⟩,
 iM 3 86 85,
⟨4, (some 87), .mv (.t 14), (some (86, true))⟩,
⟨5, (some 88), .bin .shr (.t 87) (.c (.int .u64 32)), (some (86, true))⟩,
⟨6, (some 89), .bin .gtr (.t 88) (.c (.int .u64 0)), (some (86, true))⟩,
⟨7, (some 90), .mv (.t 89), (some (86, true))⟩,
⟨8, (some 91), .mv (.t 14), (some (90, false))⟩,
⟨9, (some 92), .mv (.t 11), (some (90, false))⟩,
⟨10, (some 93), .bin .mul (.t 91) (.t 92), (some (90, false))⟩,
⟨11, (some 94), .mv (.t 15), (some (90, false))⟩,
⟨12, (some 95), .bin .shl (.t 94) (.c (.int .u64 32)), (some (90, false))⟩,
⟨13, (some 96), .mv (.t 7), (some (90, false))⟩,
⟨14, (some 97), .mv (.t 12), (some (90, false))⟩,
⟨15, (some 98), .mv (.t 9), (some (90, false))⟩,
⟨16, (some 99), .bin .add (.t 97) (.t 98), (some (90, false))⟩,
⟨17, (some 100), .bin .sub (.t 99) (.c (kI 2)), (some (90, false))⟩,
⟨18, (some 101), .idxA ⟨1, 4⟩ (.t 96) (.t 100), (some (90, false))⟩,
⟨19, (some 102), .load 1 false (.t 101), (some (90, false))⟩,
⟨20, (some 103), .conv (.int .u64) (.t 102), (some (90, false))⟩,
⟨21, (some 104), .bin .or (.t 95) (.t 103), (some (90, false))⟩,
⟨22, (some 105), .bin .gtr (.t 93) (.t 104), (some (90, false))⟩,
⟨23, (some 106), .pick (.t 90) (.c (.bool true)) (.t 105), (some (86, true))⟩,
⟨24, (some 107), .pick (.t 86) (.t 106) (.c (.bool false)), none⟩] none [4, 6, 7, 8, 9, 10, 11, 12, 14, 15, 107])
(.cond (.t 107)
.skip
(.exit 2 [4, 6, 7, 8, 9, 10, 11, 12, 14])))
(.block 3
(.seq
(.region [
 iM 0 108 14,
⟨1, (some 109), .bin .sub (.t 108) (.c (.int .u64 1)), none⟩,
 iM 2 14 109] none [4, 6, 7, 8, 9, 10, 11, 12, 14, 15])
(.region [
 iM 0 110 15,
 iM 1 111 10,
 iB 2 112 .add 110 111,
 iM 3 15 112] none [4, 6, 7, 8, 9, 10, 11, 12, 14, 15]))))
def qi5 : ACode := .loop [4, 6, 7, 8, 9, 10, 11, 12, 14, 15] qgz
def ql3 : ACode :=
(.seq
(.seq
(.region [
 iM 0 56 12,
 iI 1 57 .geq 56 0] none [4, 6, 7, 8, 9, 10, 11, 12, 57])
(.cond (.t 57)
.skip
(.exit 0 [4, 6, 7, 9])))
(.seq
(.block 1
(.seq
(.region [
 iM 0 60 7,
 iM 1 61 12,
 iM 2 62 9,
 iB 3 63 .add 61 62,
 iX 4 64 ⟨1, 4⟩ 60 63,
 iO 5 65 64,
⟨6, (some 66), .conv (.int .u64) (.t 65), none⟩,
⟨7, (some 67), .bin .shl (.t 66) (.c (.int .u64 32)), none⟩,
 iM 8 68 7,
 iM 9 69 12,
 iM 10 70 9,
 iB 11 71 .add 69 70,
 iI 12 72 .sub 71 1,
 iX 13 73 ⟨1, 4⟩ 68 72,
 iO 14 74 73,
⟨15, (some 75), .conv (.int .u64) (.t 74), none⟩,
 iB 16 76 .or 67 75,
 iM 17 13 76] (some ([], [])) [4, 6, 7, 8, 9, 10, 11, 12, 13])
(.seq
(.region [
 iM 0 77 13,
 iM 1 78 10,
 iB 2 79 .quo 77 78,
 iM 3 80 13,
 iM 4 81 10,
 iB 5 82 .rem 80 81,
 iM 6 14 79,
 iM 7 15 82] (some ([], [])) [4, 6, 7, 8, 9, 10, 11, 12, 14, 15])
(.seq
(.block 2
 qi5)
(.region [
 iM 0 113 4,
 iM 1 114 12,
 iM 2 115 7,
 iM 3 116 12,
 iM 4 117 12,
 iM 5 118 9,
 iB 6 119 .add 117 118,
 iI 7 120 .add 119 1,
⟨8, (some 121), .slice (some ⟨1, 4⟩) (.t 115) (some (.t 116)) (some (.t 120)), none⟩,
 iM 9 122 8,
 iM 10 123 14,
 iA 11 124 qtx [tF 121, tF 122, tT 123],
 iX 12 125 ⟨1, 4⟩ 113 114,
 iS 13 1 125 124] none [4, 6, 7, 8, 9, 10, 11, 12])))))
(.region [
 iM 0 58 12,
 iI 1 59 .sub 58 1,
 iM 2 12 59] none [4, 6, 7, 8, 9, 10, 11, 12])))
def qi4 : ACode := .loop [4, 6, 7, 8, 9, 10, 11, 12] ql3
def qmo : AFun := ⟨2,
(.seq
(.region [
 iC 0 4 (.sl []),
 iC 1 5 (.sl [])] none [0, 1])
(.seq
(.region [
 iM 0 16 1,
 iM 1 17 1,
 iN 2 18 false 17,
 iI 3 19 .sub 18 1,
 iX 4 20 ⟨1, 4⟩ 16 19,
 iO 5 21 20,
 iA 6 22 qki [tT 21],
 iM 7 6 22] none [0, 1, 6])
(.seq
(.region [
 iM 0 23 0,
 iM 1 24 6,
 iM 2 25 0,
 iN 3 26 false 25,
 iI 4 27 .add 26 1,
 iA 5 28 qoa [tT 23, tT 24, tT 27],
 iM 6 29 1,
 iM 7 30 6,
 iM 8 31 1,
 iN 9 32 false 31,
 iA 10 33 qoa [tT 29, tT 30, tT 32],
 iM 11 7 28,
 iM 12 8 33] none [6, 7, 8])
(.seq
(.region [
 iM 0 34 8,
 iN 1 35 false 34,
 iM 2 9 35] none [6, 7, 8, 9])
(.seq
(.region [
 iM 0 36 7,
 iN 1 37 false 36,
 iM 2 38 9,
 iB 3 39 .sub 37 38,
⟨4, (some 40), .mkSl ⟨1, 4⟩ (.int .u32 0) (.t 39) (.t 39), none⟩,
 iM 5 4 40] none [4, 6, 7, 8, 9])
(.seq
(.region [
 iM 0 41 8,
 iM 1 42 9,
 iI 2 43 .sub 42 1,
 iX 3 44 ⟨1, 4⟩ 41 43,
 iO 4 45 44,
⟨5, (some 46), .conv (.int .u64) (.t 45), none⟩,
 iM 6 47 8,
 iM 7 48 9,
 iI 8 49 .sub 48 2,
 iX 9 50 ⟨1, 4⟩ 47 49,
 iO 10 51 50,
⟨11, (some 52), .conv (.int .u64) (.t 51), none⟩,
 iM 12 10 46,
 iM 13 11 52] (some ([], [])) [4, 6, 7, 8, 9, 10, 11])
(.seq
(.seq
(.region [
 iM 0 53 4,
 iN 1 54 false 53,
 iI 2 55 .sub 54 1,
 iM 3 12 55] none [4, 6, 7, 8, 9, 10, 11, 12])
(.block 0
 qi4))
(.seq
(.region [
 iM 0 127 7,
 iM 1 128 9,
⟨2, (some 129), .slice (some ⟨1, 4⟩) (.t 127) none (some (.t 128)), none⟩,
 iM 3 130 6,
 iA 4 131 qsd [tT 129, tT 130],
 iM 5 126 131,
 iE 6 132 126 0,
 iE 7 133 126 1,
 iM 8 5 132] none [4, 5])
(.seq
(.region [
 iM 0 134 4,
 iA 1 135 qav [tT 134],
 iM 2 136 5,
 iM 3 4 135,
 iM 4 5 136] none [4, 5])
.ret))))))))), [(.tmp 4, true), (.tmp 5, true)]⟩
def qdq : AFun := ⟨1,
(.seq
(.region [
 iK 0 2 0] none [0])
(.seq
(.region [
 iM 0 4 0,
 iA 1 5 qc0 [tF 4],
 iM 2 3 5] none [3])
(.seq
(.seq
(.region [
 iM 0 6 3,
 iI 1 7 .lss 6 0] none [3, 7])
(.cond (.t 7)
(.seq
(.region [
 iK 0 2 (-1)] none [2])
.ret)
.skip))
(.seq
(.region [
 iM 0 8 3,
 iA 1 9 qsf [tT 8],
 iM 2 2 9] none [2])
.ret)))), [(.tmp 2, true)]⟩
def qff : AFun := ⟨1,
(.seq
(.region [
 iM 0 5 0,
 iH 1 6 5,
 iP 2 7 0 6,
 iO 3 8 7,
 iA 4 9 qe6 [tT 8],
 iM 5 4 9,
 iE 6 10 4 0,
 iE 7 11 4 1,
 iM 8 2 10,
 iM 9 3 11] none [0, 2, 3])
(.seq
(.region [
 iM 0 12 0,
 iM 1 13 0,
 iH 2 14 13,
 iF 3 15 1 4 true 14,
 iL 4 16 4 true 15,
 iM 5 17 2,
 iA 6 18 qqb [tT 16, tT 17],
 iH 7 19 12,
 iF 8 20 1 4 true 19,
 iS 9 4 20 18] none [0, 3])
(.region [
 iM 0 21 0,
 iM 1 22 0,
 iH 2 23 22,
 iP 3 24 0 23,
 iO 4 25 24,
 iM 5 26 3,
⟨6, (some 27), .slice none (.t 25) (some (.t 26)) none, none⟩,
 iH 7 28 21,
 iP 8 29 0 28,
 iS 9 1 29 27] none []))), []⟩
def qed : ACode :=
(.seq
(.region [
⟨0, (some 10), .next (.t 9), none⟩,
 iE 1 11 10 0] none [0, 10, 11])
(.seq
(.cond (.t 11)
.skip
(.exit 0 []))
(.block 1
(.seq
(.region [
 iE 0 12 10 2,
 iM 1 4 12] none [0, 4])
(.seq
(.seq
(.region [
 iM 0 13 0,
 iH 1 14 13,
 iP 2 15 0 14,
 iO 3 16 15,
 iM 4 17 4,
 iA 5 18 qqa [tT 16, tT 17]] none [0, 4, 18])
(.cond (.t 18)
(.seq
(.region [
 iM 0 19 0,
 iM 1 20 0,
 iH 2 21 20,
 iF 3 22 1 4 true 21,
 iL 4 23 4 true 22,
 iA 5 24 qhj [tF 19, ((.c (kI 40)), true), tT 23]] none [])
(.seq
(.region [
 iK 0 2 (-1)] none [2])
.ret))
.skip))
(.seq
(.region [
 iM 0 25 4,
⟨1, (some 26), .conv (.int .i64) (.t 25), none⟩,
 iM 2 2 26] none [2])
.ret))))))
def qf7 : ACode := .loop [0, 9] qed
def qd6 : AFun := ⟨1,
(.seq
(.region [
 iK 0 2 0] none [0])
(.seq
(.seq
(.region [
 iM 0 5 0,
 iH 1 6 5,
 iP 2 7 0 6,
 iO 3 8 7,
⟨4, (some 9), .range (.t 8), none⟩] none [0, 9])
(.block 0
 qf7))
(.seq
(.region [
 iK 0 2 (-1)] none [2])
.ret))), [(.tmp 2, true)]⟩
def qdz : ACode :=
(.seq
(.seq
(.region [
 iM 0 13 6,
 iI 1 14 .geq 13 0,
 iM 2 15 14,
⟨3, (some 16), .mv (.t 1), (some (15, true))⟩,
⟨4, (some 17), .mv (.t 6), (some (15, true))⟩,
⟨5, (some 18), .callV (.t 16) [tT 17], (some (15, true))⟩,
⟨6, (some 19), .pick (.t 15) (.t 18) (.c (.bool false)), none⟩] none [0, 1, 5, 19])
(.cond (.t 19)
.skip
(.exit 0 [0, 5])))
(.seq
(.block 1
(.region [
 iM 0 22 0,
 iA 1 23 qcz [tF 22]] none [0, 1, 5]))
(.region [
 iM 0 20 0,
 iA 1 21 qdn [tF 20],
 iM 2 6 21] none [0, 1, 5, 6])))
def qfo : ACode := .loop [0, 1, 5, 6] qdz
def qe1 : AFun := ⟨2,
(.seq
(.region [
 iC 0 4 (.str [])] none [0, 1])
(.seq
(.region [
 iM 0 7 0,
 iH 1 8 7,
 iP 2 9 0 8,
 iO 3 10 9,
 iM 4 5 10] none [0, 1, 5])
(.seq
(.seq
(.region [
 iM 0 11 0,
 iA 1 12 qdn [tF 11],
 iM 2 6 12] none [0, 1, 5, 6])
(.block 0
 qfo))
(.seq
(.region [
 iM 0 24 5,
 iM 1 25 5,
 iN 2 26 true 25,
 iM 3 27 0,
 iH 4 28 27,
 iP 5 29 0 28,
 iO 6 30 29,
 iN 7 31 true 30,
 iB 8 32 .sub 26 31,
⟨9, (some 33), .slice none (.t 24) none (some (.t 32)), none⟩,
 iM 10 4 33] none [4])
.ret)))), [(.tmp 4, true)]⟩
def qcy : AFun := ⟨1,
(.seq
(.region [
 iC 0 2 (.bool false)] none [0])
(.seq
(.region [
 iM 0 3 0,
 iI 1 4 .eql 3 2,
 iM 2 5 4,
⟨3, (some 6), .mv (.t 0), (some (5, false))⟩,
⟨4, (some 7), .bin .eql (.t 6) (.c (kI 3)), (some (5, false))⟩,
⟨5, (some 8), .pick (.t 5) (.c (.bool true)) (.t 7), none⟩,
 iM 6 9 8,
⟨7, (some 10), .mv (.t 0), (some (9, false))⟩,
⟨8, (some 11), .bin .eql (.t 10) (.c (kI 4)), (some (9, false))⟩,
⟨9, (some 12), .pick (.t 9) (.c (.bool true)) (.t 11), none⟩,
 iM 10 2 12] none [2])
.ret)), [(.tmp 2, true)]⟩
def qe2 : AFun := ⟨3,
(.seq
(.region [
⟨0, (some 5), .box 4 (.t 2), none⟩] none [0, 1, 5])
(.region [
 iM 0 6 0,
 iM 1 7 0,
 iM 2 8 1,
 iL 3 9 4 true 5,
 iH 4 10 6,
 iP 5 11 5 10,
 iS 6 1 11 8,
 iH 7 12 7,
 iF 8 13 6 4 true 12,
 iS 9 4 13 9] (some ([(3, 6)], [])) [])), []⟩
def qec : AFun := ⟨1,
(.seq
(.region [
 iC 0 2 (.bool false)] none [0])
(.seq
(.region [
 iM 0 3 0,
 iI 1 4 .eql 3 3,
 iM 2 2 4] none [2])
.ret)), [(.tmp 2, true)]⟩
def qbs : AFun := ⟨1,
(.seq
(.region [
 iC 0 2 (.str [])] none [0])
(.seq
(.region [
 iM 0 5 0,
 iM 2 7 0,
 iH 3 8 7,
 iF 4 9 1 4 true 8,
 iL 5 10 4 true 9,
 iZ 6 4 zD0 [],
 iA 1 6 qc0 [tF 5],
 iM 7 3 6,
 iS 8 4 4 10] (some ([(5, 6), (5, 1), (6, 1)], [1])) [0, 3, 4])
(.seq
(.region [
 iM 0 11 0,
 iA 1 12 qcz [tF 11]] none [0, 3, 4])
(.seq
(.block 0
(.seq
(.region [
 iM 0 14 3,
 iI 1 15 .eql 14 8788,
 iM 2 13 15] none [0, 3, 4, 13])
(.cond (.t 13)
(.seq
(.region [
 iC 0 2 (.str [58, 61])] none [2])
.ret)
(.seq
(.region [
 iM 0 17 3,
 iI 1 18 .eql 17 8800,
 iM 2 16 18] none [0, 3, 4, 16])
(.cond (.t 16)
(.seq
(.region [
 iC 0 2 (.str [33, 61])] none [2])
.ret)
(.seq
(.region [
 iM 0 20 3,
 iI 1 21 .eql 20 58,
 iM 2 22 21,
⟨3, (some 23), .mv (.t 3), (some (22, false))⟩,
⟨4, (some 24), .bin .eql (.t 23) (.c (kI 33)), (some (22, false))⟩,
⟨5, (some 25), .pick (.t 22) (.c (.bool true)) (.t 24), none⟩,
 iM 6 19 25] none [0, 3, 4, 19])
(.cond (.t 19)
(.seq
(.seq
(.region [
 iM 0 26 0,
 iA 1 27 qc0 [tF 26],
 iI 2 28 .neq 27 61] none [0, 3, 4, 28])
(.cond (.t 28)
(.seq
(.region [
 iM 0 29 0,
 iL 1 30 4 true 4,
 iA 2 31 qew [tF 29, ((.c (kI 41)), true), tT 30]] none [])
(.seq
(.region [
 iC 0 2 (.str [])] none [2])
.ret))
.skip))
(.seq
(.region [
 iM 0 32 0,
 iA 1 33 qcz [tF 32]] none [3])
(.seq
(.region [
 iM 0 34 3,
⟨1, (some 35), .conv (.int .i32) (.t 34), none⟩,
⟨2, (some 36), .conv .rune (.t 35), none⟩,
⟨3, (some 37), .bin .add (.t 36) (.c (.str [61])), none⟩,
 iM 4 2 37] none [2])
.ret)))
.skip)))))))
(.seq
(.region [
 iM 0 38 3,
 iA 1 39 qt5 [tT 38],
⟨2, (some 40), .conv (.int .i32) (.t 39), none⟩,
⟨3, (some 41), .conv .rune (.t 40), none⟩,
 iM 4 2 41] none [2])
.ret))))), [(.tmp 2, true)]⟩
def qd7 : AFun := ⟨3,
(.seq
(.region [
⟨0, (some 5), .box 4 (.t 2), none⟩] none [0, 1, 5])
(.seq
(.region [
 iM 0 6 0,
 iH 1 7 6,
 iP 2 8 5 7,
 iO 3 9 8,
 iI 4 10 .eql 9 0] none [0, 1, 5, 10])
(.cond (.t 10)
(.region [
 iM 0 11 0,
 iM 1 12 0,
 iM 2 13 1,
 iL 3 14 4 true 5,
 iH 4 15 11,
 iP 5 16 5 15,
 iS 6 1 16 13,
 iH 7 17 12,
 iF 8 18 6 4 true 17,
 iS 9 4 18 14] (some ([(3, 6)], [])) [])
.skip))), []⟩
def ql4 : ACode :=
(.seq
(.region [
 iB 0 14 .lss 13 12] none [0, 1, 7, 12, 13, 14])
(.seq
(.cond (.t 14)
.skip
(.exit 0 [0, 7]))
(.seq
(.block 1
(.seq
(.region [
 iM 0 15 13,
 iM 1 8 15] none [0, 1, 7, 8, 12, 13])
(.seq
(.region [
 iM 0 16 7,
 iM 1 17 0,
 iM 2 18 8,
 iX 3 19 ⟨1, 4⟩ 17 18,
 iO 4 20 19,
⟨5, (some 21), .conv (.int .u64) (.t 20), none⟩,
 iM 6 22 1,
⟨7, (some 23), .conv (.int .u64) (.t 22), none⟩,
 iB 8 24 .mul 21 23,
 iB 9 25 .add 16 24,
 iM 10 7 25] none [0, 1, 7, 8, 12, 13])
(.seq
(.region [
 iM 0 26 0,
 iM 1 27 8,
 iM 2 28 7,
⟨3, (some 29), .conv (.int .u32) (.t 28), none⟩,
 iX 4 30 ⟨1, 4⟩ 26 27,
 iS 5 1 30 29] none [0, 1, 7, 12, 13])
(.region [
 iM 0 31 7,
⟨1, (some 32), .bin .shr (.t 31) (.c (.int .u64 32)), none⟩,
 iM 2 7 32] none [0, 1, 7, 12, 13])))))
(.region [
 iI 0 33 .add 13 1,
 iM 1 13 33] none [0, 1, 7, 12, 13]))))
def qi6 : ACode := .loop [0, 1, 7, 12, 13] ql4
def qkm : AFun := ⟨3,
(.seq
(.region [
 iC 0 6 (.sl [])] none [0, 1, 2])
(.seq
(.region [
 iM 0 9 2,
⟨1, (some 10), .conv (.int .u64) (.t 9), none⟩,
 iM 2 7 10] none [0, 1, 7])
(.seq
(.seq
(.region [
 iM 0 11 0,
 iN 1 12 false 11,
 iK 2 13 0] none [0, 1, 7, 12, 13])
(.block 0
 qi6))
(.seq
(.seq
(.region [
 iM 0 34 7,
⟨1, (some 35), .bin .gtr (.t 34) (.c (.int .u64 0)), none⟩] none [0, 7, 35])
(.cond (.t 35)
(.region [
 iM 0 36 0,
 iM 1 37 7,
⟨2, (some 38), .conv (.int .u32) (.t 37), none⟩,
⟨3, (some 39), .buildSl ⟨1, 4⟩ (.int .u32 0) 1 [(0, (.t 38))], none⟩,
⟨4, (some 40), .app ⟨1, 4⟩ (some (.t 36)) (.t 39), none⟩,
 iM 5 0 40] none [0])
.skip))
(.seq
(.region [
 iM 0 41 0,
 iM 1 6 41] none [6])
.ret))))), [(.tmp 6, false)]⟩
def qb7 : AFun := ⟨2,
(.seq
(.region [
 iM 0 5 0,
 iA 1 6 qal [tF 5],
 iZ 2 4 (.agg [kI 0, .str [], kI 0, kI 0, kI 0, kI 0]) [],
 iS 3 6 4 6] none [0, 1, 4])
(.seq
(.region [
 iM 0 7 0,
 iP 1 8 0 4,
 iO 2 9 8,
 iI 3 10 .eql 9 3,
 iM 4 11 10,
⟨5, (some 12), .fieldA 1 1 false (.t 4), (some (11, true))⟩,
⟨6, (some 13), .load 1 false (.t 12), (some (11, true))⟩,
⟨7, (some 14), .mv (.t 1), (some (11, true))⟩,
⟨8, (some 15), .bin .eql (.t 13) (.t 14), (some (11, true))⟩,
⟨9, (some 16), .pick (.t 11) (.t 15) (.c (.bool false)), none⟩,
 iA 10 17 qar [tF 7, tT 16, ((.c (kI 80)), true)]] none [0])
(.seq
(.region [
 iM 0 18 0,
 iM 1 19 0,
 iH 2 20 19,
 iP 3 21 3 20,
 iO 4 22 21,
 iI 5 23 .lss 22 16,
 iA 6 24 qar [tF 18, tT 23, ((.c (kI 83)), true)]] none [0])
(.seq
(.region [
 iM 0 25 0,
 iH 1 26 25,
 iP 2 27 3 26,
 iO 3 28 27,
 iI 4 29 .add 28 1,
 iH 5 30 25,
 iP 6 31 3 30,
 iS 7 1 31 29] none [0])
(.region [
 iM 0 32 0,
 iA 1 33 qbv [tF 32]] none []))))), []⟩
def qeh : AFun := ⟨2,
(.seq
(.region [
 iM 0 4 0,
 iM 1 5 1,
 iA 2 6 qbh [tF 4, tT 5]] none [0])
(.region [
 iM 0 7 0,
 iH 1 8 7,
 iP 2 9 3 8,
 iO 3 10 9,
 iI 4 11 .sub 10 1,
 iH 5 12 7,
 iP 6 13 3 12,
 iS 7 1 13 11] none [])), []⟩
def qe3 : AFun := ⟨1,
(.seq
(.region [
 iK 0 2 0] none [0])
(.seq
(.region [
 iM 0 3 0,
 iA 1 4 qpi [tT 3],
⟨2, (some 5), .bin .sub (.c (kI 32)) (.t 4), none⟩,
 iM 3 2 5] none [2])
.ret)), [(.tmp 2, true)]⟩
def qht : ACode :=
(.seq
(.region [
 iB 0 15 .lss 14 13] none [0, 1, 7, 8, 13, 14, 15])
(.seq
(.cond (.t 15)
.skip
(.exit 0 [7]))
(.seq
(.block 1
(.seq
(.region [
 iM 0 16 14,
 iM 1 9 16] none [0, 1, 7, 8, 9, 13, 14])
(.seq
(.seq
(.region [
 iM 0 17 9,
 iM 1 18 0,
 iN 2 19 false 18,
 iB 3 20 .lss 17 19] none [0, 1, 7, 8, 9, 13, 14, 20])
(.cond (.t 20)
(.region [
 iM 0 21 8,
 iM 1 22 0,
 iM 2 23 9,
 iX 3 24 ⟨1, 4⟩ 22 23,
 iO 4 25 24,
⟨5, (some 26), .conv (.int .u64) (.t 25), none⟩,
 iM 6 27 1,
 iB 7 28 .shl 26 27,
 iB 8 29 .or 21 28,
 iM 9 8 29] none [0, 1, 7, 8, 9, 13, 14])
.skip))
(.seq
(.region [
 iM 0 30 7,
 iM 1 31 9,
 iM 2 32 8,
⟨3, (some 33), .conv (.int .u32) (.t 32), none⟩,
 iX 4 34 ⟨1, 4⟩ 30 31,
 iS 5 1 34 33] none [0, 1, 7, 8, 13, 14])
(.region [
 iM 0 35 8,
⟨1, (some 36), .bin .shr (.t 35) (.c (.int .u64 32)), none⟩,
 iM 2 8 36] none [0, 1, 7, 8, 13, 14])))))
(.region [
 iI 0 37 .add 14 1,
 iM 1 14 37] none [0, 1, 7, 8, 13, 14]))))
def qhs : ACode := .loop [0, 1, 7, 8, 13, 14] qht
def qle : AFun := ⟨3,
(.seq
(.region [
 iC 0 6 (.sl [])] none [0, 1, 2])
(.seq
(.region [
 iM 0 10 2,
⟨1, (some 11), .mkSl ⟨1, 4⟩ (.int .u32 0) (.t 10) (.t 10), none⟩,
 iM 2 7 11] none [0, 1, 7])
(.seq
(.region [
 iC 0 8 (.int .u64 0)] none [0, 1, 7, 8])
(.seq
(.seq
(.region [
 iM 0 12 7,
 iN 1 13 false 12,
 iK 2 14 0] none [0, 1, 7, 8, 13, 14])
(.block 0
 qhs))
(.seq
(.region [
 iM 0 38 7,
 iM 1 6 38] none [6])
.ret))))), [(.tmp 6, false)]⟩
def ql2 : ACode :=
(.seq
(.region [
 iB 0 16 .lss 15 14] none [0, 1, 2, 7, 8, 14, 15, 16])
(.seq
(.cond (.t 16)
.skip
(.exit 0 [0, 1, 2, 7, 8]))
(.seq
(.block 1
(.seq
(.region [
 iM 0 17 15,
 iM 1 9 17] none [0, 1, 2, 7, 8, 9, 14, 15])
(.seq
(.region [
 iM 0 18 7,
 iM 1 19 2,
 iM 2 20 1,
 iM 3 21 9,
 iX 4 22 ⟨1, 4⟩ 20 21,
 iO 5 23 22,
⟨6, (some 24), .conv (.int .u64) (.t 23), none⟩,
 iB 7 25 .mul 19 24,
 iB 8 26 .add 18 25,
 iM 9 7 26] none [0, 1, 2, 7, 8, 9, 14, 15])
(.seq
(.region [
 iM 0 27 0,
 iM 1 28 9,
 iX 2 29 ⟨1, 4⟩ 27 28,
 iO 3 30 29,
⟨4, (some 31), .conv (.int .u64) (.t 30), none⟩,
 iM 5 32 7,
⟨6, (some 33), .conv (.int .u32) (.t 32), none⟩,
⟨7, (some 34), .conv (.int .u64) (.t 33), none⟩,
 iB 8 35 .sub 31 34,
 iM 9 36 8,
 iB 10 37 .sub 35 36,
 iM 11 10 37] none [0, 1, 2, 7, 9, 10, 14, 15])
(.seq
(.region [
 iM 0 38 0,
 iM 1 39 9,
 iM 2 40 10,
⟨3, (some 41), .conv (.int .u32) (.t 40), none⟩,
 iX 4 42 ⟨1, 4⟩ 38 39,
 iS 5 1 42 41] none [0, 1, 2, 7, 10, 14, 15])
(.seq
(.region [
 iM 0 43 10,
⟨1, (some 44), .bin .shr (.t 43) (.c (.int .u64 63)), none⟩,
 iM 2 8 44] none [0, 1, 2, 7, 8, 14, 15])
(.region [
 iM 0 45 7,
⟨1, (some 46), .bin .shr (.t 45) (.c (.int .u64 32)), none⟩,
 iM 2 7 46] none [0, 1, 2, 7, 8, 14, 15])))))))
(.region [
 iI 0 47 .add 15 1,
 iM 1 15 47] none [0, 1, 2, 7, 8, 14, 15]))))
def qi3 : ACode := .loop [0, 1, 2, 7, 8, 14, 15] ql2
def ql1 : ACode :=
(.seq
(.region [
 iB 0 72 .lss 71 70] none [0, 1, 2, 7, 70, 71, 72])
(.seq
(.cond (.t 72)
.skip
(.exit 2 [0, 1, 2, 7]))
(.seq
(.block 3
(.seq
(.region [
 iM 0 73 71,
 iM 1 12 73] none [0, 1, 2, 7, 12, 70, 71])
(.seq
(.region [
 iM 0 74 7,
 iM 1 75 0,
 iM 2 76 12,
 iX 3 77 ⟨1, 4⟩ 75 76,
 iO 4 78 77,
⟨5, (some 79), .conv (.int .u64) (.t 78), none⟩,
 iM 6 80 1,
 iM 7 81 12,
 iX 8 82 ⟨1, 4⟩ 80 81,
 iO 9 83 82,
⟨10, (some 84), .conv (.int .u64) (.t 83), none⟩,
 iB 11 85 .add 79 84,
 iB 12 86 .add 74 85,
 iM 13 7 86] (some ([], [])) [0, 1, 2, 7, 12, 70, 71])
(.seq
(.region [
 iM 0 87 0,
 iM 1 88 12,
 iM 2 89 7,
⟨3, (some 90), .conv (.int .u32) (.t 89), none⟩,
 iX 4 91 ⟨1, 4⟩ 87 88,
 iS 5 1 91 90] none [0, 1, 2, 7, 70, 71])
(.region [
 iM 0 92 7,
⟨1, (some 93), .bin .shr (.t 92) (.c (.int .u64 32)), none⟩,
 iM 2 7 93] none [0, 1, 2, 7, 70, 71])))))
(.region [
 iI 0 94 .add 71 1,
 iM 1 71 94] none [0, 1, 2, 7, 70, 71]))))
def qi2 : ACode := .loop [0, 1, 2, 7, 70, 71] ql1
def qkl : AFun := ⟨3,
(.seq
(.region [
 iC 0 6 (.int .u32 0)] none [0, 1, 2])
(.seq
(.region [
 iC 0 7 (.int .u64 0),
 iC 1 8 (.int .u64 0)] none [0, 1, 2, 7, 8])
(.seq
(.seq
(.region [
 iM 0 13 1,
 iN 1 14 false 13,
 iK 2 15 0] none [0, 1, 2, 7, 8, 14, 15])
(.block 0
 qi3))
(.seq
(.region [
 iM 0 48 0,
 iM 1 49 1,
 iN 2 50 false 49,
 iX 3 51 ⟨1, 4⟩ 48 50,
 iO 4 52 51,
⟨5, (some 53), .conv (.int .u64) (.t 52), none⟩,
 iM 6 54 7,
 iB 7 55 .sub 53 54,
 iM 8 56 8,
 iB 9 57 .sub 55 56,
 iM 10 11 57] none [0, 1, 2, 11])
(.seq
(.region [
 iM 0 58 0,
 iM 1 59 1,
 iN 2 60 false 59,
 iM 3 61 11,
⟨4, (some 62), .conv (.int .u32) (.t 61), none⟩,
 iX 5 63 ⟨1, 4⟩ 58 60,
 iS 6 1 63 62] none [0, 1, 2, 11])
(.seq
(.seq
(.region [
 iM 0 64 11,
⟨1, (some 65), .bin .shr (.t 64) (.c (.int .u64 63)), none⟩,
⟨2, (some 66), .bin .eql (.t 65) (.c (.int .u64 0)), none⟩] none [0, 1, 2, 66])
(.cond (.t 66)
(.seq
(.region [
 iM 0 67 2,
⟨1, (some 68), .conv (.int .u32) (.t 67), none⟩,
 iM 2 6 68] none [6])
.ret)
.skip))
(.seq
(.region [
 iC 0 7 (.int .u64 0)] none [0, 1, 2, 7])
(.seq
(.seq
(.region [
 iM 0 69 1,
 iN 1 70 false 69,
 iK 2 71 0] none [0, 1, 2, 7, 70, 71])
(.block 2
 qi2))
(.seq
(.region [
 iM 0 95 0,
 iM 1 96 1,
 iN 2 97 false 96,
 iX 3 98 ⟨1, 4⟩ 95 97,
 iO 4 99 98,
 iM 5 100 7,
⟨6, (some 101), .conv (.int .u32) (.t 100), none⟩,
 iB 7 102 .add 99 101,
 iX 8 103 ⟨1, 4⟩ 95 97,
 iS 9 1 103 102] none [2])
(.seq
(.region [
 iM 0 104 2,
⟨1, (some 105), .bin .sub (.t 104) (.c (.int .u64 1)), none⟩,
⟨2, (some 106), .conv (.int .u32) (.t 105), none⟩,
 iM 3 6 106] none [6])
.ret)))))))))), [(.tmp 6, true)]⟩
def qhv : ACode :=
(.seq
(.region [
 iB 0 28 .lss 27 26] none [0, 1, 6, 26, 27, 28])
(.seq
(.cond (.t 28)
.skip
(.exit 0 [6]))
(.seq
(.block 1
(.seq
(.region [
 iM 0 29 27,
 iM 1 7 29] none [0, 1, 6, 7, 26, 27])
(.seq
(.region [
 iM 0 30 0,
 iM 1 31 7,
 iX 2 32 ⟨1, 4⟩ 30 31,
 iO 3 33 32,
⟨4, (some 34), .conv (.int .u64) (.t 33), none⟩,
 iM 5 8 34] none [0, 1, 6, 7, 8, 26, 27])
(.seq
(.seq
(.region [
 iM 0 35 7,
 iI 1 36 .add 35 1,
 iM 2 37 0,
 iN 3 38 false 37,
 iB 4 39 .lss 36 38] none [0, 1, 6, 7, 8, 26, 27, 39])
(.cond (.t 39)
(.region [
 iM 0 40 8,
 iM 1 41 0,
 iM 2 42 7,
 iI 3 43 .add 42 1,
 iX 4 44 ⟨1, 4⟩ 41 43,
 iO 5 45 44,
⟨6, (some 46), .conv (.int .u64) (.t 45), none⟩,
⟨7, (some 47), .bin .shl (.t 46) (.c (.int .u64 32)), none⟩,
 iB 8 48 .or 40 47,
 iM 9 8 48] none [0, 1, 6, 7, 8, 26, 27])
.skip))
(.region [
 iM 0 49 6,
 iM 1 50 7,
 iM 2 51 8,
 iM 3 52 1,
 iI 4 53 .rem 52 32,
 iB 5 54 .shr 51 53,
⟨6, (some 55), .conv (.int .u32) (.t 54), none⟩,
 iX 7 56 ⟨1, 4⟩ 49 50,
 iS 8 1 56 55] none [0, 1, 6, 26, 27])))))
(.region [
 iI 0 57 .add 27 1,
 iM 1 27 57] none [0, 1, 6, 26, 27]))))
def qhu : ACode := .loop [0, 1, 6, 26, 27] qhv
def qjb : AFun := ⟨2,
(.seq
(.region [
 iC 0 4 (.sl []),
 iK 1 5 0] none [0, 1])
(.seq
(.seq
(.region [
 iM 0 9 1,
 iI 1 10 .lss 9 0] none [0, 1, 10])
(.cond (.t 10)
(.seq
(.region [
 iC 0 4 (.sl []),
 iK 1 5 1] none [4, 5])
.ret)
.skip))
(.seq
(.region [
 iM 0 11 0,
 iA 1 12 qav [tT 11],
 iM 2 0 12] none [0, 1])
(.seq
(.seq
(.region [
 iM 0 13 1,
 iI 1 14 .quo 13 32,
 iM 2 15 0,
 iN 3 16 false 15,
 iB 4 17 .geq 14 16] none [0, 1, 17])
(.cond (.t 17)
(.seq
(.region [
 iC 0 4 (.sl []),
 iK 1 5 0] none [4, 5])
.ret)
.skip))
(.seq
(.region [
 iM 0 18 0,
 iM 1 19 1,
 iI 2 20 .quo 19 32,
⟨3, (some 21), .slice (some ⟨1, 4⟩) (.t 18) (some (.t 20)) none, none⟩,
 iM 4 0 21] none [0, 1])
(.seq
(.region [
 iM 0 22 0,
 iN 1 23 false 22,
⟨2, (some 24), .mkSl ⟨1, 4⟩ (.int .u32 0) (.t 23) (.t 23), none⟩,
 iM 3 6 24] none [0, 1, 6])
(.seq
(.seq
(.region [
 iM 0 25 0,
 iN 1 26 false 25,
 iK 2 27 0] none [0, 1, 6, 26, 27])
(.block 0
 qhu))
(.seq
(.region [
 iM 0 58 6,
 iA 1 59 qav [tT 58],
 iM 2 4 59,
 iK 3 5 0] none [4, 5])
.ret)))))))), [(.tmp 4, true), (.tmp 5, true)]⟩
def qee : AFun := ⟨1,
(.seq
(.region [
 iK 0 2 0] none [0])
(.seq
(.block 0
(.seq
(.seq
(.region [
 iM 0 4 0,
 iI 1 5 .eql 4 9,
 iM 2 3 5] none [0, 3])
(.cond (.t 3)
.skip
(.seq
(.region [
 iM 0 6 0,
 iI 1 7 .eql 6 10,
 iM 2 3 7] none [0, 3])
(.cond (.t 3)
.skip
(.seq
(.region [
 iM 0 8 0,
 iI 1 9 .eql 8 13,
 iM 2 3 9] none [0, 3])
(.cond (.t 3)
.skip
(.seq
(.region [
 iM 0 10 0,
 iI 1 11 .eql 10 32,
 iM 2 3 11] none [0, 3])
(.cond (.t 3)
.skip
(.seq
(.region [
 iM 0 12 0,
 iI 1 13 .eql 12 160,
 iM 2 3 13] none [0, 3])
(.cond (.t 3)
.skip
(.region [
 iM 0 14 0,
 iI 1 15 .eql 14 12288,
 iM 2 3 15] none [0, 3])))))))))))
(.cond (.t 3)
(.seq
(.region [
 iK 0 2 1] none [2])
.ret)
(.seq
(.region [
 iM 0 17 0,
 iA 1 18 qp9 [tT 17],
 iM 2 16 18] none [0, 16])
(.cond (.t 16)
(.seq
(.region [
 iK 0 2 2] none [2])
.ret)
(.seq
(.region [
 iM 0 20 0,
 iI 1 21 .geq 20 48,
 iM 2 22 21,
⟨3, (some 23), .mv (.t 0), (some (22, true))⟩,
⟨4, (some 24), .bin .leq (.t 23) (.c (kI 57)), (some (22, true))⟩,
⟨5, (some 25), .pick (.t 22) (.t 24) (.c (.bool false)), none⟩,
 iM 6 19 25] none [0, 19])
(.cond (.t 19)
(.seq
(.region [
 iK 0 2 3] none [2])
.ret)
(.seq
(.seq
(.region [
 iM 0 27 0,
 iI 1 28 .eql 27 95,
 iM 2 26 28] none [0, 26])
(.cond (.t 26)
.skip
(.seq
(.region [
 iM 0 29 0,
 iI 1 30 .eql 29 176,
 iM 2 26 30] none [0, 26])
(.cond (.t 26)
.skip
(.seq
(.region [
 iM 0 31 0,
 iI 1 32 .eql 31 8242,
 iM 2 26 32] none [0, 26])
(.cond (.t 26)
.skip
(.region [
 iM 0 33 0,
 iI 1 34 .geq 33 8320,
 iM 2 35 34,
⟨3, (some 36), .mv (.t 0), (some (35, true))⟩,
⟨4, (some 37), .bin .leq (.t 36) (.c (kI 8329)), (some (35, true))⟩,
⟨5, (some 38), .pick (.t 35) (.t 37) (.c (.bool false)), none⟩,
 iM 6 26 38] none [0, 26])))))))
(.cond (.t 26)
(.seq
(.region [
 iK 0 2 4] none [2])
.ret)
(.seq
(.region [
 iM 0 40 0,
 iI 1 41 .eql 40 35,
 iM 2 39 41] none [0, 39])
(.cond (.t 39)
(.seq
(.region [
 iK 0 2 6] none [2])
.ret)
(.seq
(.region [
 iM 0 43 0,
 iA 1 44 qt3 [tT 43],
 iM 2 42 44] none [42])
(.cond (.t 42)
(.seq
(.region [
 iK 0 2 5] none [2])
.ret)
.skip)))))))))))))
(.seq
(.region [
 iK 0 2 0] none [2])
.ret))), [(.tmp 2, true)]⟩
def qbp : AFun := ⟨1,
(.seq
(.region [
 iC 0 2 (.int .i32 0),
 iK 1 3 0] none [0])
(.seq
(.seq
(.region [
 iM 0 4 0,
⟨1, (some 5), .bin .neq (.t 4) (.c (.str [])), none⟩,
 iM 2 6 5,
⟨3, (some 7), .mv (.t 0), (some (6, true))⟩,
⟨4, (some 8), .idxS (.t 7) (.c (kI 0)), (some (6, true))⟩,
⟨5, (some 9), .bin .lss (.t 8) (.c (.int .u8 128)), (some (6, true))⟩,
⟨6, (some 10), .pick (.t 6) (.t 9) (.c (.bool false)), none⟩] none [0, 10])
(.cond (.t 10)
(.seq
(.region [
 iM 0 11 0,
⟨1, (some 12), .idxS (.t 11) (.c (kI 0)), none⟩,
⟨2, (some 13), .conv (.int .i32) (.t 12), none⟩,
 iM 3 2 13,
 iK 4 3 1] none [2, 3])
.ret)
(.region [
 iM 0 15 0,
 iA 1 16 qd0 [tT 15],
 iM 2 14 16,
 iE 3 17 14 0,
 iE 4 18 14 1,
 iM 5 2 17,
 iM 6 3 18] none [2, 3])))
.ret)), [(.tmp 2, true), (.tmp 3, true)]⟩
def qhp : AFun := ⟨2,
(.seq
(.region [
⟨0, (some 2), .box 4 (.t 0), none⟩,
 iZ 1 4 zD0 []] none [1, 2, 4])
(.seq
(.region [
 iP 0 5 0 2,
 iO 1 6 5,
 iM 2 7 1,
 iA 3 8 qmw [tT 7],
 iB 4 9 .add 6 8,
 iP 5 10 0 2,
 iS 6 1 10 9] (some ([(1, 3)], [3])) [1, 2, 4])
(.seq
(.region [
 iP 0 11 1 2,
 iO 1 12 11,
 iI 2 13 .add 12 1,
 iP 3 14 1 2,
 iS 4 1 14 13] none [1, 2, 4])
(.seq
(.region [
 iP 0 15 3 2,
 iO 1 16 15,
 iI 2 17 .add 16 1,
 iP 3 18 3 2,
 iS 4 1 18 17] none [1, 2, 4])
(.seq
(.seq
(.region [
 iM 0 19 1,
⟨1, (some 20), .bin .eql (.t 19) (.c (.int .i32 10)), none⟩] none [2, 4, 20])
(.cond (.t 20)
(.seq
(.region [
 iP 0 21 2 2,
 iO 1 22 21,
 iI 2 23 .add 22 1,
 iP 3 24 2 2,
 iS 4 1 24 23] none [2, 4])
(.region [
 iP 0 25 3 2,
⟨1, none, .store 1 (.t 25) (.c (kI 1)), none⟩] none [2, 4]))
.skip))
(.seq
(.region [
 iL 0 26 4 true 2,
 iS 1 4 4 26] none [4])
.ret)))))), [(.cell 4 4 true, true)]⟩
def qho : AFun := ⟨2,
(.seq
(.region [
 iC 0 4 (.bool false)] none [0, 1])
(.seq
(.seq
(.region [
 iM 0 7 1,
⟨1, (some 8), .bin .neq (.t 7) (.c (.int .i32 65533)), none⟩] none [0, 8])
(.cond (.t 8)
(.seq
(.region [
 iC 0 4 (.bool false)] none [4])
.ret)
.skip))
(.seq
(.region [
 iM 0 10 0,
 iA 1 11 qe6 [tT 10],
 iM 2 9 11,
 iE 3 12 9 0,
 iE 4 13 9 1,
 iM 5 5 12,
 iM 6 6 13] none [6])
(.seq
(.region [
 iM 0 14 6,
 iI 1 15 .eql 14 1,
 iM 2 4 15] none [4])
.ret)))), [(.tmp 4, true)]⟩
def qks : AFun := ⟨1,
(.seq
(.region [
 iK 0 2 0] none [0])
(.seq
(.seq
(.region [
 iM 0 3 0] none [0, 3])
(.block 0
(.seq
(.seq
(.region [
 iI 0 5 .eql 3 183,
 iM 1 4 5] none [0, 3, 4])
(.cond (.t 4)
.skip
(.region [
 iI 0 6 .eql 3 215,
 iM 1 4 6] none [0, 3, 4])))
(.cond (.t 4)
(.seq
(.region [
 iK 0 2 42] none [2])
.ret)
(.seq
(.region [
 iI 0 8 .eql 3 247,
 iM 1 7 8] none [0, 3, 7])
(.cond (.t 7)
(.seq
(.region [
 iK 0 2 47] none [2])
.ret)
(.seq
(.region [
 iI 0 10 .eql 3 8722,
 iM 1 9 10] none [0, 9])
(.cond (.t 9)
(.seq
(.region [
 iK 0 2 45] none [2])
.ret)
.skip))))))))
(.seq
(.region [
 iM 0 11 0,
 iM 1 2 11] none [2])
.ret))), [(.tmp 2, true)]⟩
def qkb : AFun := ⟨1,
(.seq
(.region [
 iC 0 2 (.bool false)] none [0])
(.seq
(.block 0
(.seq
(.seq
(.region [
 iM 0 4 0,
 iI 1 5 .geq 4 65,
 iM 2 6 5,
⟨3, (some 7), .mv (.t 0), (some (6, true))⟩,
⟨4, (some 8), .bin .leq (.t 7) (.c (kI 90)), (some (6, true))⟩,
⟨5, (some 9), .pick (.t 6) (.t 8) (.c (.bool false)), none⟩,
 iM 6 3 9] none [0, 3])
(.cond (.t 3)
.skip
(.region [
 iM 0 10 0,
 iI 1 11 .geq 10 97,
 iM 2 12 11,
⟨3, (some 13), .mv (.t 0), (some (12, true))⟩,
⟨4, (some 14), .bin .leq (.t 13) (.c (kI 122)), (some (12, true))⟩,
⟨5, (some 15), .pick (.t 12) (.t 14) (.c (.bool false)), none⟩,
 iM 6 3 15] none [0, 3])))
(.cond (.t 3)
(.seq
(.region [
 iC 0 2 (.bool true)] none [2])
.ret)
(.seq
(.seq
(.region [
 iM 0 17 0,
 iI 1 18 .geq 17 913,
 iM 2 19 18,
⟨3, (some 20), .mv (.t 0), (some (19, true))⟩,
⟨4, (some 21), .bin .leq (.t 20) (.c (kI 929)), (some (19, true))⟩,
⟨5, (some 22), .pick (.t 19) (.t 21) (.c (.bool false)), none⟩,
 iM 6 16 22] none [0, 16])
(.cond (.t 16)
.skip
(.seq
(.region [
 iM 0 23 0,
 iI 1 24 .geq 23 931,
 iM 2 25 24,
⟨3, (some 26), .mv (.t 0), (some (25, true))⟩,
⟨4, (some 27), .bin .leq (.t 26) (.c (kI 937)), (some (25, true))⟩,
⟨5, (some 28), .pick (.t 25) (.t 27) (.c (.bool false)), none⟩,
 iM 6 16 28] none [0, 16])
(.cond (.t 16)
.skip
(.region [
 iM 0 29 0,
 iI 1 30 .geq 29 945,
 iM 2 31 30,
⟨3, (some 32), .mv (.t 0), (some (31, true))⟩,
⟨4, (some 33), .bin .leq (.t 32) (.c (kI 969)), (some (31, true))⟩,
⟨5, (some 34), .pick (.t 31) (.t 33) (.c (.bool false)), none⟩,
 iM 6 16 34] none [0, 16])))))
(.cond (.t 16)
(.seq
(.region [
 iC 0 2 (.bool true)] none [2])
.ret)
.skip)))))
(.seq
(.region [
 iM 0 35 0,
 iI 1 36 .geq 35 1040,
 iM 2 37 36,
⟨3, (some 38), .mv (.t 0), (some (37, true))⟩,
⟨4, (some 39), .bin .leq (.t 38) (.c (kI 1103)), (some (37, true))⟩,
⟨5, (some 40), .pick (.t 37) (.t 39) (.c (.bool false)), none⟩,
 iM 6 2 40] none [2])
.ret))), [(.tmp 2, true)]⟩
def qkr : AFun := ⟨1,
(.seq
(.region [
 iC 0 2 (.bool false)] none [0])
(.seq
(.seq
(.region [
 iM 0 3 0] none [3])
(.block 0
(.seq
(.seq
(.region [
 iI 0 5 .eql 3 43,
 iM 1 4 5] none [3, 4])
(.cond (.t 4)
.skip
(.seq
(.region [
 iI 0 6 .eql 3 45,
 iM 1 4 6] none [3, 4])
(.cond (.t 4)
.skip
(.seq
(.region [
 iI 0 7 .eql 3 42,
 iM 1 4 7] none [3, 4])
(.cond (.t 4)
.skip
(.seq
(.region [
 iI 0 8 .eql 3 47,
 iM 1 4 8] none [3, 4])
(.cond (.t 4)
.skip
(.seq
(.region [
 iI 0 9 .eql 3 37,
 iM 1 4 9] none [3, 4])
(.cond (.t 4)
.skip
(.seq
(.region [
 iI 0 10 .eql 3 40,
 iM 1 4 10] none [3, 4])
(.cond (.t 4)
.skip
(.seq
(.region [
 iI 0 11 .eql 3 41,
 iM 1 4 11] none [3, 4])
(.cond (.t 4)
.skip
(.seq
(.region [
 iI 0 12 .eql 3 123,
 iM 1 4 12] none [3, 4])
(.cond (.t 4)
.skip
(.seq
(.region [
 iI 0 13 .eql 3 125,
 iM 1 4 13] none [3, 4])
(.cond (.t 4)
.skip
(.seq
(.region [
 iI 0 14 .eql 3 44,
 iM 1 4 14] none [3, 4])
(.cond (.t 4)
.skip
(.seq
(.region [
 iI 0 15 .eql 3 59,
 iM 1 4 15] none [3, 4])
(.cond (.t 4)
.skip
(.seq
(.region [
 iI 0 16 .eql 3 58,
 iM 1 4 16] none [3, 4])
(.cond (.t 4)
.skip
(.seq
(.region [
 iI 0 17 .eql 3 61,
 iM 1 4 17] none [3, 4])
(.cond (.t 4)
.skip
(.seq
(.region [
 iI 0 18 .eql 3 33,
 iM 1 4 18] none [3, 4])
(.cond (.t 4)
.skip
(.seq
(.region [
 iI 0 19 .eql 3 63,
 iM 1 4 19] none [3, 4])
(.cond (.t 4)
.skip
(.region [
 iI 0 20 .eql 3 64,
 iM 1 4 20] none [3, 4])))))))))))))))))))))))))))))))
(.cond (.t 4)
(.seq
(.region [
 iC 0 2 (.bool true)] none [2])
.ret)
(.seq
(.seq
(.region [
 iI 0 22 .eql 3 183,
 iM 1 21 22] none [3, 21])
(.cond (.t 21)
.skip
(.seq
(.region [
 iI 0 23 .eql 3 215,
 iM 1 21 23] none [3, 21])
(.cond (.t 21)
.skip
(.seq
(.region [
 iI 0 24 .eql 3 247,
 iM 1 21 24] none [3, 21])
(.cond (.t 21)
.skip
(.seq
(.region [
 iI 0 25 .eql 3 8722,
 iM 1 21 25] none [3, 21])
(.cond (.t 21)
.skip
(.seq
(.region [
 iI 0 26 .eql 3 8788,
 iM 1 21 26] none [3, 21])
(.cond (.t 21)
.skip
(.region [
 iI 0 27 .eql 3 8800,
 iM 1 21 27] none [21])))))))))))
(.cond (.t 21)
(.seq
(.region [
 iC 0 2 (.bool true)] none [2])
.ret)
.skip))))))
(.seq
(.region [
 iC 0 2 (.bool false)] none [2])
.ret))), [(.tmp 2, true)]⟩
def qhe : AFun := ⟨1,
(.seq
(.region [
⟨0, (some 1), .box 4 (.t 0), none⟩,
 iZ 1 2 zD0 []] none [1, 2])
(.seq
(.region [
 iF 0 3 0 4 true 1,
 iL 1 4 4 true 3,
 iS 2 4 2 4] none [2])
.ret)), [(.cell 2 4 true, true)]⟩
def T0 : Tab where
  funs f := match f with
    | 5 => some qck
    | 6 => some qf1
    | 9 => some qef
    | 10 => some qij
    | 11 => some qnp
    | 12 => some qod
    | 13 => some qjt
    | 14 => some qoc
    | 15 => some qoe
    | 16 => some qd9
    | 17 => some qi1
    | 19 => some qbw
    | 20 => some qt8
    | 24 => some qik
    | 25 => some qil
    | 26 => some qfe
    | 27 => some qms
    | 28 => some qmr
    | 29 => some qea
    | 30 => some qf3
    | 31 => some qg9
    | 32 => some qb1
    | 33 => some qmq
    | 34 => some qdp
    | 35 => some qkn
    | 36 => some qii
    | 37 => some qlf
    | 38 => some qmp
    | 39 => some qh8
    | 40 => some ql6
    | 41 => some qjv
    | 42 => some qb2
    | 43 => some qjk
    | 46 => some qsn
    | 47 => some qt9
    | 49 => some qg1
    | 50 => some qko
    | 52 => some qdg
    | 53 => some qgp
    | 54 => some qdx
    | 55 => some qd2
    | 56 => some qa0
    | 57 => some qhb
    | 58 => some qeb
    | 59 => some qkq
    | 60 => some qka
    | 61 => some qen
    | 62 => some qgg
    | 63 => some qhc
    | 64 => some qfn
    | 65 => some qbb
    | 67 => some qmn
    | 68 => some qlh
    | 69 => some qc3
    | 70 => some qld
    | 71 => some qj1
    | 73 => some qcw
    | 76 => some qwo
    | 77 => some qsm
    | 79 => some qg4
    | 80 => some qim
    | 82 => some qdw
    | 83 => some qey
    | 84 => some qez
    | 85 => some qkp
    | 86 => some qda
    | 87 => some qi0
    | 88 => some qad
    | 89 => some qj9
    | 90 => some qjw
    | 91 => some qe8
    | 92 => some qgq
    | 93 => some qf4
    | 94 => some qft
    | 95 => some qdo
    | 96 => some qbf
    | 97 => some qbl
    | 98 => some qg2
    | 99 => some qlg
    | 100 => some qlm
    | 101 => some qh9
    | 102 => some qgb
    | 103 => some qco
    | 112 => some qe7
    | 113 => some qli
    | 114 => some qeq
    | 115 => some qa8
    | 116 => some ql7
    | 117 => some qdv
    | 118 => some qj0
    | 119 => some qf2
    | 120 => some qbd
    | 121 => some qb6
    | 122 => some qcd
    | 123 => some qhx
    | 124 => some qgf
    | 125 => some qaf
    | 126 => some qa9
    | 128 => some qmo
    | 129 => some qdq
    | 130 => some qff
    | 131 => some qd6
    | 132 => some qe1
    | 133 => some qcy
    | 134 => some qe2
    | 135 => some qec
    | 136 => some qbs
    | 137 => some qd7
    | 138 => some qkm
    | 139 => some qb7
    | 140 => some qeh
    | 142 => some qe3
    | 143 => some qle
    | 144 => some qkl
    | 145 => some qjb
    | 146 => some qee
    | 147 => some qbp
    | 148 => some qhp
    | 149 => some qho
    | 150 => some qks
    | 151 => some qkb
    | 152 => some qkr
    | 176 => some qhe
    | _ => none
  recs f := match f with
    | 51 => some qbt
    | _ => none
end Go.Rf
