/- GuardEquals, at most 1048576 values and letters: the law's card, out of what its abstract call comes to. -/
import Derived.Test.YtdgfohkljpjdpaaGreatDoorRg6
import Derived.Test.YtdgfohkljpjdpaaGreatDoorSp9
import Derived.Test.YtdgfohkljpjdpaaGreatDoorProg
import Derived.Test.YtdgfohkljpjdpaaGreatDoorChecked
import Derived.Test.YtdgfohkljpjdpaaGreatDoorCards
import Derived.Test.YtdgfohkljpjdpaaGreatDoorTie
import Derived.Deep.DeepHandedRow
import Derived.Lib.LaidU8T
import Derived.PinnedBridge
import Derived.Lay

/- The digests stand for the functions. -/
namespace Go.Rf
theorem ok_rafterlaw09_GuardEquals : okFun Go.Proofs.Tryz.prog 4 a_rafterlaw09_GuardEquals = true := by decide +kernel
theorem ok_rafterlaw09_awake : okFun Go.Proofs.Tryz.prog 6 a_rafterlaw09_awake = true := by decide +kernel
theorem ok_lang_Expr : okFun Go.Proofs.Tryz.prog 7 a_lang_Expr = true := by decide +kernel
theorem ok_rafterlaw09_deep : okFun Go.Proofs.Tryz.prog 8 a_rafterlaw09_deep = true := by decide +kernel
theorem ok_guard_Affine : okFun Go.Proofs.Tryz.prog 9 a_guard_Affine = true := by decide +kernel
theorem ok_whole_Text : okFun Go.Proofs.Tryz.prog 10 a_whole_Text = true := by decide +kernel
theorem ok_whole_Of : okFun Go.Proofs.Tryz.prog 11 a_whole_Of = true := by decide +kernel
theorem ok_whole_Neg : okFun Go.Proofs.Tryz.prog 12 a_whole_Neg = true := by decide +kernel
theorem ok_whole_Add : okFun Go.Proofs.Tryz.prog 13 a_whole_Add = true := by decide +kernel
theorem ok_whole_Sub : okFun Go.Proofs.Tryz.prog 14 a_whole_Sub = true := by decide +kernel
theorem ok_whole_Mul : okFun Go.Proofs.Tryz.prog 15 a_whole_Mul = true := by decide +kernel
theorem ok_rafterlaw00_SameWhole : okFun Go.Proofs.Tryz.prog 16 a_rafterlaw00_SameWhole = true := by decide +kernel
theorem ok_rafterlaw00_LenWholes : okFun Go.Proofs.Tryz.prog 17 a_rafterlaw00_LenWholes = true := by decide +kernel
theorem ok_guard_Cond : okFun Go.Proofs.Tryz.prog 18 a_guard_Cond = true := by decide +kernel
theorem ok_rafterlaw00_SameWholes : okFun Go.Proofs.Tryz.prog 19 a_rafterlaw00_SameWholes = true := by decide +kernel
theorem ok_lang_Value : okFun Go.Proofs.Tryz.prog 20 a_lang_Value = true := by decide +kernel
theorem ok_affine_Left : okFun Go.Proofs.Tryz.prog 21 a_affine_Left = true := by decide +kernel
theorem ok_affine_Canonical : okFun Go.Proofs.Tryz.prog 22 a_affine_Canonical = true := by decide +kernel
theorem ok_whole_Cmp : okFun Go.Proofs.Tryz.prog 23 a_whole_Cmp = true := by decide +kernel
theorem ok_whole_Sign : okFun Go.Proofs.Tryz.prog 24 a_whole_Sign = true := by decide +kernel
theorem ok_rafterlaw00_Row : okFun Go.Proofs.Tryz.prog 31 a_rafterlaw00_Row = true := by decide +kernel
theorem ok_lang_ReadExpr : okFun Go.Proofs.Tryz.prog 32 a_lang_ReadExpr = true := by decide +kernel
theorem ok_lang_Write : okFun Go.Proofs.Tryz.prog 33 a_lang_Write = true := by decide +kernel
theorem ok_guard_Form : okFun Go.Proofs.Tryz.prog 34 a_guard_Form = true := by decide +kernel
theorem ok_limbs_Text : okFun Go.Proofs.Tryz.prog 35 a_limbs_Text = true := by decide +kernel
theorem ok_whole_made : okFun Go.Proofs.Tryz.prog 36 a_whole_made = true := by decide +kernel
theorem ok_limbs_Small : okFun Go.Proofs.Tryz.prog 37 a_limbs_Small = true := by decide +kernel
theorem ok_limbs_Trim : okFun Go.Proofs.Tryz.prog 38 a_limbs_Trim = true := by decide +kernel
theorem ok_limbs_Add : okFun Go.Proofs.Tryz.prog 39 a_limbs_Add = true := by decide +kernel
theorem ok_limbs_Sub : okFun Go.Proofs.Tryz.prog 40 a_limbs_Sub = true := by decide +kernel
theorem ok_limbs_Mul : okFun Go.Proofs.Tryz.prog 41 a_limbs_Mul = true := by decide +kernel
theorem ok_rafterlaw00_SameLimbs : okFun Go.Proofs.Tryz.prog 42 a_rafterlaw00_SameLimbs = true := by decide +kernel
theorem ok_rafterlaw00_LenWhole : okFun Go.Proofs.Tryz.prog 43 a_rafterlaw00_LenWhole = true := by decide +kernel
theorem ok_lang_ReadCond : okFun Go.Proofs.Tryz.prog 44 a_lang_ReadCond = true := by decide +kernel
theorem ok_guard_Row : okFun Go.Proofs.Tryz.prog 45 a_guard_Row = true := by decide +kernel
theorem ok_lang_Reckon : okFun Go.Proofs.Tryz.prog 46 a_lang_Reckon = true := by decide +kernel
theorem ok_affine_sum : okFun Go.Proofs.Tryz.prog 47 a_affine_sum = true := by decide +kernel
theorem ok_whole_Gcd : okFun Go.Proofs.Tryz.prog 48 a_whole_Gcd = true := by decide +kernel
theorem ok_limbs_Cmp : okFun Go.Proofs.Tryz.prog 49 a_limbs_Cmp = true := by decide +kernel
theorem ok_limbs_Bits : okFun Go.Proofs.Tryz.prog 50 a_limbs_Bits = true := by decide +kernel
theorem ok_lang_reader_here : okFun Go.Proofs.Tryz.prog 53 a_lang_reader_here = true := by decide +kernel
theorem ok_lang_reader_must : okFun Go.Proofs.Tryz.prog 54 a_lang_reader_must = true := by decide +kernel
theorem ok_lang_reader_is : okFun Go.Proofs.Tryz.prog 55 a_lang_reader_is = true := by decide +kernel
theorem ok_rafterlaw00_Small : okFun Go.Proofs.Tryz.prog 61 a_rafterlaw00_Small = true := by decide +kernel
theorem ok_affine_Names : okFun Go.Proofs.Tryz.prog 62 a_affine_Names = true := by decide +kernel
theorem ok_lang_ReadExpr_1 : okFun Go.Proofs.Tryz.prog 63 a_lang_ReadExpr_1 = true := by decide +kernel
theorem ok_lang_reader_sum : okFun Go.Proofs.Tryz.prog 64 a_lang_reader_sum = true := by decide +kernel
theorem ok_lang_write : okFun Go.Proofs.Tryz.prog 65 a_lang_write = true := by decide +kernel
theorem ok_whole_Trim : okFun Go.Proofs.Tryz.prog 67 a_whole_Trim = true := by decide +kernel
theorem ok_guard_times : okFun Go.Proofs.Tryz.prog 68 a_guard_times = true := by decide +kernel
theorem ok_guard_both : okFun Go.Proofs.Tryz.prog 69 a_guard_both = true := by decide +kernel
theorem ok_limbs_short : okFun Go.Proofs.Tryz.prog 70 a_limbs_short = true := by decide +kernel
theorem ok_limbs_byLimb : okFun Go.Proofs.Tryz.prog 71 a_limbs_byLimb = true := by decide +kernel
theorem ok_lang_ReadCond_1 : okFun Go.Proofs.Tryz.prog 72 a_lang_ReadCond_1 = true := by decide +kernel
theorem ok_lang_reader_cond : okFun Go.Proofs.Tryz.prog 73 a_lang_reader_cond = true := by decide +kernel
theorem ok_ratio_From : okFun Go.Proofs.Tryz.prog 74 a_ratio_From = true := by decide +kernel
theorem ok_affine_Canon : okFun Go.Proofs.Tryz.prog 75 a_affine_Canon = true := by decide +kernel
theorem ok_lang_join : okFun Go.Proofs.Tryz.prog 76 a_lang_join = true := by decide +kernel
theorem ok_whole_Limbs : okFun Go.Proofs.Tryz.prog 77 a_whole_Limbs = true := by decide +kernel
theorem ok_limbs_Gcd : okFun Go.Proofs.Tryz.prog 78 a_limbs_Gcd = true := by decide +kernel
theorem ok_bits_Len32 : okFun Go.Proofs.Tryz.prog 79 a_bits_Len32 = true := by decide +kernel
theorem ok_glyph_Scan : okFun Go.Proofs.Tryz.prog 80 a_glyph_Scan = true := by decide +kernel
theorem ok_lang_reader_need : okFun Go.Proofs.Tryz.prog 82 a_lang_reader_need = true := by decide +kernel
theorem ok_lang_reader_pass : okFun Go.Proofs.Tryz.prog 83 a_lang_reader_pass = true := by decide +kernel
theorem ok_lang_reader_name : okFun Go.Proofs.Tryz.prog 84 a_lang_reader_name = true := by decide +kernel
theorem ok_lang_reader_variable : okFun Go.Proofs.Tryz.prog 86 a_lang_reader_variable = true := by decide +kernel
theorem ok_whole_Parse : okFun Go.Proofs.Tryz.prog 87 a_whole_Parse = true := by decide +kernel
theorem ok_glyph_Name : okFun Go.Proofs.Tryz.prog 94 a_glyph_Name = true := by decide +kernel
theorem ok_lang_reader_product : okFun Go.Proofs.Tryz.prog 95 a_lang_reader_product = true := by decide +kernel
theorem ok_strings_Builder_WriteString : okFun Go.Proofs.Tryz.prog 96 a_strings_Builder_WriteString = true := by decide +kernel
theorem ok_strings_Builder_WriteByte : okFun Go.Proofs.Tryz.prog 97 a_strings_Builder_WriteByte = true := by decide +kernel
theorem ok_lang_part : okFun Go.Proofs.Tryz.prog 98 a_lang_part = true := by decide +kernel
theorem ok_lang_single : okFun Go.Proofs.Tryz.prog 99 a_lang_single = true := by decide +kernel
theorem ok_lang_sum : okFun Go.Proofs.Tryz.prog 100 a_lang_sum = true := by decide +kernel
theorem ok_lang_adds : okFun Go.Proofs.Tryz.prog 101 a_lang_adds = true := by decide +kernel
theorem ok_guard_constant : okFun Go.Proofs.Tryz.prog 102 a_guard_constant = true := by decide +kernel
theorem ok_whole_DivMod : okFun Go.Proofs.Tryz.prog 103 a_whole_DivMod = true := by decide +kernel
theorem ok_ratio_lowest : okFun Go.Proofs.Tryz.prog 104 a_ratio_lowest = true := by decide +kernel
theorem ok_ratio_one : okFun Go.Proofs.Tryz.prog 105 a_ratio_one = true := by decide +kernel
theorem ok_ratio_Trim : okFun Go.Proofs.Tryz.prog 106 a_ratio_Trim = true := by decide +kernel
theorem ok_ratio_Whole : okFun Go.Proofs.Tryz.prog 107 a_ratio_Whole = true := by decide +kernel
theorem ok_ratio_Mul : okFun Go.Proofs.Tryz.prog 108 a_ratio_Mul = true := by decide +kernel
theorem ok_affine_told : okFun Go.Proofs.Tryz.prog 109 a_affine_told = true := by decide +kernel
theorem ok_affine_lowest : okFun Go.Proofs.Tryz.prog 110 a_affine_lowest = true := by decide +kernel
theorem ok_limbs_Uint : okFun Go.Proofs.Tryz.prog 111 a_limbs_Uint = true := by decide +kernel
theorem ok_limbs_DivMod : okFun Go.Proofs.Tryz.prog 112 a_limbs_DivMod = true := by decide +kernel
theorem ok_glyph_start : okFun Go.Proofs.Tryz.prog 113 a_glyph_start = true := by decide +kernel
theorem ok_glyph_scanner_blanks : okFun Go.Proofs.Tryz.prog 114 a_glyph_scanner_blanks = true := by decide +kernel
theorem ok_glyph_scanner_token : okFun Go.Proofs.Tryz.prog 115 a_glyph_scanner_token = true := by decide +kernel
theorem ok_lang_word : okFun Go.Proofs.Tryz.prog 116 a_lang_word = true := by decide +kernel
theorem ok_utf8_RuneCountInString : okFun Go.Proofs.Tryz.prog 117 a_utf8_RuneCountInString = true := by decide +kernel
theorem ok_utf8_RuneLen : okFun Go.Proofs.Tryz.prog 118 a_utf8_RuneLen = true := by decide +kernel
theorem ok_limbs_Parse : okFun Go.Proofs.Tryz.prog 119 a_limbs_Parse = true := by decide +kernel
theorem ok_lang_reader_unary : okFun Go.Proofs.Tryz.prog 126 a_lang_reader_unary = true := by decide +kernel
theorem ok_limbs_long : okFun Go.Proofs.Tryz.prog 128 a_limbs_long = true := by decide +kernel
theorem ok_glyph_scanner_class : okFun Go.Proofs.Tryz.prog 129 a_glyph_scanner_class = true := by decide +kernel
theorem ok_glyph_scanner_pass : okFun Go.Proofs.Tryz.prog 130 a_glyph_scanner_pass = true := by decide +kernel
theorem ok_glyph_scanner_next : okFun Go.Proofs.Tryz.prog 131 a_glyph_scanner_next = true := by decide +kernel
theorem ok_glyph_scanner_while : okFun Go.Proofs.Tryz.prog 132 a_glyph_scanner_while = true := by decide +kernel
theorem ok_glyph_scanner_token_1 : okFun Go.Proofs.Tryz.prog 133 a_glyph_scanner_token_1 = true := by decide +kernel
theorem ok_glyph_scanner_early : okFun Go.Proofs.Tryz.prog 134 a_glyph_scanner_early = true := by decide +kernel
theorem ok_glyph_scanner_token_2 : okFun Go.Proofs.Tryz.prog 135 a_glyph_scanner_token_2 = true := by decide +kernel
theorem ok_glyph_scanner_sign : okFun Go.Proofs.Tryz.prog 136 a_glyph_scanner_sign = true := by decide +kernel
theorem ok_glyph_scanner_fail : okFun Go.Proofs.Tryz.prog 137 a_glyph_scanner_fail = true := by decide +kernel
theorem ok_limbs_grow : okFun Go.Proofs.Tryz.prog 138 a_limbs_grow = true := by decide +kernel
theorem ok_lang_reader_into : okFun Go.Proofs.Tryz.prog 139 a_lang_reader_into = true := by decide +kernel
theorem ok_lang_reader_out : okFun Go.Proofs.Tryz.prog 140 a_lang_reader_out = true := by decide +kernel
theorem ok_bits_LeadingZeros32 : okFun Go.Proofs.Tryz.prog 142 a_bits_LeadingZeros32 = true := by decide +kernel
theorem ok_limbs_moved : okFun Go.Proofs.Tryz.prog 143 a_limbs_moved = true := by decide +kernel
theorem ok_limbs_take : okFun Go.Proofs.Tryz.prog 144 a_limbs_take = true := by decide +kernel
theorem ok_limbs_Right : okFun Go.Proofs.Tryz.prog 145 a_limbs_Right = true := by decide +kernel
theorem ok_glyph_Class : okFun Go.Proofs.Tryz.prog 146 a_glyph_Class = true := by decide +kernel
theorem ok_utf8_DecodeRuneInString : okFun Go.Proofs.Tryz.prog 147 a_utf8_DecodeRuneInString = true := by decide +kernel
theorem ok_glyph_behind : okFun Go.Proofs.Tryz.prog 148 a_glyph_behind = true := by decide +kernel
theorem ok_glyph_broken : okFun Go.Proofs.Tryz.prog 149 a_glyph_broken = true := by decide +kernel
theorem ok_glyph_Fold : okFun Go.Proofs.Tryz.prog 150 a_glyph_Fold = true := by decide +kernel
theorem ok_glyph_letter : okFun Go.Proofs.Tryz.prog 151 a_glyph_letter = true := by decide +kernel
theorem ok_glyph_sign : okFun Go.Proofs.Tryz.prog 152 a_glyph_sign = true := by decide +kernel
theorem okr_lang_read : okRecF Go.Proofs.Tryz.prog 51 r_lang_read = true := by decide +kernel
theorem okT0 : ∀ f af, T0.funs f = some af → okFun Go.Proofs.Tryz.prog f af = true := by
  intro f af h
  unfold T0 at h
  dsimp only at h
  split at h
  · cases h; exact ok_rafterlaw09_GuardEquals
  · cases h; exact ok_rafterlaw09_awake
  · cases h; exact ok_lang_Expr
  · cases h; exact ok_rafterlaw09_deep
  · cases h; exact ok_guard_Affine
  · cases h; exact ok_whole_Text
  · cases h; exact ok_whole_Of
  · cases h; exact ok_whole_Neg
  · cases h; exact ok_whole_Add
  · cases h; exact ok_whole_Sub
  · cases h; exact ok_whole_Mul
  · cases h; exact ok_rafterlaw00_SameWhole
  · cases h; exact ok_rafterlaw00_LenWholes
  · cases h; exact ok_guard_Cond
  · cases h; exact ok_rafterlaw00_SameWholes
  · cases h; exact ok_lang_Value
  · cases h; exact ok_affine_Left
  · cases h; exact ok_affine_Canonical
  · cases h; exact ok_whole_Cmp
  · cases h; exact ok_whole_Sign
  · cases h; exact ok_rafterlaw00_Row
  · cases h; exact ok_lang_ReadExpr
  · cases h; exact ok_lang_Write
  · cases h; exact ok_guard_Form
  · cases h; exact ok_limbs_Text
  · cases h; exact ok_whole_made
  · cases h; exact ok_limbs_Small
  · cases h; exact ok_limbs_Trim
  · cases h; exact ok_limbs_Add
  · cases h; exact ok_limbs_Sub
  · cases h; exact ok_limbs_Mul
  · cases h; exact ok_rafterlaw00_SameLimbs
  · cases h; exact ok_rafterlaw00_LenWhole
  · cases h; exact ok_lang_ReadCond
  · cases h; exact ok_guard_Row
  · cases h; exact ok_lang_Reckon
  · cases h; exact ok_affine_sum
  · cases h; exact ok_whole_Gcd
  · cases h; exact ok_limbs_Cmp
  · cases h; exact ok_limbs_Bits
  · cases h; exact ok_lang_reader_here
  · cases h; exact ok_lang_reader_must
  · cases h; exact ok_lang_reader_is
  · cases h; exact ok_rafterlaw00_Small
  · cases h; exact ok_affine_Names
  · cases h; exact ok_lang_ReadExpr_1
  · cases h; exact ok_lang_reader_sum
  · cases h; exact ok_lang_write
  · cases h; exact ok_whole_Trim
  · cases h; exact ok_guard_times
  · cases h; exact ok_guard_both
  · cases h; exact ok_limbs_short
  · cases h; exact ok_limbs_byLimb
  · cases h; exact ok_lang_ReadCond_1
  · cases h; exact ok_lang_reader_cond
  · cases h; exact ok_ratio_From
  · cases h; exact ok_affine_Canon
  · cases h; exact ok_lang_join
  · cases h; exact ok_whole_Limbs
  · cases h; exact ok_limbs_Gcd
  · cases h; exact ok_bits_Len32
  · cases h; exact ok_glyph_Scan
  · cases h; exact ok_lang_reader_need
  · cases h; exact ok_lang_reader_pass
  · cases h; exact ok_lang_reader_name
  · cases h; exact ok_lang_reader_variable
  · cases h; exact ok_whole_Parse
  · cases h; exact ok_glyph_Name
  · cases h; exact ok_lang_reader_product
  · cases h; exact ok_strings_Builder_WriteString
  · cases h; exact ok_strings_Builder_WriteByte
  · cases h; exact ok_lang_part
  · cases h; exact ok_lang_single
  · cases h; exact ok_lang_sum
  · cases h; exact ok_lang_adds
  · cases h; exact ok_guard_constant
  · cases h; exact ok_whole_DivMod
  · cases h; exact ok_ratio_lowest
  · cases h; exact ok_ratio_one
  · cases h; exact ok_ratio_Trim
  · cases h; exact ok_ratio_Whole
  · cases h; exact ok_ratio_Mul
  · cases h; exact ok_affine_told
  · cases h; exact ok_affine_lowest
  · cases h; exact ok_limbs_Uint
  · cases h; exact ok_limbs_DivMod
  · cases h; exact ok_glyph_start
  · cases h; exact ok_glyph_scanner_blanks
  · cases h; exact ok_glyph_scanner_token
  · cases h; exact ok_lang_word
  · cases h; exact ok_utf8_RuneCountInString
  · cases h; exact ok_utf8_RuneLen
  · cases h; exact ok_limbs_Parse
  · cases h; exact ok_lang_reader_unary
  · cases h; exact ok_limbs_long
  · cases h; exact ok_glyph_scanner_class
  · cases h; exact ok_glyph_scanner_pass
  · cases h; exact ok_glyph_scanner_next
  · cases h; exact ok_glyph_scanner_while
  · cases h; exact ok_glyph_scanner_token_1
  · cases h; exact ok_glyph_scanner_early
  · cases h; exact ok_glyph_scanner_token_2
  · cases h; exact ok_glyph_scanner_sign
  · cases h; exact ok_glyph_scanner_fail
  · cases h; exact ok_limbs_grow
  · cases h; exact ok_lang_reader_into
  · cases h; exact ok_lang_reader_out
  · cases h; exact ok_bits_LeadingZeros32
  · cases h; exact ok_limbs_moved
  · cases h; exact ok_limbs_take
  · cases h; exact ok_limbs_Right
  · cases h; exact ok_glyph_Class
  · cases h; exact ok_utf8_DecodeRuneInString
  · cases h; exact ok_glyph_behind
  · cases h; exact ok_glyph_broken
  · cases h; exact ok_glyph_Fold
  · cases h; exact ok_glyph_letter
  · cases h; exact ok_glyph_sign
  · cases h
theorem okR0 : ∀ f r, T0.recs f = some r → okRecF Go.Proofs.Tryz.prog f r = true := by
  intro f r h
  unfold T0 at h
  dsimp only at h
  split at h
  · cases h; exact okr_lang_read
  · cases h
end Go.Rf

/- GuardEquals: what the abstract call comes to, for whatever comes in. -/
namespace Go.Rf
open Go.ChangeShapes Go.RowKit

theorem tx_le {vs : List (List UInt8)} {n : Nat} (m : ∀ s ∈ vs, s.length ≤ n) (k : Nat) : (tx vs k).length ≤ n := by
  by_cases hk : k < vs.length
  · have : tx vs k = vs[k] := by simp [tx, hk]
    rw [this]
    exact m _ (List.getElem_mem hk)
  · have : tx vs k = [] := by simp [tx, List.getD_eq_getElem?_getD, List.getElem?_eq_none (Nat.le_of_not_lt hk)]
    rw [this]; simp
theorem eq_core {H : Type} {enc : TypeId × Value → H} {W : World} {args : List Value} {ds : List (DataW H)} {ps : List MemPlace} (h : DataW.TrodAll enc Go.Proofs.Tryz.prog W 0 (fun _ => true) true [9, 9, 22, 30] args ds ps) (hb : bulks ds ≤ 1048576) :
    ∃ n, call T0 X0 n 4 (ds.map fun d => .d (toD d)) [] = some (.ret [.d (.bool true)] []) := by
  obtain ⟨v0, vs0, d0, ds0, p0, q0, _, rfl, _, ⟨f0, h0⟩, r0⟩ := trodAll_cons h
  obtain ⟨v1, vs1, d1, ds1, p1, q1, _, rfl, _, ⟨f1, h1⟩, r1⟩ := trodAll_cons r0
  obtain ⟨v2, vs2, d2, ds2, p2, q2, _, rfl, _, ⟨f2, h2⟩, r2⟩ := trodAll_cons r1
  obtain ⟨v3, vs3, d3, ds3, p3, q3, _, rfl, _, ⟨f3, h3⟩, r3⟩ := trodAll_cons r2
  obtain ⟨_, rfl, _⟩ := trodAll_nil r3
  simp only [bulks] at hb
  obtain ⟨s, e0, l0⟩ := text_shape Go.Proofs.Tryz.underlying9 h0
  obtain ⟨t, e1, l1⟩ := text_shape Go.Proofs.Tryz.underlying9 h1
  obtain ⟨vs, e2, l2, m2⟩ := texts_shape Go.Proofs.Tryz.underlying22 Go.Proofs.Tryz.underlying9 h2
  obtain ⟨ws, e3, l3, m3⟩ := wholes_shape Go.Proofs.Tryz.underlying30 Go.Proofs.Tryz.underlying36 Go.Proofs.Tryz.underlying4 Go.Proofs.Tryz.underlying34 Go.Proofs.Tryz.underlying132 h3
  simp only [] at l0 l1 l2 m2 l3 m3 e0 e1 e2 e3
  have hr : ∀ i, rth ws i = (false, []) ∨ rth ws i ∈ ws := fun i => by
    by_cases hi : i < ws.length
    · right
      have : rth ws i = ws[i] := by simp [rth, hi]
      rw [this]; exact List.getElem_mem hi
    · left
      simp [rth, List.getD_eq_getElem?_getD, List.getElem?_eq_none (Nat.le_of_not_lt hi)]
  have g := ge_spec (s := s) (t := t) (vs := vs) (ws := ws) (by omega) (by omega) (by omega) (tx_le (fun s hs => by have := m2 s hs; omega)) (by omega) (fun i => by
    rcases hr i with e | e
    · rw [e]; simp
    · have := (m3 _ e).1
      omega) (fun i => by
    rcases hr i with e | e
    · rw [e]; exact Good.nil
    · exact (m3 _ e).2)
  have e : ([d0, d1, d2, d3].map fun d => V.d (toD d)) = [.d (.str s), .d (.str t), .d (.sl (SL vs)), .d (.sl (RL ws))] := by
    simp only [List.map_cons, List.map_nil, e0, e1, e2, e3]
    rfl
  rw [e]
  exact callE_some g
end Go.Rf

/- GuardEquals, at most 1048576 values and letters: the law's card, out of what its abstract call comes to. -/
namespace Go.Proofs.YtdgfohkljpjdpaaGreatDoor.eq
open Go.ChangeShapes Go.WideShapes Go.ChangeAt Go.RowKit Go.Shelf Go.Lib Go.Rf

theorem own : ownKnob Tryz.prog.godebug = none := by kernel_rfl
theorem laidOut : laidOutB Tryz.prog = true := by kernel_rfl

def ren260 : Shelf.Ren where
  f n := match n with | 240 => 127 | 169 => 66 | 276 => 141 | _ => 153
  t n := match n with | 37 => 118 | 46 => 135 | 70 => 117 | 72 => 120 | 119 => 236 | 127 => 184 | 138 => 238 | 139 => 239 | 164 => 226 | n => n
  g n := match n with | 3 => 0 | _ => 1
theorem lays260 : Go.Proofs.Lays.n260 Tryz.prog ren260 where
  mixed := by kernel_rfl
  f260 := by kernel_rfl
  t0 := by kernel_rfl
  a0 := Tryz.isAgg0
  z0 := Tryz.sizeOf0
  v0 := Tryz.zeroValue0
  t3 := by kernel_rfl
  a3 := Tryz.isAgg3
  z3 := Tryz.sizeOf3
  v3 := Tryz.zeroValue3
  t4 := by kernel_rfl
  a4 := Tryz.isAgg4
  z4 := Tryz.sizeOf4
  v4 := Tryz.zeroValue4
  t5 := by kernel_rfl
  a5 := Tryz.isAgg5
  z5 := Tryz.sizeOf5
  v5 := Tryz.zeroValue5
  t9 := by kernel_rfl
  a9 := Tryz.isAgg9
  z9 := Tryz.sizeOf9
  v9 := Tryz.zeroValue9
  t21 := by kernel_rfl
  a21 := Tryz.isAgg21
  z21 := Tryz.sizeOf21
  v21 := Tryz.zeroValue21
  t46 := by kernel_rfl
  a46 := Tryz.isAgg135
  z46 := Tryz.sizeOf135
  v46 := Tryz.zeroValue135
  t119 := by kernel_rfl
  a119 := Tryz.isAgg236
  z119 := Tryz.sizeOf236
  t138 := by kernel_rfl
  a138 := Tryz.isAgg238
  z138 := Tryz.sizeOf238
  v138 := Tryz.zeroValue238
  t139 := by kernel_rfl
  a139 := Tryz.isAgg239
  z139 := Tryz.sizeOf239
  v139 := Tryz.zeroValue239
  g3 := by kernel_rfl
  g4 := by kernel_rfl
theorem lays240 : Go.Proofs.Lays.n240 Tryz.prog ren260 where
  mixed := by kernel_rfl
  f240 := by kernel_rfl
  f276 := by kernel_rfl
  t0 := by kernel_rfl
  a0 := Tryz.isAgg0
  z0 := Tryz.sizeOf0
  v0 := Tryz.zeroValue0
  t4 := by kernel_rfl
  a4 := Tryz.isAgg4
  z4 := Tryz.sizeOf4
  v4 := Tryz.zeroValue4
  t9 := by kernel_rfl
  a9 := Tryz.isAgg9
  z9 := Tryz.sizeOf9
  v9 := Tryz.zeroValue9
  t20 := by kernel_rfl
  a20 := Tryz.isAgg20
  z20 := Tryz.sizeOf20
  v20 := Tryz.zeroValue20
  t70 := by kernel_rfl
  a70 := Tryz.isAgg117
  z70 := Tryz.sizeOf117
  v70 := Tryz.zeroValue117
  t72 := by kernel_rfl
  a72 := Tryz.isAgg120
  z72 := Tryz.sizeOf120
  v72 := Tryz.zeroValue120
  t164 := by kernel_rfl
  a164 := Tryz.isAgg226
  z164 := Tryz.sizeOf226
  v164 := Tryz.zeroValue226
theorem lays169 : Go.Proofs.Lays.n169 Tryz.prog ren260 where
  mixed := by kernel_rfl
  f169 := by kernel_rfl
  t0 := by kernel_rfl
  a0 := Tryz.isAgg0
  z0 := Tryz.sizeOf0
  v0 := Tryz.zeroValue0
  t3 := by kernel_rfl
  a3 := Tryz.isAgg3
  z3 := Tryz.sizeOf3
  v3 := Tryz.zeroValue3
  t9 := by kernel_rfl
  a9 := Tryz.isAgg9
  z9 := Tryz.sizeOf9
  v9 := Tryz.zeroValue9
  t37 := by kernel_rfl
  a37 := Tryz.isAgg118
  z37 := Tryz.sizeOf118
  v37 := Tryz.zeroValue118
  t70 := by kernel_rfl
  a70 := Tryz.isAgg117
  z70 := Tryz.sizeOf117
  v70 := Tryz.zeroValue117
  t72 := by kernel_rfl
  a72 := Tryz.isAgg120
  z72 := Tryz.sizeOf120
  v72 := Tryz.zeroValue120
  t127 := by kernel_rfl
  a127 := Tryz.isAgg184
  z127 := Tryz.sizeOf184
  v127 := Tryz.zeroValue184
theorem x72 : Builder.X72 Tryz.prog ren260 where
  sizeBuilder := by kernel_rfl
  liesBuilder := by kernel_rfl
theorem bextra : Builder.Extra Tryz.prog ren260 where
  toX72 := x72
  t5 := by kernel_rfl
  a5 := Tryz.isAgg5
  z5 := Tryz.sizeOf5
  v5 := Tryz.zeroValue5
  infoByte := by kernel_rfl
  cellsByte := by kernel_rfl
  sizeByte := by kernel_rfl
  neB5 := by decide
theorem extra : U8Extra Tryz.prog ren260 := by constructor <;> kernel_rfl

/-- The tables, by what the row lists. -/
theorem tabs {W : World} (h : laidMetH Tryz.prog Rows.guardEqualsUptoRow.laid W) : IceTabs (ice0 W) 0 1 := by
  rw [MakeChecks.laidMetH_plain _ _ _ (by kernel_rfl)] at h
  have hT : Lib.Utf8Tabs (ren260.g 3) (ren260.g 4) W := utf8Tabs_of_readsT (U8Types.of260 lays260) extra (Pinned.utf8First_eq ▸ Lib.laidMet.reads h (.tail _ (.head _))) (Lib.laidMet.reads h (.head _))
  exact ⟨hT.1, hT.2⟩

mutual
theorem bulk_eq {H : Type} : ∀ d : DataW H, Rows.uptoBulk d = bulk d
  | .lit l => by cases l <;> rfl
  | .nil => rfl
  | .ptr d => by simp only [Rows.uptoBulk, bulk, bulk_eq d]
  | .slice a b => by simp only [Rows.uptoBulk, bulk, bulks_eq a, bulks_eq b]
  | .agg a => by simp only [Rows.uptoBulk, bulk, bulks_eq a]
  | .iface _ d => by simp only [Rows.uptoBulk, bulk, bulk_eq d]
  | .map es => by simp only [Rows.uptoBulk, bulk, bulkEs_eq es]
  | .held _ => rfl
theorem bulks_eq {H : Type} : ∀ d : List (DataW H), Rows.uptoBulkAll d = bulks d
  | [] => rfl
  | d :: r => by simp only [Rows.uptoBulkAll, bulks, bulk_eq d, bulks_eq r]
theorem bulkEs_eq {H : Type} : ∀ d : List (Lit × DataW H), Rows.uptoBulkEntries d = bulkEs d
  | [] => rfl
  | x :: r => by simp only [Rows.uptoBulkEntries, bulkEs, bulkE_eq x, bulkEs_eq r]
theorem bulkE_eq {H : Type} : ∀ d : Lit × DataW H, Rows.uptoBulkEntry d = bulkE d
  | (l, d) => by cases l <;> simp only [Rows.uptoBulkEntry, bulkE, bulk_eq d]
end

set_option maxRecDepth 100000 in
/-- What the walk gives. -/
theorem contract (H : Type) (enc : TypeId × Value → H) (W : World) (base : Nat) (args : Array Value) (ds gs : List (DataW H)) (before : List MemPlace)
    (hval : ∀ (j : Nat) t v, Tryz.f4.params[j]? = some t → args[j]? = some v → Value.okWide Tryz.prog W .any base t v)
    (hW : DataW.Whole enc Tryz.prog Tryz.f4.params.toList Rows.guardEqualsSpec.vars false W args.toList ds gs before) (hL : laidMetH Tryz.prog Rows.guardEqualsUptoRow.laid W) (hb : Rows.uptoBulkAll (ds ++ gs) ≤ 1048576) :
    Calls Tryz.prog 4 args W fun e W' => ∃ v, e = .returned v ∧ Rows.guardEqualsSpec.post enc Tryz.prog Tryz.f4 false true false false W args v W' := by
  have hW' := hW
  obtain ⟨p, q, hA0, hV, rfl, hfz, hnd⟩ := hW
  have hA : DataW.TrodAll enc Tryz.prog W 0 (fun _ => true) true [9, 9, 22, 30] args.toList ds p := by rw [Tryz.params4] at hA0; exact hA0
  rw [Tryz.params4] at hval
  obtain ⟨rfl, rfl⟩ := trodVars_none hV
  rw [List.append_nil, bulks_eq] at hb
  have hr := trodAll_read (f := 8) (ρ := fun _ => .none) (r := .any) (base := base) _ _ _ _ hA (by intro t ht; simp only [List.mem_cons, List.not_mem_nil, or_false] at ht; rcases ht with rfl | rfl | rfl | rfl <;> kernel_rfl) (fun j t v h1 h2 => hval j t v (by simpa using h1) (by simpa using h2)) hb
  obtain ⟨n, hn⟩ := eq_core (enc := enc) hA hb
  refine (law_calls okT0 okR0 (fun f e he => ?_) hr hn).mono fun e W' ⟨he, hw⟩ => ?_
  · unfold X0 at he
    simp only at he
    split at he
    · cases he
      rename_i hf
      subst hf
      exact decX_ok lays260 (by kernel_rfl) (tabs hL)
    · split at he
      · cases he
        rename_i hf
        subst hf
        exact ccX_ok lays240 x72 (by kernel_rfl)
      · split at he
        · cases he
          rename_i hf
          subst hf
          exact bsX_ok lays169 bextra (by kernel_rfl)
        · cases he
  · subst he
    have hlt : ∀ x ∈ p, x.block < W.heap.size := fun x hx => by simpa using hW'.lt x (List.mem_append_left _ hx)
    have hback := trodAll_below laidOut hw [9, 9, 22, 30] _ _ _ (by intro t ht; simp only [List.mem_cons, List.not_mem_nil, or_false] at ht; rcases ht with rfl | rfl | rfl | rfl <;> exact ⟨by kernel_rfl, of_decide_eq_true (by kernel_rfl)⟩) hA hlt
    obtain ⟨d0, d1, d2, d3, rfl⟩ : ∃ d0 d1 d2 d3, ds = [d0, d1, d2, d3] := by
      obtain ⟨v0, vs0, d0, ds0, p0, q0, _, rfl, _, _, r0⟩ := trodAll_cons hA
      obtain ⟨v1, vs1, d1, ds1, p1, q1, _, rfl, _, _, r1⟩ := trodAll_cons r0
      obtain ⟨v2, vs2, d2, ds2, p2, q2, _, rfl, _, _, r2⟩ := trodAll_cons r1
      obtain ⟨v3, vs3, d3, ds3, p3, q3, _, rfl, _, _, r3⟩ := trodAll_cons r2
      obtain ⟨_, rfl, _⟩ := trodAll_nil r3
      exact ⟨d0, d1, d2, d3, rfl⟩
    refine ⟨_, rfl, [d0, d1, d2, d3], [], p ++ [], [], p, [], hW', trodAll_mk1 (shut_bool Tryz.underlying4 _), ?_, rfl, hw.frame _, fun h => by cases h⟩
    rw [Tryz.params4]
    exact hback

theorem laid_met (os : Os) : laidMet Tryz.prog Rows.guardEqualsUptoRow.laid ((World.laidAll Tryz.prog os Rows.guardEqualsUptoRow.laid).forCall (fun _ _ => 0) ⟨#[], #[.string ⟨#[]⟩, .string ⟨#[]⟩, .slice none 0 0, .slice none 0 0], []⟩).memory :=
  laidMet_laidAll _ (by kernel_rfl) (by kernel_rfl)
theorem reads (os : Os) {H : Type} (enc : TypeId × Value → H) : ∃ places, DataW.whole enc Tryz.prog ((World.laidAll Tryz.prog os Rows.guardEqualsUptoRow.laid).forCall (fun _ _ => 0) ⟨#[], #[.string ⟨#[]⟩, .string ⟨#[]⟩, .slice none 0 0, .slice none 0 0], []⟩).memory Tryz.f4.params.toList Rows.guardEqualsSpec.vars false #[Value.string ⟨#[]⟩, .string ⟨#[]⟩, .slice none 0 0, .slice none 0 0].toList 8 = some ([.lit (.string []), .lit (.string []), .nil, .nil], [], places) :=
  ⟨[], by kernel_rfl⟩

set_option maxRecDepth 100000 in
theorem liftedUpto (os : Os) (started : os.Started) (H : Type) (enc : TypeId × Value → H) (F : Stop.Interp) :
    ReturnsInHanded {} Tryz.checked os 4 .any ((Rows.OpenSpec.upto Rows.guardEqualsSpec).preRow enc Tryz.prog Tryz.f4 Rows.guardEqualsUptoRow.domain false Rows.guardEqualsUptoRow.laid) (((Rows.OpenSpec.upto Rows.guardEqualsSpec).at F).post enc Tryz.prog Tryz.f4 false true false false) := by
  obtain ⟨places, hx⟩ := reads os enc
  refine returnsInHanded_of_row (C := Tryz.checked) (s := Rows.OpenSpec.upto Rows.guardEqualsSpec) own started (by kernel_rfl) Tryz.func4
    (witness_row_at (enc := enc) (C := Tryz.checked) false (World.laidAll Tryz.prog os Rows.guardEqualsUptoRow.laid) #[.string ⟨#[]⟩, .string ⟨#[]⟩, .slice none 0 0, .slice none 0 0] (World.laidAll_os _ _ _) (by kernel_rfl) (by kernel_rfl) (by kernel_rfl)
      (OpenSpec.preRow_of_cond 8 hx (by kernel_rfl) (fun k hk => by cases hk; kernel_rfl) (by kernel_rfl) (laid_met os))) ?_
  intro W base args ds gs before hval hW _ hcond _ hL _ _
  exact contract H enc W base args ds gs before hval hW hL (by
    have := hcond _ rfl
    simpa only [Rows.uptoSmall, decide_eq_true_eq] using this)

theorem saidUpto : Rows.GuardEqualsUptoSaid :=
  OpenClaim.holds_of_cond 4 Tryz.f4 rfl rfl rfl rfl rfl rfl rfl ⟨rfl, rfl, rfl, rfl, rfl⟩ rfl rfl rfl rfl rfl (by kernel_rfl) Tryz.func4 (by kernel_rfl)
    (of_decide_eq_true (by kernel_rfl)) (by unfold Func.isWrapper; first | (rw [if_pos (by decide +kernel)]; kernel_rfl) | (rw [if_neg (by decide +kernel)]; exact ⟨rfl, rfl⟩))
    (fun os started H enc _ F => by rw [OpenClaim.pre_eq_preRow]; exact liftedUpto os started H enc F)

theorem plain (f : FuncId) (fn : Func) (hf : Tryz.pinned.checked.prog.funcNamed "rafter/rafterlaw09.GuardEquals" = some f) (hfn : Tryz.pinned.checked.prog.funcs[f]? = some fn) :
    true = Tryz.pinned.checked.prog.looks [] ∧ ∀ (j : Nat) t, fn.params[j]? = some t → Tryz.pinned.checked.prog.wantsStandIn t = false := by
  obtain rfl : f = 4 := Option.some.inj ((show Tryz.prog.funcNamed "rafter/rafterlaw09.GuardEquals" = some 4 by kernel_rfl).symm.trans hf) |>.symm
  obtain rfl : fn = Tryz.f4 := (Option.some.inj (Tryz.func4.symm.trans hfn)).symm
  refine ⟨by kernel_rfl, fun j t ht => ?_⟩
  rw [Tryz.params4] at ht
  have hm : t ∈ [9, 9, 22, 30] := by simpa using Array.mem_of_getElem? ht
  have hall : ([9, 9, 22, 30].all fun u => !Tryz.prog.wantsStandIn u) = true := by kernel_rfl
  exact (show Tryz.prog.wantsStandIn t = false by simpa using List.all_eq_true.1 hall t hm)

/-- ████ THE SECOND FORM's CARD ████ -/
theorem cardUpto : Rows.GuardEqualsUptoCardSaid :=
  Claim7.holds_tied_plain_at .later [] _ _ _ _ saidUpto (fun _ h => by cases h) (by kernel_rfl) (fun _ h => by cases h) guardEqualsUpto_row_tie rfl ⟨rfl, rfl⟩ (by kernel_rfl) rfl plain (by kernel_rfl)
#print axioms cardUpto
end Go.Proofs.YtdgfohkljpjdpaaGreatDoor.eq
