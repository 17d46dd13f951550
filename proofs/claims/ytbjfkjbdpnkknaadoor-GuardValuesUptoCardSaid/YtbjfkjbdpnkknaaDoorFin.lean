/- GuardValues, at most 1048576 values and letters: the law's card, out of what its abstract call comes to. -/
import Derived.Test.YtbjfkjbdpnkknaaDoorRg10
import Derived.Test.YtbjfkjbdpnkknaaDoorSp10
import Derived.Test.YtbjfkjbdpnkknaaDoorProg
import Derived.Test.YtbjfkjbdpnkknaaDoorChecked
import Derived.Test.YtbjfkjbdpnkknaaDoorCards
import Derived.Test.YtbjfkjbdpnkknaaDoorTie
import Derived.Deep.DeepHandedRow
import Derived.Lib.LaidU8T
import Derived.PinnedBridge
import Derived.Lay

/- The digests stand for the functions. -/
namespace Go.Rf
theorem ok_rafterlaw09_GuardValues : okFun Go.Proofs.Tryd.prog 3 a_rafterlaw09_GuardValues = true := by decide +kernel
theorem ok_rafterlaw09_awake : okFun Go.Proofs.Tryd.prog 4 a_rafterlaw09_awake = true := by decide +kernel
theorem ok_rafterlaw00_LenWholes : okFun Go.Proofs.Tryd.prog 5 a_rafterlaw00_LenWholes = true := by decide +kernel
theorem ok_guard_Affine : okFun Go.Proofs.Tryd.prog 6 a_guard_Affine = true := by decide +kernel
theorem ok_lang_Value : okFun Go.Proofs.Tryd.prog 7 a_lang_Value = true := by decide +kernel
theorem ok_affine_Value : okFun Go.Proofs.Tryd.prog 8 a_affine_Value = true := by decide +kernel
theorem ok_rafterlaw00_SameWhole : okFun Go.Proofs.Tryd.prog 9 a_rafterlaw00_SameWhole = true := by decide +kernel
theorem ok_rafterlaw00_SameWholes : okFun Go.Proofs.Tryd.prog 10 a_rafterlaw00_SameWholes = true := by decide +kernel
theorem ok_rafterlaw00_Row : okFun Go.Proofs.Tryd.prog 11 a_rafterlaw00_Row = true := by decide +kernel
theorem ok_rafterlaw00_LenWhole : okFun Go.Proofs.Tryd.prog 12 a_rafterlaw00_LenWhole = true := by decide +kernel
theorem ok_lang_ReadExpr : okFun Go.Proofs.Tryd.prog 13 a_lang_ReadExpr = true := by decide +kernel
theorem ok_guard_Form : okFun Go.Proofs.Tryd.prog 14 a_guard_Form = true := by decide +kernel
theorem ok_lang_Reckon : okFun Go.Proofs.Tryd.prog 15 a_lang_Reckon = true := by decide +kernel
theorem ok_whole_Add : okFun Go.Proofs.Tryd.prog 16 a_whole_Add = true := by decide +kernel
theorem ok_affine_sum : okFun Go.Proofs.Tryd.prog 17 a_affine_sum = true := by decide +kernel
theorem ok_rafterlaw00_SameLimbs : okFun Go.Proofs.Tryd.prog 18 a_rafterlaw00_SameLimbs = true := by decide +kernel
theorem ok_rafterlaw00_Small : okFun Go.Proofs.Tryd.prog 19 a_rafterlaw00_Small = true := by decide +kernel
theorem ok_affine_Names : okFun Go.Proofs.Tryd.prog 20 a_affine_Names = true := by decide +kernel
theorem ok_lang_ReadExpr_1 : okFun Go.Proofs.Tryd.prog 22 a_lang_ReadExpr_1 = true := by decide +kernel
theorem ok_lang_reader_sum : okFun Go.Proofs.Tryd.prog 23 a_lang_reader_sum = true := by decide +kernel
theorem ok_whole_Trim : okFun Go.Proofs.Tryd.prog 24 a_whole_Trim = true := by decide +kernel
theorem ok_whole_Of : okFun Go.Proofs.Tryd.prog 25 a_whole_Of = true := by decide +kernel
theorem ok_guard_times : okFun Go.Proofs.Tryd.prog 26 a_guard_times = true := by decide +kernel
theorem ok_guard_both : okFun Go.Proofs.Tryd.prog 27 a_guard_both = true := by decide +kernel
theorem ok_lang_join : okFun Go.Proofs.Tryd.prog 28 a_lang_join = true := by decide +kernel
theorem ok_whole_Limbs : okFun Go.Proofs.Tryd.prog 29 a_whole_Limbs = true := by decide +kernel
theorem ok_whole_made : okFun Go.Proofs.Tryd.prog 30 a_whole_made = true := by decide +kernel
theorem ok_limbs_Add : okFun Go.Proofs.Tryd.prog 31 a_limbs_Add = true := by decide +kernel
theorem ok_limbs_Sub : okFun Go.Proofs.Tryd.prog 32 a_limbs_Sub = true := by decide +kernel
theorem ok_whole_Mul : okFun Go.Proofs.Tryd.prog 33 a_whole_Mul = true := by decide +kernel
theorem ok_glyph_Name : okFun Go.Proofs.Tryd.prog 34 a_glyph_Name = true := by decide +kernel
theorem ok_glyph_Scan : okFun Go.Proofs.Tryd.prog 35 a_glyph_Scan = true := by decide +kernel
theorem ok_lang_reader_need : okFun Go.Proofs.Tryd.prog 37 a_lang_reader_need = true := by decide +kernel
theorem ok_lang_reader_here : okFun Go.Proofs.Tryd.prog 38 a_lang_reader_here = true := by decide +kernel
theorem ok_lang_reader_product : okFun Go.Proofs.Tryd.prog 39 a_lang_reader_product = true := by decide +kernel
theorem ok_lang_reader_is : okFun Go.Proofs.Tryd.prog 40 a_lang_reader_is = true := by decide +kernel
theorem ok_limbs_Trim : okFun Go.Proofs.Tryd.prog 41 a_limbs_Trim = true := by decide +kernel
theorem ok_limbs_Small : okFun Go.Proofs.Tryd.prog 42 a_limbs_Small = true := by decide +kernel
theorem ok_guard_constant : okFun Go.Proofs.Tryd.prog 43 a_guard_constant = true := by decide +kernel
theorem ok_whole_DivMod : okFun Go.Proofs.Tryd.prog 44 a_whole_DivMod = true := by decide +kernel
theorem ok_whole_Neg : okFun Go.Proofs.Tryd.prog 45 a_whole_Neg = true := by decide +kernel
theorem ok_whole_Sub : okFun Go.Proofs.Tryd.prog 46 a_whole_Sub = true := by decide +kernel
theorem ok_limbs_Bits : okFun Go.Proofs.Tryd.prog 47 a_limbs_Bits = true := by decide +kernel
theorem ok_limbs_short : okFun Go.Proofs.Tryd.prog 48 a_limbs_short = true := by decide +kernel
theorem ok_limbs_Cmp : okFun Go.Proofs.Tryd.prog 49 a_limbs_Cmp = true := by decide +kernel
theorem ok_limbs_Mul : okFun Go.Proofs.Tryd.prog 50 a_limbs_Mul = true := by decide +kernel
theorem ok_glyph_start : okFun Go.Proofs.Tryd.prog 51 a_glyph_start = true := by decide +kernel
theorem ok_glyph_scanner_blanks : okFun Go.Proofs.Tryd.prog 52 a_glyph_scanner_blanks = true := by decide +kernel
theorem ok_glyph_scanner_token : okFun Go.Proofs.Tryd.prog 53 a_glyph_scanner_token = true := by decide +kernel
theorem ok_lang_reader_unary : okFun Go.Proofs.Tryd.prog 54 a_lang_reader_unary = true := by decide +kernel
theorem ok_lang_reader_pass : okFun Go.Proofs.Tryd.prog 55 a_lang_reader_pass = true := by decide +kernel
theorem ok_whole_Sign : okFun Go.Proofs.Tryd.prog 56 a_whole_Sign = true := by decide +kernel
theorem ok_limbs_DivMod : okFun Go.Proofs.Tryd.prog 57 a_limbs_DivMod = true := by decide +kernel
theorem ok_bits_Len32 : okFun Go.Proofs.Tryd.prog 58 a_bits_Len32 = true := by decide +kernel
theorem ok_glyph_scanner_class : okFun Go.Proofs.Tryd.prog 59 a_glyph_scanner_class = true := by decide +kernel
theorem ok_glyph_scanner_pass : okFun Go.Proofs.Tryd.prog 60 a_glyph_scanner_pass = true := by decide +kernel
theorem ok_glyph_scanner_next : okFun Go.Proofs.Tryd.prog 61 a_glyph_scanner_next = true := by decide +kernel
theorem ok_glyph_scanner_while : okFun Go.Proofs.Tryd.prog 62 a_glyph_scanner_while = true := by decide +kernel
theorem ok_glyph_scanner_token_1 : okFun Go.Proofs.Tryd.prog 63 a_glyph_scanner_token_1 = true := by decide +kernel
theorem ok_utf8_RuneCountInString : okFun Go.Proofs.Tryd.prog 64 a_utf8_RuneCountInString = true := by decide +kernel
theorem ok_glyph_scanner_early : okFun Go.Proofs.Tryd.prog 65 a_glyph_scanner_early = true := by decide +kernel
theorem ok_glyph_scanner_token_2 : okFun Go.Proofs.Tryd.prog 66 a_glyph_scanner_token_2 = true := by decide +kernel
theorem ok_limbs_Parse : okFun Go.Proofs.Tryd.prog 67 a_limbs_Parse = true := by decide +kernel
theorem ok_limbs_Text : okFun Go.Proofs.Tryd.prog 68 a_limbs_Text = true := by decide +kernel
theorem ok_glyph_scanner_sign : okFun Go.Proofs.Tryd.prog 69 a_glyph_scanner_sign = true := by decide +kernel
theorem ok_glyph_scanner_fail : okFun Go.Proofs.Tryd.prog 70 a_glyph_scanner_fail = true := by decide +kernel
theorem ok_whole_Parse : okFun Go.Proofs.Tryd.prog 71 a_whole_Parse = true := by decide +kernel
theorem ok_lang_reader_name : okFun Go.Proofs.Tryd.prog 72 a_lang_reader_name = true := by decide +kernel
theorem ok_lang_reader_variable : okFun Go.Proofs.Tryd.prog 73 a_lang_reader_variable = true := by decide +kernel
theorem ok_lang_reader_into : okFun Go.Proofs.Tryd.prog 74 a_lang_reader_into = true := by decide +kernel
theorem ok_lang_reader_out : okFun Go.Proofs.Tryd.prog 75 a_lang_reader_out = true := by decide +kernel
theorem ok_limbs_byLimb : okFun Go.Proofs.Tryd.prog 76 a_limbs_byLimb = true := by decide +kernel
theorem ok_limbs_long : okFun Go.Proofs.Tryd.prog 77 a_limbs_long = true := by decide +kernel
theorem ok_glyph_Class : okFun Go.Proofs.Tryd.prog 78 a_glyph_Class = true := by decide +kernel
theorem ok_utf8_DecodeRuneInString : okFun Go.Proofs.Tryd.prog 79 a_utf8_DecodeRuneInString = true := by decide +kernel
theorem ok_glyph_behind : okFun Go.Proofs.Tryd.prog 80 a_glyph_behind = true := by decide +kernel
theorem ok_glyph_broken : okFun Go.Proofs.Tryd.prog 81 a_glyph_broken = true := by decide +kernel
theorem ok_limbs_grow : okFun Go.Proofs.Tryd.prog 82 a_limbs_grow = true := by decide +kernel
theorem ok_glyph_Fold : okFun Go.Proofs.Tryd.prog 83 a_glyph_Fold = true := by decide +kernel
theorem ok_utf8_RuneLen : okFun Go.Proofs.Tryd.prog 84 a_utf8_RuneLen = true := by decide +kernel
theorem ok_lang_word : okFun Go.Proofs.Tryd.prog 85 a_lang_word = true := by decide +kernel
theorem ok_lang_reader_must : okFun Go.Proofs.Tryd.prog 86 a_lang_reader_must = true := by decide +kernel
theorem ok_bits_LeadingZeros32 : okFun Go.Proofs.Tryd.prog 87 a_bits_LeadingZeros32 = true := by decide +kernel
theorem ok_limbs_moved : okFun Go.Proofs.Tryd.prog 88 a_limbs_moved = true := by decide +kernel
theorem ok_limbs_take : okFun Go.Proofs.Tryd.prog 89 a_limbs_take = true := by decide +kernel
theorem ok_limbs_Right : okFun Go.Proofs.Tryd.prog 90 a_limbs_Right = true := by decide +kernel
theorem ok_glyph_letter : okFun Go.Proofs.Tryd.prog 91 a_glyph_letter = true := by decide +kernel
theorem ok_glyph_sign : okFun Go.Proofs.Tryd.prog 92 a_glyph_sign = true := by decide +kernel
theorem okr_lang_read : okRecF Go.Proofs.Tryd.prog 21 r_lang_read = true := by decide +kernel
theorem okT0 : ∀ f af, T0.funs f = some af → okFun Go.Proofs.Tryd.prog f af = true := by
  intro f af h
  unfold T0 at h
  dsimp only at h
  split at h
  · cases h; exact ok_rafterlaw09_GuardValues
  · cases h; exact ok_rafterlaw09_awake
  · cases h; exact ok_rafterlaw00_LenWholes
  · cases h; exact ok_guard_Affine
  · cases h; exact ok_lang_Value
  · cases h; exact ok_affine_Value
  · cases h; exact ok_rafterlaw00_SameWhole
  · cases h; exact ok_rafterlaw00_SameWholes
  · cases h; exact ok_rafterlaw00_Row
  · cases h; exact ok_rafterlaw00_LenWhole
  · cases h; exact ok_lang_ReadExpr
  · cases h; exact ok_guard_Form
  · cases h; exact ok_lang_Reckon
  · cases h; exact ok_whole_Add
  · cases h; exact ok_affine_sum
  · cases h; exact ok_rafterlaw00_SameLimbs
  · cases h; exact ok_rafterlaw00_Small
  · cases h; exact ok_affine_Names
  · cases h; exact ok_lang_ReadExpr_1
  · cases h; exact ok_lang_reader_sum
  · cases h; exact ok_whole_Trim
  · cases h; exact ok_whole_Of
  · cases h; exact ok_guard_times
  · cases h; exact ok_guard_both
  · cases h; exact ok_lang_join
  · cases h; exact ok_whole_Limbs
  · cases h; exact ok_whole_made
  · cases h; exact ok_limbs_Add
  · cases h; exact ok_limbs_Sub
  · cases h; exact ok_whole_Mul
  · cases h; exact ok_glyph_Name
  · cases h; exact ok_glyph_Scan
  · cases h; exact ok_lang_reader_need
  · cases h; exact ok_lang_reader_here
  · cases h; exact ok_lang_reader_product
  · cases h; exact ok_lang_reader_is
  · cases h; exact ok_limbs_Trim
  · cases h; exact ok_limbs_Small
  · cases h; exact ok_guard_constant
  · cases h; exact ok_whole_DivMod
  · cases h; exact ok_whole_Neg
  · cases h; exact ok_whole_Sub
  · cases h; exact ok_limbs_Bits
  · cases h; exact ok_limbs_short
  · cases h; exact ok_limbs_Cmp
  · cases h; exact ok_limbs_Mul
  · cases h; exact ok_glyph_start
  · cases h; exact ok_glyph_scanner_blanks
  · cases h; exact ok_glyph_scanner_token
  · cases h; exact ok_lang_reader_unary
  · cases h; exact ok_lang_reader_pass
  · cases h; exact ok_whole_Sign
  · cases h; exact ok_limbs_DivMod
  · cases h; exact ok_bits_Len32
  · cases h; exact ok_glyph_scanner_class
  · cases h; exact ok_glyph_scanner_pass
  · cases h; exact ok_glyph_scanner_next
  · cases h; exact ok_glyph_scanner_while
  · cases h; exact ok_glyph_scanner_token_1
  · cases h; exact ok_utf8_RuneCountInString
  · cases h; exact ok_glyph_scanner_early
  · cases h; exact ok_glyph_scanner_token_2
  · cases h; exact ok_limbs_Parse
  · cases h; exact ok_limbs_Text
  · cases h; exact ok_glyph_scanner_sign
  · cases h; exact ok_glyph_scanner_fail
  · cases h; exact ok_whole_Parse
  · cases h; exact ok_lang_reader_name
  · cases h; exact ok_lang_reader_variable
  · cases h; exact ok_lang_reader_into
  · cases h; exact ok_lang_reader_out
  · cases h; exact ok_limbs_byLimb
  · cases h; exact ok_limbs_long
  · cases h; exact ok_glyph_Class
  · cases h; exact ok_utf8_DecodeRuneInString
  · cases h; exact ok_glyph_behind
  · cases h; exact ok_glyph_broken
  · cases h; exact ok_limbs_grow
  · cases h; exact ok_glyph_Fold
  · cases h; exact ok_utf8_RuneLen
  · cases h; exact ok_lang_word
  · cases h; exact ok_lang_reader_must
  · cases h; exact ok_bits_LeadingZeros32
  · cases h; exact ok_limbs_moved
  · cases h; exact ok_limbs_take
  · cases h; exact ok_limbs_Right
  · cases h; exact ok_glyph_letter
  · cases h; exact ok_glyph_sign
  · cases h
theorem okR0 : ∀ f r, T0.recs f = some r → okRecF Go.Proofs.Tryd.prog f r = true := by
  intro f r h
  unfold T0 at h
  dsimp only at h
  split at h
  · cases h; exact okr_lang_read
  · cases h
end Go.Rf

/- GuardValues: what the abstract call comes to, for whatever comes in. -/
namespace Go.Rf
open Go.ChangeShapes Go.RowKit

theorem gv_core {H : Type} {enc : TypeId × Value → H} {W : World} {args : List Value} {ds : List (DataW H)} {ps : List MemPlace} (h : DataW.TrodAll enc Go.Proofs.Tryd.prog W 0 (fun _ => true) true [9, 22, 23] args ds ps) (hb : bulks ds ≤ 1048576) :
    ∃ n, call T0 X0 n 3 (ds.map fun d => .d (toD d)) [] = some (.ret [.d (.bool true)] []) := by
  obtain ⟨v0, vs0, d0, ds0, p0, q0, _, rfl, _, ⟨f0, h0⟩, r0⟩ := trodAll_cons h
  obtain ⟨v1, vs1, d1, ds1, p1, q1, _, rfl, _, ⟨f1, h1⟩, r1⟩ := trodAll_cons r0
  obtain ⟨v2, vs2, d2, ds2, p2, q2, _, rfl, _, ⟨f2, h2⟩, r2⟩ := trodAll_cons r1
  obtain ⟨_, rfl, _⟩ := trodAll_nil r2
  simp only [bulks] at hb
  obtain ⟨s, e0, l0⟩ := text_shape Go.Proofs.Tryd.underlying9 h0
  obtain ⟨vs, e1, l1, m1⟩ := texts_shape Go.Proofs.Tryd.underlying22 Go.Proofs.Tryd.underlying9 h1
  obtain ⟨ws, e2, l2, m2⟩ := wholes_shape Go.Proofs.Tryd.underlying23 Go.Proofs.Tryd.underlying33 Go.Proofs.Tryd.underlying4 Go.Proofs.Tryd.underlying31 Go.Proofs.Tryd.underlying75 h2
  simp only [] at l0 l1 m1 l2 m2 e0 e1 e2
  have hr : ∀ i, rth ws i = (false, []) ∨ rth ws i ∈ ws := fun i => by
    by_cases hi : i < ws.length
    · right
      have : rth ws i = ws[i] := by simp [rth, hi]
      rw [this]; exact List.getElem_mem hi
    · left
      simp [rth, List.getD_eq_getElem?_getD, List.getElem?_eq_none (Nat.le_of_not_lt hi)]
  have g := gv_spec (s := s) (vs := vs) (ws := ws) (by omega) (by omega) (fun k => by
    by_cases hk : k < vs.length
    · have : tx vs k = vs[k] := by simp [tx, hk]
      rw [this]
      have := m1 _ (List.getElem_mem hk)
      omega
    · have : tx vs k = [] := by simp [tx, List.getD_eq_getElem?_getD, List.getElem?_eq_none (Nat.le_of_not_lt hk)]
      rw [this]; simp) (by omega) (fun i => by
    rcases hr i with e | e
    · rw [e]; simp
    · have := (m2 _ e).1
      omega) (fun i => by
    rcases hr i with e | e
    · rw [e]; exact Good.nil
    · exact (m2 _ e).2)
  have e : ([d0, d1, d2].map fun d => V.d (toD d)) = [.d (.str s), .d (.sl (SL vs)), .d (.sl (RL ws))] := by
    simp only [List.map_cons, List.map_nil, e0, e1, e2]
    rfl
  rw [e]
  exact callE_some g
end Go.Rf

/- GuardValues, at most 1048576 values and letters: the law's card, out of what its abstract call comes to. -/
namespace Go.Proofs.YtbjfkjbdpnkknaaDoor.gv
open Go.ChangeShapes Go.WideShapes Go.ChangeAt Go.RowKit Go.Shelf Go.Lib Go.Rf

theorem own : ownKnob Tryd.prog.godebug = none := by kernel_rfl
theorem laidOut : laidOutB Tryd.prog = true := by kernel_rfl

def ren260 : Shelf.Ren where
  f _ := 93
  t n := match n with | 46 => 77 | 119 => 132 | 138 => 134 | 139 => 135 | n => n
  g n := match n with | 3 => 0 | _ => 1
theorem lays260 : Go.Proofs.Lays.n260 Tryd.prog ren260 where
  mixed := by kernel_rfl
  f260 := by kernel_rfl
  t0 := by kernel_rfl
  a0 := Tryd.isAgg0
  z0 := Tryd.sizeOf0
  v0 := Tryd.zeroValue0
  t3 := by kernel_rfl
  a3 := Tryd.isAgg3
  z3 := Tryd.sizeOf3
  v3 := Tryd.zeroValue3
  t4 := by kernel_rfl
  a4 := Tryd.isAgg4
  z4 := Tryd.sizeOf4
  v4 := Tryd.zeroValue4
  t5 := by kernel_rfl
  a5 := Tryd.isAgg5
  z5 := Tryd.sizeOf5
  v5 := Tryd.zeroValue5
  t9 := by kernel_rfl
  a9 := Tryd.isAgg9
  z9 := Tryd.sizeOf9
  v9 := Tryd.zeroValue9
  t21 := by kernel_rfl
  a21 := Tryd.isAgg21
  z21 := Tryd.sizeOf21
  v21 := Tryd.zeroValue21
  t46 := by kernel_rfl
  a46 := Tryd.isAgg77
  z46 := Tryd.sizeOf77
  v46 := Tryd.zeroValue77
  t119 := by kernel_rfl
  a119 := Tryd.isAgg132
  z119 := Tryd.sizeOf132
  t138 := by kernel_rfl
  a138 := Tryd.isAgg134
  z138 := Tryd.sizeOf134
  v138 := Tryd.zeroValue134
  t139 := by kernel_rfl
  a139 := Tryd.isAgg135
  z139 := Tryd.sizeOf135
  v139 := Tryd.zeroValue135
  g3 := by kernel_rfl
  g4 := by kernel_rfl
theorem extra : U8Extra Tryd.prog ren260 := by constructor <;> kernel_rfl

/-- The tables, by what the row lists. -/
theorem tabs {W : World} (h : laidMetH Tryd.prog Rows.guardValuesUptoRow.laid W) : IceTabs (ice0 W) 0 1 := by
  rw [MakeChecks.laidMetH_plain _ _ _ (by kernel_rfl)] at h
  have hT : Lib.Utf8Tabs (ren260.g 3) (ren260.g 4) W := utf8Tabs_of_readsT (U8Types.of260 lays260) extra (Pinned.utf8First_eq ▸ Lib.laidMet.reads h (.tail _ (.head _))) (Lib.laidMet.reads h (.head _))
  exact ⟨hT.1, hT.2⟩

mutual
theorem bulk_eq {H : Type} : ∀ d : DataW H, Rows.uptoBulk d = bulk d
  | .lit l => by cases l <;> rfl
  | .nil => rfl
  | .ptr d => by simp only [Rows.uptoBulk, bulk, bulk_eq d]
  | .slice a b => by simp only [Rows.uptoBulk, bulk, bulks_eq a, bulks_eq b]
  | .agg a => by simp only [Rows.uptoBulk, bulk, bulks_eq a]
  | .iface _ d => by simp only [Rows.uptoBulk, bulk, bulk_eq d]
  | .map es => by simp only [Rows.uptoBulk, bulk, bulkEs_eq es]
  | .held _ => rfl
theorem bulks_eq {H : Type} : ∀ d : List (DataW H), Rows.uptoBulkAll d = bulks d
  | [] => rfl
  | d :: r => by simp only [Rows.uptoBulkAll, bulks, bulk_eq d, bulks_eq r]
theorem bulkEs_eq {H : Type} : ∀ d : List (Lit × DataW H), Rows.uptoBulkEntries d = bulkEs d
  | [] => rfl
  | x :: r => by simp only [Rows.uptoBulkEntries, bulkEs, bulkE_eq x, bulkEs_eq r]
theorem bulkE_eq {H : Type} : ∀ d : Lit × DataW H, Rows.uptoBulkEntry d = bulkE d
  | (l, d) => by cases l <;> simp only [Rows.uptoBulkEntry, bulkE, bulk_eq d]
end

set_option maxRecDepth 100000 in
/-- What the walk gives. -/
theorem contract (H : Type) (enc : TypeId × Value → H) (W : World) (base : Nat) (args : Array Value) (ds gs : List (DataW H)) (before : List MemPlace)
    (hval : ∀ (j : Nat) t v, Tryd.f3.params[j]? = some t → args[j]? = some v → Value.okWide Tryd.prog W .any base t v)
    (hW : DataW.Whole enc Tryd.prog Tryd.f3.params.toList Rows.guardValuesSpec.vars false W args.toList ds gs before) (hL : laidMetH Tryd.prog Rows.guardValuesUptoRow.laid W) (hb : Rows.uptoBulkAll (ds ++ gs) ≤ 1048576) :
    Calls Tryd.prog 3 args W fun e W' => ∃ v, e = .returned v ∧ Rows.guardValuesSpec.post enc Tryd.prog Tryd.f3 false true false false W args v W' := by
  have hW' := hW
  obtain ⟨p, q, hA0, hV, rfl, hfz, hnd⟩ := hW
  have hA : DataW.TrodAll enc Tryd.prog W 0 (fun _ => true) true [9, 22, 23] args.toList ds p := by rw [Tryd.params3] at hA0; exact hA0
  rw [Tryd.params3] at hval
  obtain ⟨rfl, rfl⟩ := trodVars_none hV
  rw [List.append_nil, bulks_eq] at hb
  have hr := trodAll_read (f := 8) (ρ := fun _ => .none) (r := .any) (base := base) _ _ _ _ hA (by intro t ht; simp only [List.mem_cons, List.not_mem_nil, or_false] at ht; rcases ht with rfl | rfl | rfl <;> kernel_rfl) (fun j t v h1 h2 => hval j t v (by simpa using h1) (by simpa using h2)) hb
  obtain ⟨n, hn⟩ := gv_core (enc := enc) hA hb
  refine (law_calls okT0 okR0 (fun f e he => ?_) hr hn).mono fun e W' ⟨he, hw⟩ => ?_
  · unfold X0 at he
    simp only at he
    split at he
    · cases he
      rename_i hf
      subst hf
      exact decX_ok lays260 (by kernel_rfl) (tabs hL)
    · cases he
  · subst he
    have hlt : ∀ x ∈ p, x.block < W.heap.size := fun x hx => by simpa using hW'.lt x (List.mem_append_left _ hx)
    have hback := trodAll_below laidOut hw [9, 22, 23] _ _ _ (by intro t ht; simp only [List.mem_cons, List.not_mem_nil, or_false] at ht; rcases ht with rfl | rfl | rfl <;> exact ⟨by kernel_rfl, of_decide_eq_true (by kernel_rfl)⟩) hA hlt
    obtain ⟨d0, d1, d2, rfl⟩ : ∃ d0 d1 d2, ds = [d0, d1, d2] := by
      obtain ⟨v0, vs0, d0, ds0, p0, q0, _, rfl, _, _, r0⟩ := trodAll_cons hA
      obtain ⟨v1, vs1, d1, ds1, p1, q1, _, rfl, _, _, r1⟩ := trodAll_cons r0
      obtain ⟨v2, vs2, d2, ds2, p2, q2, _, rfl, _, _, r2⟩ := trodAll_cons r1
      obtain ⟨_, rfl, _⟩ := trodAll_nil r2
      exact ⟨d0, d1, d2, rfl⟩
    refine ⟨_, rfl, [d0, d1, d2], [], p ++ [], [], p, [], hW', trodAll_mk1 (shut_bool Tryd.underlying4 _), ?_, rfl, hw.frame _, fun h => by cases h⟩
    rw [Tryd.params3]
    exact hback

theorem laid_met (os : Os) : laidMet Tryd.prog Rows.guardValuesUptoRow.laid ((World.laidAll Tryd.prog os Rows.guardValuesUptoRow.laid).forCall (fun _ _ => 0) ⟨#[], #[.string ⟨#[]⟩, .slice none 0 0, .slice none 0 0], []⟩).memory :=
  laidMet_laidAll _ (by kernel_rfl) (by kernel_rfl)
theorem reads (os : Os) {H : Type} (enc : TypeId × Value → H) : ∃ places, DataW.whole enc Tryd.prog ((World.laidAll Tryd.prog os Rows.guardValuesUptoRow.laid).forCall (fun _ _ => 0) ⟨#[], #[.string ⟨#[]⟩, .slice none 0 0, .slice none 0 0], []⟩).memory Tryd.f3.params.toList Rows.guardValuesSpec.vars false #[Value.string ⟨#[]⟩, .slice none 0 0, .slice none 0 0].toList 8 = some ([.lit (.string []), .nil, .nil], [], places) :=
  ⟨[], by kernel_rfl⟩

set_option maxRecDepth 100000 in
theorem liftedUpto (os : Os) (started : os.Started) (H : Type) (enc : TypeId × Value → H) (F : Stop.Interp) :
    ReturnsInHanded {} Tryd.checked os 3 .any ((Rows.OpenSpec.upto Rows.guardValuesSpec).preRow enc Tryd.prog Tryd.f3 Rows.guardValuesUptoRow.domain false Rows.guardValuesUptoRow.laid) (((Rows.OpenSpec.upto Rows.guardValuesSpec).at F).post enc Tryd.prog Tryd.f3 false true false false) := by
  obtain ⟨places, hx⟩ := reads os enc
  refine returnsInHanded_of_row (C := Tryd.checked) (s := Rows.OpenSpec.upto Rows.guardValuesSpec) own started (by kernel_rfl) Tryd.func3
    (witness_row_at (enc := enc) (C := Tryd.checked) false (World.laidAll Tryd.prog os Rows.guardValuesUptoRow.laid) #[.string ⟨#[]⟩, .slice none 0 0, .slice none 0 0] (World.laidAll_os _ _ _) (by kernel_rfl) (by kernel_rfl) (by kernel_rfl)
      (OpenSpec.preRow_of_cond 8 hx (by kernel_rfl) (fun k hk => by cases hk; kernel_rfl) (by kernel_rfl) (laid_met os))) ?_
  intro W base args ds gs before hval hW _ hcond _ hL _ _
  exact contract H enc W base args ds gs before hval hW hL (by
    have := hcond _ rfl
    simpa only [Rows.uptoSmall, decide_eq_true_eq] using this)

theorem saidUpto : Rows.GuardValuesUptoSaid :=
  OpenClaim.holds_of_cond 3 Tryd.f3 rfl rfl rfl rfl rfl rfl rfl ⟨rfl, rfl, rfl, rfl, rfl⟩ rfl rfl rfl rfl rfl (by kernel_rfl) Tryd.func3 (by kernel_rfl)
    (of_decide_eq_true (by kernel_rfl)) (by unfold Func.isWrapper; first | (rw [if_pos (by decide +kernel)]; kernel_rfl) | (rw [if_neg (by decide +kernel)]; exact ⟨rfl, rfl⟩))
    (fun os started H enc _ F => by rw [OpenClaim.pre_eq_preRow]; exact liftedUpto os started H enc F)

theorem plain (f : FuncId) (fn : Func) (hf : Tryd.pinned.checked.prog.funcNamed "rafter/rafterlaw09.GuardValues" = some f) (hfn : Tryd.pinned.checked.prog.funcs[f]? = some fn) :
    true = Tryd.pinned.checked.prog.looks [] ∧ ∀ (j : Nat) t, fn.params[j]? = some t → Tryd.pinned.checked.prog.wantsStandIn t = false := by
  obtain rfl : f = 3 := Option.some.inj ((show Tryd.prog.funcNamed "rafter/rafterlaw09.GuardValues" = some 3 by kernel_rfl).symm.trans hf) |>.symm
  obtain rfl : fn = Tryd.f3 := (Option.some.inj (Tryd.func3.symm.trans hfn)).symm
  refine ⟨by kernel_rfl, fun j t ht => ?_⟩
  rw [Tryd.params3] at ht
  have hm : t ∈ [9, 22, 23] := by simpa using Array.mem_of_getElem? ht
  have hall : ([9, 22, 23].all fun u => !Tryd.prog.wantsStandIn u) = true := by kernel_rfl
  exact (show Tryd.prog.wantsStandIn t = false by simpa using List.all_eq_true.1 hall t hm)

/-- ████ THE SECOND FORM's CARD ████ -/
theorem cardUpto : Rows.GuardValuesUptoCardSaid :=
  Claim7.holds_tied_plain_at .later [] _ _ _ _ saidUpto (fun _ h => by cases h) (by kernel_rfl) (fun _ h => by cases h) guardValuesUpto_row_tie rfl ⟨rfl, rfl⟩ (by kernel_rfl) rfl plain (by kernel_rfl)
#print axioms cardUpto
end Go.Proofs.YtbjfkjbdpnkknaaDoor.gv
