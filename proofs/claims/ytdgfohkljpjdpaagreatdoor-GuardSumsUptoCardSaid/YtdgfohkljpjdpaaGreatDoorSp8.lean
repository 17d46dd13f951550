/- Parts of the proof: SpE4, SpE5, SpE6, SpE7, SpE8, SpE9, SpF1. -/
import Derived.Test.YtdgfohkljpjdpaaGreatDoorSp7

/- lang.write of two parts; Write. -/
namespace Go.Rf

theorem two_s {op : Int} {x y : Nd} {so bx sy by_ : Bool} {u0 u1 q r1 r : List UInt8} (o0 : 0 ≤ op) (o1 : op < 128)
    (s0 : callE T0 X0 f_lang_sum [.d (.int .u8 op)] [] = some (.ret [.d (.bool so)] []))
    (s1 : callE T0 X0 f_lang_adds [.d x.d] [] = some (.ret [.d (.bool bx)] []))
    (s2 : callE T0 X0 f_lang_adds [.d y.d] [] = some (.ret [.d (.bool by_)] []))
    (s3 : callE T0 X0 f_lang_single [.d y.d] [] = some (.ret [.d (.bool sy)] []))
    (el : (enc op).length = 1) (ql : q.length = 3) (hq : (32 :: (enc op ++ [32]) : List UInt8) = q)
    (t1 : callE T0 X0 f_lang_part [.ptr (.b 0) 0 0, .d x.d, .d (.bool (!so && bx))] (bld u0) = some (.ret [] (bldR u1)))
    (t2 : callE T0 X0 f_strings_Builder_WriteString [.ptr (.b 0) 0 0, .d (.str q)] (bld u1) = some (.ret [.d (.int .i64 q.length), .d .nili] (bldR r1)))
    (t3 : callE T0 X0 f_lang_part [.ptr (.b 0) 0 0, .d y.d, .d (.bool (so && by_ || !so && !sy))] (bld r1) = some (.ret [] (bldR r))) :
    callE T0 X0 f_lang_write [.ptr (.b 0) 0 0, .d (Nd.two op x y).d] (bld u0) = some (.ret [] (bldR r)) := by
  rw [callX_fun (af := a_lang_write) rfl rfl rfl]
  simp only [Nd.d, bld, bldR] at t1 t2 t3 ⊢
  cases so
  · cases bx <;> cases sy <;> simp only [Bool.not_true, Bool.not_false, Bool.true_and, Bool.false_and, Bool.and_true, Bool.and_false, Bool.or_false, Bool.false_or, Bool.true_or, Bool.or_true] at t1 t3 <;> simp -implicitDefEqProofs (disch := omega) [a_lang_write, s0, s1, s2, s3, t1, t2, t3, enc_def, el, ql, hq]
  · cases by_ <;> simp only [Bool.not_true, Bool.not_false, Bool.true_and, Bool.false_and, Bool.and_true, Bool.and_false, Bool.or_false, Bool.false_or, Bool.true_or, Bool.or_true] at t1 t3 <;> simp -implicitDefEqProofs (disch := omega) [a_lang_write, s0, s1, s2, s3, t1, t2, t3, enc_def, el, ql, hq]
theorem op_len {op : Int} (h : op = 43 ∨ op = 45 ∨ op = 42 ∨ op = 47 ∨ op = 37) : 0 ≤ op ∧ op < 128 ∧ enc op = [opc op] := by
  obtain ⟨a, b, c⟩ := enc_op h
  exact ⟨b, c, a⟩
theorem write_two {op : Int} {x y : Nd} {w1 w2 : List UInt8} (ho : op = 43 ∨ op = 45 ∨ op = 42 ∨ op = 47 ∨ op = 37) (h1 : Wrote f_lang_write [.d x.d] w1) (h2 : Wrote f_lang_write [.d y.d] w2) :
    Wrote f_lang_write [.d (Nd.two op x y).d] (wrB (!sumOp op && x.adds) w1 ++ 32 :: opc op :: 32 :: wrB (sumOp op && y.adds || !sumOp op && !y.single) w2) := by
  have p1 := part_ok h1 (!sumOp op && x.adds)
  have p2 := part_ok h2 (sumOp op && y.adds || !sumOp op && !y.single)
  obtain ⟨o0, o1, he⟩ := op_len ho
  have hq : (32 :: (enc op ++ [32]) : List UInt8) = [32, opc op, 32] := by rw [he]; rfl
  have hl1 : (enc op).length = 1 := by rw [he]; rfl
  refine ⟨fun hl2 => ?_, fun s hl2 => ?_⟩
  · rw [List.length_append, List.length_cons, List.length_cons, List.length_cons] at hl2
    have t1 := p1.z (by omega)
    have t2 := ws1 (wrB (!sumOp op && x.adds) w1) [32, opc op, 32] (by simp only [List.length_cons, List.length_nil]; omega)
    have t3 := p2.s (wrB (!sumOp op && x.adds) w1 ++ [32, opc op, 32]) (by simp only [List.length_append, List.length_cons, List.length_nil]; omega)
    have e : ∀ a b : List UInt8, a ++ [32, opc op, 32] ++ b = a ++ 32 :: opc op :: 32 :: b := fun a b => by rw [List.append_assoc]; rfl
    rw [e] at t3
    exact two_z o0 o1 (lsum_spec op) (adds_spec x) (adds_spec y) (single_spec y) hl1 rfl hq t1 t2 t3
  · rw [List.length_append, List.length_cons, List.length_cons, List.length_cons] at hl2
    have t1 := p1.s s (by omega)
    have t2 := ws1 (s ++ wrB (!sumOp op && x.adds) w1) [32, opc op, 32] (by simp only [List.length_append, List.length_cons, List.length_nil]; omega)
    have t3 := p2.s (s ++ wrB (!sumOp op && x.adds) w1 ++ [32, opc op, 32]) (by simp only [List.length_append, List.length_cons, List.length_nil]; omega)
    have e : ∀ a b : List UInt8, s ++ a ++ [32, opc op, 32] ++ b = s ++ (a ++ 32 :: opc op :: 32 :: b) := fun a b => by rw [List.append_assoc, List.append_assoc]; rfl
    rw [e] at t3
    exact two_s o0 o1 (lsum_spec op) (adds_spec x) (adds_spec y) (single_spec y) hl1 rfl hq t1 t2 t3
theorem write_spec {vs : List (List UInt8)} : ∀ x : Nd, x.pr vs → Wrote f_lang_write [.d x.d] (wr x) := by
  intro x
  induction x with
  | num k => intro h; exact write_num h.1 h.2
  | name v s => intro h; exact write_name h.1.l
  | minus x ih => intro h; exact write_minus (ih h)
  | two op x y ih1 ih2 => intro h; exact write_two h.1 (ih1 h.2.1) (ih2 h.2.2)
theorem bytesX_B8 : ∀ s : List UInt8, bytesX (B8 s) = some s
  | [] => rfl
  | c :: s => by
    have e : B8 (c :: s) = .d (.int .u8 c.toNat) :: B8 s := rfl
    have hc := c.toNat_lt
    rw [e, bytesX, bytesX_B8 s, if_pos (by omega)]
    simp
theorem bstr_spec {s : List UInt8} (h : s ≠ []) : callE T0 X0 f_strings_Builder_String [.ptr (.b 0) 0 0] (bld s) = some (.ret [.d (.str s)] [.arr [.agg [.ptr (.b 0) 0 0, .ref (.b 1) ⟨1, 1000005⟩ 0 s.length]] ⟨2, 1000120⟩, .dead]) := by
  refine callE_of (n := 1) ?_
  have hl : s.length = (B8 s).length := by unfold B8; rw [List.length_map]
  have hp : 0 < s.length := List.length_pos_iff.2 h
  have e : call T0 X0 1 f_strings_Builder_String [.ptr (.b 0) 0 0] (bld s) = bsX 1000120 1000005 (call T0 X0 0) [.ptr (.b 0) 0 0] (bld s) := rfl
  rw [e]
  unfold bsX bld
  simp only []
  rw [if_pos ⟨trivial, trivial, trivial, hl, hp⟩, bytesX_B8]
  rfl
theorem wr_ne {vs : List (List UInt8)} {x : Nd} (h : x.pr vs) : wr x ≠ [] := by
  cases x with
  | num k => exact (numV_text h.1 (lt_tens h.1 h.2)).1
  | name v s => exact h.1.ne
  | minus x => simp [wr]
  | two op x y => simp [wr]
theorem own_bld : ownD 0 1 [(1, ⟨1, 1000005⟩)] (.d (.agg [.nilp, .sl []])) = (.agg [.d .nilp, .ref (.n 0 1) ⟨1, 1000005⟩ 0 0], [(.n 0 1, some (.arr [] ⟨1, 1000005⟩))]) := rfl
theorem lwrite_spec {vs : List (List UInt8)} {x : Nd} (h : x.pr vs) (hl : (wr x).length ≤ 100000000) : callE T0 X0 f_lang_Write [.d x.d] [] = some (.ret [.d (.str (wr x))] []) := by
  have s1 := (write_spec x h).z hl
  have s2 := bstr_spec (wr_ne h)
  rw [callX_fun (af := a_lang_Write) rfl rfl rfl]
  simp only [bld0, bld, bldR, B8_nil] at s1 s2
  simp -implicitDefEqProofs (disch := omega) [a_lang_Write, own_bld, s1, s2]
  done
end Go.Rf

/- lang.Expr; how deep a text's brackets go. -/
namespace Go.Rf

/-- What Expr answers. -/
def exV (s : List UInt8) (vs : List (List UInt8)) : List UInt8 × Int × Pl :=
  match exprV s vs with
  | (none, e, p) => ([], e, p)
  | (some x, _, _) => (wr x, 0, emptyPl)
theorem lexpr_spec {s : List UInt8} {vs : List (List UInt8)} (hs : s.length ≤ 1100000) (hv : vs.length ≤ 1099511627) (hb : ∀ k, (tx vs k).length ≤ 1100000) :
    callE T0 X0 f_lang_Expr [.d (.str s), .d (.sl (SL vs))] [] = some (.ret [.d (.str (exV s vs).1), .d (.int .i64 (exV s vs).2.1), .d (.agg (exV s vs).2.2.cs)] []) := by
  have s1 := rexpr_spec hs hv hb
  rw [callX_fun (af := a_lang_Expr) rfl rfl rfl]
  unfold exV
  cases he : exprV s vs with
  | mk o ep =>
    obtain ⟨e, p⟩ := ep
    rw [he] at s1
    cases o with
    | none =>
      have hne := expr_bad he
      simp only [oD, Pl.cs] at s1 ⊢
      simp -implicitDefEqProofs (disch := omega) [a_lang_Expr, s1, hne]
      done
    | some x =>
      obtain ⟨rfl, rfl, hf, hw, hv16⟩ := expr_ok hb he
      have hx := (expr_pr hb he).2
      have hz := expr_sz hb he
      have hl := wr_len x hx
      have s2 := lwrite_spec hx (by omega)
      simp only [oD, Pl.cs, emptyPl] at s1 ⊢
      simp -implicitDefEqProofs (disch := omega) [a_lang_Expr, s1, s2]
      done
theorem deep_loop (s : List UInt8) (hl : s.length ≤ 100000000) : ∀ d i, i + d = s.length → ∀ o m : Int, -(i : Int) ≤ o → o ≤ i → 0 ≤ m → m ≤ i →
    codeX T0 X0 0 a_rafterlaw09_deep_l0 (some (.nrm, ⟨[(0, .d (.str s)), (3, .d (.int .i64 m)), (4, .d (.int .i64 o)), (5, .d (.int .i64 i))], []⟩)) =
      some (.exit 0, ⟨[(3, .d (.int .i64 (dF (o, m) (s.drop i)).2))], []⟩) := by
  intro d
  induction d with
  | zero =>
    intro i hi o m h1 h2 h3 h4
    have e : i = s.length := by omega
    subst e
    rw [codeX_loop (l := a_rafterlaw09_deep_l0) rfl]
    simp -implicitDefEqProofs (disch := omega) [a_rafterlaw09_deep_b0, dF]
    done
  | succ d ih =>
    intro i hi o m h1 h2 h3 h4
    have hlt : i < s.length := by omega
    rw [List.drop_eq_getElem_cons hlt]
    unfold dF
    rw [codeX_loop (l := a_rafterlaw09_deep_l0) rfl]
    have hm : ∀ w : Int, max m w = if m < w then w else m := fun w => by split <;> omega
    by_cases c1 : s[i] = 40
    · have d1 : s[i].toNat = 40 := by rw [c1]; rfl
      have s1 := ih (i + 1) (by omega) (o + 1) (max m (o + 1)) (by omega) (by omega) (by omega) (by omega)
      simp only [Int.natCast_add, Int.cast_ofNat_Int] at s1
      simp only [c1, if_true]
      simp only [hm] at s1 ⊢
      simp -implicitDefEqProofs (disch := omega) [a_rafterlaw09_deep_b0, hlt, d1, s1]
      done
    · have d1 : ¬ s[i].toNat = 40 := fun h => c1 (by apply UInt8.toNat_inj.1; rw [h]; rfl)
      have d1' : ¬ (s[i].toNat : Int) = 40 := by omega
      by_cases c2 : s[i] = 41
      · have d2 : s[i].toNat = 41 := by rw [c2]; rfl
        have s1 := ih (i + 1) (by omega) (o - 1) (max m (o - 1)) (by omega) (by omega) (by omega) (by omega)
        simp only [Int.natCast_add, Int.cast_ofNat_Int] at s1
        simp only [c2, if_true, show ¬ (41 : UInt8) = 40 by decide, if_false]
        simp only [hm] at s1 ⊢
        simp -implicitDefEqProofs (disch := omega) [a_rafterlaw09_deep_b0, hlt, d2, s1]
        done
      · have s1 := ih (i + 1) (by omega) o (max m o) (by omega) (by omega) (by omega) (by omega)
        have d2 : ¬ s[i].toNat = 41 := fun h => c2 (by apply UInt8.toNat_inj.1; rw [h]; rfl)
        have d2' : ¬ (s[i].toNat : Int) = 41 := by omega
        simp only [Int.natCast_add, Int.cast_ofNat_Int] at s1
        simp only [c1, c2, if_false]
        simp only [hm] at s1 ⊢
        simp -implicitDefEqProofs (disch := omega) [a_rafterlaw09_deep_b0, hlt, d1', d2', s1]
        done
theorem deep_spec {s : List UInt8} (hl : s.length ≤ 100000000) : callE T0 X0 f_rafterlaw09_deep [.d (.str s)] [] = some (.ret [.d (.int .i64 (dF (0, 0) s).2)] []) := by
  have s1 := deep_loop s hl s.length 0 (by omega) 0 0 (by omega) (by omega) (by omega) (by omega)
  rw [callX_fun (af := a_rafterlaw09_deep) rfl rfl rfl]
  rw [List.drop_zero, show ((0 : Nat) : Int) = 0 from rfl] at s1
  simp -implicitDefEqProofs (disch := omega) [a_rafterlaw09_deep, s1]
  done
end Go.Rf

/- GuardSums: the walk. -/
namespace Go.Rf

theorem gs_inner (i : Nat) (hi : i < 6) (vs : List (List UInt8)) (hn : vs.length ≤ 16) (p q kt : List UInt8) (f g h : List Int) (ok1 ok2 has : Bool) (c : Int) (hc : 0 ≤ c ∧ c < 100000)
    (hf : ∀ v, nl (nth f v) ≤ 4194304) (hg : ∀ v, nl (nth g v) ≤ 4194304) (hh : ∀ v, nl (nth h v) ≤ 4194304)
    (lh : has = true → h.length = vs.length + 1) (lf : has = true → f.length = vs.length + 1) (lg : has = true → i < 3 → g.length = vs.length + 1)
    (hw : has = true → ∀ v, v < vs.length + 1 → nth h v = sumW (nth f) (nth g) c i v) : ∀ d v, d + v = vs.length + 1 →
    codeX T0 X0 0 a_rafterlaw09_GuardSums_l0 (some (.nrm, ⟨[(2, .d (.sl (SL vs))), (9, .d (.str p)), (12, .d (.str q)), (15, .d (.sl (WL f))), (16, .d (.bool ok1)), (19, .d (.sl (WL g))), (20, .d (.bool ok2)), (23, .d (.int .i64 c)), (24, .d (.str kt)), (25, .d (.int .i64 i)), (27, .d (.sl (WL h))), (31, .d (.bool has)), (32, .d (.int .i64 v))], []⟩)) =
      some (.exit 2, ⟨[(2, .d (.sl (SL vs))), (9, .d (.str p)), (12, .d (.str q)), (15, .d (.sl (WL f))), (16, .d (.bool ok1)), (19, .d (.sl (WL g))), (20, .d (.bool ok2)), (23, .d (.int .i64 c)), (24, .d (.str kt)), (25, .d (.int .i64 i))], []⟩) := by
  intro d
  cases has with
  | false =>
    intro v _
    rw [codeX_loop (l := a_rafterlaw09_GuardSums_l0) rfl]
    by_cases hv : v ≤ vs.length
    · simp -implicitDefEqProofs (disch := omega) [a_rafterlaw09_GuardSums_b0]
      done
    · simp -implicitDefEqProofs (disch := omega) [a_rafterlaw09_GuardSums_b0]
      done
  | true =>
    have lh := lh rfl
    have lf := lf rfl
    have lg := lg rfl
    have hw := hw rfl
    induction d with
    | zero =>
      intro v hd
      rw [codeX_loop (l := a_rafterlaw09_GuardSums_l0) rfl]
      simp -implicitDefEqProofs (disch := omega) [a_rafterlaw09_GuardSums_b0]
      done
    | succ d ih =>
      intro v hd
      have s1 := ih (v + 1) (by omega)
      have hwv := hw v (by omega)
      have a0 := hf v
      have b0 := hg v
      have c0 := hh v
      have s2 := wneg_W (m := nth f v) (by omega)
      have s3 := sameW_W (m := nth h v) (n := nth h v) (by omega) (by omega)
      rw [decide_eq_true rfl] at s3
      rw [codeX_loop (l := a_rafterlaw09_GuardSums_l0) rfl]
      simp only [Int.natCast_add, Int.cast_ofNat_Int] at s1
      have h6 : i = 0 ∨ i = 1 ∨ i = 2 ∨ i = 3 ∨ i = 4 ∨ i = 5 := by omega
      rcases h6 with rfl | rfl | rfl | rfl | rfl | rfl
      · simp only [Int.cast_ofNat_Int] at s1 ⊢
        have lg := lg (by omega)
        have s4 := wadd_W (m := nth f v) (n := nth g v) (by omega) (by omega)
        rw [show nth f v + nth g v = nth h v from hwv.symm] at s4
        simp -implicitDefEqProofs (disch := omega) [a_rafterlaw09_GuardSums_b0, s1, s2, s3, s4]
        done
      · simp only [Int.cast_ofNat_Int] at s1 ⊢
        have lg := lg (by omega)
        have s4 := wadd_W (m := nth f v) (n := nth g v) (by omega) (by omega)
        rw [show nth f v + nth g v = nth h v from hwv.symm] at s4
        simp -implicitDefEqProofs (disch := omega) [a_rafterlaw09_GuardSums_b0, s1, s2, s3, s4]
        done
      · simp only [Int.cast_ofNat_Int] at s1 ⊢
        have lg := lg (by omega)
        have s4 := wsub_W (m := nth f v) (n := nth g v) (by omega) (by omega)
        rw [show nth f v - nth g v = nth h v from hwv.symm] at s4
        simp -implicitDefEqProofs (disch := omega) [a_rafterlaw09_GuardSums_b0, s1, s2, s3, s4]
        done
      · simp only [Int.cast_ofNat_Int] at s1 ⊢
        rw [show -nth f v = nth h v from hwv.symm] at s2
        simp -implicitDefEqProofs (disch := omega) [a_rafterlaw09_GuardSums_b0, s1, s2, s3]
        done
      · simp only [Int.cast_ofNat_Int] at s1 ⊢
        have s4 := wof_spec (n := c) (by omega)
        have hcl : nl c ≤ 2 := limbs_len (n := c.natAbs) (k := 2) (by omega) (by simp only [pw]; omega)
        have s5 := wmul_W (m := nth f v) (n := c) (by omega) (by omega)
        rw [show nth f v * c = nth h v from hwv.symm] at s5
        simp -implicitDefEqProofs (disch := omega) [a_rafterlaw09_GuardSums_b0, s1, s2, s3, s4, s5]
        done
      · simp only [Int.cast_ofNat_Int] at s1 ⊢
        have s4 := wof_spec (n := c) (by omega)
        have hcl : nl c ≤ 2 := limbs_len (n := c.natAbs) (k := 2) (by omega) (by simp only [pw]; omega)
        have s5 := wmul_W (m := nth f v) (n := c) (by omega) (by omega)
        rw [show nth f v * c = nth h v from hwv.symm] at s5
        simp -implicitDefEqProofs (disch := omega) [a_rafterlaw09_GuardSums_b0, s1, s2, s3, s4, s5]
        done
end Go.Rf

/- GuardSums: the six texts. -/
namespace Go.Rf

structure Sums (vs : List (List UInt8)) (p q kt : List UInt8) (f g : List Int) (ok1 ok2 : Bool) (c : Int) : Prop where
  law : ∀ i, i < 6 → FormIs (affineV (sumT p q kt i) vs) (if i < 3 then ok1 && ok2 else ok1) vs.length (sumW (nth f) (nth g) c i)
  hn : vs.length ≤ 16
  hb : ∀ k, (tx vs k).length ≤ 1100000
  hc : 0 ≤ c ∧ c < 100000
  lp : p.length + q.length ≤ 1500
  lk : kt.length ≤ 4104
  hf : ∀ v, nl (nth f v) ≤ 4194304
  hg : ∀ v, nl (nth g v) ≤ 4194304
  lf : ok1 = true → f.length = vs.length + 1
  lg : ok2 = true → g.length = vs.length + 1
theorem aff_nl {s vs} (hb : ∀ k, (tx vs k).length ≤ 1100000) (v : Nat) : nl (nth (affineV s vs).1 v) ≤ 4194304 := by
  cases ho : (affineV s vs).2.1 with
  | false => rw [affine_nil ho, nth_out (Nat.zero_le _)]; simp
  | true =>
    obtain ⟨h16, sh⟩ := affine_sh hb ho
    by_cases hv : v < vs.length + 1
    · have := sh.b v hv; omega
    · rw [nth_out (by have := sh.l; omega)]; simp
theorem sumT_len (p q kt : List UInt8) (h : p.length + q.length ≤ 1500) (hk : kt.length ≤ 4104) (i : Nat) : (sumT p q kt i).length ≤ 1100000 := by
  unfold sumT par
  split <;> simp <;> omega
section
variable {vs : List (List UInt8)} {p q kt : List UInt8} {f g : List Int} {ok1 ok2 : Bool} {c : Int} (S : Sums vs p q kt f g ok1 ok2 c)
include S
theorem gs_mid (i : Nat) (hi : i < 6) : codeX T0 X0 0 a_rafterlaw09_GuardSums_l0 (some (.nrm, ⟨[(2, .d (.sl (SL vs))), (9, .d (.str p)), (12, .d (.str q)), (15, .d (.sl (WL f))), (16, .d (.bool ok1)), (19, .d (.sl (WL g))), (20, .d (.bool ok2)), (23, .d (.int .i64 c)), (24, .d (.str kt)), (25, .d (.int .i64 i)), (27, .d (.sl (WL (affineV (sumT p q kt i) vs).1))), (31, .d (.bool (if i < 3 then ok1 && ok2 else ok1))), (32, .d (.int .i64 0))], []⟩)) =
      some (.exit 2, ⟨[(2, .d (.sl (SL vs))), (9, .d (.str p)), (12, .d (.str q)), (15, .d (.sl (WL f))), (16, .d (.bool ok1)), (19, .d (.sl (WL g))), (20, .d (.bool ok2)), (23, .d (.int .i64 c)), (24, .d (.str kt)), (25, .d (.int .i64 i))], []⟩) := by
  have L := S.law i hi
  exact gs_inner i hi vs S.hn p q kt f g _ ok1 ok2 _ c S.hc S.hf S.hg (aff_nl S.hb) L.l (fun h => S.lf (by
      split at h
      · exact (Bool.and_eq_true_iff.1 h).1
      · exact h)) (fun h h3 => S.lg (by rw [if_pos h3] at h; exact (Bool.and_eq_true_iff.1 h).2)) L.v (vs.length + 1) 0 (by omega)
theorem gs_aff (i : Nat) (hi : i < 6) : callE T0 X0 f_guard_Affine [.d (.str (sumT p q kt i)), .d (.sl (SL vs))] [] =
    some (.ret [.d (.sl (WL (affineV (sumT p q kt i) vs).1)), .d (.bool (if i < 3 then ok1 && ok2 else ok1)), .d (.int .i64 0), .d (.agg (affineV (sumT p q kt i) vs).2.2.2.cs)] []) := by
  have L := S.law i hi
  have s := affine_spec (s := sumT p q kt i) (vs := vs) (sumT_len p q kt S.lp S.lk i) (by have := S.hn; omega) S.hb
  rw [L.e, L.b] at s
  exact s
end
end Go.Rf

/- GuardSums: the six steps. -/
namespace Go.Rf

section
variable {vs : List (List UInt8)} {p q kt : List UInt8} {f g : List Int} {ok1 ok2 : Bool} {c : Int} (S : Sums vs p q kt f g ok1 ok2 c)
include S
theorem gs_step0 : codeX T0 X0 0 a_rafterlaw09_GuardSums_l1 (some (.nrm, ⟨[(2, .d (.sl (SL vs))), (9, .d (.str p)), (12, .d (.str q)), (15, .d (.sl (WL f))), (16, .d (.bool ok1)), (19, .d (.sl (WL g))), (20, .d (.bool ok2)), (23, .d (.int .i64 c)), (24, .d (.str kt)), (25, .d (.int .i64 0))], []⟩)) =
    codeX T0 X0 0 a_rafterlaw09_GuardSums_l1 (some (.nrm, ⟨[(2, .d (.sl (SL vs))), (9, .d (.str p)), (12, .d (.str q)), (15, .d (.sl (WL f))), (16, .d (.bool ok1)), (19, .d (.sl (WL g))), (20, .d (.bool ok2)), (23, .d (.int .i64 c)), (24, .d (.str kt)), (25, .d (.int .i64 1))], []⟩)) := by
  have s1 := gs_aff S 0 (by omega)
  have s2 := gs_mid S 0 (by omega)
  have lp := S.lp
  have lk := S.lk
  have hn := S.hn
  rw [codeX_loop (l := a_rafterlaw09_GuardSums_l1) rfl]
  generalize affineV (sumT p q kt 0) vs = a at *
  obtain ⟨h, hb, he, hp⟩ := a
  simp only [Int.cast_ofNat_Int, sumT, par, Pl.cs, List.cons_append, List.append_assoc, List.nil_append, if_true, show (0 < 3) = True by decide] at s1 s2 ⊢
  cases ok1 <;> cases ok2 <;> simp only [Bool.and_self, Bool.and_true, Bool.and_false, Bool.false_and, Bool.true_and] at s1 s2 <;> simp -implicitDefEqProofs (disch := omega) [a_rafterlaw09_GuardSums_b1, s1, s2]
  done
theorem gs_step1 : codeX T0 X0 0 a_rafterlaw09_GuardSums_l1 (some (.nrm, ⟨[(2, .d (.sl (SL vs))), (9, .d (.str p)), (12, .d (.str q)), (15, .d (.sl (WL f))), (16, .d (.bool ok1)), (19, .d (.sl (WL g))), (20, .d (.bool ok2)), (23, .d (.int .i64 c)), (24, .d (.str kt)), (25, .d (.int .i64 1))], []⟩)) =
    codeX T0 X0 0 a_rafterlaw09_GuardSums_l1 (some (.nrm, ⟨[(2, .d (.sl (SL vs))), (9, .d (.str p)), (12, .d (.str q)), (15, .d (.sl (WL f))), (16, .d (.bool ok1)), (19, .d (.sl (WL g))), (20, .d (.bool ok2)), (23, .d (.int .i64 c)), (24, .d (.str kt)), (25, .d (.int .i64 2))], []⟩)) := by
  have s1 := gs_aff S 1 (by omega)
  have s2 := gs_mid S 1 (by omega)
  have lp := S.lp
  have lk := S.lk
  have hn := S.hn
  rw [codeX_loop (l := a_rafterlaw09_GuardSums_l1) rfl]
  generalize affineV (sumT p q kt 1) vs = a at *
  obtain ⟨h, hb, he, hp⟩ := a
  simp only [Int.cast_ofNat_Int, sumT, par, Pl.cs, List.cons_append, List.append_assoc, List.nil_append, if_true, show (1 < 3) = True by decide] at s1 s2 ⊢
  cases ok1 <;> cases ok2 <;> simp only [Bool.and_self, Bool.and_true, Bool.and_false, Bool.false_and, Bool.true_and] at s1 s2 <;> simp -implicitDefEqProofs (disch := omega) [a_rafterlaw09_GuardSums_b1, s1, s2]
  done
theorem gs_step2 : codeX T0 X0 0 a_rafterlaw09_GuardSums_l1 (some (.nrm, ⟨[(2, .d (.sl (SL vs))), (9, .d (.str p)), (12, .d (.str q)), (15, .d (.sl (WL f))), (16, .d (.bool ok1)), (19, .d (.sl (WL g))), (20, .d (.bool ok2)), (23, .d (.int .i64 c)), (24, .d (.str kt)), (25, .d (.int .i64 2))], []⟩)) =
    codeX T0 X0 0 a_rafterlaw09_GuardSums_l1 (some (.nrm, ⟨[(2, .d (.sl (SL vs))), (9, .d (.str p)), (12, .d (.str q)), (15, .d (.sl (WL f))), (16, .d (.bool ok1)), (19, .d (.sl (WL g))), (20, .d (.bool ok2)), (23, .d (.int .i64 c)), (24, .d (.str kt)), (25, .d (.int .i64 3))], []⟩)) := by
  have s1 := gs_aff S 2 (by omega)
  have s2 := gs_mid S 2 (by omega)
  have lp := S.lp
  have lk := S.lk
  have hn := S.hn
  rw [codeX_loop (l := a_rafterlaw09_GuardSums_l1) rfl]
  generalize affineV (sumT p q kt 2) vs = a at *
  obtain ⟨h, hb, he, hp⟩ := a
  simp only [Int.cast_ofNat_Int, sumT, par, Pl.cs, List.cons_append, List.append_assoc, List.nil_append, if_true, show (2 < 3) = True by decide] at s1 s2 ⊢
  cases ok1 <;> cases ok2 <;> simp only [Bool.and_self, Bool.and_true, Bool.and_false, Bool.false_and, Bool.true_and] at s1 s2 <;> simp -implicitDefEqProofs (disch := omega) [a_rafterlaw09_GuardSums_b1, s1, s2]
  done
end
end Go.Rf

/- GuardSums: the six steps. -/
namespace Go.Rf

section
variable {vs : List (List UInt8)} {p q kt : List UInt8} {f g : List Int} {ok1 ok2 : Bool} {c : Int} (S : Sums vs p q kt f g ok1 ok2 c)
include S
theorem gs_step3 : codeX T0 X0 0 a_rafterlaw09_GuardSums_l1 (some (.nrm, ⟨[(2, .d (.sl (SL vs))), (9, .d (.str p)), (12, .d (.str q)), (15, .d (.sl (WL f))), (16, .d (.bool ok1)), (19, .d (.sl (WL g))), (20, .d (.bool ok2)), (23, .d (.int .i64 c)), (24, .d (.str kt)), (25, .d (.int .i64 3))], []⟩)) =
    codeX T0 X0 0 a_rafterlaw09_GuardSums_l1 (some (.nrm, ⟨[(2, .d (.sl (SL vs))), (9, .d (.str p)), (12, .d (.str q)), (15, .d (.sl (WL f))), (16, .d (.bool ok1)), (19, .d (.sl (WL g))), (20, .d (.bool ok2)), (23, .d (.int .i64 c)), (24, .d (.str kt)), (25, .d (.int .i64 4))], []⟩)) := by
  have s1 := gs_aff S 3 (by omega)
  have s2 := gs_mid S 3 (by omega)
  have lp := S.lp
  have lk := S.lk
  have hn := S.hn
  rw [codeX_loop (l := a_rafterlaw09_GuardSums_l1) rfl]
  generalize affineV (sumT p q kt 3) vs = a at *
  obtain ⟨h, hb, he, hp⟩ := a
  simp only [Int.cast_ofNat_Int, sumT, par, Pl.cs, List.cons_append, List.append_assoc, List.nil_append, if_false, show (3 < 3) = False by decide] at s1 s2 ⊢
  cases ok1 <;> cases ok2 <;> simp -implicitDefEqProofs (disch := omega) [a_rafterlaw09_GuardSums_b1, s1, s2]
  done
theorem gs_step4 : codeX T0 X0 0 a_rafterlaw09_GuardSums_l1 (some (.nrm, ⟨[(2, .d (.sl (SL vs))), (9, .d (.str p)), (12, .d (.str q)), (15, .d (.sl (WL f))), (16, .d (.bool ok1)), (19, .d (.sl (WL g))), (20, .d (.bool ok2)), (23, .d (.int .i64 c)), (24, .d (.str kt)), (25, .d (.int .i64 4))], []⟩)) =
    codeX T0 X0 0 a_rafterlaw09_GuardSums_l1 (some (.nrm, ⟨[(2, .d (.sl (SL vs))), (9, .d (.str p)), (12, .d (.str q)), (15, .d (.sl (WL f))), (16, .d (.bool ok1)), (19, .d (.sl (WL g))), (20, .d (.bool ok2)), (23, .d (.int .i64 c)), (24, .d (.str kt)), (25, .d (.int .i64 5))], []⟩)) := by
  have s1 := gs_aff S 4 (by omega)
  have s2 := gs_mid S 4 (by omega)
  have lp := S.lp
  have lk := S.lk
  have hn := S.hn
  rw [codeX_loop (l := a_rafterlaw09_GuardSums_l1) rfl]
  generalize affineV (sumT p q kt 4) vs = a at *
  obtain ⟨h, hb, he, hp⟩ := a
  simp only [Int.cast_ofNat_Int, sumT, par, Pl.cs, List.cons_append, List.append_assoc, List.nil_append, if_false, show (4 < 3) = False by decide] at s1 s2 ⊢
  cases ok1 <;> cases ok2 <;> simp -implicitDefEqProofs (disch := omega) [a_rafterlaw09_GuardSums_b1, s1, s2]
  done
theorem gs_step5 : codeX T0 X0 0 a_rafterlaw09_GuardSums_l1 (some (.nrm, ⟨[(2, .d (.sl (SL vs))), (9, .d (.str p)), (12, .d (.str q)), (15, .d (.sl (WL f))), (16, .d (.bool ok1)), (19, .d (.sl (WL g))), (20, .d (.bool ok2)), (23, .d (.int .i64 c)), (24, .d (.str kt)), (25, .d (.int .i64 5))], []⟩)) =
    codeX T0 X0 0 a_rafterlaw09_GuardSums_l1 (some (.nrm, ⟨[(2, .d (.sl (SL vs))), (9, .d (.str p)), (12, .d (.str q)), (15, .d (.sl (WL f))), (16, .d (.bool ok1)), (19, .d (.sl (WL g))), (20, .d (.bool ok2)), (23, .d (.int .i64 c)), (24, .d (.str kt)), (25, .d (.int .i64 6))], []⟩)) := by
  have s1 := gs_aff S 5 (by omega)
  have s2 := gs_mid S 5 (by omega)
  have lp := S.lp
  have lk := S.lk
  have hn := S.hn
  rw [codeX_loop (l := a_rafterlaw09_GuardSums_l1) rfl]
  generalize affineV (sumT p q kt 5) vs = a at *
  obtain ⟨h, hb, he, hp⟩ := a
  simp only [Int.cast_ofNat_Int, sumT, par, Pl.cs, List.cons_append, List.append_assoc, List.nil_append, if_false, show (5 < 3) = False by decide] at s1 s2 ⊢
  cases ok1 <;> cases ok2 <;> simp -implicitDefEqProofs (disch := omega) [a_rafterlaw09_GuardSums_b1, s1, s2]
  done
end
end Go.Rf

/- GuardSums. -/
namespace Go.Rf

theorem gs_loop {vs : List (List UInt8)} {p q kt : List UInt8} {f g : List Int} {ok1 ok2 : Bool} {c : Int} (S : Sums vs p q kt f g ok1 ok2 c) :
    codeX T0 X0 0 a_rafterlaw09_GuardSums_l1 (some (.nrm, ⟨[(2, .d (.sl (SL vs))), (9, .d (.str p)), (12, .d (.str q)), (15, .d (.sl (WL f))), (16, .d (.bool ok1)), (19, .d (.sl (WL g))), (20, .d (.bool ok2)), (23, .d (.int .i64 c)), (24, .d (.str kt)), (25, .d (.int .i64 0))], []⟩)) = some (.exit 0, ⟨[], []⟩) := by
  rw [gs_step0 S, gs_step1 S, gs_step2 S, gs_step3 S, gs_step4 S, gs_step5 S, codeX_loop (l := a_rafterlaw09_GuardSums_l1) rfl]
  simp -implicitDefEqProofs (disch := omega) [a_rafterlaw09_GuardSums_b1]
  done
theorem exV_no {s vs} (hb : ∀ k, (tx vs k).length ≤ 1100000) (h : (exV s vs).2.1 = 0) : ∃ x, exprV s vs = (some x, 0, emptyPl) ∧ x.fine vs.length ∧ vs.length ≤ 16 := by
  unfold exV at h
  cases he : exprV s vs with
  | mk o ep =>
    obtain ⟨e, p⟩ := ep
    rw [he] at h
    cases o with
    | none => exact absurd h (expr_bad he)
    | some x =>
      obtain ⟨rfl, rfl, hf, hw, hv16⟩ := expr_ok hb he
      exact ⟨x, rfl, hf, hv16⟩
/-- The low 62 bits. -/
def low62 (k : Int) : Int := IntKind.wrap .i64 (BitVec.ofInt (IntKind.bits .i64) k &&& BitVec.ofInt (IntKind.bits .i64) 4611686018427387903).toNat
theorem low62_eq (k : Int) : 0 ≤ low62 k ∧ low62 k ≤ 4611686018427387903 := by
  have h : (BitVec.ofInt 64 k &&& BitVec.ofInt 64 4611686018427387903).toNat ≤ 4611686018427387903 := by
    rw [BitVec.toNat_and]
    exact Nat.and_le_right
  have e : low62 k = IntKind.wrap .i64 ((BitVec.ofInt 64 k &&& BitVec.ofInt 64 4611686018427387903).toNat : Nat) := rfl
  rw [e, wrap_i64 (by omega)]
  omega
theorem and_low (k : Int) : bin .and (.d (.int .i64 k)) (.d (.int .i64 4611686018427387903)) = some (.int .i64 (low62 k)) := rfl
theorem low_bits (k : Int) : 0 ≤ (low62 k).tmod 100000 ∧ (low62 k).tmod 100000 < 100000 := by
  have h := low62_eq k
  generalize low62 k = n at *
  rw [Int.tmod_eq_emod_of_nonneg h.1]
  omega
attribute [local simp 10000] and_low
theorem FormIs.to {z : List Int × Bool × Int × Pl} {has : Bool} {n : Nat} {w w' : Nat → Int} (h : FormIs z has n w) (e : has = true → ∀ v, w v = w' v) : FormIs z has n w' :=
  ⟨h.e, h.b, h.l, fun hh v hv => (h.v hh v hv).trans (e hh v)⟩
theorem gs_law {vs : List (List UInt8)} {x y : Nd} {p q : List UInt8} {c : Int} (hb : ∀ k, (tx vs k).length ≤ 1100000) (hn : names vs = 0) (hx : x.pr vs) (hy : y.pr vs) (fx : x.fine vs.length) (fy : y.fine vs.length) (dx : dp x ≤ 15) (dy : dp y ≤ 15) (hk : 0 ≤ c ∧ c < 100000) (ep : wr x = p) (eq : wr y = q) (hl : p.length + q.length ≤ 1500) (r1 : exprV p vs = (some x, 0, emptyPl)) (r2 : exprV q vs = (some y, 0, emptyPl)) (i : Nat) (hi : i < 6) :
    FormIs (affineV (sumT p q (textV 456 c) i) vs) (if i < 3 then (affineV p vs).2.1 && (affineV q vs).2.1 else (affineV p vs).2.1) vs.length (sumW (nth (affineV p vs).1) (nth (affineV q vs).1) c i) := by
  subst ep
  subst eq
  have L := sums_law hb hn hx hy fx fy dx dy hk hl i hi
  have a1 := affine_of r1
  have a2 := affine_of r2
  have b1 : (affineV (wr x) vs).2.1 = (formV vs.length x).2 := by rw [a1]; split <;> simp_all
  have b2 : (affineV (wr y) vs).2.1 = (formV vs.length y).2 := by rw [a2]; split <;> simp_all
  have c1 : (formV vs.length x).2 = true → (affineV (wr x) vs).1 = (formV vs.length x).1 := fun h => by rw [a1, if_pos h]
  have c2 : (formV vs.length y).2 = true → (affineV (wr y) vs).1 = (formV vs.length y).1 := fun h => by rw [a2, if_pos h]
  rw [b1, b2]
  refine L.to fun h v => ?_
  have hx1 : (formV vs.length x).2 = true := by
    split at h
    · exact (Bool.and_eq_true_iff.1 h).1
    · exact h
  rw [c1 hx1]
  by_cases h3 : i < 3
  · rw [if_pos h3] at h
    rw [c2 (Bool.and_eq_true_iff.1 h).2]
  · unfold sumW
    split <;> first | omega | rfl
theorem gs_spec {s t : List UInt8} {vs : List (List UInt8)} {k : Int} (hs : s.length ≤ 1100000) (ht : t.length ≤ 1100000) (hv : vs.length ≤ 1099511627) (hb : ∀ k, (tx vs k).length ≤ 1100000) (hk : -9223372036854775808 ≤ k ∧ k ≤ 9223372036854775807) :
    callE T0 X0 f_rafterlaw09_GuardSums [.d (.str s), .d (.str t), .d (.sl (SL vs)), .d (.int .i64 k)] [] = some (.ret [.d (.bool true)] []) := by
  have s0 := awake_spec
  have s1 := lexpr_spec hs hv hb
  have s2 := lexpr_spec ht hv hb
  rw [callX_fun (af := a_rafterlaw09_GuardSums) rfl rfl rfl]
  by_cases h1 : (exV s vs).2.1 = 0
  case neg =>
    generalize exV s vs = a1 at *
    generalize exV t vs = a2 at *
    simp only [Pl.cs] at s1 s2
    simp -implicitDefEqProofs (disch := omega) [a_rafterlaw09_GuardSums, s0, s1, s2, h1]
    done
  by_cases h2 : (exV t vs).2.1 = 0
  case neg =>
    generalize exV s vs = a1 at *
    generalize exV t vs = a2 at *
    simp only [Pl.cs] at s1 s2
    simp -implicitDefEqProofs (disch := omega) [a_rafterlaw09_GuardSums, s0, s1, s2, h1, h2]
    done
  obtain ⟨x, hx, fx, h16⟩ := exV_no hb h1
  obtain ⟨y, hy, fy, _⟩ := exV_no hb h2
  obtain ⟨hn, px⟩ := expr_pr hb hx
  have py := (expr_pr hb hy).2
  have e1 : exV s vs = (wr x, 0, emptyPl) := by unfold exV; rw [hx]
  have e2 : exV t vs = (wr y, 0, emptyPl) := by unfold exV; rw [hy]
  rw [e1] at s1
  rw [e2] at s2
  have zx := wr_len x px
  have zy := wr_len y py
  have zx2 := expr_sz hb hx
  have zy2 := expr_sz hb hy
  have s3 := deep_spec (s := wr x) (by omega)
  have s4 := deep_spec (s := wr y) (by omega)
  rw [wr_deep x px] at s3
  rw [wr_deep y py] at s4
  simp only [Pl.cs, emptyPl, Int.zero_add] at s1 s2 s3 s4
  rw [show max (0 : Int) (dp x) = dp x by omega] at s3
  rw [show max (0 : Int) (dp y) = dp y by omega] at s4
  by_cases hl : (wr x).length + (wr y).length ≤ 1500
  case neg =>
    generalize wr x = p at *
    generalize wr y = q at *
    simp -implicitDefEqProofs (disch := omega) [a_rafterlaw09_GuardSums, s0, s1, s2]
    done
  by_cases hd1 : dp x ≤ 15
  case neg =>
    generalize wr x = p at *
    generalize wr y = q at *
    simp -implicitDefEqProofs (disch := omega) [a_rafterlaw09_GuardSums, s0, s1, s2, s3]
    done
  by_cases hd2 : dp y ≤ 15
  case neg =>
    generalize wr x = p at *
    generalize wr y = q at *
    simp -implicitDefEqProofs (disch := omega) [a_rafterlaw09_GuardSums, s0, s1, s2, s3, s4]
    done
  have s5 := affine_spec (s := wr x) (vs := vs) (by omega) hv hb
  have s6 := affine_spec (s := wr y) (vs := vs) (by omega) hv hb
  simp only [Pl.cs] at s5 s6
  have r1 := wr_expr hb hn px (by omega) (by omega)
  have r2 := wr_expr hb hn py (by omega) (by omega)
  generalize ep : wr x = p at *
  generalize eq : wr y = q at *
  have hc := low_bits k
  generalize hcE : (low62 k).tmod 100000 = c at *
  have s7 := wof_spec (n := c) (by omega)
  have hcl : (limbs c).length ≤ 2 := limbs_len (n := c) (k := 2) (by omega) (by simp only [pw]; omega)
  have hcn : nl c ≤ 2 := limbs_len (n := c.natAbs) (k := 2) (by omega) (by simp only [pw]; omega)
  have s8 := wtext_spec (v := c) (by omega) (by omega)
  have a1 := affine_of r1
  have a2 := affine_of r2
  have S : Sums vs p q (textV 456 c) (affineV p vs).1 (affineV q vs).1 (affineV p vs).2.1 (affineV q vs).2.1 c := {
    law := gs_law hb hn px py fx fy hd1 hd2 hc ep eq hl r1 r2
    hn := h16
    hb := hb
    hc := hc
    lp := by omega
    lk := textV_len
    hf := aff_nl hb
    hg := aff_nl hb
    lf := fun h => (affine_sh hb h).2.l
    lg := fun h => (affine_sh hb h).2.l }
  have s9 := gs_loop S
  generalize textV 456 c = kt at *
  simp -implicitDefEqProofs (disch := omega) [a_rafterlaw09_GuardSums, s0, s1, s2, s3, s4, s5, s6, hcE, s7, s8, s9]
  done
end Go.Rf
