/- Parts of the proof: SpE4, SpE5, SpH1, SpH2, SpH3, SpH4, SpK1, SpK2, SpK3, SpK4, SpK5. -/
import Derived.Test.YtdgfohkljpjdpaaGreatDoorSp7

/- lang.write of two parts; Write. -/
namespace Go.Rf

theorem two_s {op : Int} {x y : Nd} {so bx sy by_ : Bool} {u0 u1 q r1 r : List UInt8} (o0 : 0 ≤ op) (o1 : op < 128)
    (s0 : callE T0 X0 f_lang_sum [.d (.int .u8 op)] [] = some (.ret [.d (.bool so)] []))
    (s1 : callE T0 X0 f_lang_adds [.d x.d] [] = some (.ret [.d (.bool bx)] []))
    (s2 : callE T0 X0 f_lang_adds [.d y.d] [] = some (.ret [.d (.bool by_)] []))
    (s3 : callE T0 X0 f_lang_single [.d y.d] [] = some (.ret [.d (.bool sy)] []))
    (el : (enc op).length = 1) (ql : q.length = 3) (hq : (32 :: (enc op ++ [32]) : List UInt8) = q)
    (t1 : callE T0 X0 f_lang_part [.ptr (.b 0) 0 0, .d x.d, .d (.bool (!so && bx))] (bld u0) = some (.ret [] (bldR u1)))
    (t2 : callE T0 X0 f_strings_Builder_WriteString [.ptr (.b 0) 0 0, .d (.str q)] (bld u1) = some (.ret [.d (.int .i64 q.length), .d .nili] (bldR r1)))
    (t3 : callE T0 X0 f_lang_part [.ptr (.b 0) 0 0, .d y.d, .d (.bool (so && by_ || !so && !sy))] (bld r1) = some (.ret [] (bldR r))) :
    callE T0 X0 f_lang_write [.ptr (.b 0) 0 0, .d (Nd.two op x y).d] (bld u0) = some (.ret [] (bldR r)) := by
  rw [callX_fun (af := a_lang_write) rfl rfl rfl]
  simp only [Nd.d, bld, bldR] at t1 t2 t3 ⊢
  cases so
  · cases bx <;> cases sy <;> simp only [Bool.not_true, Bool.not_false, Bool.true_and, Bool.false_and, Bool.and_true, Bool.and_false, Bool.or_false, Bool.false_or, Bool.true_or, Bool.or_true] at t1 t3 <;> simp -implicitDefEqProofs (disch := omega) [a_lang_write, s0, s1, s2, s3, t1, t2, t3, enc_def, el, ql, hq]
  · cases by_ <;> simp only [Bool.not_true, Bool.not_false, Bool.true_and, Bool.false_and, Bool.and_true, Bool.and_false, Bool.or_false, Bool.false_or, Bool.true_or, Bool.or_true] at t1 t3 <;> simp -implicitDefEqProofs (disch := omega) [a_lang_write, s0, s1, s2, s3, t1, t2, t3, enc_def, el, ql, hq]
theorem op_len {op : Int} (h : op = 43 ∨ op = 45 ∨ op = 42 ∨ op = 47 ∨ op = 37) : 0 ≤ op ∧ op < 128 ∧ enc op = [opc op] := by
  obtain ⟨a, b, c⟩ := enc_op h
  exact ⟨b, c, a⟩
theorem write_two {op : Int} {x y : Nd} {w1 w2 : List UInt8} (ho : op = 43 ∨ op = 45 ∨ op = 42 ∨ op = 47 ∨ op = 37) (h1 : Wrote f_lang_write [.d x.d] w1) (h2 : Wrote f_lang_write [.d y.d] w2) :
    Wrote f_lang_write [.d (Nd.two op x y).d] (wrB (!sumOp op && x.adds) w1 ++ 32 :: opc op :: 32 :: wrB (sumOp op && y.adds || !sumOp op && !y.single) w2) := by
  have p1 := part_ok h1 (!sumOp op && x.adds)
  have p2 := part_ok h2 (sumOp op && y.adds || !sumOp op && !y.single)
  obtain ⟨o0, o1, he⟩ := op_len ho
  have hq : (32 :: (enc op ++ [32]) : List UInt8) = [32, opc op, 32] := by rw [he]; rfl
  have hl1 : (enc op).length = 1 := by rw [he]; rfl
  refine ⟨fun hl2 => ?_, fun s hl2 => ?_⟩
  · rw [List.length_append, List.length_cons, List.length_cons, List.length_cons] at hl2
    have t1 := p1.z (by omega)
    have t2 := ws1 (wrB (!sumOp op && x.adds) w1) [32, opc op, 32] (by simp only [List.length_cons, List.length_nil]; omega)
    have t3 := p2.s (wrB (!sumOp op && x.adds) w1 ++ [32, opc op, 32]) (by simp only [List.length_append, List.length_cons, List.length_nil]; omega)
    have e : ∀ a b : List UInt8, a ++ [32, opc op, 32] ++ b = a ++ 32 :: opc op :: 32 :: b := fun a b => by rw [List.append_assoc]; rfl
    rw [e] at t3
    exact two_z o0 o1 (lsum_spec op) (adds_spec x) (adds_spec y) (single_spec y) hl1 rfl hq t1 t2 t3
  · rw [List.length_append, List.length_cons, List.length_cons, List.length_cons] at hl2
    have t1 := p1.s s (by omega)
    have t2 := ws1 (s ++ wrB (!sumOp op && x.adds) w1) [32, opc op, 32] (by simp only [List.length_append, List.length_cons, List.length_nil]; omega)
    have t3 := p2.s (s ++ wrB (!sumOp op && x.adds) w1 ++ [32, opc op, 32]) (by simp only [List.length_append, List.length_cons, List.length_nil]; omega)
    have e : ∀ a b : List UInt8, s ++ a ++ [32, opc op, 32] ++ b = s ++ (a ++ 32 :: opc op :: 32 :: b) := fun a b => by rw [List.append_assoc, List.append_assoc]; rfl
    rw [e] at t3
    exact two_s o0 o1 (lsum_spec op) (adds_spec x) (adds_spec y) (single_spec y) hl1 rfl hq t1 t2 t3
theorem write_spec {vs : List (List UInt8)} : ∀ x : Nd, x.pr vs → Wrote f_lang_write [.d x.d] (wr x) := by
  intro x
  induction x with
  | num k => intro h; exact write_num h.1 h.2
  | name v s => intro h; exact write_name h.1.l
  | minus x ih => intro h; exact write_minus (ih h)
  | two op x y ih1 ih2 => intro h; exact write_two h.1 (ih1 h.2.1) (ih2 h.2.2)
theorem bytesX_B8 : ∀ s : List UInt8, bytesX (B8 s) = some s
  | [] => rfl
  | c :: s => by
    have e : B8 (c :: s) = .d (.int .u8 c.toNat) :: B8 s := rfl
    have hc := c.toNat_lt
    rw [e, bytesX, bytesX_B8 s, if_pos (by omega)]
    simp
theorem bstr_spec {s : List UInt8} (h : s ≠ []) : callE T0 X0 f_strings_Builder_String [.ptr (.b 0) 0 0] (bld s) = some (.ret [.d (.str s)] [.arr [.agg [.ptr (.b 0) 0 0, .ref (.b 1) ⟨1, 1000005⟩ 0 s.length]] ⟨2, 1000120⟩, .dead]) := by
  refine callE_of (n := 1) ?_
  have hl : s.length = (B8 s).length := by unfold B8; rw [List.length_map]
  have hp : 0 < s.length := List.length_pos_iff.2 h
  have e : call T0 X0 1 f_strings_Builder_String [.ptr (.b 0) 0 0] (bld s) = bsX 1000120 1000005 (call T0 X0 0) [.ptr (.b 0) 0 0] (bld s) := rfl
  rw [e]
  unfold bsX bld
  simp only []
  rw [if_pos ⟨trivial, trivial, trivial, hl, hp⟩, bytesX_B8]
  rfl
theorem wr_ne {vs : List (List UInt8)} {x : Nd} (h : x.pr vs) : wr x ≠ [] := by
  cases x with
  | num k => exact (numV_text h.1 (lt_tens h.1 h.2)).1
  | name v s => exact h.1.ne
  | minus x => simp [wr]
  | two op x y => simp [wr]
theorem own_bld : ownD 0 1 [(1, ⟨1, 1000005⟩)] (.d (.agg [.nilp, .sl []])) = (.agg [.d .nilp, .ref (.n 0 1) ⟨1, 1000005⟩ 0 0], [(.n 0 1, some (.arr [] ⟨1, 1000005⟩))]) := rfl
theorem lwrite_spec {vs : List (List UInt8)} {x : Nd} (h : x.pr vs) (hl : (wr x).length ≤ 100000000) : callE T0 X0 f_lang_Write [.d x.d] [] = some (.ret [.d (.str (wr x))] []) := by
  have s1 := (write_spec x h).z hl
  have s2 := bstr_spec (wr_ne h)
  rw [callX_fun (af := a_lang_Write) rfl rfl rfl]
  simp only [bld0, bld, bldR, B8_nil] at s1 s2
  simp -implicitDefEqProofs (disch := omega) [a_lang_Write, own_bld, s1, s2]
  done
end Go.Rf

/- lang.Expr; how deep a text's brackets go. -/
namespace Go.Rf

/-- What Expr answers. -/
def exV (s : List UInt8) (vs : List (List UInt8)) : List UInt8 × Int × Pl :=
  match exprV s vs with
  | (none, e, p) => ([], e, p)
  | (some x, _, _) => (wr x, 0, emptyPl)
theorem lexpr_spec {s : List UInt8} {vs : List (List UInt8)} (hs : s.length ≤ 1100000) (hv : vs.length ≤ 1099511627) (hb : ∀ k, (tx vs k).length ≤ 1100000) :
    callE T0 X0 f_lang_Expr [.d (.str s), .d (.sl (SL vs))] [] = some (.ret [.d (.str (exV s vs).1), .d (.int .i64 (exV s vs).2.1), .d (.agg (exV s vs).2.2.cs)] []) := by
  have s1 := rexpr_spec hs hv hb
  rw [callX_fun (af := a_lang_Expr) rfl rfl rfl]
  unfold exV
  cases he : exprV s vs with
  | mk o ep =>
    obtain ⟨e, p⟩ := ep
    rw [he] at s1
    cases o with
    | none =>
      have hne := expr_bad he
      simp only [oD, Pl.cs] at s1 ⊢
      simp -implicitDefEqProofs (disch := omega) [a_lang_Expr, s1, hne]
      done
    | some x =>
      obtain ⟨rfl, rfl, hf, hw, hv16⟩ := expr_ok hb he
      have hx := (expr_pr hb he).2
      have hz := expr_sz hb he
      have hl := wr_len x hx
      have s2 := lwrite_spec hx (by omega)
      simp only [oD, Pl.cs, emptyPl] at s1 ⊢
      simp -implicitDefEqProofs (disch := omega) [a_lang_Expr, s1, s2]
      done
theorem deep_loop (s : List UInt8) (hl : s.length ≤ 100000000) : ∀ d i, i + d = s.length → ∀ o m : Int, -(i : Int) ≤ o → o ≤ i → 0 ≤ m → m ≤ i →
    codeX T0 X0 0 a_rafterlaw09_deep_l0 (some (.nrm, ⟨[(0, .d (.str s)), (3, .d (.int .i64 m)), (4, .d (.int .i64 o)), (5, .d (.int .i64 i))], []⟩)) =
      some (.exit 0, ⟨[(3, .d (.int .i64 (dF (o, m) (s.drop i)).2))], []⟩) := by
  intro d
  induction d with
  | zero =>
    intro i hi o m h1 h2 h3 h4
    have e : i = s.length := by omega
    subst e
    rw [codeX_loop (l := a_rafterlaw09_deep_l0) rfl]
    simp -implicitDefEqProofs (disch := omega) [a_rafterlaw09_deep_b0, dF]
    done
  | succ d ih =>
    intro i hi o m h1 h2 h3 h4
    have hlt : i < s.length := by omega
    rw [List.drop_eq_getElem_cons hlt]
    unfold dF
    rw [codeX_loop (l := a_rafterlaw09_deep_l0) rfl]
    have hm : ∀ w : Int, max m w = if m < w then w else m := fun w => by split <;> omega
    by_cases c1 : s[i] = 40
    · have d1 : s[i].toNat = 40 := by rw [c1]; rfl
      have s1 := ih (i + 1) (by omega) (o + 1) (max m (o + 1)) (by omega) (by omega) (by omega) (by omega)
      simp only [Int.natCast_add, Int.cast_ofNat_Int] at s1
      simp only [c1, if_true]
      simp only [hm] at s1 ⊢
      simp -implicitDefEqProofs (disch := omega) [a_rafterlaw09_deep_b0, hlt, d1, s1]
      done
    · have d1 : ¬ s[i].toNat = 40 := fun h => c1 (by apply UInt8.toNat_inj.1; rw [h]; rfl)
      have d1' : ¬ (s[i].toNat : Int) = 40 := by omega
      by_cases c2 : s[i] = 41
      · have d2 : s[i].toNat = 41 := by rw [c2]; rfl
        have s1 := ih (i + 1) (by omega) (o - 1) (max m (o - 1)) (by omega) (by omega) (by omega) (by omega)
        simp only [Int.natCast_add, Int.cast_ofNat_Int] at s1
        simp only [c2, if_true, show ¬ (41 : UInt8) = 40 by decide, if_false]
        simp only [hm] at s1 ⊢
        simp -implicitDefEqProofs (disch := omega) [a_rafterlaw09_deep_b0, hlt, d2, s1]
        done
      · have s1 := ih (i + 1) (by omega) o (max m o) (by omega) (by omega) (by omega) (by omega)
        have d2 : ¬ s[i].toNat = 41 := fun h => c2 (by apply UInt8.toNat_inj.1; rw [h]; rfl)
        have d2' : ¬ (s[i].toNat : Int) = 41 := by omega
        simp only [Int.natCast_add, Int.cast_ofNat_Int] at s1
        simp only [c1, c2, if_false]
        simp only [hm] at s1 ⊢
        simp -implicitDefEqProofs (disch := omega) [a_rafterlaw09_deep_b0, hlt, d1', d2', s1]
        done
theorem deep_spec {s : List UInt8} (hl : s.length ≤ 100000000) : callE T0 X0 f_rafterlaw09_deep [.d (.str s)] [] = some (.ret [.d (.int .i64 (dF (0, 0) s).2)] []) := by
  have s1 := deep_loop s hl s.length 0 (by omega) 0 0 (by omega) (by omega) (by omega) (by omega)
  rw [callX_fun (af := a_rafterlaw09_deep) rfl rfl rfl]
  rw [List.drop_zero, show ((0 : Nat) : Int) = 0 from rfl] at s1
  simp -implicitDefEqProofs (disch := omega) [a_rafterlaw09_deep, s1]
  done
end Go.Rf

/- limbs.Uint, Gcd; whole.Gcd. -/
namespace Go.Rf

theorem uint_spec {X : Int} (h0 : 0 ≤ X) (hs : (limbs X).length ≤ 1099511627776) :
    callE T0 X0 f_limbs_Uint [.d (.sl (L (limbs X)))] [] = some (.ret [.d (.int .u64 (if X < 18446744073709551616 then X else 0)), .d (.bool (decide (X < 18446744073709551616)))] []) := by
  have s1 := short_spec (limbs_good X) hs
  rw [limbs_nv h0] at s1
  rw [callX_fun (af := a_limbs_Uint) rfl rfl rfl]
  by_cases h1 : X = 0
  · subst h1
    simp only [limbs_zero, L_nil] at s1 ⊢
    simp -implicitDefEqProofs (disch := omega) [a_limbs_Uint, s1]
    done
  by_cases h2 : X < 4294967296
  · have e : limbs X = [X] := by
      rw [limbs_step (by omega), show X / 4294967296 = 0 by omega, limbs_zero, show X % 4294967296 = X by omega]
    rw [e] at s1 ⊢
    have w := wl_L [X]
    simp only [L_cons, L_nil] at s1 w ⊢
    have hb : X < 18446744073709551616 := by omega
    simp -implicitDefEqProofs (disch := omega) [a_limbs_Uint, s1, w, hb]
    done
  by_cases h3 : X < 18446744073709551616
  · have e : limbs X = [X % 4294967296, X / 4294967296] := by
      rw [limbs_step (by omega), limbs_step (u := X / 4294967296) (by omega), show X / 4294967296 / 4294967296 = 0 by omega, limbs_zero, show X / 4294967296 % 4294967296 = X / 4294967296 by omega]
    rw [e] at s1 ⊢
    have w := wl_L [X % 4294967296, X / 4294967296]
    simp only [L_cons, L_nil] at s1 w ⊢
    simp -implicitDefEqProofs (disch := omega) [a_limbs_Uint, s1, w, h3]
    rw [or64 (by omega) (by omega) (by omega)]
    omega
  · have hl : 3 ≤ (limbs X).length := by
      rw [limbs_step (by omega), limbs_step (u := X / 4294967296) (by omega), limbs_step (u := X / 4294967296 / 4294967296) (by omega)]
      simp
    have hne : ¬ limbs X = [] := fun h => by rw [h] at hl; simp at hl
    simp -implicitDefEqProofs (disch := omega) [a_limbs_Uint, s1, h3, hne]
    done
theorem limbs_mono {m n : Int} (h0 : 0 ≤ m) (h : m ≤ n) : (limbs m).length ≤ (limbs n).length := by
  have := (nv_bounds (limbs_good n)).2
  rw [limbs_nv (by omega)] at this
  exact limbs_len h0 (by omega)
theorem gcd_step (x y : Nat) : Nat.gcd y (x % y) = Nat.gcd x y := by
  rw [Nat.gcd_comm, ← Nat.gcd_rec, Nat.gcd_comm]
theorem gcd_in : ∀ (y x : Nat), x < 18446744073709551616 → y < 18446744073709551616 →
    codeX T0 X0 0 a_limbs_Gcd_l0 (some (.nrm, ⟨[(5, .d (.int .u64 x)), (7, .d (.int .u64 y))], []⟩)) = some (.exit 2, ⟨[(5, .d (.int .u64 (Nat.gcd x y : Nat)))], []⟩) := by
  intro y
  induction y using Nat.strongRecOn with
  | ind y ih =>
    intro x hx hy
    rw [codeX_loop (l := a_limbs_Gcd_l0) rfl]
    by_cases h : y = 0
    · subst h
      simp -implicitDefEqProofs (disch := omega) [a_limbs_Gcd_b0]
      done
    · have hlt := Nat.mod_lt x (Nat.pos_of_ne_zero h)
      have s1 := ih (x % y) hlt y hy (by omega)
      rw [gcd_step, Int.natCast_emod] at s1
      have hp : 0 < y := Nat.pos_of_ne_zero h
      simp -implicitDefEqProofs (disch := omega) [a_limbs_Gcd_b0, h, hp, s1]
      done
theorem gcd_in0 (a b c : V) (y x : Nat) (hx : x < 18446744073709551616) (hy : y < 18446744073709551616) :
    codeX T0 X0 0 a_limbs_Gcd_l0 (some (.nrm, ⟨[(0, a), (1, b), (5, .d (.int .u64 x)), (7, .d (.int .u64 y)), (32, c)], []⟩)) = some (.exit 2, ⟨[(5, .d (.int .u64 (Nat.gcd x y : Nat)))], []⟩) := by
  rw [codeX_loop (l := a_limbs_Gcd_l0) rfl]
  by_cases h : y = 0
  · subst h
    simp -implicitDefEqProofs (disch := omega) [a_limbs_Gcd_b0]
    done
  · have hlt := Nat.mod_lt x (Nat.pos_of_ne_zero h)
    have s1 := gcd_in (x % y) y hy (by omega)
    rw [gcd_step, Int.natCast_emod] at s1
    have hp : 0 < y := Nat.pos_of_ne_zero h
    simp -implicitDefEqProofs (disch := omega) [a_limbs_Gcd_b0, h, hp, s1]
    done
theorem gcd_out : ∀ (B A : Nat), (limbs (A : Int)).length < 268435456 → (limbs (B : Int)).length < 268435456 →
    ∃ r, codeX T0 X0 0 a_limbs_Gcd_l1 (some (.nrm, ⟨[(0, .d (.sl (L (limbs A)))), (1, .d (.sl (L (limbs B))))], []⟩)) = some r ∧
      (r = (.exit 0, ⟨[(0, .d (.sl (L (limbs (Nat.gcd A B : Nat)))))], []⟩) ∨ r = (.ret, ⟨[(4, .d (.sl (L (limbs (Nat.gcd A B : Nat)))))], []⟩)) := by
  intro B
  induction B using Nat.strongRecOn with
  | ind B ih =>
    intro A hA hB
    rw [codeX_loop (l := a_limbs_Gcd_l1) rfl]
    by_cases h : B = 0
    · subst h
      refine ⟨_, ?_, .inl rfl⟩
      have e0 : limbs ((0 : Nat) : Int) = [] := rfl
      rw [e0, Nat.gcd_zero_right]
      simp -implicitDefEqProofs (disch := omega) [a_limbs_Gcd_b1]
      done
    · have hp : 0 < B := Nat.pos_of_ne_zero h
      have hne : ¬ limbs (B : Int) = [] := fun e => by have := (limbs_nil (by omega)).1 e; omega
      have hlp : 0 < (limbs (B : Int)).length := List.length_pos_iff.2 hne
      have s1 := uint_spec (X := (A : Int)) (by omega) (by omega)
      have s2 := uint_spec (X := (B : Int)) (by omega) (by omega)
      have d1 : callE T0 X0 f_limbs_DivMod [.d (.sl (L (limbs (A : Int)))), .d (.sl (L (limbs (B : Int))))] [] = some (.ret [.d (.sl (L (limbs ((A : Int) / B)))), .d (.sl (L (limbs ((A % B : Nat) : Int)))), .d (.bool true)] []) := by
        have s3 := divmod_spec (limbs_good (A : Int)) (limbs_good (B : Int)) (by omega)
        rw [limbs_nv (by omega), limbs_nv (by omega), if_neg (by omega)] at s3
        exact s3
      have hlt := Nat.mod_lt A hp
      have hl2 : (limbs ((A % B : Nat) : Int)).length ≤ (limbs (B : Int)).length := limbs_mono (by omega) (by omega)
      obtain ⟨r, hr, hr2⟩ := ih (A % B) hlt B hB (by omega)
      rw [gcd_step] at hr2
      by_cases c1 : (A : Int) < 18446744073709551616
      · by_cases c2 : (B : Int) < 18446744073709551616
        · refine ⟨_, ?_, .inr rfl⟩
          have s4 := fun a b c => gcd_in0 a b c B A (by omega) (by omega)
          have hg : Nat.gcd A B < 18446744073709551616 := Nat.lt_of_le_of_lt (Nat.gcd_le_right A hp) (by omega)
          have s5 := small_spec (n := (Nat.gcd A B : Nat)) (by omega)
          rw [if_pos c1, decide_eq_true c1] at s1
          rw [if_pos c2, decide_eq_true c2] at s2
          generalize limbs (A : Int) = xa at *
          generalize limbs (B : Int) = xb at *
          generalize limbs ((Nat.gcd A B : Nat) : Int) = xg at *
          simp -implicitDefEqProofs (disch := omega) [a_limbs_Gcd_b1, s1, s2, s4, s5, hlp]
          done
        · refine ⟨r, ?_, hr2⟩
          rw [if_pos c1, decide_eq_true c1] at s1
          rw [if_neg c2, decide_eq_false c2] at s2
          generalize limbs (A : Int) = xa at *
          generalize limbs (B : Int) = xb at *
          generalize limbs ((A % B : Nat) : Int) = xm at *
          generalize limbs ((A : Int) / B) = xq at *
          simp -implicitDefEqProofs (disch := omega) [a_limbs_Gcd_b1, s1, s2, d1, hr, hlp]
          done
      · refine ⟨r, ?_, hr2⟩
        rw [if_neg c1, decide_eq_false c1] at s1
        generalize limbs (A : Int) = xa at *
        generalize limbs (B : Int) = xb at *
        generalize limbs ((A % B : Nat) : Int) = xm at *
        generalize limbs ((A : Int) / B) = xq at *
        simp -implicitDefEqProofs (disch := omega) [a_limbs_Gcd_b1, s1, s2, d1, hr, hlp]
        done
theorem gcd_spec {A B : Nat} (hA : (limbs (A : Int)).length < 268435456) (hB : (limbs (B : Int)).length < 268435456) :
    callE T0 X0 f_limbs_Gcd [.d (.sl (L (limbs A))), .d (.sl (L (limbs B)))] [] = some (.ret [.d (.sl (L (limbs (Nat.gcd A B : Nat))))] []) := by
  have s1 := short_spec (limbs_good (A : Int)) (by omega)
  have s2 := short_spec (limbs_good (B : Int)) (by omega)
  rw [limbs_nv (by omega)] at s1 s2
  have hg : (limbs (Nat.gcd A B : Nat)).length < 268435456 := by
    by_cases h : A = 0
    · subst h; rw [Nat.gcd_zero_left]; exact hB
    · have := limbs_mono (m := (Nat.gcd A B : Nat)) (n := (A : Int)) (by omega) (by have := Nat.gcd_le_left B (Nat.pos_of_ne_zero h); omega)
      omega
  have s3 := trim_spec (limbs_good (Nat.gcd A B : Nat)) (by omega)
  rw [limbs_nv (by omega)] at s3
  obtain ⟨r, hr, hr2⟩ := gcd_out B A hA hB
  rw [callX_fun (af := a_limbs_Gcd) rfl rfl rfl]
  generalize limbs (A : Int) = xa at *
  generalize limbs (B : Int) = xb at *
  generalize limbs ((Nat.gcd A B : Nat) : Int) = xg at *
  rcases hr2 with rfl | rfl
  · simp -implicitDefEqProofs (disch := omega) [a_limbs_Gcd, s1, s2, hr, s3]
    done
  · simp -implicitDefEqProofs (disch := omega) [a_limbs_Gcd, s1, s2, hr]
    done
theorem wgcd_W {m n : Int} (hm : nl m < 268435456) (hn : nl n < 268435456) : callE T0 X0 f_whole_Gcd [.d (Wd m), .d (Wd n)] [] = some (.ret [.d (Wd (Nat.gcd m.natAbs n.natAbs : Nat))] []) := by
  have s1 := gcd_spec (A := m.natAbs) (B := n.natAbs) hm hn
  have hg : (limbs (Nat.gcd m.natAbs n.natAbs : Nat)).length < 268435456 := by
    by_cases h : m.natAbs = 0
    · rw [h, Nat.gcd_zero_left]; exact hn
    · have := limbs_mono (m := (Nat.gcd m.natAbs n.natAbs : Nat)) (n := (m.natAbs : Int)) (by omega) (by have := Nat.gcd_le_left n.natAbs (Nat.pos_of_ne_zero h); omega)
      unfold nl at hm
      omega
  have s2 := made_spec false (n := (Nat.gcd m.natAbs n.natAbs : Nat)) (by omega) (by omega)
  have e : sg false ((Nat.gcd m.natAbs n.natAbs : Nat) : Int) = (Nat.gcd m.natAbs n.natAbs : Nat) := by simp [sg]
  rw [e] at s2
  unfold nl at hm hn
  rw [callX_fun (af := a_whole_Gcd) rfl rfl rfl]
  have d1 : Wd m = .agg [.bool (decide (m < 0)), .sl (L (limbs m.natAbs))] := rfl
  have d2 : Wd n = .agg [.bool (decide (n < 0)), .sl (L (limbs n.natAbs))] := rfl
  rw [d1, d2]
  generalize limbs ((m.natAbs : Nat) : Int) = xa at *
  generalize limbs ((n.natAbs : Nat) : Int) = xb at *
  generalize limbs ((Nat.gcd m.natAbs n.natAbs : Nat) : Int) = xg at *
  generalize ((Nat.gcd m.natAbs n.natAbs : Nat) : Int) = g at *
  simp -implicitDefEqProofs (disch := omega) [a_whole_Gcd, s1, s2]
  done
/-- A whole number as a fraction. -/
def Rt (n : Int) : D := .agg [.bool (decide (n < 0)), .sl (L (limbs n.natAbs)), .sl (L [1])]
theorem one_spec : callE T0 X0 f_ratio_one [] [] = some (.ret [.d (.sl (L [1]))] []) := by
  rw [callX_fun (af := a_ratio_one) rfl rfl rfl]
  have w := wl_L [1]
  simp only [L_cons, L_nil] at w ⊢
  simp -implicitDefEqProofs (disch := omega) [a_ratio_one, w]
  done
theorem limbs_one : limbs 1 = [1] := rfl
theorem good_one : Good [1] := limbs_good 1
theorem nl_one : nl 1 = 1 := rfl
theorem bits_one : callE T0 X0 f_limbs_Bits [.d (.sl (L [1]))] [] = some (.ret [.d (.int .i64 1)] []) := by
  have s := bits_spec good_one (by simp)
  rw [show (if nv [1] = 0 then (0 : Int) else 32 * (nlen (nv [1]) - 1) + blen (nth (limbs (nv [1])) ((limbs (nv [1])).length - 1))) = 1 by decide] at s
  exact s
theorem rlow_spec {n : Int} (h : nl n < 268435456) : callE T0 X0 f_ratio_lowest [.d (Wd n), .d (.sl (L [1]))] [] = some (.ret [.d (Rt n)] []) := by
  have s1 := wtrim_W (m := n) (by omega)
  have s2 := trim_spec good_one (by simp)
  rw [show limbs (nv [1]) = [1] by rfl] at s2
  have s3 := one_spec
  have s4 := gcd_spec (A := n.natAbs) (B := 1) h (by decide)
  rw [Nat.gcd_one_right, show ((1 : Nat) : Int) = 1 from rfl, limbs_one] at s4
  have s5 := bits_one
  rw [callX_fun (af := a_ratio_lowest) rfl rfl rfl]
  have w := wl_L [1]
  simp only [L_cons, L_nil] at s2 s3 s4 s5 w ⊢
  by_cases h0 : n = 0
  · subst h0
    unfold Rt
    rw [Wd_0] at s1 ⊢
    simp only [L_cons, L_nil]
    simp -implicitDefEqProofs (disch := omega) [a_ratio_lowest, s1, s2, s3, w, -Wd_0']
    done
  · have hne : ¬ limbs (n.natAbs : Int) = [] := fun e => by have := (limbs_nil (by omega)).1 e; omega
    unfold nl at h
    have d1 : Wd n = .agg [.bool (decide (n < 0)), .sl (L (limbs n.natAbs))] := rfl
    unfold Rt
    rw [d1] at s1 ⊢
    simp only [L_cons, L_nil]
    have lp := codeX_loop (T := T0) (X := X0) (pin := 0) (l := a_ratio_lowest_l0) rfl
    generalize limbs ((n.natAbs : Nat) : Int) = xa at *
    simp -implicitDefEqProofs (disch := omega) [a_ratio_lowest, a_ratio_lowest_b0, lp, s1, s2, s4, s5, w, hne, -Wd_0']
    done
end Go.Rf

/- ratio.From, Trim, Mul, Whole; affine.lowest, told. -/
namespace Go.Rf

def RtL (l : List Int) : List D := l.map Rt
def RtV (l : List Int) : List V := l.map fun n => .d (Rt n)
@[simp] theorem RtL_len (l) : (RtL l).length = l.length := by simp [RtL]
@[simp] theorem RtV_len (l) : (RtV l).length = l.length := by simp [RtV]
@[simp] theorem RtL_nil : RtL [] = [] := rfl
@[simp] theorem RtV_nil : RtV [] = [] := rfl
@[simp] theorem RtV_app1 (l : List Int) (n : Int) : RtV l ++ [.d (Rt n)] = RtV (l ++ [n]) := by simp [RtV]
@[simp] theorem RtL_app1 (l : List Int) (n : Int) : RtL l ++ [Rt n] = RtL (l ++ [n]) := by simp [RtL]
@[simp] theorem RtL_map (l) : (RtL l).map V.d = RtV l := by simp [RtL, RtV, Function.comp_def]
@[simp] theorem RtL_take (l n) : (RtL l).take n = RtL (l.take n) := by simp [RtL, List.map_take]
theorem RtL_get {l : List Int} {i : Nat} (h : i < l.length) : (RtL l)[i]? = some (Rt (nth l i)) := by simp [RtL, nth, h]
attribute [simp] RtL_get
@[simp] theorem RtV_take (l n) : (RtV l).take n = RtV (l.take n) := by simp [RtV, List.map_take]
@[simp] theorem allD_RtV (l) : allD (RtV l) = some (RtL l) := by rw [← RtL_map]; exact allD_map _
@[simp] theorem rens_RtV (al : Loc → Bool) (l : List Int) (m : List Loc) : rens al (RtV l) m = (RtV l, m) := by rw [← RtL_map]; exact rens_map ..
@[simp] theorem mapLs_RtV (f : Loc → Loc) (l : List Int) : mapLs f (RtV l) = RtV l := by
  induction l with
  | nil => rfl
  | cons x xs ih =>
    show V.mapL f (.d _) :: mapLs f (RtV xs) = _
    rw [ih]
    rfl
@[simp] theorem frzL_RtV (h : Loc → Option Obj) (k : Nat) (l : List Int) : frzL (frz h (k + 1)) (RtV l) = some (RtL l, []) := by
  induction l with
  | nil => rfl
  | cons x xs ih =>
    show frzL (frz h (k + 1)) (.d _ :: RtV xs) = _
    simp only [frzL, ih]
    rfl
@[simp] theorem RtV_cells (l) : (∀ x ∈ RtV l, x.cells.length = 3) = True := eq_true (by
  intro x hx
  obtain ⟨n, _, rfl⟩ := List.mem_map.1 hx
  rfl)
theorem wl_RtL (l : List Int) : wl (RtL l) ≤ 56 := by
  induction l with
  | nil => simp [RtL, wl]
  | cons x xs ih =>
    show max (wt (Rt x)) (wl (RtL xs)) ≤ 56
    have : wt (Rt x) = 49 := rfl
    omega
@[simp] theorem wl_RtL56 (l) : (wl (RtL l) ≤ 56) = True := eq_true (wl_RtL l)
@[simp] theorem fit_RtL {n : Nat} {l : List Int} (h : n ≤ 1099511627) : (n * wl (RtL l) ≤ lots) = True := eq_true (Nat.le_trans (Nat.mul_le_mul h (wl_RtL l)) (by unfold lots; omega))
@[simp] theorem RtL_cells (l) : (∀ x ∈ RtL l, x.cells.length = 3) = True := eq_true (by
  intro x hx
  obtain ⟨n, _, rfl⟩ := List.mem_map.1 hx
  rfl)
@[simp] theorem cells_Rt (n) : (Rt n).cells.length = 3 := rfl
@[simp] theorem vcells_Rt (n) : (V.cells (.d (Rt n))).length = 3 := rfl
@[simp] theorem aggO_Rt (n) : aggO (List.take 3 (V.d (Rt n)).cells) (allD (List.take 3 (V.d (Rt n)).cells)) = .d (Rt n) := rfl
@[simp] theorem take3_Rt (n) : List.take 3 (V.d (Rt n)).cells = (V.d (Rt n)).cells := rfl
@[simp] theorem aggO_Rt' (n) : aggO (V.d (Rt n)).cells (allD (V.d (Rt n)).cells) = .d (Rt n) := rfl
theorem fitV_Rt {n : Int} (h : nl n < 1099511627776) : fitV (.d (Rt n)) = true := by
  have : wl (L (limbs n.natAbs)) ≤ 4 := wl_L _
  have h2 : (limbs n.natAbs).length * wl (L (limbs n.natAbs)) ≤ 1099511627776 * 4 := Nat.mul_le_mul (Nat.le_of_lt h) this
  have h3 : wl (L [1]) ≤ 4 := wl_L _
  simp only [L_cons, L_nil] at h3
  simp [Rt, fitV, fitC]
  unfold lots; omega
attribute [simp] fitV_Rt
@[simp] theorem loadV_Rt (h n) : loadV h 3 true (.d (.box (Rt n))) = val (.d (Rt n)) := by simp [Rt]
theorem rfrom_spec {n : Int} (h : nl n < 268435456) : callE T0 X0 f_ratio_From [.d (Wd n)] [] = some (.ret [.d (Rt n)] []) := by
  have s1 := one_spec
  have s2 := rlow_spec h
  rw [callX_fun (af := a_ratio_From) rfl rfl rfl]
  have w := wl_L [1]
  have d : Rt n = .agg [.bool (decide (n < 0)), .sl (L (limbs n.natAbs)), .sl (L [1])] := rfl
  rw [d] at s2 ⊢
  simp only [L_cons, L_nil] at w s1 s2 ⊢
  simp -implicitDefEqProofs (disch := omega) [a_ratio_From, s1, s2, w]
  done
theorem rtrim_spec {n : Int} (h : nl n < 268435456) : callE T0 X0 f_ratio_Trim [.d (Rt n)] [] = some (.ret [.d (Rt n)] []) := by
  have s2 := rlow_spec h
  rw [callX_fun (af := a_ratio_Trim) rfl rfl rfl]
  have w := wl_L [1]
  have d : Rt n = .agg [.bool (decide (n < 0)), .sl (L (limbs n.natAbs)), .sl (L [1])] := rfl
  have d2 : Wd n = .agg [.bool (decide (n < 0)), .sl (L (limbs n.natAbs))] := rfl
  rw [d2, d] at s2
  rw [d]
  unfold nl at h
  generalize limbs ((n.natAbs : Nat) : Int) = xa at *
  simp only [L_cons, L_nil] at w s2 ⊢
  simp -implicitDefEqProofs (disch := omega) [a_ratio_Trim, s2, w]
  done
theorem rmul_spec {m n : Int} (hm : nl m < 67108864) (hn : nl n < 67108864) (hp : nl (m * n) < 268435456) : callE T0 X0 f_ratio_Mul [.d (Rt m), .d (Rt n)] [] = some (.ret [.d (Rt (m * n))] []) := by
  have s1 := wmul_W (m := m) (n := n) (by omega) (by omega)
  have s2 := mul_spec good_one good_one (by simp)
  rw [show limbs (nv [1] * nv [1]) = [1] by rfl] at s2
  have s3 := rlow_spec hp
  rw [callX_fun (af := a_ratio_Mul) rfl rfl rfl]
  have w := wl_L [1]
  have d2 : ∀ n, Wd n = .agg [.bool (decide (n < 0)), .sl (L (limbs n.natAbs))] := fun _ => rfl
  have d : ∀ n, Rt n = .agg [.bool (decide (n < 0)), .sl (L (limbs n.natAbs)), .sl (L [1])] := fun _ => rfl
  rw [d2, d2, d2] at s1
  rw [d2, d] at s3
  rw [d, d, d]
  unfold nl at hm hn hp
  generalize m * n = mn at *
  generalize limbs ((n.natAbs : Nat) : Int) = xa at *
  generalize limbs ((m.natAbs : Nat) : Int) = xb at *
  generalize limbs ((mn.natAbs : Nat) : Int) = xc at *
  simp only [L_cons, L_nil] at w s2 s3 ⊢
  simp -implicitDefEqProofs (disch := omega) [a_ratio_Mul, s1, s2, s3, w]
  done
theorem rwhole_spec {n : Int} (h : nl n < 268435456) : callE T0 X0 f_ratio_Whole [.d (Rt n)] [] = some (.ret [.d (Wd n), .d (.bool true)] []) := by
  have s2 := rtrim_spec h
  have s3 := bits_one
  rw [callX_fun (af := a_ratio_Whole) rfl rfl rfl]
  have w := wl_L [1]
  have d : Rt n = .agg [.bool (decide (n < 0)), .sl (L (limbs n.natAbs)), .sl (L [1])] := rfl
  have d2 : Wd n = .agg [.bool (decide (n < 0)), .sl (L (limbs n.natAbs))] := rfl
  rw [d] at s2 ⊢
  rw [d2]
  unfold nl at h
  generalize limbs ((n.natAbs : Nat) : Int) = xa at *
  simp only [L_cons, L_nil] at w s2 s3 ⊢
  simp -implicitDefEqProofs (disch := omega) [a_ratio_Whole, s2, s3, w, -Wd_0']
  done
/-- The first number's sign that is not 0; the numbers' greatest common divisor. -/
def fsN (f : List Int) : Nat → Int
  | 0 => 0
  | n + 1 => if fsN f n = 0 then (nth f n).sign else fsN f n
def gcN (f : List Int) : Nat → Nat
  | 0 => 0
  | n + 1 => Nat.gcd (gcN f n) (nth f n).natAbs
theorem gcN_nl {f : List Int} {k : Nat} (h : ∀ i, nl (nth f i) ≤ k) : ∀ n, nl (gcN f n : Nat) ≤ k
  | 0 => by unfold gcN; simp
  | n + 1 => by
    unfold gcN
    have h1 := gcN_nl h n
    have h2 := h n
    unfold nl at *
    by_cases h0 : (nth f n).natAbs = 0
    · rw [h0, Nat.gcd_zero_right]; exact h1
    · have := Nat.gcd_le_right (gcN f n) (Nat.pos_of_ne_zero h0)
      exact Nat.le_trans (limbs_mono (by omega) (by omega)) h2
theorem low_in (f : List Int) (hl : f.length ≤ 1000) (hf : ∀ i, nl (nth f i) ≤ 8388608) : ∀ d i, d + i = f.length →
    codeX T0 X0 0 a_affine_lowest_l0 (some (.nrm, ⟨[(0, .d (.sl (WL f))), (3, .d (.int .i64 (fsN f i))), (4, .ptr (.b 0) 0 0), (11, .d (.sl (WL f))), (12, .d (.int .i64 f.length)), (13, .d (.int .i64 i))], [.arr [.d (Wd (gcN f i : Nat))] ⟨2, 0⟩]⟩)) =
      some (.exit 0, ⟨[(0, .d (.sl (WL f))), (3, .d (.int .i64 (fsN f f.length))), (4, .ptr (.b 0) 0 0)], [.arr [.d (Wd (gcN f f.length : Nat))] ⟨2, 0⟩]⟩) := by
  intro d
  induction d with
  | zero =>
    intro i hd
    have e : i = f.length := by omega
    subst e
    rw [codeX_loop (l := a_affine_lowest_l0) rfl]
    simp -implicitDefEqProofs (disch := omega) [a_affine_lowest_b0]
    done
  | succ d ih =>
    intro i hd
    have hi : i < f.length := by omega
    have s1 := ih (i + 1) (by omega)
    have hfi := hf i
    have hg := gcN_nl hf i
    have s2 := wsign_W (m := nth f i) (by omega)
    have s3 := wgcd_W (m := (gcN f i : Nat)) (n := nth f i) (by omega) (by omega)
    rw [Int.natAbs_natCast, show Nat.gcd (gcN f i) (nth f i).natAbs = gcN f (i + 1) from rfl] at s3
    rw [codeX_loop (l := a_affine_lowest_l0) rfl]
    rw [show fsN f (i + 1) = if fsN f i = 0 then (nth f i).sign else fsN f i from rfl] at s1
    simp only [Int.natCast_add, Int.cast_ofNat_Int] at s1
    generalize ((gcN f i : Nat) : Int) = g at *
    generalize ((gcN f (i + 1) : Nat) : Int) = g' at *
    by_cases h0 : fsN f i = 0
    · rw [if_pos h0] at s1
      rw [h0]
      simp -implicitDefEqProofs (disch := omega) [a_affine_lowest_b0, s1, s2, s3]
      done
    · rw [if_neg h0] at s1
      simp -implicitDefEqProofs (disch := omega) [a_affine_lowest_b0, s1, s3, h0]
      done
end Go.Rf

/- affine.lowest, told. -/
namespace Go.Rf

/-- A number of a row, divided by all that the row's numbers have in common, its sign turned with the first one's. -/
def lowE (s g x : Int) : Int := if s < 0 then -(x / g) else if s = 0 then x else x / g
def lowV (f : List Int) : List Int := f.map (lowE (fsN f f.length) (gcN f f.length : Nat))
theorem low_out (f : List Int) (s g : Int) (hl : f.length ≤ 1000) (hs : s ≠ 0 → g ≠ 0) (hf : ∀ i, nl (nth f i) ≤ 8388608) (hg : nl g ≤ 8388608) (hq : ∀ i, nl (nth f i / g) ≤ 8388608) : ∀ d i (out : List Int), d + i = f.length → out.length = f.length →
    codeX T0 X0 0 a_affine_lowest_l1 (some (.nrm, ⟨[(3, .d (.int .i64 s)), (4, .ptr (.b 0) 0 0), (7, .ref (.b 1) ⟨2, 32⟩ 0 f.length), (28, .d (.sl (WL f))), (29, .d (.int .i64 f.length)), (30, .d (.int .i64 i))], [.arr [.d (Wd g)] ⟨2, 0⟩, .arr (WV out) ⟨2, 32⟩]⟩)) =
      some (.exit 2, ⟨[(7, .ref (.b 0) ⟨2, 32⟩ 0 f.length)], [.arr (WV (out.take i ++ (f.map (lowE s g)).drop i)) ⟨2, 32⟩]⟩) := by
  intro d
  induction d with
  | zero =>
    intro i out hd ho
    rw [codeX_loop (l := a_affine_lowest_l1) rfl]
    have h1 : (f.map (lowE s g)).drop i = [] := List.drop_eq_nil_of_le (by simp; omega)
    have h2 : out.take i = out := List.take_of_length_le (by omega)
    rw [h1, h2]
    simp -implicitDefEqProofs (disch := omega) [a_affine_lowest_b1]
    done
  | succ d ih =>
    intro i out hd ho
    have hi : i < f.length := by omega
    rw [codeX_loop (l := a_affine_lowest_l1) rfl]
    have h1 : (f.map (lowE s g)).drop i = lowE s g (nth f i) :: (f.map (lowE s g)).drop (i + 1) := by
      rw [List.drop_eq_getElem_cons (by simp; omega)]
      simp [nth, hi]
    have s5 := ih (i + 1) (out.set i (lowE s g (nth f i))) (by omega) (by simp [ho])
    have h3 : (out.set i (lowE s g (nth f i))).take (i + 1) = out.take i ++ [lowE s g (nth f i)] := by
      rw [take_succ_nth (by simp; omega), List.take_set_of_le (Nat.le_refl _), nth_set (by omega), if_pos rfl]
    rw [h1, List.append_cons, ← h3]
    have hfi := hf i
    have hqi := hq i
    have s1 := wdivmod_W (m := nth f i) (n := g) (by omega) (by omega)
    have s2 := wneg_W (m := nth f i / g) (by omega)
    have s3 := wtrim_W (m := nth f i) (by omega)
    have s4 := wtrim_W (m := nth f i / g) (by omega)
    have s6 := wtrim_W (m := -(nth f i / g)) (by unfold nl at *; rw [Int.natAbs_neg]; omega)
    simp only [Int.natCast_add, Int.cast_ofNat_Int] at s5
    by_cases c1 : s < 0
    · rw [if_neg (hs (by omega))] at s1
      have e : lowE s g (nth f i) = -(nth f i / g) := if_pos c1
      rw [e] at s5 ⊢
      have c2 : ¬ s = 0 := by omega
      have hn : nl (-(nth f i / g)) ≤ 8388608 := by unfold nl at *; rw [Int.natAbs_neg]; omega
      generalize -(nth f i / g) = x at *
      generalize nth f i / g = q at *
      simp -implicitDefEqProofs (disch := omega) [a_affine_lowest_b1, s1, s2, s5, s6, c1, c2]
      done
    · by_cases c2 : s = 0
      · have e : lowE s g (nth f i) = nth f i := by unfold lowE; rw [if_neg c1, if_pos c2]
        rw [e] at s5 ⊢
        subst c2
        simp -implicitDefEqProofs (disch := omega) [a_affine_lowest_b1, s3, s5]
        done
      · rw [if_neg (hs c2)] at s1
        have e : lowE s g (nth f i) = nth f i / g := by unfold lowE; rw [if_neg c1, if_neg c2]
        rw [e] at s5 ⊢
        generalize nth f i / g = q at *
        simp -implicitDefEqProofs (disch := omega) [a_affine_lowest_b1, s1, s4, s5, c1, c2]
        done
theorem nl_quo (x g : Int) : nl (x / g) ≤ nl x := by
  unfold nl
  exact limbs_mono (by omega) (by have := Int.natAbs_ediv_le_natAbs x g; omega)
theorem gc0_fs0 {f : List Int} : ∀ n, gcN f n = 0 → fsN f n = 0
  | 0, _ => rfl
  | n + 1, h => by
    unfold gcN at h
    have h1 := Nat.eq_zero_of_gcd_eq_zero_left h
    have h2 := Nat.eq_zero_of_gcd_eq_zero_right h
    unfold fsN
    rw [if_pos (gc0_fs0 n h1), show nth f n = 0 by omega]
    rfl
theorem low_spec {f : List Int} (hl : f.length ≤ 1000) (hf : ∀ i, nl (nth f i) ≤ 8388608) : callE T0 X0 f_affine_lowest [.d (.sl (WL f))] [] = some (.ret [.d (.sl (WL (lowV f)))] []) := by
  have s1 := low_in f hl hf f.length 0 (by omega)
  have s2 := low_out f (fsN f f.length) (gcN f f.length : Nat) hl (fun h e => h (gc0_fs0 _ (by omega))) hf (gcN_nl hf _) (fun i => Nat.le_trans (nl_quo _ _) (hf i)) f.length 0 (List.replicate f.length 0) (by omega) (by simp)
  simp only [Int.cast_ofNat_Int, fsN, gcN, List.take_zero, List.drop_zero, List.nil_append] at s1 s2
  rw [show List.map (lowE (fsN f f.length) (gcN f f.length : Nat)) f = lowV f from rfl] at s2
  have e : (lowV f).length = f.length := by simp [lowV]
  rw [callX_fun (af := a_affine_lowest) rfl rfl rfl]
  generalize lowV f = out at *
  have ht : out.take f.length = out := List.take_of_length_le (by omega)
  simp -implicitDefEqProofs (disch := omega) [a_affine_lowest, s1, s2, e, ht]
  done
/-- No number is too long. -/
def short32 (f : List Int) : Bool := f.all fun x => decide (nl x ≤ 32)
theorem told_loop (f : List Int) (hl : f.length ≤ 1000) (hf : ∀ i, nl (nth f i) ≤ 8388608) : ∀ d i, d + i = f.length →
    codeX T0 X0 0 a_affine_told_l0 (some (.nrm, ⟨[(0, .d (.sl (WL f))), (6, .d (.sl (WL f))), (7, .d (.int .i64 f.length)), (8, .d (.int .i64 i))], []⟩)) =
      some (if short32 (f.drop i) = true then (.exit 0, ⟨[(0, .d (.sl (WL f)))], []⟩) else (.ret, ⟨[(2, .d (.sl [])), (3, .d (.int .i64 2))], []⟩)) := by
  intro d
  induction d with
  | zero =>
    intro i hd
    rw [codeX_loop (l := a_affine_told_l0) rfl, List.drop_eq_nil_of_le (by omega), if_pos (show short32 [] = true from rfl)]
    simp -implicitDefEqProofs (disch := omega) [a_affine_told_b0]
    done
  | succ d ih =>
    intro i hd
    have hi : i < f.length := by omega
    have s1 := ih (i + 1) (by omega)
    have hfi := hf i
    have s2 := wlimbs_W (m := nth f i) (by omega)
    rw [codeX_loop (l := a_affine_told_l0) rfl, drop_nth hi]
    rw [show short32 (nth f i :: f.drop (i + 1)) = (decide (nl (nth f i) ≤ 32) && short32 (f.drop (i + 1))) from rfl]
    simp only [Int.natCast_add, Int.cast_ofNat_Int] at s1
    by_cases c : nl (nth f i) ≤ 32
    · rw [decide_eq_true c, Bool.true_and]
      simp -implicitDefEqProofs (disch := omega) [a_affine_told_b0, s1, s2]
      done
    · rw [decide_eq_false c, Bool.false_and, if_neg (by decide)]
      simp -implicitDefEqProofs (disch := omega) [a_affine_told_b0, s2]
      done
theorem told_spec {f : List Int} (hl : f.length ≤ 1000) (hf : ∀ i, nl (nth f i) ≤ 8388608) : callE T0 X0 f_affine_told [.d (.sl (WL f))] [] = some (.ret [.d (.sl (WL (if short32 f = true then f else []))), .d (.int .i64 (if short32 f = true then 0 else 2))] []) := by
  have s1 := told_loop f hl hf f.length 0 (by omega)
  rw [List.drop_zero, show ((0 : Nat) : Int) = 0 from rfl] at s1
  rw [callX_fun (af := a_affine_told) rfl rfl rfl]
  by_cases c : short32 f = true
  · simp only [if_pos c] at s1 ⊢
    simp -implicitDefEqProofs (disch := omega) [a_affine_told, s1]
    done
  · simp only [if_neg c] at s1 ⊢
    rw [show WL [] = [] from rfl]
    simp -implicitDefEqProofs (disch := omega) [a_affine_told, s1]
    done
end Go.Rf

/- affine.Canonical, Canon, Left. -/
namespace Go.Rf

theorem cal_in (f : List Int) (hl : f.length ≤ 1000) (hf : ∀ i, nl (nth f i) ≤ 8388608) : ∀ d i, d + i = f.length →
    codeX T0 X0 0 a_affine_Canonical_l0 (some (.nrm, ⟨[(3, .d (.int .i64 (fsN f i))), (4, .ptr (.b 0) 0 0), (11, .d (.sl (WL f))), (12, .d (.int .i64 f.length)), (13, .d (.int .i64 i))], [.arr [.d (Wd (gcN f i : Nat))] ⟨2, 0⟩]⟩)) =
      some (.exit 0, ⟨[(3, .d (.int .i64 (fsN f f.length))), (4, .ptr (.b 0) 0 0)], [.arr [.d (Wd (gcN f f.length : Nat))] ⟨2, 0⟩]⟩) := by
  intro d
  induction d with
  | zero =>
    intro i hd
    have e : i = f.length := by omega
    subst e
    rw [codeX_loop (l := a_affine_Canonical_l0) rfl]
    simp -implicitDefEqProofs (disch := omega) [a_affine_Canonical_b0]
    done
  | succ d ih =>
    intro i hd
    have hi : i < f.length := by omega
    have s1 := ih (i + 1) (by omega)
    have hfi := hf i
    have hg := gcN_nl hf i
    have s2 := wsign_W (m := nth f i) (by omega)
    have s3 := wgcd_W (m := (gcN f i : Nat)) (n := nth f i) (by omega) (by omega)
    rw [Int.natAbs_natCast, show Nat.gcd (gcN f i) (nth f i).natAbs = gcN f (i + 1) from rfl] at s3
    rw [codeX_loop (l := a_affine_Canonical_l0) rfl]
    rw [show fsN f (i + 1) = if fsN f i = 0 then (nth f i).sign else fsN f i from rfl] at s1
    simp only [Int.natCast_add, Int.cast_ofNat_Int] at s1
    generalize ((gcN f i : Nat) : Int) = g at *
    generalize ((gcN f (i + 1) : Nat) : Int) = g' at *
    by_cases h0 : fsN f i = 0
    · rw [if_pos h0] at s1
      rw [h0]
      simp -implicitDefEqProofs (disch := omega) [a_affine_Canonical_b0, s1, s2, s3]
      done
    · rw [if_neg h0] at s1
      simp -implicitDefEqProofs (disch := omega) [a_affine_Canonical_b0, s1, s3, h0]
      done
@[simp 10000] theorem setPart_Rt (n : Int) : setPart (.d (.agg [.bool false, .sl [], .sl []])) 0 (.d (Rt n)) = some (.d (Rt n)) := rfl
@[simp] theorem isAgg_Rt (n : Int) : isAgg (V.d (Rt n)) = true := rfl
@[simp] theorem den_Rt (n : Int) : (V.d (Rt n)).cells[2]? = some (.d (.sl [.int .u32 1])) := rfl
@[simp] theorem built_one : aggO ((V.d (Wd 0)).cells.set 1 (V.d (.sl [.int .u32 1]))) (allD ((V.d (Wd 0)).cells.set 1 (V.d (.sl [.int .u32 1])))) = .d (Wd 1) := rfl
@[simp] theorem fitV_Rt1 : fitV (.d (Rt 1)) = true := rfl
theorem one_agg : D.agg [.bool false, .sl [.int .u32 1]] = Wd 1 := rfl
theorem cn_in (f : List Int) (hl : f.length ≤ 1000) (hf : ∀ i, nl (nth f i) ≤ 8388608) : ∀ d i, d + i = f.length →
    codeX T0 X0 0 a_affine_Canon_l0 (some (.nrm, ⟨[(0, .d (.sl (RtL f))), (4, .ptr (.b 0) 0 0), (18, .d (.sl (RtL f))), (19, .d (.int .i64 f.length)), (20, .d (.int .i64 i))], [.arr [.d (Wd 1)] ⟨2, 0⟩]⟩)) =
      some (.exit 0, ⟨[(0, .d (.sl (RtL f))), (4, .ptr (.b 0) 0 0)], [.arr [.d (Wd 1)] ⟨2, 0⟩]⟩) := by
  intro d
  induction d with
  | zero =>
    intro i hd
    rw [codeX_loop (l := a_affine_Canon_l0) rfl]
    simp -implicitDefEqProofs (disch := omega) [a_affine_Canon_b0]
    done
  | succ d ih =>
    intro i hd
    have hi : i < f.length := by omega
    have s1 := ih (i + 1) (by omega)
    have hfi := hf i
    have s2 := rtrim_spec (n := nth f i) (by omega)
    have s3 := wgcd_W (m := 1) (n := 1) (by decide) (by decide)
    rw [show ((Nat.gcd (1 : Int).natAbs (1 : Int).natAbs : Nat) : Int) = 1 from rfl] at s3
    have s4 := wdivmod_W (m := 1) (n := 1) (by decide) (by decide)
    rw [if_neg (by decide), show (1 : Int) / 1 = 1 from rfl, show (1 : Int) % 1 = 0 from rfl] at s4
    have s5 := wmul_W (m := 1) (n := 1) (by decide) (by decide)
    rw [show (1 : Int) * 1 = 1 from rfl] at s5
    rw [codeX_loop (l := a_affine_Canon_l0) rfl]
    simp only [Int.natCast_add, Int.cast_ofNat_Int] at s1
    simp -implicitDefEqProofs (disch := omega) [a_affine_Canon_b0, s1, s2, s3, s4, s5, one_agg]
    done
theorem cn_out (f : List Int) (hl : f.length ≤ 1000) (hf : ∀ i, nl (nth f i) ≤ 8388608) : ∀ d i (out : List Int), d + i = f.length → out.length = f.length →
    codeX T0 X0 0 a_affine_Canon_l1 (some (.nrm, ⟨[(4, .ptr (.b 0) 0 0), (11, .ref (.b 1) ⟨2, 32⟩ 0 f.length), (44, .d (.sl (RtL f))), (45, .d (.int .i64 f.length)), (46, .d (.int .i64 i))], [.arr [.d (Wd 1)] ⟨2, 0⟩, .arr (WV out) ⟨2, 32⟩]⟩)) =
      some (.exit 2, ⟨[(11, .ref (.b 0) ⟨2, 32⟩ 0 f.length)], [.arr (WV (out.take i ++ f.drop i)) ⟨2, 32⟩]⟩) := by
  intro d
  induction d with
  | zero =>
    intro i out hd ho
    rw [codeX_loop (l := a_affine_Canon_l1) rfl]
    have h1 : f.drop i = [] := List.drop_eq_nil_of_le (by omega)
    have h2 : out.take i = out := List.take_of_length_le (by omega)
    rw [h1, h2]
    simp -implicitDefEqProofs (disch := omega) [a_affine_Canon_b1]
    done
  | succ d ih =>
    intro i out hd ho
    have hi : i < f.length := by omega
    rw [codeX_loop (l := a_affine_Canon_l1) rfl]
    have s5 := ih (i + 1) (out.set i (nth f i)) (by omega) (by simp [ho])
    have h3 : (out.set i (nth f i)).take (i + 1) = out.take i ++ [nth f i] := by
      rw [take_succ_nth (by simp; omega), List.take_set_of_le (Nat.le_refl _), nth_set (by omega), if_pos rfl]
    rw [drop_nth hi, List.append_cons, ← h3]
    have hfi := hf i
    have s1 := rfrom_spec (n := 1) (by decide)
    have s2 := rmul_spec (m := nth f i) (n := 1) (by omega) (by decide) (by rw [Int.mul_one]; omega)
    rw [Int.mul_one] at s2
    have s3 := rwhole_spec (n := nth f i) (by omega)
    simp only [Int.natCast_add, Int.cast_ofNat_Int] at s5
    simp -implicitDefEqProofs (disch := omega) [a_affine_Canon_b1, s1, s2, s3, s5]
    done
def canV (f : List Int) : List Int × Int := if short32 (lowV f) = true then (lowV f, 0) else ([], 2)
theorem lowV_len (f : List Int) : (lowV f).length = f.length := by simp [lowV]
theorem lowV_nl {f : List Int} (hf : ∀ i, nl (nth f i) ≤ 8388608) (i : Nat) : nl (nth (lowV f) i) ≤ 8388608 := by
  by_cases hi : i < f.length
  · have e : nth (lowV f) i = lowE (fsN f f.length) (gcN f f.length : Nat) (nth f i) := by simp [lowV, nth, hi]
    rw [e]
    have h1 := hf i
    have h2 := nl_quo (nth f i) (gcN f f.length : Nat)
    have h3 : ∀ x : Int, nl (-x) = nl x := fun x => by unfold nl; rw [Int.natAbs_neg]
    unfold lowE
    split
    · rw [h3]; omega
    · split <;> omega
  · rw [nth_out (by rw [lowV_len]; omega)]; simp
theorem canon_spec {f : List Int} (h0 : 0 < f.length) (hl : f.length ≤ 1000) (hf : ∀ i, nl (nth f i) ≤ 8388608) : callE T0 X0 f_affine_Canon [.d (.sl (RtL f))] [] = some (.ret [.d (.sl (WL (canV f).1)), .d (.int .i64 (canV f).2)] []) := by
  have s1 := wof_spec (n := 1) (by omega)
  have s2 := cn_in f hl hf f.length 0 (by omega)
  have s3 := cn_out f hl hf f.length 0 (List.replicate f.length 0) (by omega) (by simp)
  simp only [Int.cast_ofNat_Int, List.take_zero, List.drop_zero, List.nil_append] at s2 s3
  have s4 := low_spec hl hf
  have s5 := told_spec (f := lowV f) (by rw [lowV_len]; exact hl) (lowV_nl hf)
  have e : (if short32 (lowV f) = true then lowV f else []) = (canV f).1 ∧ (if short32 (lowV f) = true then 0 else 2) = (canV f).2 := by
    unfold canV; split <;> exact ⟨rfl, rfl⟩
  rw [e.1, e.2] at s5
  have ht : f.take f.length = f := List.take_length
  have hne : ¬ f = [] := List.length_pos_iff.1 h0
  have ll := lowV_len f
  have lc : (canV f).1.length ≤ f.length := by
    unfold canV; split
    · exact Nat.le_of_eq ll
    · simp
  rw [callX_fun (af := a_affine_Canon) rfl rfl rfl]
  generalize canV f = cv at *
  generalize lowV f = lv at *
  simp -implicitDefEqProofs (disch := omega) [a_affine_Canon, s1, s2, s3, s4, s5, ht, hne]
  done
theorem wcmp_W {m n : Int} (hm : nl m < 268435456) (hn : nl n < 268435456) : callE T0 X0 f_whole_Cmp [.d (Wd m), .d (Wd n)] [] = some (.ret [.d (.int .i64 (cmp m n))] []) := by
  have s1 := wsign_W (m := m) (by omega)
  have s2 := wsign_W (m := n) (by omega)
  have s3 := cmp_spec (limbs_good n.natAbs) (limbs_good m.natAbs) (by unfold nl at hn; omega) (by unfold nl at hm; omega)
  have s4 := cmp_spec (limbs_good m.natAbs) (limbs_good n.natAbs) (by unfold nl at hm; omega) (by unfold nl at hn; omega)
  rw [nv_abs, nv_abs] at s3 s4
  have d : ∀ n, Wd n = .agg [.bool (decide (n < 0)), .sl (L (limbs n.natAbs))] := fun _ => rfl
  have hm' := hm
  have hn' := hn
  unfold nl at hm' hn'
  rw [callX_fun (af := a_whole_Cmp) rfl rfl rfl]
  have sg3 : ∀ x : Int, x.sign = if x < 0 then -1 else if x = 0 then 0 else 1 := fun x => by
    rcases Int.lt_trichotomy x 0 with h | h | h
    · rw [if_pos h, Int.sign_eq_neg_one_of_neg h]
    · rw [h]; rfl
    · rw [if_neg (by omega), if_neg (by omega), Int.sign_eq_one_of_pos h]
  have e : cmp m n = if m.sign < n.sign then -1 else if n.sign < m.sign then 1 else if m.sign < 0 then cmp n.natAbs m.natAbs else cmp m.natAbs n.natAbs := by
    rw [sg3, sg3]
    unfold cmp
    split <;> split <;> split <;> split <;> omega
  rw [e]
  have b1 : -1 ≤ m.sign ∧ m.sign ≤ 1 := by rw [sg3]; repeat (first | omega | split)
  have b2 : -1 ≤ n.sign ∧ n.sign ≤ 1 := by rw [sg3]; repeat (first | omega | split)
  rw [d, d] at *
  generalize limbs ((n.natAbs : Nat) : Int) = xa at *
  generalize limbs ((m.natAbs : Nat) : Int) = xb at *
  generalize m.sign = a at *
  generalize n.sign = b at *
  by_cases c1 : a < b
  · rw [if_pos c1]
    simp -implicitDefEqProofs (disch := omega) [a_whole_Cmp, s1, s2, c1]
    done
  · rw [if_neg c1]
    by_cases c2 : b < a
    · rw [if_pos c2]
      simp -implicitDefEqProofs (disch := omega) [a_whole_Cmp, s1, s2, c1, c2]
      done
    · rw [if_neg c2]
      by_cases c3 : a < 0
      · rw [if_pos c3]
        simp -implicitDefEqProofs (disch := omega) [a_whole_Cmp, s1, s2, s3, c1, c2, c3]
        done
      · rw [if_neg c3]
        simp -implicitDefEqProofs (disch := omega) [a_whole_Cmp, s1, s2, s4, c1, c2, c3]
        done
theorem canonical_spec {f : List Int} (h0 : 0 < f.length) (hl : f.length ≤ 1000) (hf : ∀ i, nl (nth f i) ≤ 8388608) (hs : fsN f f.length = 0 ∨ 0 < fsN f f.length ∧ gcN f f.length = 1) : callE T0 X0 f_affine_Canonical [.d (.sl (WL f))] [] = some (.ret [.d (.bool true)] []) := by
  have s1 := wof_spec (n := 1) (by omega)
  have s2 := cal_in f hl hf f.length 0 (by omega)
  simp only [Int.cast_ofNat_Int, fsN, gcN] at s2
  rw [callX_fun (af := a_affine_Canonical) rfl rfl rfl]
  have hne : ¬ f = [] := List.length_pos_iff.1 h0
  rcases hs with h | ⟨h1, h2⟩
  · rw [h] at s2
    generalize ((gcN f f.length : Nat) : Int) = g at *
    simp -implicitDefEqProofs (disch := omega) [a_affine_Canonical, s2, hne]
    done
  · rw [h2] at s2
    have s3 : callE T0 X0 f_whole_Cmp [.d (Wd 1), .d (Wd 1)] [] = some (.ret [.d (.int .i64 0)] []) := wcmp_W (m := 1) (n := 1) (by decide) (by decide)
    have h3 : ¬ fsN f f.length = 0 := by omega
    generalize fsN f f.length = s at *
    simp only [Int.cast_ofNat_Int] at s2
    simp -implicitDefEqProofs (disch := omega) [a_affine_Canonical, s1, s2, s3, h1, h3, hne]
    done
end Go.Rf

/- An expression that was read is not written with more brackets about a thing than were read. -/
namespace Go.Rf

theorem dpB_le (b : Bool) (d : Nat) : d ≤ dpB b d ∧ dpB b d ≤ d + 1 := by cases b <;> simp [dpB]
theorem adds_single (x : Nd) (h : x.adds = true) : x.single = false := by cases x <;> first | rfl | cases h
theorem dp_adds (x : Nd) : dpB x.adds (dp x) ≤ dpB (!x.single) (dp x) := by
  cases h : x.adds with
  | false => exact (dpB_le _ _).1
  | true => rw [adds_single x h]; exact Nat.le_refl _
theorem dp_mul {op : Int} (h : sumOp op = false) (x y : Nd) : dpB (Nd.two op x y).adds (dp (.two op x y)) = max (dpB x.adds (dp x)) (dpB (!y.single) (dp y)) := by
  rw [show (Nd.two op x y).adds = false from h, dp, h]
  simp [dpB]
theorem dp_add {op : Int} (h : sumOp op = true) (x y : Nd) : dp (.two op x y) = max (dp x) (dpB y.adds (dp y)) := by
  rw [dp, h]
  simp [dpB]
def Md.bnd : Md → Nd → Nat
  | .u, x => dpB (!x.single) (dp x)
  | .p, x => dpB x.adds (dp x)
  | .lp _, x => dpB x.adds (dp x)
  | _, x => dp x
def Md.dp (r : Rd) : Md → Prop
  | .lp x => ((dpB x.adds (Rf.dp x) : Nat) : Int) + r.op ≤ 16
  | .ls x => ((Rf.dp x : Nat) : Int) + r.op ≤ 16
  | _ => True
def DpOk (r : Rd) (m : Md) : Rs → Prop
  | .ok x _ => ((m.bnd x : Nat) : Int) + r.op ≤ 16
  | .bad _ _ _ => True
theorem rd_dp : ∀ n m (r : Rd), r.ok → (∀ t ∈ r.ts, t.kind = 2 → NumTx t.text) → m.fine r.vs.length → m.dp r → DpOk r m (rd n m r) := by
  intro n
  induction n with
  | zero => intro m r _ _ _ _; trivial
  | succ n ih =>
    intro m r h hnum hf hm
    have kn := Kept.next h
    have hno := r.next_op
    have hop := h.op
    have bnd : ∀ (md : Md) (r2 : Rd) (m3 : Md) (f : Nd → Rd → Rs), r2.ok → r2.ts = r.ts → r2.vs = r.vs → md.fine r.vs.length → md.dp r2 → (∀ x r3, Kept r2 r3 → x.fine r.vs.length → ((md.bnd x : Nat) : Int) + r2.op ≤ 16 → DpOk r m3 (f x r3)) → DpOk r m3 ((rd n md r2).bind f) := by
      intro md r2 m3 f h2 e1 e2 hf2 hq2 g
      have a := ih md r2 h2 (by rw [e1]; exact hnum) (by rw [e2]; exact hf2) hq2
      have b := rd_ok n md r2 h2 (by rw [e1]; exact hnum) (by rw [e2]; exact hf2)
      cases hb : rd n md r2 with
      | bad e p r3 => trivial
      | ok x r3 =>
        rw [hb] at a b
        exact g x r3 b.1 (by rw [← e2]; exact b.2.1) a
    have to : ∀ {m2 : Md} {r2 : Rd} {m3 : Md} {rs : Rs}, DpOk r2 m2 rs → r2.op = r.op → (∀ x, m3.bnd x ≤ m2.bnd x) → DpOk r m3 rs := by
      intro m2 r2 m3 rs a e le
      cases rs with
      | bad e p r3 => trivial
      | ok x r3 =>
        have := le x
        have a : ((m2.bnd x : Nat) : Int) + r2.op ≤ 16 := a
        show ((m3.bnd x : Nat) : Int) + r.op ≤ 16
        omega
    have mul : ∀ (op : Int) (x : Nd), (op = 42 ∨ op = 47 ∨ op = 37) → x.fine r.vs.length → ((dpB x.adds (dp x) : Nat) : Int) + r.op ≤ 16 →
        DpOk r (.lp x) ((rd n .u r.next).bind fun y r => rd n (.lp (.two op x y)) r) := by
      intro op x ho hx hdx
      refine bnd .u r.next (.lp x) _ kn.ok kn.ts kn.vs trivial trivial fun y r3 k3 fy qy => ?_
      have k := kn.trans k3
      have e := dp_mul (op := op) (by rcases ho with rfl | rfl | rfl <;> rfl) x y
      have qy : ((dpB (!y.single) (dp y) : Nat) : Int) + r.next.op ≤ 16 := qy
      rw [hno.1] at qy
      refine to (m2 := .lp (.two op x y)) (ih _ r3 k3.ok (by rw [k.ts]; exact hnum) (by rw [k.vs]; exact ⟨by omega, hx, fy⟩) ?_) k.op (fun _ => Nat.le_refl _)
      show ((dpB (Nd.two op x y).adds (dp (.two op x y)) : Nat) : Int) + r3.op ≤ 16
      rw [e, k.op]
      omega
    have add : ∀ (op : Int) (x : Nd), (op = 43 ∨ op = 45) → x.fine r.vs.length → ((dp x : Nat) : Int) + r.op ≤ 16 →
        DpOk r (.ls x) ((rd n .p r.next).bind fun y r => rd n (.ls (.two op x y)) r) := by
      intro op x ho hx hdx
      refine bnd .p r.next (.ls x) _ kn.ok kn.ts kn.vs trivial trivial fun y r3 k3 fy qy => ?_
      have k := kn.trans k3
      have e := dp_add (op := op) (by rcases ho with rfl | rfl <;> rfl) x y
      have qy : ((dpB y.adds (dp y) : Nat) : Int) + r.next.op ≤ 16 := qy
      rw [hno.1] at qy
      refine to (m2 := .ls (.two op x y)) (ih _ r3 k3.ok (by rw [k.ts]; exact hnum) (by rw [k.vs]; exact ⟨by omega, hx, fy⟩) ?_) k.op (fun _ => Nat.le_refl _)
      show ((dp (.two op x y) : Nat) : Int) + r3.op ≤ 16
      rw [e, k.op]
      omega
    cases m with
    | p =>
      unfold rd
      refine bnd .u r .p _ h rfl rfl trivial trivial fun y r3 k3 fy qy => ?_
      have := dp_adds y
      have qy : ((dpB (!y.single) (dp y) : Nat) : Int) + r.op ≤ 16 := qy
      refine to (m2 := .lp y) (ih _ r3 k3.ok (by rw [k3.ts]; exact hnum) (by rw [k3.vs]; exact fy) ?_) k3.op (fun _ => Nat.le_refl _)
      show ((dpB y.adds (dp y) : Nat) : Int) + r3.op ≤ 16
      rw [k3.op]
      omega
    | s =>
      unfold rd
      refine bnd .p r .s _ h rfl rfl trivial trivial fun y r3 k3 fy qy => ?_
      have := (dpB_le y.adds (dp y)).1
      have qy : ((dpB y.adds (dp y) : Nat) : Int) + r.op ≤ 16 := qy
      refine to (m2 := .ls y) (ih _ r3 k3.ok (by rw [k3.ts]; exact hnum) (by rw [k3.vs]; exact fy) ?_) k3.op (fun _ => Nat.le_refl _)
      show ((dp y : Nat) : Int) + r3.op ≤ 16
      rw [k3.op]
      omega
    | lp x =>
      unfold rd
      split
      · exact mul 42 x (by omega) hf hm
      split
      · exact mul 47 x (by omega) hf hm
      split
      · exact mul 37 x (by omega) hf hm
      exact hm
    | ls x =>
      unfold rd
      split
      · exact add 43 x (by omega) hf hm
      split
      · exact add 45 x (by omega) hf hm
      exact hm
    | u =>
      unfold rd
      split
      · refine bnd .u r.next .u _ kn.ok kn.ts kn.vs trivial trivial fun y r3 k3 fy qy => ?_
        rw [hno.1] at qy
        exact qy
      split
      · show ((0 : Nat) : Int) + r.op ≤ 16
        omega
      split
      · split
        · show ((0 : Nat) : Int) + r.op ≤ 16
          omega
        · trivial
      split
      · trivial
      · rename_i hin
        have hlt : r.op < 16 := by
          unfold Rd.into at hin
          split at hin
          · split at hin
            · assumption
            · cases hin
          · cases hin
        have ho := Rd.opened_ok h hlt
        have kn2 := Kept.next ho
        refine bnd .s r.opened.next .u _ kn2.ok kn2.ts kn2.vs trivial trivial fun y r3 _ _ qy => ?_
        split
        · have e : r.opened.next.op = r.op + 1 := r.opened.next_op.1
          have qy : ((dp y : Nat) : Int) + r.opened.next.op ≤ 16 := qy
          rw [e] at qy
          have := (dpB_le (!y.single) (dp y)).2
          show ((dpB (!y.single) (dp y) : Nat) : Int) + r.op ≤ 16
          omega
        · trivial
theorem expr_dp {s vs x e p} (hb : ∀ k, (tx vs k).length ≤ 1100000) (h : exprV s vs = (some x, e, p)) : dp x ≤ 16 := by
  unfold exprV at h
  split at h
  · cases h
  rename_i hn
  have hn : names vs = 0 := Classical.not_not.1 hn
  split at h
  · cases h
  rename_i ts e' p' hs
  obtain ⟨_, ht⟩ := scan_some hs
  have hr := rd_dp (rd0 ts vs).fuel .s (rd0 ts vs) (ht.rd vs (names_all hn).1 hb) ht.num trivial trivial
  split at h
  · cases h
  rename_i y r' he
  rw [he] at hr
  split at h
  · cases h
    have hr : ((dp x : Nat) : Int) + 0 ≤ 16 := hr
    omega
  · cases h
end Go.Rf

/- lang.ReadCond, of a text that is a condition. -/
namespace Go.Rf

def cD (x y : Nd) (b : Bool) : D := .agg [x.d, y.d, .bool b]
theorem cond_spec {r r1 r3 : Rd} {x y : Nd} {b : Bool} (h : r.ok) (hnum : ∀ t ∈ r.ts, t.kind = 2 → NumTx t.text) (e1 : rd r.fuel .s r = .ok x r1) (k1 : Kept r r1)
    (hb : b = true ∧ r1.isT [61] = true ∨ b = false ∧ r1.isT [61] = false ∧ r1.isT [33, 61] = true) (e2 : rd r1.next.fuel .s r1.next = .ok y r3) :
    callE T0 X0 f_lang_reader_cond [.ptr (.b 0) 0 0] r.heap = some (.ret [.d (cD x y b)] r3.heap) := by
  have s1 := ((reads hnum r.fuel).s r h rfl (Nat.le_refl _)).1
  have kn := Kept.next k1.ok
  have s2 := ((reads (ts := r1.next.ts) (by rw [kn.ts, k1.ts]; exact hnum) r1.next.fuel).s r1.next kn.ok rfl (Nat.le_refl _)).1
  have s3 := is_spec k1.ok [61] (by simp)
  rw [e1] at s1
  rw [e2] at s2
  rw [callX_fun (af := a_lang_reader_cond) rfl rfl rfl]
  unfold cD
  rcases hb with ⟨rfl, h1⟩ | ⟨rfl, h1, h2⟩
  · rw [h1, if_pos rfl] at s3
    simp only [Rs.out, Rd.heap] at *
    simp -implicitDefEqProofs (disch := omega) [a_lang_reader_cond, s1, s2, s3]
    done
  · rw [h1, if_neg (by simp)] at s3
    have s4 := must_true k1.ok (s := [33, 61]) (by simp) h2
    simp only [Rs.out, Rd.heap] at *
    simp -implicitDefEqProofs (disch := omega) [a_lang_reader_cond, s1, s2, s3, s4]
    done
def c0 : D := .agg [.nili, .nili, .bool false]
@[simp 10000] theorem setPart_c (x y : Nd) (b : Bool) : setPart (.d (.agg [.nili, .nili, .bool false])) 0 (.d (.agg [x.d, y.d, .bool b])) = some (.d (.agg [x.d, y.d, .bool b])) := by
  have e : ∀ x : Nd, x.d.cells = [x.d] := fun x => by cases x <;> rfl
  cases x <;> cases y <;> rfl
/-- The reader's objects, with a condition's place between them. -/
def Rd.heapC (r : Rd) (c : D) : List Obj := [.arr [.agg [.d (.sl (LT r.ts)), .d (.int .i64 r.i), .d (.sl (SL r.vs)), .d (.int .i64 r.op), .map (.b 2)]] ⟨5, 0⟩, .arr [.d c] ⟨3, 0⟩, .map []]
theorem rc1_spec {r r1 r3 : Rd} {x y : Nd} {b : Bool} (h : r.ok) (hnum : ∀ t ∈ r.ts, t.kind = 2 → NumTx t.text) (e1 : rd r.fuel .s r = .ok x r1) (k1 : Kept r r1)
    (hb : b = true ∧ r1.isT [61] = true ∨ b = false ∧ r1.isT [61] = false ∧ r1.isT [33, 61] = true) (e2 : rd r1.next.fuel .s r1.next = .ok y r3) :
    callE T0 X0 f_lang_ReadCond_1 [.ptr (.b 0) 0 0, .ptr (.b 1) 0 0] (r.heapC c0) = some (.ret [] (r3.heapC (cD x y b))) := by
  have s1 := cond_spec h hnum e1 k1 hb e2
  rw [callX_fun (af := a_lang_ReadCond_1) rfl rfl rfl]
  simp only [Rd.heap, Rd.heapC, cD, c0] at *
  simp -implicitDefEqProofs (disch := omega) [a_lang_ReadCond_1, s1]
  done
theorem readc_go (s : List UInt8) (hs : s.length ≤ 1100000) (vs : List (List UInt8)) (hv : vs.length ≤ 16) {ts : List Tok} {p : Pl} (he : scan s = (some ts, 0, p)) (hn : ts.length ≤ 5000) {r1 r3 : Rd} {x y : Nd} {b : Bool} (h : (rd0 ts vs).ok) (hnum : ∀ t ∈ ts, t.kind = 2 → NumTx t.text)
    (e1 : rd (rd0 ts vs).fuel .s (rd0 ts vs) = .ok x r1) (k1 : Kept (rd0 ts vs) r1)
    (hb : b = true ∧ r1.isT [61] = true ∨ b = false ∧ r1.isT [61] = false ∧ r1.isT [33, 61] = true) (e2 : rd r1.next.fuel .s r1.next = .ok y r3) (h3 : r3.ok) (hk : r3.tok.kind = 0) :
    callE T0 X0 f_lang_read [.d (.str s), .d (.sl (SL vs)), .fn f_lang_ReadCond_1 [.ptr (.b 0) 0 0]] [.arr [.d c0] ⟨3, 0⟩] = some (.ret [.d (.int .i64 0), .d (.agg emptyPl.cs)] [.arr [.d (cD x y b)] ⟨3, 0⟩]) := by
  rw [callE_rec (r := r_lang_read) rfl rfl rfl]
  unfold recG
  have s1 := scan_spec s (by omega)
  rw [he] at s1
  have s2 := rc1_spec h hnum e1 k1 hb e2
  have s3 := here_spec h3
  have s4 := need_true r3 80
  simp only [codeE_X]
  simp only [Pl.cs, Tok.cs, Rd.heap, Rd.heapC, rd0, cD, c0, emptyPl, Option.getD_some, Int.cast_ofNat_Int] at s1 s2 s3 s4 ⊢
  generalize r3.tok = t at *
  simp -implicitDefEqProofs (disch := omega) [r_lang_read, r_lang_read_pre, r_lang_read_body, r_lang_read_hand, s1, s2, s3, s4, hk, slotsV, recEnv, bnd_some, ARes.slot]
  done
@[simp 10000] theorem setPart_cc (x y : Nd) (b : Bool) : setPart (.d (.agg [x.d, y.d, .bool b])) 0 (.d (.agg [x.d, y.d, .bool b])) = some (.d (.agg [x.d, y.d, .bool b])) := by
  cases x <;> cases y <;> rfl
/-- A condition's text is read. -/
theorem rcond_spec {s : List UInt8} {vs : List (List UInt8)} {l1 l2 : List Tk} {x y : Nd} {b : Bool} (hl : s.length ≤ 4096) (hr : Rend s (l1 ++ (3, if b then [61] else [33, 61]) :: l2)) (hx : Su vs 16 l1 x) (hy : Su vs 16 l2 y) (hn : names vs = 0) (hb : ∀ k, (tx vs k).length ≤ 1100000) :
    callE T0 X0 f_lang_ReadCond [.d (.str s), .d (.sl (SL vs))] [] = some (.ret [.d (cD x y b), .d (.int .i64 0), .d (.agg emptyPl.cs)] []) := by
  obtain ⟨hv16, hnm⟩ := names_all hn
  obtain ⟨ts, p, hs, hk⟩ := rend_all hr hl
  obtain ⟨_, ht⟩ := scan_some hs
  have hok := ht.rd vs hv16 hb
  have hvs : ∀ w, varF vs w vs.length 0 ≥ 0 → w ≠ [45] := fun w hw e => by
    have := (var_name hn hw).c
    rw [e] at this
    exact absurd this (by decide)
  have hk0 : (rd0 ts vs).kts = l1 ++ (3, if b then [61] else [33, 61]) :: (l2 ++ [(0, [])]) := by
    have : (rd0 ts vs).kts = l1 ++ (3, if b then [61] else [33, 61]) :: l2 ++ [(0, [])] := hk
    rw [this]; simp
  obtain ⟨n', r1, h1, h2, h3, h4, h5⟩ := go_su hvs hx (rd0 ts vs) _ (rd0 ts vs).fuel hok rfl hk0 (by show (0 : Int) + 16 ≤ 16; omega) (by
    cases b <;> exact fun ⟨_, h⟩ => by simp at h) (Nat.le_refl _)
  have e1 := ls_end (x := x) h2.ok (show 1 ≤ n' by omega) (by rw [h4]; cases b <;> exact fun ⟨_, h⟩ => by simp at h)
  obtain ⟨g1, g2, g3⟩ := kts_head h2.ok h4
  obtain ⟨g4, g5⟩ := g3 (by decide)
  have kn := h2.trans (Kept.next h2.ok)
  obtain ⟨m', r3, i1, i2, i3, i4, i5⟩ := go_su hvs hy r1.next [(0, [])] r1.next.fuel kn.ok kn.vs g4 (by rw [kn.op]; show (0 : Int) + 16 ≤ 16; omega) (fun ⟨h, _⟩ => by rcases h with h | h <;> cases h) (Nat.le_refl _)
  have e2 := ls_end (x := y) i2.ok (show 1 ≤ m' by omega) (by rw [i4]; exact fun ⟨h, _⟩ => by rcases h with h | h <;> cases h)
  have hk3 := (kts_head i2.ok i4).1
  have hc : b = true ∧ r1.isT [61] = true ∨ b = false ∧ r1.isT [61] = false ∧ r1.isT [33, 61] = true := by
    rw [isT_eq g1 g2, isT_eq g1 g2]
    cases b
    · exact .inr ⟨rfl, by decide, by decide⟩
    · exact .inl ⟨rfl, by decide⟩
  have s1 := names_spec vs (by omega) hb
  rw [hn] at s1
  have s2 := readc_go s (by omega) vs hv16 hs ht.n hok ht.num (by rw [h1, e1]) h2 hc (by rw [i1, e2]) i2.ok hk3
  rw [callX_fun (af := a_lang_ReadCond) rfl rfl rfl]
  simp only [cD, c0, Pl.cs, emptyPl] at s2 ⊢
  simp -implicitDefEqProofs (disch := omega) [a_lang_ReadCond, s1, s2]
  done
end Go.Rf

/- guard.Row, Cond. -/
namespace Go.Rf

/-- A form with its last number turned: the row that says that the form is 0. -/
def rowV (f : List Int) (n : Nat) : List Int := f.set n (-(nth f n))
theorem rowV_len (f n) : (rowV f n).length = f.length := by simp [rowV]
theorem rowV_nth {f : List Int} {n i : Nat} (hn : n < f.length) : nth (rowV f n) i = if i = n then -(nth f n) else nth f i := by
  unfold rowV
  rw [nth_set hn]
@[simp 10000] theorem rt_zero (n : Int) : aggO (putCells [V.d (.bool false), V.d (.sl []), V.d (.sl [])] 0 (V.d (Rt n)).cells) (allD (putCells [V.d (.bool false), V.d (.sl []), V.d (.sl [])] 0 (V.d (Rt n)).cells)) = .d (Rt n) := rfl
theorem condrow_loop (f : List Int) (n : Nat) (hn : n < f.length) (hl : f.length ≤ 1000) (hf : ∀ i, nl (nth f i) ≤ 8388608) : ∀ d i (out : List Int), d + i = f.length → out.length = i →
    codeX T0 X0 0 a_guard_Row_l0 (some (.nrm, ⟨[(1, .d (.int .i64 n)), (8, .ref (.b 0) ⟨3, 56⟩ 0 i), (26, .d (.sl (WL f))), (27, .d (.int .i64 f.length)), (28, .d (.int .i64 i))], [.arr (RtV out) ⟨3, 56⟩]⟩)) =
      some (.exit 0, ⟨[(8, .ref (.b 0) ⟨3, 56⟩ 0 f.length)], [.arr (RtV (out ++ (rowV f n).drop i)) ⟨3, 56⟩]⟩) := by
  intro d
  have gl := rowV_len f n
  induction d with
  | zero =>
    intro i out hd ho
    rw [codeX_loop (l := a_guard_Row_l0) rfl]
    have h2 : i = f.length := by omega
    subst h2
    have h3 : (rowV f n).drop f.length = [] := List.drop_eq_nil_of_le (by omega)
    rw [h3, List.append_nil]
    simp -implicitDefEqProofs (disch := omega) [a_guard_Row_b0]
    done
  | succ d ih =>
    intro i out hd ho
    rw [codeX_loop (l := a_guard_Row_l0) rfl]
    have hi : i < f.length := by omega
    have h1 := drop_nth (xs := rowV f n) (i := i) (by omega)
    rw [rowV_nth hn] at h1
    rw [h1]
    have hfi := hf i
    have s1 := wneg_W (m := nth f i) (by omega)
    have ng : ∀ x : Int, nl (-x) = nl x := fun x => by unfold nl; rw [Int.natAbs_neg]
    have hni := ng (nth f i)
    have s2 := rfrom_spec (n := nth f i) (by omega)
    have s3 := rfrom_spec (n := -nth f i) (by omega)
    have ht : out.take i = out := by rw [← ho]; exact List.take_length
    by_cases c : i = n
    · subst c
      rw [if_pos rfl]
      have s4 := ih (i + 1) (out ++ [-nth f i]) (by omega) (by simp [ho])
      simp only [Int.natCast_add, Int.cast_ofNat_Int] at s4
      generalize -nth f i = x at *
      simp -implicitDefEqProofs (disch := omega) [a_guard_Row_b0, s1, s3, s4, ht]
      done
    · rw [if_neg c]
      have s4 := ih (i + 1) (out ++ [nth f i]) (by omega) (by simp [ho])
      simp only [Int.natCast_add, Int.cast_ofNat_Int] at s4
      have c' : ¬ (i : Int) = (n : Int) := by omega
      simp -implicitDefEqProofs (disch := omega) [a_guard_Row_b0, s2, s4, ht, c]
      done
/-- What Row tells. -/
def rowR (n : Nat) (x y : Nd) : List Int × Bool :=
  if (formV n (.two 45 x y)).2 = true then ((canV (rowV (formV n (.two 45 x y)).1 n)).1, decide ((canV (rowV (formV n (.two 45 x y)).1 n)).2 = 0)) else ([], false)
theorem condrow_spec {n : Nat} (hn : n ≤ 16) {x y : Nd} (b : Bool) (fx : x.fine n) (fy : y.fine n) (wx : x.w ≤ 4000000) (wy : y.w ≤ 4000000) :
    callE T0 X0 f_guard_Row [.d (cD x y b), .d (.int .i64 n)] [] = some (.ret [.d (.sl (WL (rowR n x y).1)), .d (.bool (rowR n x y).2)] []) := by
  have hfine : (Nd.two 45 x y).fine n := ⟨.inr (.inl rfl), fx, fy⟩
  have hw : (Nd.two 45 x y).w ≤ 8000000 := by unfold Nd.w; omega
  have s1 := form_spec n hn (.two 45 x y) hfine (by omega)
  rw [callX_fun (af := a_guard_Row) rfl rfl rfl]
  unfold rowR
  by_cases hc : (formV n (.two 45 x y)).2 = true
  · rw [hc] at s1
    rw [if_pos hc]
    rcases form_sh n (.two 45 x y) hfine with ⟨_, e⟩ | sh
    · rw [e] at hc; cases hc
    have hfl := sh.l
    have hb : ∀ i, nl (nth (formV n (.two 45 x y)).1 i) ≤ 8388608 := fun i => by
      by_cases hi : i < n + 1
      · have := sh.b i hi; omega
      · rw [nth_out (by omega)]; simp
    generalize (formV n (.two 45 x y)).1 = f at *
    have s2 := condrow_loop f n (by omega) (by omega) hb f.length 0 [] (by omega) rfl
    have ng : ∀ x : Int, nl (-x) = nl x := fun x => by unfold nl; rw [Int.natAbs_neg]
    have rl := rowV_len f n
    have s3 := canon_spec (f := rowV f n) (by omega) (by omega) (fun i => by
      rw [rowV_nth (by omega)]
      split
      · rw [ng]; exact hb n
      · exact hb i)
    simp only [Int.cast_ofNat_Int, List.drop_zero, List.nil_append, RtV_nil] at s2
    have ht : (rowV f n).take f.length = rowV f n := List.take_of_length_le (by omega)
    have lc : (canV (rowV f n)).1.length ≤ 1000 := by
      unfold canV
      split
      · rw [lowV_len]; omega
      · simp
    have hl : f.length ≤ 1000 := by omega
    have k2 : (canV (rowV f n)).2 = 0 ∨ (canV (rowV f n)).2 = 2 := by unfold canV; split <;> simp
    generalize canV (rowV f n) = cv at *
    generalize rowV f n = rv at *
    simp only [cD, Nd.d] at s1 ⊢
    rcases k2 with k2 | k2
    · simp -implicitDefEqProofs (disch := omega) [a_guard_Row, s1, s2, s3, ht, k2]
      done
    · simp -implicitDefEqProofs (disch := omega) [a_guard_Row, s1, s2, s3, ht, k2]
      done
  · have hc := Bool.eq_false_iff.2 hc
    rw [hc] at s1
    rw [hc, if_neg (by decide)]
    simp only [cD, Nd.d] at s1 ⊢
    rw [show WL [] = [] from rfl]
    generalize (formV n (.two 45 x y)).1 = f at *
    simp -implicitDefEqProofs (disch := omega) [a_guard_Row, s1]
    done
@[simp] theorem fitC_nd (x : Nd) : fitC x.d = true := by cases x <;> rfl
theorem gcond_spec {s : List UInt8} {vs : List (List UInt8)} {l1 l2 : List Tk} {x y : Nd} {b : Bool} (hl : s.length ≤ 4096) (hr : Rend s (l1 ++ (3, if b then [61] else [33, 61]) :: l2)) (hx : Su vs 16 l1 x) (hy : Su vs 16 l2 y) (hn : names vs = 0) (hb : ∀ k, (tx vs k).length ≤ 1100000)
    (fx : x.fine vs.length) (fy : y.fine vs.length) (wx : x.w ≤ 4000000) (wy : y.w ≤ 4000000) :
    callE T0 X0 f_guard_Cond [.d (.str s), .d (.sl (SL vs))] [] = some (.ret [.d (.sl (WL (rowR vs.length x y).1)), .d (.bool (rowR vs.length x y).2), .d (.bool b), .d (.int .i64 0), .d (.agg emptyPl.cs)] []) := by
  have s1 := rcond_spec hl hr hx hy hn hb
  have hv16 := (names_all hn).1
  have s2 := condrow_spec hv16 b fx fy wx wy
  rw [callX_fun (af := a_guard_Cond) rfl rfl rfl]
  have hlr : (rowR vs.length x y).1.length ≤ 1000 := by
    have hfine : (Nd.two 45 x y).fine vs.length := ⟨.inr (.inl rfl), fx, fy⟩
    unfold rowR
    split
    · rename_i hc
      rcases form_sh vs.length (.two 45 x y) hfine with ⟨_, e⟩ | sh
      · rw [e] at hc; cases hc
      have hfl := sh.l
      unfold canV
      split
      · rw [lowV_len, rowV_len]; omega
      · simp
    · simp
  generalize rowR vs.length x y = rr at *
  simp only [cD, Pl.cs, emptyPl] at s1 s2 ⊢
  simp -implicitDefEqProofs (disch := omega) [a_guard_Cond, s1, s2]
  done
end Go.Rf

/- GuardEquals: the plain law. -/
namespace Go.Rf

theorem gc_dvd (f : List Int) : ∀ n i, i < n → ((gcN f n : Nat) : Int) ∣ nth f i
  | 0, i, h => by omega
  | n + 1, i, h => by
    unfold gcN
    by_cases c : i = n
    · subst c
      exact Int.ofNat_dvd_left.2 (Nat.gcd_dvd_right _ _)
    · exact Int.dvd_trans (Int.natCast_dvd_natCast.2 (Nat.gcd_dvd_left _ _)) (gc_dvd f n i (by omega))
theorem lowV_nth {f : List Int} {i : Nat} (hi : i < f.length) : nth (lowV f) i = lowE (fsN f f.length) (gcN f f.length : Nat) (nth f i) := by simp [lowV, nth, hi]
/-- A row, and what lowest makes of it, are multiples of one another. -/
theorem low_mul (f : List Int) : ∃ c d : Int, c ≠ 0 ∧ d ≠ 0 ∧ ∀ i, i < f.length → d * nth (lowV f) i = c * nth f i := by
  by_cases h0 : fsN f f.length = 0
  · refine ⟨1, 1, by decide, by decide, fun i hi => ?_⟩
    rw [lowV_nth hi]
    unfold lowE
    rw [if_neg (by omega), if_pos h0]
  · have hg : gcN f f.length ≠ 0 := fun e => h0 (gc0_fs0 _ e)
    have dv : ∀ i, i < f.length → ((gcN f f.length : Nat) : Int) * (nth f i / (gcN f f.length : Nat)) = nth f i := fun i hi => Int.mul_ediv_cancel' (gc_dvd f f.length i hi)
    by_cases h1 : fsN f f.length < 0
    · refine ⟨-1, (gcN f f.length : Nat), by decide, by omega, fun i hi => ?_⟩
      rw [lowV_nth hi]
      unfold lowE
      rw [if_pos h1, Int.mul_neg, dv i hi]
      omega
    · refine ⟨1, (gcN f f.length : Nat), by decide, by omega, fun i hi => ?_⟩
      rw [lowV_nth hi]
      unfold lowE
      rw [if_neg h1, if_neg h0, dv i hi]
      omega
theorem sum_mul {f g : List Int} {st : Nat → Int} {c d : Int} : ∀ n, (∀ i, i < n → d * nth f i = c * nth g i) → d * sumN f st n = c * sumN g st n
  | 0, _ => by simp [sumN]
  | n + 1, h => by
    unfold sumN
    rw [Int.mul_add, Int.mul_add, sum_mul n (fun i hi => h i (by omega)), ← Int.mul_assoc, ← Int.mul_assoc, h n (by omega)]
theorem sum_eq {f g : List Int} {st : Nat → Int} : ∀ n, (∀ i, i < n → nth f i = nth g i) → sumN f st n = sumN g st n
  | 0, _ => rfl
  | n + 1, h => by
    unfold sumN
    rw [sum_eq n (fun i hi => h i (by omega)), h n (by omega)]
/-- The row is met just where the form is 0. -/
theorem left_zero {f : List Int} {n : Nat} (hf : f.length = n + 1) (st : Nat → Int) : (sumN (lowV (rowV f n)) st n - nth (lowV (rowV f n)) n = 0) ↔ fval f st n = 0 := by
  have rl := rowV_len f n
  obtain ⟨c, d, hc, hd, h⟩ := low_mul (rowV f n)
  have h1 := sum_mul (st := st) n (fun i hi => h i (by omega))
  have h2 := h n (by omega)
  have h3 : sumN (rowV f n) st n = sumN f st n := sum_eq n (fun i hi => by rw [rowV_nth (by omega), if_neg (by omega)])
  have h4 : nth (rowV f n) n = -nth f n := by rw [rowV_nth (by omega), if_pos rfl]
  rw [h3] at h1
  rw [h4] at h2
  unfold fval
  generalize sumN (lowV (rowV f n)) st n = a at *
  generalize nth (lowV (rowV f n)) n = b at *
  generalize sumN f st n = p at *
  generalize nth f n = q at *
  have e : d * (a - b) = c * (p + q) := by rw [Int.mul_sub, h1, h2, Int.mul_add, Int.mul_neg]; omega
  constructor
  · intro z
    rw [z, Int.mul_zero] at e
    rcases Int.mul_eq_zero.1 e.symm with k | k
    · exact absurd k hc
    · exact k
  · intro z
    rw [z, Int.mul_zero] at e
    rcases Int.mul_eq_zero.1 e with k | k
    · exact absurd k hd
    · exact k
/-- What lowest makes is canonical. -/
theorem low_can (f : List Int) : fsN (lowV f) (lowV f).length = 0 ∨ 0 < fsN (lowV f) (lowV f).length ∧ gcN (lowV f) (lowV f).length = 1 := by
  rw [lowV_len]
  by_cases h0 : fsN f f.length = 0
  · left
    have e : lowV f = f := by
      unfold lowV
      rw [h0]
      have : lowE 0 (gcN f f.length : Nat) = id := by funext x; unfold lowE; simp
      rw [this, List.map_id]
    rw [e, h0]
  · right
    have hg : gcN f f.length ≠ 0 := fun e => h0 (gc0_fs0 _ e)
    have dv := gc_dvd f f.length
    have hn := fun i (hi : i < f.length) => lowV_nth hi
    generalize lowV f = l at *
    generalize hG : gcN f f.length = G at *
    generalize hS : fsN f f.length = S at *
    have gs : ((G : Nat) : Int).sign = 1 := Int.sign_eq_one_of_pos (by omega)
    have sg : ∀ i, i < f.length → (nth l i).sign = if S < 0 then -(nth f i).sign else (nth f i).sign := by
      intro i hi
      have hs : (nth f i / (G : Int)).sign = (nth f i).sign := by
        obtain ⟨k, hk⟩ := dv i hi
        rw [hk, Int.mul_ediv_cancel_left _ (by omega), Int.sign_mul, gs, Int.one_mul]
      rw [hn i hi]
      unfold lowE
      by_cases c : S < 0
      · rw [if_pos c, if_pos c, Int.sign_neg, hs]
      · rw [if_neg c, if_neg c, if_neg h0, hs]
    have ab : ∀ i, i < f.length → (nth l i).natAbs * G = (nth f i).natAbs := by
      intro i hi
      have hs : (nth f i / (G : Int)).natAbs * G = (nth f i).natAbs := by
        obtain ⟨k, hk⟩ := dv i hi
        rw [hk, Int.mul_ediv_cancel_left _ (by omega), Int.natAbs_mul, Int.natAbs_natCast, Nat.mul_comm]
      rw [hn i hi]
      unfold lowE
      by_cases c : S < 0
      · rw [if_pos c, Int.natAbs_neg, hs]
      · rw [if_neg c, if_neg h0, hs]
    have f1 : ∀ k, k ≤ f.length → fsN l k = if S < 0 then -fsN f k else fsN f k := by
      intro k
      induction k with
      | zero => intro _; unfold fsN; simp
      | succ k ih =>
        intro hk
        have h1 := ih (by omega)
        rw [show fsN l (k + 1) = if fsN l k = 0 then (nth l k).sign else fsN l k from rfl, show fsN f (k + 1) = if fsN f k = 0 then (nth f k).sign else fsN f k from rfl, h1, sg k (by omega)]
        by_cases c : S < 0
        · simp only [c, if_true]
          by_cases z : fsN f k = 0
          · rw [if_pos (by omega), if_pos z]
          · rw [if_neg (by omega), if_neg z]
        · simp only [c, if_false]
    have g1 : ∀ k, k ≤ f.length → gcN l k * G = gcN f k := by
      intro k
      induction k with
      | zero => intro _; unfold gcN; simp
      | succ k ih =>
        intro hk
        rw [show gcN l (k + 1) = Nat.gcd (gcN l k) (nth l k).natAbs from rfl, show gcN f (k + 1) = Nat.gcd (gcN f k) (nth f k).natAbs from rfl, ← Nat.gcd_mul_right, ih (by omega), ab k (by omega)]
    have a1 := f1 f.length (Nat.le_refl _)
    have a2 := g1 f.length (Nat.le_refl _)
    rw [hS] at a1
    rw [hG] at a2
    refine ⟨?_, ?_⟩
    · rw [a1]
      split <;> omega
    · exact Nat.eq_of_mul_eq_mul_right (Nat.pos_of_ne_zero hg) (by rw [a2, Nat.one_mul])
end Go.Rf

/- GuardEquals. -/
namespace Go.Rf

theorem left_spec {ws : List RWh} (st : StOk ws) {f : List Int} (hf : ∀ i, nl (nth f i) ≤ 4194304) (hl : f.length = ws.length + 1) (hw : ws.length ≤ 16) :
    callE T0 X0 f_affine_Left [.d (.sl (WL f)), .d (.sl (RL ws))] [] = some (.ret [.d (Wd (sumN f (stV ws) ws.length - nth f ws.length)), .d (.int .i64 0)] []) := by
  have s1 := sum_spec st hf (by omega) hw (by omega)
  have a := sum_nl hf (st_nl st) ws.length
  have hfn := hf ws.length
  have s2 := wsub_W (m := sumN f (stV ws) ws.length) (n := nth f ws.length) (by omega) (by omega)
  rw [callX_fun (af := a_affine_Left) rfl rfl rfl]
  generalize sumN f (stV ws) ws.length = s at *
  generalize s - nth f ws.length = d at *
  simp -implicitDefEqProofs (disch := omega) [a_affine_Left, s1, s2, hl]
  done
theorem valueV_nl (s : List UInt8) (vs : List (List UInt8)) (ws : List RWh) : nl (valueV s vs ws).1 ≤ 512 := by
  unfold valueV
  split
  · simp
  · split
    · simp
    · exact wide_nl _
theorem value_of {s : List UInt8} {vs : List (List UInt8)} {ws : List RWh} {x : Nd} (hx : exprV s vs = (some x, 0, emptyPl)) (fx : x.fine vs.length) (ho : (formV vs.length x).2 = true) (hl : ws.length = vs.length) :
    valueV s vs ws = (fval (formV vs.length x).1 (stV ws) ws.length, 0) ∨ (valueV s vs ws).2 = 2 := by
  have := join_form (stV ws) vs.length x fx ho
  unfold valueV
  rw [hx]
  simp only []
  rw [if_neg (by omega)]
  unfold wide
  rcases this with ⟨h1, h2⟩ | h
  · rw [if_pos h1]
    split
    · exact .inr rfl
    · exact .inl (by rw [hl, ← h1, ← h2])
  · rw [if_neg (by omega)]
    exact .inr h
/-- Where there is a row. -/
structure RowOk (n : Nat) (x y : Nd) (row : List Int) : Prop where
  l : row.length = n + 1
  b : ∀ i, nl (nth row i) ≤ 32
  c : fsN row row.length = 0 ∨ 0 < fsN row row.length ∧ gcN row row.length = 1
  fx : (formV n x).2 = true
  fy : (formV n y).2 = true
  z : ∀ st : Nat → Int, (sumN row st n - nth row n = 0) ↔ fval (formV n x).1 st n = fval (formV n y).1 st n
theorem row_ok {n : Nat} {x y : Nd} (fx : x.fine n) (fy : y.fine n) (h : (rowR n x y).2 = true) : RowOk n x y (rowR n x y).1 := by
  have hfine : (Nd.two 45 x y).fine n := ⟨.inr (.inl rfl), fx, fy⟩
  unfold rowR at h ⊢
  split at h
  · rename_i hc
    rw [if_pos hc]
    rcases form_sh n (.two 45 x y) hfine with ⟨_, e⟩ | sh
    · rw [e] at hc; cases hc
    have hfl := sh.l
    have hxy : (formV n x).2 = true ∧ (formV n y).2 = true := by
      unfold formV at hc
      split at hc
      · assumption
      · cases hc
    have hv : ∀ st : Nat → Int, fval (formV n (.two 45 x y)).1 st n = fval (formV n x).1 st n - fval (formV n y).1 st n := by
      intro st
      have e : formV n (.two 45 x y) = bothV 45 (formV n x).1 (formV n y).1 := by rw [formV, if_pos hxy]
      have hb : (bothV 45 (formV n x).1 (formV n y).1).2 = true := by rw [← e]; exact hc
      have lx : (formV n x).1.length = n + 1 := by
        rcases form_sh n x fx with ⟨_, e⟩ | s
        · rw [e] at hxy; cases hxy.1
        · exact s.l
      have ly : (formV n y).1.length = n + 1 := by
        rcases form_sh n y fy with ⟨_, e⟩ | s
        · rw [e] at hxy; cases hxy.2
        · exact s.l
      have := both_val (st := st) (.inr (.inl rfl)) lx ly hb
      rw [e]
      have o : opV 45 (fval (formV n x).1 st n) (fval (formV n y).1 st n) = (fval (formV n x).1 st n - fval (formV n y).1 st n, 0) := rfl
      rw [o] at this
      exact (congrArg Prod.fst this).symm
    generalize (formV n (.two 45 x y)).1 = f at *
    have hs : short32 (lowV (rowV f n)) = true := by
      have h := of_decide_eq_true h
      unfold canV at h
      split at h
      · assumption
      · cases h
    have e : (canV (rowV f n)).1 = lowV (rowV f n) := by unfold canV; rw [if_pos hs]
    rw [e]
    refine ⟨by rw [lowV_len, rowV_len]; exact hfl, fun i => ?_, low_can _, hxy.1, hxy.2, fun st => ?_⟩
    · by_cases hi : i < (lowV (rowV f n)).length
      · have := List.all_eq_true.1 hs (nth (lowV (rowV f n)) i) (by
          have : nth (lowV (rowV f n)) i = (lowV (rowV f n))[i] := by simp [nth, hi]
          rw [this]; exact List.getElem_mem hi)
        exact of_decide_eq_true this
      · rw [nth_out (by omega)]; simp
    · rw [left_zero hfl st, hv st]
      omega
  · cases h
end Go.Rf
