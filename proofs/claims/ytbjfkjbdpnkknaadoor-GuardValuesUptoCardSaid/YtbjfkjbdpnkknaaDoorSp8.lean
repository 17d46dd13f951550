/- Parts of the proof: SpD5, SpD6, SpA1, SpA2, SpA3, SpA4. -/
import Derived.Test.YtbjfkjbdpnkknaaDoorSp7

/- limbs: long division as told; DivMod. -/
namespace Go.Rf

theorem long_spec {as bs : List Int} (ha : Good as) (hb : Good bs) (hs : as.length + bs.length < 1099511627776) (h2 : 2 ≤ bs.length) (hab : bs.length ≤ as.length) (ht : nth bs (bs.length - 1) ≠ 0) :
    callE T0 X0 f_limbs_long [.d (.sl (L as)), .d (.sl (L bs))] [] = some (.ret [.d (.sl (L (limbs (nv as / nv bs)))), .d (.sl (L (limbs (nv as % nv bs))))] []) := by
  have tb := hb.nth (bs.length - 1)
  have s1 := lead_spec tb
  have b1 := blen_le (n := nth bs (bs.length - 1)) (k := 32) (by omega)
  have b3 := blen_spec (n := nth bs (bs.length - 1)) (by omega)
  have b2 : 1 ≤ blen (nth bs (bs.length - 1)) := by
    have := blen_nonneg (nth bs (bs.length - 1))
    by_cases h : blen (nth bs (bs.length - 1)) = 0
    · rw [h] at b3
      have : (2 : Int) ^ (0 : Int).toNat = 1 := rfl
      omega
    · omega
  obtain ⟨s, hs32⟩ : ∃ s : Nat, 32 - blen (nth bs (bs.length - 1)) = s := ⟨(32 - blen (nth bs (bs.length - 1))).toNat, by omega⟩
  rw [hs32] at s1
  have hlt : s < 32 := by omega
  have p0 := p2_pos s
  have p1 := p2_le hlt
  have ab := nv_bounds ha
  have hbtop : nv bs = nv (bs.take (bs.length - 1)) + pw (bs.length - 1) * nth bs (bs.length - 1) := by
    conv => lhs; rw [nv_take_drop (xs := bs) (j := bs.length - 1) (by omega), drop_nth (by omega), show bs.length - 1 + 1 = bs.length by omega, List.drop_length]
    simp only [nv]
    rw [Int.mul_zero, Int.add_zero]
  have lb := nv_bounds (hb.take (bs.length - 1))
  rw [List.length_take, Nat.min_eq_left (by omega)] at lb
  have pb := pw_pos (bs.length - 1)
  have hpl : pw bs.length = 4294967296 * pw (bs.length - 1) := by
    have := pw_succ (bs.length - 1)
    rwa [show bs.length - 1 + 1 = bs.length by omega] at this
  have hPP : (2 : Int) ^ (blen (nth bs (bs.length - 1))).toNat * 2 ^ s = 4294967296 := by
    rw [← Int.pow_add, show (blen (nth bs (bs.length - 1))).toNat + s = 32 by omega]; rfl
  have hub : nv bs * 2 ^ s < pw bs.length := by
    have e1 : pw (bs.length - 1) * (nth bs (bs.length - 1) + 1) ≤ pw (bs.length - 1) * 2 ^ (blen (nth bs (bs.length - 1))).toNat := Int.mul_le_mul_of_nonneg_left (by omega) (by omega)
    rw [Int.mul_add, Int.mul_one] at e1
    have e2 : nv bs < pw (bs.length - 1) * 2 ^ (blen (nth bs (bs.length - 1))).toNat := by omega
    have e3 := Int.mul_lt_mul_of_pos_right e2 p0
    rw [Int.mul_assoc, hPP] at e3
    omega
  have hbl : pw (bs.length - 1) ≤ nv bs := by
    have : pw (bs.length - 1) * 1 ≤ pw (bs.length - 1) * nth bs (bs.length - 1) := Int.mul_le_mul_of_nonneg_left (by omega) (by omega)
    omega
  have hua : nv as * 2 ^ s < pw (as.length + 1) := by
    have e := Int.mul_lt_mul_of_pos_right ab.2 p0
    have e2 : pw as.length * 2 ^ s ≤ pw as.length * 2147483648 := Int.mul_le_mul_of_nonneg_left p1 (Int.le_of_lt (pw_pos _))
    have e3 := pw_pos as.length
    rw [pw_succ]
    omega
  obtain ⟨us, m1, lu, gu, vu⟩ := moved_spec (as := as) (s := s) (n := as.length + 1) hlt (by omega) ha (by omega) hua
  obtain ⟨vs, m2, lv, gv, vv⟩ := moved_spec (as := bs) (s := s) (n := bs.length) hlt (by omega) hb (Nat.le_refl _) hub
  have vlow : nv bs ≤ nv vs := by
    rw [vv]
    have : nv bs * 1 ≤ nv bs * 2 ^ s := Int.mul_le_mul_of_nonneg_left (by omega) (by omega)
    omega
  have f1 : 1 ≤ nth vs (vs.length - 1) := by
    have b := gv.nth (vs.length - 1)
    by_cases h : nth vs (vs.length - 1) = 0
    · exfalso
      have := nv_lt_pw gv (k := vs.length - 1) (fun i hi => by
        by_cases e : i = vs.length - 1
        · rw [e]; exact h
        · exact nth_out (by omega))
      rw [lv] at this
      omega
    · omega
  obtain ⟨us2, qs, l1, lu2, lq, gu2, gq, hlt2, hval⟩ := long_loop vs s (as.length + 1 - bs.length) gv (by omega) f1 (by omega) (as.length + 1 - bs.length) us (List.replicate (as.length + 1 - bs.length) 0) (Nat.le_refl _) (by omega) (by simp) gu (good_rep _) (by
      rw [vu]
      have e1 := Int.mul_lt_mul_of_pos_right ab.2 p0
      have e2 : pw (as.length + 1 - bs.length) * (pw (bs.length - 1) * 2 ^ s) ≤ pw (as.length + 1 - bs.length) * nv vs := Int.mul_le_mul_of_nonneg_left (by rw [vv]; exact Int.mul_le_mul_of_nonneg_right hbl (by omega)) (Int.le_of_lt (pw_pos _))
      rw [← Int.mul_assoc, ← pw_add, show as.length + 1 - bs.length + (bs.length - 1) = as.length by omega] at e2
      omega) (fun i _ => by simp [nth, List.getD_eq_getElem?_getD, List.getElem?_replicate]; split <;> rfl)
  have z0 : nv (List.replicate (as.length + 1 - bs.length) 0) = 0 := nv_zero (fun i => by simp [nth, List.getD_eq_getElem?_getD, List.getElem?_replicate]; split <;> rfl)
  rw [z0, Int.zero_mul, Int.add_zero] at hval
  have b0 : 0 ≤ nv us2 := (nv_bounds gu2).1
  have hVp : 0 < nv vs := by omega
  have q1 : nv as * 2 ^ s / nv vs = nv qs := by
    rw [← vu, hval, Int.add_mul_ediv_right _ _ (by omega), Int.ediv_eq_zero_of_lt b0 hlt2, Int.zero_add]
  have r1 : nv as * 2 ^ s % nv vs = nv us2 := by
    rw [← vu, hval, Int.add_mul_emod_self_right, Int.emod_eq_of_lt b0 hlt2]
  have q2 : nv as / nv bs = nv qs := by rw [← q1, vv, Int.mul_ediv_mul_of_pos_left _ _ p0]
  have r2 : nv us2 / 2 ^ s = nv as % nv bs := by
    rw [← r1, vv, Int.mul_comm _ (2 ^ s), Int.mul_comm (nv bs), Int.mul_emod_mul_of_pos _ _ p0, Int.mul_ediv_cancel_left _ (by omega)]
  have hlow : nv (us2.take vs.length) = nv us2 := by
    have hz := nth_zero_of gu2 (k := vs.length) (Int.lt_trans hlt2 (nv_bounds gv).2)
    have e := nv_take_drop (xs := us2) (j := vs.length) (by omega)
    rw [nv_zero (l := us2.drop vs.length) (fun i => by rw [nth_drop]; exact hz _ (by omega)), Int.mul_zero, Int.add_zero] at e
    exact e.symm
  have s3 := right_spec (xs := us2.take vs.length) (s := s) hlt (by simp; omega) (gu2.take _)
  rw [hlow, r2] at s3
  have s4 := short_spec gq (by omega)
  rw [q2]
  rw [callX_fun (af := a_limbs_long) rfl rfl rfl]
  rw [lu, lv] at l1
  rw [lv] at s3
  have hm : as.length + 1 - bs.length + bs.length = as.length + 1 := by omega
  have hqt : qs.take (as.length + 1 - bs.length) = qs := List.take_of_length_le (by omega)
  have hc : ((as.length : Int) + 1 - (bs.length : Int)) = ((as.length + 1 - bs.length : Nat) : Int) := by omega
  have htn : ((as.length : Int) + 1 - (bs.length : Int)).toNat = as.length + 1 - bs.length := by omega
  simp only [Int.natCast_add, Int.cast_ofNat_Int] at m1
  have f1b := gv.nth (vs.length - 1)
  have f2b := gv.nth (vs.length - 2)
  rw [lv] at f1b f2b
  generalize hM : as.length + 1 - bs.length = M at *
  simp -implicitDefEqProofs (disch := omega) [a_limbs_long, s1, m1, m2, hc, l1, s3, s4, hqt]
  done
end Go.Rf

/- limbs.DivMod; whole.DivMod. -/
namespace Go.Rf

theorem divmod_spec {xs ys : List Int} (hx : Good xs) (hy : Good ys) (hs : xs.length + ys.length < 1073741824) :
    callE T0 X0 f_limbs_DivMod [.d (.sl (L xs)), .d (.sl (L ys))] [] = some (.ret (if nv ys = 0 then [.d (.sl []), .d (.sl []), .d (.bool false)] else [.d (.sl (L (limbs (nv xs / nv ys)))), .d (.sl (L (limbs (nv xs % nv ys)))), .d (.bool true)]) []) := by
  rw [callX_fun (af := a_limbs_DivMod) rfl rfl rfl]
  have s1 := short_spec hx (by omega)
  have s2 := short_spec hy (by omega)
  have h1 := limbs_nv (nv_bounds hx).1
  have h2 := limbs_nv (nv_bounds hy).1
  have l1 : (limbs (nv xs)).length ≤ xs.length := limbs_len (nv_bounds hx).1 (nv_bounds hx).2
  have l2 : (limbs (nv ys)).length ≤ ys.length := limbs_len (nv_bounds hy).1 (nv_bounds hy).2
  have g1 := limbs_good (nv xs)
  have g2 := limbs_good (nv ys)
  have c1 := limbs_can (nv xs)
  have c2 := limbs_can (nv ys)
  generalize limbs (nv xs) = as at *
  generalize limbs (nv ys) = bs at *
  rw [← h1, ← h2]
  have n1 := nv_bounds g1
  have n2 := nv_bounds g2
  by_cases h0 : nv bs = 0
  · have e : bs = [] := by
      rcases c2 with h | h
      · exact h
      · have := pw_pos (bs.length - 1)
        omega
    subst e
    rw [if_pos (show nv [] = 0 from rfl)]
    simp -implicitDefEqProofs (disch := omega) [a_limbs_DivMod, s1, s2]
    done
  · rw [if_neg h0]
    have hbl : bs.length ≠ 0 := fun h => h0 (by rw [List.length_eq_zero_iff.1 h]; rfl)
    have s3 := cmp_spec g1 g2 (by omega) (by omega)
    by_cases hlt : nv as < nv bs
    · have e1 : nv as / nv bs = 0 := Int.ediv_eq_zero_of_lt n1.1 hlt
      have e2 : nv as % nv bs = nv as := Int.emod_eq_of_lt n1.1 hlt
      have s4 := trim_spec g1 (by omega)
      rw [e1, e2]
      unfold cmp at s3
      rw [if_pos hlt] at s3
      simp -implicitDefEqProofs (disch := omega) [-List.length_eq_zero_iff, a_limbs_DivMod, s1, s2, s3, s4]
      done
    · have h3 : ¬ cmp (nv as) (nv bs) < 0 := by
        unfold cmp
        rw [if_neg hlt]
        split <;> omega
      by_cases hl1 : bs.length = 1
      · obtain ⟨y, rfl⟩ := List.length_eq_one_iff.1 hl1
        have hy0 : nv [y] = y := by simp [nv]
        have gy := (good_cons.1 g2).1
        rw [hy0] at h0 h3 s3 ⊢
        have s4 := byLimb_spec (b := y) g1 (by omega) (by omega)
        have m0 := Int.emod_nonneg (nv as) h0
        have m1 := Int.emod_lt_of_pos (nv as) (show 0 < y by omega)
        have s5 := small_spec (n := nv as % y) (by omega)
        simp only [L_cons, L_nil] at s2 s3
        have hw : wl [D.int .u32 y] ≤ lots := by
          have := wl_L [y]
          simp only [L_cons, L_nil] at this
          unfold lots; omega
        simp -implicitDefEqProofs (disch := omega) [a_limbs_DivMod, s1, s2, s3, s4, s5, h3, hw]
        done
      · have hbl2 : bs.length ≤ as.length := by
          by_cases h : bs.length ≤ as.length
          · exact h
          · have := len_lt_nv g1 c2 (show as.length < bs.length by omega)
            omega
        have htop : nth bs (bs.length - 1) ≠ 0 := fun h => by
          rcases c2 with c | c
          · exact hbl (by rw [c]; rfl)
          · have := nv_lt_pw g2 (k := bs.length - 1) (fun i hi => by
              by_cases e : i = bs.length - 1
              · rw [e]; exact h
              · exact nth_out (by omega))
            omega
        have s4 := long_spec g1 g2 (by omega) (by omega) hbl2 htop
        simp -implicitDefEqProofs (disch := omega) [-List.length_eq_zero_iff, a_limbs_DivMod, s1, s2, s3, s4, h3]
        done

theorem ediv_of {m n q r : Int} (hn : n ≠ 0) (h : m = q * n + r) (h0 : 0 ≤ r) (h1 : r < n.natAbs) : m / n = q ∧ m % n = r := by
  have e : m % n = r := by
    rw [h, Int.add_comm, Int.add_mul_emod_self_right]
    rcases Int.lt_or_gt_of_ne hn with hn | hn
    · rw [← Int.emod_neg]
      exact Int.emod_eq_of_lt h0 (by omega)
    · exact Int.emod_eq_of_lt h0 (by omega)
  refine ⟨?_, e⟩
  have d := Int.mul_ediv_add_emod m n
  rw [e] at d
  have : n * (m / n) = n * q := by rw [Int.mul_comm n q]; omega
  exact Int.eq_of_mul_eq_mul_left hn this

/-- The parts of a division, before the rest is made positive. -/
def q0 (m n : Int) : Int := sg (decide (m < 0) != decide (n < 0)) ((m.natAbs : Int) / n.natAbs)
def r0 (m n : Int) : Int := sg (decide (m < 0)) ((m.natAbs : Int) % n.natAbs)
theorem qr0 (m n : Int) (hn : n ≠ 0) : m = q0 m n * n + r0 m n ∧ (r0 m n).natAbs < n.natAbs ∧ (q0 m n).natAbs ≤ m.natAbs := by
  have d := Int.mul_ediv_add_emod (m.natAbs : Int) n.natAbs
  have m0 := Int.emod_nonneg (m.natAbs : Int) (show (n.natAbs : Int) ≠ 0 by omega)
  have m1 := Int.emod_lt_of_pos (m.natAbs : Int) (show 0 < (n.natAbs : Int) by omega)
  have q1 : (m.natAbs : Int) / n.natAbs ≤ m.natAbs := Int.ediv_le_self _ (by omega)
  have q2 : 0 ≤ (m.natAbs : Int) / n.natAbs := Int.ediv_nonneg (by omega) (by omega)
  unfold q0 r0 sg
  generalize (m.natAbs : Int) / n.natAbs = q at *
  generalize (m.natAbs : Int) % n.natAbs = r at *
  have e : (n.natAbs : Int) = if n < 0 then -n else n := by split <;> omega
  rw [e] at d
  by_cases hm : m < 0 <;> by_cases hn2 : n < 0 <;> simp only [hm, hn2, decide_true, decide_false, if_true, if_false, bne_self_eq_false, Bool.false_eq_true, Bool.true_bne, Bool.false_bne, Bool.not_false] at d ⊢ <;> refine ⟨?_, by omega, by omega⟩
  · rw [Int.neg_mul, Int.mul_comm] at d; omega
  · rw [Int.mul_comm] at d; rw [Int.neg_mul]; omega
  · rw [Int.neg_mul, Int.mul_comm] at d; rw [Int.neg_mul]; omega
  · rw [Int.mul_comm] at d; omega
section walk
variable {p pn : Bool} {as bs : List Int} {qa ra Q R : Int} (h1 : as.length < 268435456) (h2 : bs.length < 268435456) (h3 : (limbs qa).length < 536870912) (h4 : (limbs ra).length < 536870912) (h5 : (limbs Q.natAbs).length < 536870912) (h6 : (limbs R.natAbs).length < 536870912)
  (s1 : callE T0 X0 f_limbs_DivMod [.d (.sl (L as)), .d (.sl (L bs))] [] = some (.ret [.d (.sl (L (limbs qa))), .d (.sl (L (limbs ra))), .d (.bool true)] []))
  (s2 : callE T0 X0 f_whole_made [.d (.bool (!(p == pn))), .d (.sl (L (limbs qa)))] [] = some (.ret [.d (.agg [.bool (decide (Q < 0)), .sl (L (limbs Q.natAbs))])] []))
  (s3 : callE T0 X0 f_whole_made [.d (.bool p), .d (.sl (L (limbs ra)))] [] = some (.ret [.d (.agg [.bool (decide (R < 0)), .sl (L (limbs R.natAbs))])] []))
include h1 h2 h3 h4 h5 h6 s1 s2 s3
theorem dm_pos (hr : ¬ R < 0) : callE T0 X0 f_whole_DivMod [.d (.agg [.bool p, .sl (L as)]), .d (.agg [.bool pn, .sl (L bs)])] [] = some (.ret [.d (.agg [.bool (decide (Q < 0)), .sl (L (limbs Q.natAbs))]), .d (.agg [.bool (decide (R < 0)), .sl (L (limbs R.natAbs))]), .d (.bool true)] []) := by
  have _ := h5
  have _ := h6
  rw [callX_fun (af := a_whole_DivMod) rfl rfl rfl]
  simp -implicitDefEqProofs (disch := omega) [a_whole_DivMod, s1, s2, s3]
  done
variable {one l6 l9 : List Int} {b6 b9 : Bool} {sn : Int} (h7 : one.length < 536870912)
  (s4 : callE T0 X0 f_whole_Of [.d (.int .i64 1)] [] = some (.ret [.d (.agg [.bool false, .sl (L one)])] []))
  (s5 : callE T0 X0 f_whole_Sign [.d (.agg [.bool pn, .sl (L bs)])] [] = some (.ret [.d (.int .i64 sn)] []))
include h7 s4 s5
theorem dm_up (hr : R < 0) (hn : sn < 0)
  (s6 : callE T0 X0 f_whole_Add [.d (.agg [.bool (decide (Q < 0)), .sl (L (limbs Q.natAbs))]), .d (.agg [.bool false, .sl (L one)])] [] = some (.ret [.d (.agg [.bool b6, .sl (L l6)])] []))
  (s9 : callE T0 X0 f_whole_Sub [.d (.agg [.bool true, .sl (L (limbs R.natAbs))]), .d (.agg [.bool pn, .sl (L bs)])] [] = some (.ret [.d (.agg [.bool b9, .sl (L l9)])] [])) :
  callE T0 X0 f_whole_DivMod [.d (.agg [.bool p, .sl (L as)]), .d (.agg [.bool pn, .sl (L bs)])] [] = some (.ret [.d (.agg [.bool b6, .sl (L l6)]), .d (.agg [.bool b9, .sl (L l9)]), .d (.bool true)] []) := by
  rw [callX_fun (af := a_whole_DivMod) rfl rfl rfl]
  simp -implicitDefEqProofs (disch := omega) [a_whole_DivMod, s1, s2, s3, s4, s5, s6, s9]
  done
theorem dm_dn (hr : R < 0) (hn : ¬ sn < 0)
  (s6 : callE T0 X0 f_whole_Sub [.d (.agg [.bool (decide (Q < 0)), .sl (L (limbs Q.natAbs))]), .d (.agg [.bool false, .sl (L one)])] [] = some (.ret [.d (.agg [.bool b6, .sl (L l6)])] []))
  (s9 : callE T0 X0 f_whole_Add [.d (.agg [.bool true, .sl (L (limbs R.natAbs))]), .d (.agg [.bool pn, .sl (L bs)])] [] = some (.ret [.d (.agg [.bool b9, .sl (L l9)])] [])) :
  callE T0 X0 f_whole_DivMod [.d (.agg [.bool p, .sl (L as)]), .d (.agg [.bool pn, .sl (L bs)])] [] = some (.ret [.d (.agg [.bool b6, .sl (L l6)]), .d (.agg [.bool b9, .sl (L l9)]), .d (.bool true)] []) := by
  rw [callX_fun (af := a_whole_DivMod) rfl rfl rfl]
  simp -implicitDefEqProofs (disch := omega) [a_whole_DivMod, s1, s2, s3, s4, s5, s6, s9]
  done
end walk

theorem wdivmod_W {m n : Int} (hm : nl m < 268435456) (hn : nl n < 268435456) :
    callE T0 X0 f_whole_DivMod [.d (Wd m), .d (Wd n)] [] = some (.ret (if n = 0 then [.d (Wd 0), .d (Wd 0), .d (.bool false)] else [.d (Wd (m / n)), .d (Wd (m % n)), .d (.bool true)]) []) := by
  have s1 := divmod_spec (limbs_good m.natAbs) (limbs_good n.natAbs) (by unfold nl at hm hn; omega)
  rw [nv_abs, nv_abs] at s1
  by_cases h0 : n = 0
  · subst h0
    rw [callX_fun (af := a_whole_DivMod) rfl rfl rfl]
    rw [if_pos (show ((Int.natAbs 0 : Nat) : Int) = 0 from rfl)] at s1
    rw [if_pos rfl]
    simp only [nl] at hm
    simp only [Wd, Int.natAbs_zero, Int.cast_ofNat_Int, limbs_zero, L_nil] at s1 ⊢
    simp -implicitDefEqProofs (disch := omega) [a_whole_DivMod, s1]
    done
  · rw [if_neg h0]
    rw [if_neg (by omega)] at s1
    obtain ⟨e1, e2, e3⟩ := qr0 m n h0
    have lm := lt_nl m
    have ln := lt_nl n
    have nq : nl (q0 m n) ≤ nl m := nl_lt (by omega) (by omega)
    have nr : nl (r0 m n) ≤ nl n := nl_lt (by omega) (by omega)
    have hq0 : 0 ≤ (m.natAbs : Int) / n.natAbs := Int.ediv_nonneg (by omega) (by omega)
    have hr0 := Int.emod_nonneg (m.natAbs : Int) (show (n.natAbs : Int) ≠ 0 by omega)
    have k1 : (limbs ((m.natAbs : Int) / n.natAbs)).length ≤ nl m := limbs_len hq0 (by have := Int.ediv_le_self (a := (m.natAbs : Int)) (n.natAbs : Int) (by omega); omega)
    have k2 : (limbs ((m.natAbs : Int) % n.natAbs)).length ≤ nl n := limbs_len hr0 (by have := Int.emod_lt_of_pos (m.natAbs : Int) (show 0 < (n.natAbs : Int) by omega); omega)
    have s2 := made_spec (decide (m < 0) != decide (n < 0)) hq0 (by omega)
    have s3 := made_spec (decide (m < 0)) hr0 (by omega)
    change _ = some (CRes.ret [.d (Wd (q0 m n))] []) at s2
    change _ = some (CRes.ret [.d (Wd (r0 m n))] []) at s3
    have s4 := wof_spec (n := 1) (by omega)
    have s5 := wsign_W (m := n) (by omega)
    by_cases hr : r0 m n < 0
    · have hrd : decide (r0 m n < 0) = true := decide_eq_true hr
      by_cases hneg : n < 0
      · obtain ⟨d1, d2⟩ := ediv_of (m := m) (n := n) (q := q0 m n + 1) (r := r0 m n - n) h0 (by rw [Int.add_mul, Int.one_mul]; omega) (by omega) (by omega)
        rw [d1, d2]
        have s6 := wadd_W (m := q0 m n) (n := 1) (by omega) (by decide)
        have s9 := wsub_W (m := r0 m n) (n := n) (by omega) (by omega)
        have hsg : n.sign < 0 := by rw [Int.sign_eq_neg_one_of_neg hneg]; decide
        unfold Wd at s9
        rw [hrd] at s9
        exact dm_up (by unfold nl at hm; omega) (by unfold nl at hn; omega) (by omega) (by omega) (by unfold nl at nq hm; omega) (by unfold nl at nr hn; omega) s1 s2 s3 (by decide) s4 s5 hr hsg s6 s9
      · obtain ⟨d1, d2⟩ := ediv_of (m := m) (n := n) (q := q0 m n - 1) (r := r0 m n + n) h0 (by rw [Int.sub_mul, Int.one_mul]; omega) (by omega) (by omega)
        rw [d1, d2]
        have s6 := wsub_W (m := q0 m n) (n := 1) (by omega) (by decide)
        have s9 := wadd_W (m := r0 m n) (n := n) (by omega) (by omega)
        have hsg : ¬ n.sign < 0 := by rw [Int.sign_eq_one_of_pos (by omega)]; decide
        unfold Wd at s9
        rw [hrd] at s9
        exact dm_dn (by unfold nl at hm; omega) (by unfold nl at hn; omega) (by omega) (by omega) (by unfold nl at nq hm; omega) (by unfold nl at nr hn; omega) s1 s2 s3 (by decide) s4 s5 hr hsg s6 s9
    · obtain ⟨d1, d2⟩ := ediv_of (q := q0 m n) (r := r0 m n) h0 e1 (by omega) (by omega)
      rw [d1, d2]
      exact dm_pos (by unfold nl at hm; omega) (by unfold nl at hn; omega) (by omega) (by omega) (by unfold nl at nq hm; omega) (by unfold nl at nr hn; omega) s1 s2 s3 hr
end Go.Rf

/- Whole numbers in a row; guard.times. -/
namespace Go.Rf

def WL (l : List Int) : List D := l.map Wd
def WV (l : List Int) : List V := l.map fun n => .d (Wd n)
@[simp] theorem WL_len (l) : (WL l).length = l.length := by simp [WL]
@[simp] theorem WV_len (l) : (WV l).length = l.length := by simp [WV]
@[simp] theorem WV_nil : WV [] = [] := rfl
@[simp] theorem WV_take (l n) : (WV l).take n = WV (l.take n) := by simp [WV, List.map_take]
@[simp] theorem WL_take (l n) : (WL l).take n = WL (l.take n) := by simp [WL, List.map_take]
@[simp] theorem WV_app1 (l : List Int) (n : Int) : WV l ++ [.d (Wd n)] = WV (l ++ [n]) := by simp [WV]
@[simp] theorem WV_set (l : List Int) (i : Nat) (n : Int) : (WV l).set i (.d (Wd n)) = WV (l.set i n) := by simp [WV, List.map_set]
@[simp] theorem WV_rep (n : Nat) (y : Int) : List.replicate n (V.d (Wd y)) = WV (List.replicate n y) := by simp [WV]
theorem Wd_0 : Wd 0 = .agg [.bool false, .sl []] := rfl
@[simp] theorem Wd_0' : V.d (.agg [.bool false, .sl []]) = V.d (Wd 0) := rfl
@[simp] theorem WV_rep0 (n : Nat) : List.replicate n (V.d (.agg [.bool false, .sl []])) = WV (List.replicate n 0) := WV_rep n 0
@[simp] theorem WL_map (l) : (WL l).map V.d = WV l := by simp [WL, WV, Function.comp_def]
@[simp] theorem allD_WV (l) : allD (WV l) = some (WL l) := by rw [← WL_map]; exact allD_map _
@[simp] theorem rens_WV (al : Loc → Bool) (l : List Int) (m : List Loc) : rens al (WV l) m = (WV l, m) := by rw [← WL_map]; exact rens_map ..
@[simp] theorem mapLs_WV (f : Loc → Loc) (l : List Int) : mapLs f (WV l) = WV l := by
  induction l with
  | nil => rfl
  | cons x xs ih =>
    show V.mapL f (.d _) :: mapLs f (WV xs) = _
    rw [ih]
    rfl
@[simp] theorem frzL_WV (h : Loc → Option Obj) (k : Nat) (l : List Int) : frzL (frz h (k + 1)) (WV l) = some (WL l, []) := by
  induction l with
  | nil => rfl
  | cons x xs ih =>
    show frzL (frz h (k + 1)) (.d _ :: WV xs) = _
    simp only [frzL, ih]
    rfl
theorem wl_WL (l : List Int) : wl (WL l) ≤ 32 := by
  induction l with
  | nil => simp [WL, wl]
  | cons x xs ih =>
    show max (wt (Wd x)) (wl (WL xs)) ≤ 32
    have : wt (Wd x) = 25 := rfl
    omega
@[simp] theorem wl_WL32 (l) : (wl (WL l) ≤ 32) = True := eq_true (wl_WL l)
@[simp] theorem fit_WL {n : Nat} {l : List Int} (h : n ≤ 1099511627) : (n * wl (WL l) ≤ lots) = True := eq_true (Nat.le_trans (Nat.mul_le_mul h (wl_WL l)) (by unfold lots; omega))
@[simp] theorem WV_cells (l) : (∀ x ∈ WV l, x.cells.length = 2) = True := eq_true (by
  intro x hx
  obtain ⟨n, _, rfl⟩ := List.mem_map.1 hx
  rfl)
@[simp] theorem WL_cells (l) : (∀ x ∈ WL l, x.cells.length = 2) = True := eq_true (by
  intro x hx
  obtain ⟨n, _, rfl⟩ := List.mem_map.1 hx
  rfl)
theorem WL_get {l : List Int} {i : Nat} (h : i < l.length) : (WL l)[i]? = some (Wd (nth l i)) := by simp [WL, nth, h]
theorem WV_get {l : List Int} {i : Nat} (h : i < l.length) : (WV l)[i]? = some (.d (Wd (nth l i))) := by simp [WV, nth, h]
attribute [simp] WL_get WV_get
@[simp] theorem cells_Wd (n : Int) : (Wd n).cells.length = 2 := rfl
@[simp] theorem vcells_Wd (n : Int) : (V.cells (.d (Wd n))).length = 2 := rfl
@[simp] theorem aggO_Wd (n) : aggO (List.take 2 (V.d (Wd n)).cells) (allD (List.take 2 (V.d (Wd n)).cells)) = .d (Wd n) := rfl
@[simp] theorem take2_Wd (n) : List.take 2 (V.d (Wd n)).cells = (V.d (Wd n)).cells := rfl
@[simp] theorem aggO_Wd' (n) : aggO (V.d (Wd n)).cells (allD (V.d (Wd n)).cells) = .d (Wd n) := rfl
theorem fitV_Wd {n : Int} (h : nl n < 1099511627776) : fitV (.d (Wd n)) = true := by
  have : wl (L (limbs n.natAbs)) ≤ 4 := wl_L _
  have h2 : (limbs n.natAbs).length * wl (L (limbs n.natAbs)) ≤ 1099511627776 * 4 := Nat.mul_le_mul (Nat.le_of_lt h) this
  simp [Wd, fitV, fitC]
  unfold lots; omega
attribute [simp] fitV_Wd
@[simp] theorem nl_0 : nl 0 = 0 := rfl
@[simp] theorem nl_1 : nl 1 = 1 := rfl
@[simp] theorem nl_m1 : nl (-1) = 1 := rfl
@[simp] theorem fitV_Wd0 : fitV (.d (Wd 0)) = true := rfl
@[simp] theorem fitV_Wd1 : fitV (.d (Wd 1)) = true := rfl
@[simp] theorem fitV_Wdm1 : fitV (.d (Wd (-1))) = true := rfl
@[simp] theorem loadV_Wd (h n) : loadV h 2 true (.d (.box (Wd n))) = val (.d (Wd n)) := by simp [Wd]
@[simp] theorem setPart_Wd (x n : Int) : setPart (.d (Wd x)) 0 (.d (Wd n)) = some (.d (Wd n)) := by simp [Wd, setPart]

theorem times_loop (k : Int) (f : List Int) (hf : f.length ≤ 1000) (hk : nl k < 1073741824) (hb : ∀ i, i < f.length → nl (nth f i) < 1073741824) : ∀ d i (out : List Int) (e : List (Nat × V)), d + i = f.length → out.length = i →
    codeX T0 X0 0 a_guard_times_l0 (some (.nrm, ⟨(3, .ptr (.b 0) 0 0) :: (5, .ref (.b 1) ⟨2, 32⟩ 0 i) :: (8, .d (.sl (WL f))) :: (9, .d (.int .i64 f.length)) :: (10, .d (.int .i64 i)) :: e, [.arr [.d (Wd k)] ⟨2, 0⟩, .arr (WV out) ⟨2, 32⟩]⟩)) =
      some (.exit 0, ⟨[(5, .ref (.b 0) ⟨2, 32⟩ 0 f.length)], [.arr (WV (out ++ (f.map (· * k)).drop i)) ⟨2, 32⟩]⟩) := by
  intro d
  induction d with
  | zero =>
    intro i out e hd ho
    rw [codeX_loop (l := a_guard_times_l0) rfl]
    have h1 : (f.map (· * k)).drop i = [] := List.drop_eq_nil_of_le (by simp; omega)
    have h2 : i = f.length := by omega
    subst h2
    have h3 : (f.map (· * k)).drop f.length = [] := h1
    simp -implicitDefEqProofs (disch := omega) [a_guard_times_b0, h3]
    done
  | succ d ih =>
    intro i out e hd ho
    rw [codeX_loop (l := a_guard_times_l0) rfl]
    have hi : i < f.length := by omega
    have h1 : (f.map (· * k)).drop i = (nth f i * k) :: (f.map (· * k)).drop (i + 1) := by rw [List.drop_eq_getElem_cons (by simpa using hi)]; simp [nth, hi]
    have hbi := hb i hi
    have s1 := wmul_W (m := nth f i) (n := k) (hb i hi) hk
    have s2 := fun e => ih (i + 1) (out ++ [nth f i * k]) e (by omega) (by simp [ho])
    have ht : out.take i = out := by rw [← ho]; exact List.take_length
    simp only [Int.natCast_add, Int.cast_ofNat_Int] at s2
    rw [h1]
    simp -implicitDefEqProofs (disch := omega) [a_guard_times_b0, s1, s2, ht]
    done
theorem times_spec {k : Int} {f : List Int} (hf : f.length ≤ 1000) (hk : nl k < 1073741824) (hb : ∀ i, i < f.length → nl (nth f i) < 1073741824) :
    callE T0 X0 f_guard_times [.d (.sl (WL f)), .d (Wd k)] [] = some (.ret [.d (.sl (WL (f.map (· * k))))] []) := by
  rw [callX_fun (af := a_guard_times) rfl rfl rfl]
  have h := fun e => times_loop k f hf hk hb f.length 0 [] e rfl rfl
  simp only [Int.cast_ofNat_Int, List.length_nil, WV_nil, List.nil_append, List.drop_zero] at h
  have ht : (f.map (· * k)).take f.length = f.map (· * k) := by rw [List.take_of_length_le]; simp
  simp -implicitDefEqProofs (disch := omega) [a_guard_times, h, ht]
  done

theorem constant_loop (f g : List Int) (n : Nat) (hf : n ≤ 1000) (hb : ∀ i, i < n → nl (nth g i) < 1073741824) (hn : g.length = n) : ∀ d i (e : List (Nat × V)), d + i = n →
    codeX T0 X0 0 a_guard_constant_l0 (some (.nrm, ⟨(0, .d (.sl (WL f))) :: (2, .ptr (.b 0) 0 0) :: (4, .d (.int .i64 n)) :: (12, .d (.sl (WL g))) :: (13, .d (.int .i64 n)) :: (14, .d (.int .i64 i)) :: e, [.arr [.d (Wd 0)] ⟨2, 0⟩]⟩)) =
      some (if g.drop i = List.replicate d 0 then (.exit 0, ⟨[(0, .d (.sl (WL f))), (2, .ptr (.b 0) 0 0), (4, .d (.int .i64 n))], [.arr [.d (Wd 0)] ⟨2, 0⟩]⟩) else (.ret, ⟨[(2, .ptr (.b 0) 0 0), (3, .d (.bool false))], [.arr [.d (Wd 0)] ⟨2, 0⟩]⟩)) := by
  intro d
  induction d with
  | zero =>
    intro i e hd
    rw [codeX_loop (l := a_guard_constant_l0) rfl]
    have h1 : g.drop i = [] := List.drop_eq_nil_of_le (by omega)
    rw [h1]
    simp only [List.replicate_zero, if_pos]
    simp -implicitDefEqProofs (disch := omega) [a_guard_constant_b0]
    done
  | succ d ih =>
    intro i e hd
    rw [codeX_loop (l := a_guard_constant_l0) rfl]
    have hi : i < n := by omega
    have h1 : g.drop i = nth g i :: g.drop (i + 1) := by rw [List.drop_eq_getElem_cons (by omega)]; simp [nth, hn ▸ hi]
    have s1 := wsign_W (m := nth g i) (hb i hi)
    have s2 := fun e => ih (i + 1) e (by omega)
    simp only [Int.natCast_add, Int.cast_ofNat_Int] at s2
    have hbi := hb i hi
    rw [h1]
    by_cases hz : nth g i = 0
    · simp only [hz, List.replicate_succ, List.cons.injEq, true_and, Int.sign_zero] at s1 ⊢
      simp -implicitDefEqProofs (disch := omega) [a_guard_constant_b0, hz, s1, s2]
      done
    · rw [if_neg (by simp [List.replicate_succ, hz])]
      have h2 : (nth g i).sign ≠ 0 := by simpa using hz
      simp -implicitDefEqProofs (disch := omega) [a_guard_constant_b0, s1, h2]
      done
def constV (f : List Int) : Int × Bool := if f.take (f.length - 1) = List.replicate (f.length - 1) 0 then (nth f (f.length - 1), true) else (0, false)
theorem constant_spec {f : List Int} (hf : f.length ≤ 1000) (h0 : 0 < f.length) (hb : ∀ i, i < f.length → nl (nth f i) < 1073741824) :
    callE T0 X0 f_guard_constant [.d (.sl (WL f))] [] = some (.ret [.d (Wd (constV f).1), .d (.bool (constV f).2)] []) := by
  obtain ⟨n, hn⟩ : ∃ n, f.length = n + 1 := ⟨f.length - 1, by omega⟩
  rw [callX_fun (af := a_guard_constant) rfl rfl rfl]
  have hg : ∀ i, i < n → nth (f.take n) i = nth f i := fun i hi => by simp [nth, hi]
  have h := fun e => constant_loop f (f.take n) n (by omega) (fun i hi => by rw [hg i hi]; exact hb i (by omega)) (by simp; omega) n 0 e (by omega)
  simp only [Int.cast_ofNat_Int, List.drop_zero] at h
  unfold constV
  rw [hn, Nat.add_sub_cancel]
  by_cases c : f.take n = List.replicate n 0
  · simp only [if_pos c] at h ⊢
    simp -implicitDefEqProofs (disch := omega) [a_guard_constant, h, hn]
    done
  · simp only [if_neg c] at h ⊢
    simp -implicitDefEqProofs (disch := omega) [a_guard_constant, h, hn]
    done
end Go.Rf

/- guard.both. -/
namespace Go.Rf

@[simp] theorem WL_nil : WL [] = [] := rfl
theorem both_loop (l r : List Int) (N : Nat) (hN : N ≤ 1000) (hl : l.length = N) (hr : r.length = N) (bl : ∀ i, i < N → nl (nth l i) < 1073741824) (br : ∀ i, i < N → nl (nth r i) < 1073741824) : ∀ d i (out : List Int) (e : List (Nat × V)), d + i = N → out.length = N →
    codeX T0 X0 0 a_guard_both_l0 (some (.nrm, ⟨(1, .d (.sl (WL l))) :: (2, .d (.sl (WL r))) :: (12, .ref (.b 0) ⟨2, 32⟩ 0 N) :: (41, .d (.int .i64 N)) :: (42, .d (.int .i64 i)) :: e, [.arr (WV out) ⟨2, 32⟩]⟩)) =
      some (.exit 1, ⟨[(12, .ref (.b 0) ⟨2, 32⟩ 0 N)], [.arr (WV (out.take i ++ (List.zipWith (· + ·) l r).drop i)) ⟨2, 32⟩]⟩) := by
  intro d
  induction d with
  | zero =>
    intro i out e hd ho
    rw [codeX_loop (l := a_guard_both_l0) rfl]
    have h1 : (List.zipWith (· + ·) l r).drop i = [] := List.drop_eq_nil_of_le (by simp; omega)
    have h2 : out.take i = out := List.take_of_length_le (by omega)
    rw [h1, h2]
    simp -implicitDefEqProofs (disch := omega) [a_guard_both_b0]
    done
  | succ d ih =>
    intro i out e hd ho
    rw [codeX_loop (l := a_guard_both_l0) rfl]
    have hi : i < N := by omega
    have h1 : (List.zipWith (· + ·) l r).drop i = (nth l i + nth r i) :: (List.zipWith (· + ·) l r).drop (i + 1) := by
      rw [List.drop_eq_getElem_cons (by simp; omega)]
      simp [nth, hl, hr, hi]
    have hbl := bl i hi
    have hbr := br i hi
    have s1 := wadd_W hbl hbr
    have s2 := fun e => ih (i + 1) (out.set i (nth l i + nth r i)) e (by omega) (by simp [ho])
    have h3 : (out.set i (nth l i + nth r i)).take (i + 1) = out.take i ++ [nth l i + nth r i] := by
      rw [take_succ_nth (by simp; omega), List.take_set_of_le (Nat.le_refl _), nth_set (by omega), if_pos rfl]
    rw [h1]
    rw [List.append_cons, ← h3]
    generalize nth l i + nth r i = x at *
    simp only [Int.natCast_add, Int.cast_ofNat_Int] at s2
    simp -implicitDefEqProofs (disch := omega) [a_guard_both_b0, s1, s2]
    done

def bothV (op : Int) (l r : List Int) : List Int × Bool :=
  if op = 43 then (List.zipWith (· + ·) l r, true)
  else if op = 45 then (List.zipWith (· + ·) l (r.map (· * -1)), true)
  else if op = 42 then (if (constV l).2 = true then (r.map (· * (constV l).1), true) else (l.map (· * (constV r).1), (constV r).2))
  else if (constV l).2 = true ∧ (constV r).2 = true ∧ (constV r).1 ≠ 0 then
    ((List.replicate l.length 0).set (l.length - 1) (if op = 37 then (constV l).1 % (constV r).1 else (constV l).1 / (constV r).1), true)
  else ([], false)
theorem constV_nl {f : List Int} {k : Nat} (hb : ∀ i, i < f.length → nl (nth f i) < k) (h0 : 0 < k) (h1 : 0 < f.length) : nl (constV f).1 < k := by
  unfold constV
  split
  · exact hb _ (by omega)
  · exact h0
theorem nth_map {f : List Int} (g : Int → Int) {i : Nat} (h : i < f.length) : nth (f.map g) i = g (nth f i) := by simp [nth, h]
theorem nl_neg (n : Int) : nl (-n) = nl n := by unfold nl; rw [Int.natAbs_neg]
theorem both_spec {op : Int} {l r : List Int} {N : Nat} (hN : N ≤ 1000) (h0 : 0 < N) (hl : l.length = N) (hr : r.length = N) (bl : ∀ i, i < N → nl (nth l i) < 134217728) (br : ∀ i, i < N → nl (nth r i) < 134217728) :
    callE T0 X0 f_guard_both [.d (.int .u8 op), .d (.sl (WL l)), .d (.sl (WL r))] [] = some (.ret [.d (.sl (WL (bothV op l r).1)), .d (.bool (bothV op l r).2)] []) := by
  subst hl
  have cl := constV_nl bl (by omega) h0
  have cr := constV_nl (f := r) (fun i hi => br i (by omega)) (by omega) (by omega)
  have s1 := constant_spec (f := l) hN h0 (fun i hi => by have := bl i hi; omega)
  have s2 := constant_spec (f := r) (by omega) (by omega) (fun i hi => by have := br i (by omega); omega)
  rw [callX_fun (af := a_guard_both) rfl rfl rfl]
  unfold bothV
  by_cases o1 : op = 43
  · rw [if_pos o1]
    have lp := fun e => both_loop l r l.length hN rfl hr (fun i hi => by have := bl i hi; omega) (fun i hi => by have := br i hi; omega) l.length 0 (List.replicate l.length 0) e (by omega) (by simp)
    simp only [Int.cast_ofNat_Int, List.drop_zero, List.take_zero, List.nil_append] at lp
    have ht : (List.zipWith (· + ·) l r).take l.length = List.zipWith (· + ·) l r := List.take_of_length_le (by simp; omega)
    subst o1
    simp -implicitDefEqProofs (disch := omega) [a_guard_both, s1, s2, lp, ht]
    done
  · rw [if_neg o1]
    by_cases o2 : op = 45
    · rw [if_pos o2]
      have s3 := times_spec (f := r) (k := -1) (by omega) (by decide) (fun i hi => by have := br i (by omega); omega)
      have s4 := wof_spec (n := -1) (by omega)
      have lp := fun e => both_loop l (r.map (· * -1)) l.length hN rfl (by simpa using hr) (fun i hi => by have := bl i hi; omega) (fun i hi => by
        rw [nth_map _ (by omega), Int.mul_neg, Int.mul_one, nl_neg]
        have := br i hi; omega) l.length 0 (List.replicate l.length 0) e (by omega) (by simp)
      simp only [Int.cast_ofNat_Int, List.drop_zero, List.take_zero, List.nil_append] at lp
      have ht : (List.zipWith (· + ·) l (r.map (· * -1))).take l.length = List.zipWith (· + ·) l (r.map (· * -1)) := List.take_of_length_le (by simp; omega)
      have hr' : (r.map (· * -1)).length = l.length := by simpa using hr
      generalize r.map (· * -1) = r' at *
      subst o2
      simp -implicitDefEqProofs (disch := omega) [a_guard_both, s1, s2, s3, s4, lp, ht]
      done
    · rw [if_neg o2]
      by_cases o3 : op = 42
      · rw [if_pos o3]
        subst o3
        cases hc : (constV l).2 with
        | true =>
          rw [hc] at s1
          rw [if_pos rfl]
          have s3 := times_spec (f := r) (k := (constV l).1) (by omega) (by omega) (fun i hi => by have := br i (by omega); omega)
          simp -implicitDefEqProofs (disch := omega) [a_guard_both, s1, s2, s3]
          done
        | false =>
          rw [hc] at s1
          rw [if_neg (by decide)]
          have s3 := times_spec (f := l) (k := (constV r).1) (by omega) (by omega) (fun i hi => by have := bl i (by omega); omega)
          simp -implicitDefEqProofs (disch := omega) [a_guard_both, s1, s2, s3]
          done
      · rw [if_neg o3]
        have s3 := wdivmod_W (m := (constV l).1) (n := (constV r).1) (by omega) (by omega)
        generalize hc1 : (constV l).2 = c1 at *
        generalize hc2 : (constV r).2 = c2 at *
        generalize hx : (constV l).1 = x at *
        generalize hy : (constV r).1 = y at *
        by_cases hz : y = 0
        · rw [if_neg (by simp [hz])]
          rw [if_pos hz] at s3
          subst hz
          cases c1 <;> cases c2 <;> simp -implicitDefEqProofs (disch := omega) [a_guard_both, s1, s2, s3, o1, o2, o3]
          done
        · rw [if_neg hz] at s3
          cases c1 with
          | false =>
            rw [if_neg (by simp)]
            simp -implicitDefEqProofs (disch := omega) [a_guard_both, s1, s2, s3, o1, o2, o3]
            done
          | true =>
            cases c2 with
            | false =>
              rw [if_neg (by simp)]
              simp -implicitDefEqProofs (disch := omega) [a_guard_both, s1, s2, s3, o1, o2, o3]
              done
            | true =>
              rw [if_pos ⟨rfl, rfl, hz⟩]
              generalize x / y = q at *
              generalize x % y = m at *
              have ht : ∀ v : Int, ((List.replicate l.length 0).set (l.length - 1) v).take l.length = (List.replicate l.length 0).set (l.length - 1) v := fun v => List.take_of_length_le (by simp)
              have hg1 : (WV (List.replicate l.length 0))[l.length - 1]? = some (.d (Wd 0)) := by rw [WV_get (by simp; omega)]; simp [nth, List.getD_eq_getElem?_getD, List.getElem?_replicate, h0]; rw [if_pos (by omega)]; rfl
              have hg2 : ∀ v : Int, (WV ((List.replicate l.length 0).set (l.length - 1) v))[l.length - 1]? = some (.d (Wd v)) := fun v => by rw [WV_get (by simp; omega), nth_set (by simp; omega), if_pos rfl]
              by_cases o4 : op = 37
              · rw [if_pos o4]
                subst o4
                simp -implicitDefEqProofs (disch := omega) [a_guard_both, s1, s2, s3, ht, hg1, hg2]
                done
              · rw [if_neg o4]
                simp -implicitDefEqProofs (disch := omega) [a_guard_both, s1, s2, s3, ht, hg1, o1, o2, o3, o4]
                done
end Go.Rf

/- guard.Form. -/
namespace Go.Rf

def formV (n : Nat) : Nd → List Int × Bool
  | .num k => ((List.replicate (n + 1) 0).set n k, true)
  | .name v _ => ((List.replicate (n + 1) 0).set v.toNat 1, true)
  | .minus x => ((formV n x).1.map (· * -1), (formV n x).2)
  | .two op x y => if (formV n x).2 = true ∧ (formV n y).2 = true then bothV op (formV n x).1 (formV n y).1 else ([], false)
/-- How many limbs the numbers of an expression's form have at most. -/
def Nd.w : Nd → Nat
  | .num k => nl k + 1
  | .name _ _ => 1
  | .minus x => x.w
  | .two _ x y => x.w + y.w
/-- Every name's number is one of a variable. -/
def Nd.fine (n : Nat) : Nd → Prop
  | .num _ => True
  | .name v s => 0 ≤ v ∧ v < n ∧ s.length ≤ 1100000
  | .minus x => x.fine n
  | .two op x y => (op = 43 ∨ op = 45 ∨ op = 42 ∨ op = 47 ∨ op = 37) ∧ x.fine n ∧ y.fine n
theorem Nd.w_pos : ∀ x : Nd, 0 < x.w
  | .num k => by unfold Nd.w; omega
  | .name _ _ => by unfold Nd.w; omega
  | .minus x => by unfold Nd.w; exact x.w_pos
  | .two _ x y => by unfold Nd.w; have := x.w_pos; omega
theorem pw_one_le {k : Nat} (h : 0 < k) : 4294967296 ≤ pw k := by
  have := pw_le (m := 1) (n := k) h
  simpa [pw] using this
theorem nl_add {a b : Int} {k m : Nat} (ha : nl a ≤ k) (hb : nl b ≤ m) (hk : 0 < k) (hm : 0 < m) : nl (a + b) ≤ k + m := by
  have h1 := lt_nl a
  have h2 := lt_nl b
  have p1 := pw_le ha
  have p2 := pw_le hb
  have q1 := pw_one_le hk
  have q2 := pw_one_le hm
  have e : pw (k + m) = pw k * pw m := pw_add m k
  have e1 : pw k * 4294967296 ≤ pw k * pw m := Int.mul_le_mul_of_nonneg_left q2 (by omega)
  have e2 : 4294967296 * pw m ≤ pw k * pw m := Int.mul_le_mul_of_nonneg_right q1 (by omega)
  exact nl_lt (by omega) (by omega)
theorem nl_mul {a b : Int} {k m : Nat} (ha : nl a ≤ k) (hb : nl b ≤ m) : nl (a * b) ≤ k + m := by
  have h1 := lt_nl a
  have h2 := lt_nl b
  have p1 := pw_le ha
  have p2 := pw_le hb
  have e : pw (k + m) = pw k * pw m := pw_add m k
  have e1 : ((a * b).natAbs : Int) < pw k * pw m := by
    rw [Int.natAbs_mul, Int.natCast_mul]
    exact Int.lt_of_le_of_lt (Int.mul_le_mul_of_nonneg_left (Int.le_of_lt (Int.lt_of_lt_of_le h2 p2)) (by omega)) (Int.mul_lt_mul_of_pos_right (by omega) (pw_pos m))
  exact nl_lt (by omega) (by omega)
theorem nl_le_of {a b : Int} (h : a.natAbs ≤ b.natAbs) : nl a ≤ nl b := by
  have := lt_nl b
  exact nl_lt (by omega) (by omega)
theorem nl_div (a b : Int) : nl (a / b) ≤ nl a + 1 := by
  have h1 := lt_nl a
  have h2 : (a / b).natAbs ≤ a.natAbs + 1 := by
    by_cases hb : b = 0
    · subst hb; simp
    · obtain ⟨e1, e2, e3⟩ := qr0 a b hb
      by_cases hr : r0 a b < 0
      · by_cases hn : b < 0
        · rw [(ediv_of (m := a) (n := b) (q := q0 a b + 1) (r := r0 a b - b) hb (by rw [Int.add_mul, Int.one_mul]; omega) (by omega) (by omega)).1]
          omega
        · rw [(ediv_of (m := a) (n := b) (q := q0 a b - 1) (r := r0 a b + b) hb (by rw [Int.sub_mul, Int.one_mul]; omega) (by omega) (by omega)).1]
          omega
      · rw [(ediv_of (m := a) (n := b) (q := q0 a b) (r := r0 a b) hb e1 (by omega) (by omega)).1]
        omega
  have := pw_pos (nl a)
  exact nl_lt (by rw [pw_succ]; omega) (by rw [pw_succ]; omega)
theorem nl_mod (a b : Int) (h : b ≠ 0) : nl (a % b) ≤ nl b := by
  have m0 := Int.emod_nonneg a h
  have m1 := Int.emod_lt a h
  exact nl_le_of (by omega)
theorem nth_rep (n i : Nat) : nth (List.replicate n 0) i = 0 := by
  simp only [nth, List.getD_eq_getElem?_getD, List.getElem?_replicate]
  split <;> rfl
theorem nth_rep_set {n k : Nat} (h : k < n) (v : Int) (i : Nat) : nth ((List.replicate n 0).set k v) i = if i = k then v else 0 := by
  rw [nth_set (by simpa using h)]
  split
  · rfl
  · exact nth_rep ..

/-- The form's shape. -/
structure Sh (n w : Nat) (f : List Int) : Prop where
  l : f.length = n + 1
  b : ∀ i, i < n + 1 → nl (nth f i) ≤ w
theorem const_sh {n w : Nat} {f : List Int} (h : Sh n w f) : nl (constV f).1 ≤ w := by
  unfold constV
  split
  · exact h.b _ (by have := h.l; omega)
  · show nl 0 ≤ w
    simp
theorem both_sh {n a b : Nat} {f g : List Int} (op : Int) (ha : 0 < a) (hb : 0 < b) (hf : Sh n a f) (hg : Sh n b g) : (bothV op f g).1 = [] ∧ (bothV op f g).2 = false ∨ Sh n (a + b) (bothV op f g).1 := by
  have l1 := hf.l
  have l2 := hg.l
  have cf := const_sh hf
  have cg := const_sh hg
  unfold bothV
  split
  · refine .inr ⟨by simp [l1, l2], fun i hi => ?_⟩
    have e : nth (List.zipWith (· + ·) f g) i = nth f i + nth g i := by simp [nth, l1, l2, hi]
    rw [e]
    exact nl_add (hf.b i hi) (hg.b i hi) ha hb
  split
  · refine .inr ⟨by simp [l1, l2], fun i hi => ?_⟩
    have e : nth (List.zipWith (· + ·) f (g.map (· * -1))) i = nth f i + nth g i * -1 := by simp [nth, l1, l2, hi]
    rw [e]
    exact nl_add (hf.b i hi) (by rw [Int.mul_neg, Int.mul_one, nl_neg]; exact hg.b i hi) ha hb
  split
  · split
    · refine .inr ⟨by simp [l2], fun i hi => ?_⟩
      rw [nth_map _ (by omega)]
      rw [Nat.add_comm]
      exact nl_mul (hg.b i hi) cf
    · refine .inr ⟨by simp [l1], fun i hi => ?_⟩
      rw [nth_map _ (by omega)]
      exact nl_mul (hf.b i hi) cg
  split
  · rename_i c
    refine .inr ⟨by simp [l1], fun i hi => ?_⟩
    rw [nth_rep_set (by omega)]
    split
    · split
      · have := nl_mod (constV f).1 _ c.2.2
        omega
      · have := nl_div (constV f).1 (constV g).1
        omega
    · simp
  · exact .inl ⟨rfl, rfl⟩
theorem form_sh (n : Nat) : ∀ x : Nd, x.fine n → (formV n x).1 = [] ∧ (formV n x).2 = false ∨ Sh n x.w (formV n x).1
  | .num k, _ => by
    refine .inr ⟨by simp [formV], fun i hi => ?_⟩
    unfold formV Nd.w
    rw [nth_rep_set (by omega)]
    split <;> simp
  | .name v s, h => by
    unfold Nd.fine at h
    refine .inr ⟨by simp [formV], fun i hi => ?_⟩
    unfold formV Nd.w
    rw [nth_rep_set (by omega)]
    split <;> simp
  | .minus x, h => by
    unfold formV Nd.w
    rcases form_sh n x h with ⟨e, f⟩ | c
    · exact .inl ⟨by simp [e], f⟩
    · have := c.l
      refine .inr ⟨by simpa using c.l, fun i hi => ?_⟩
      rw [nth_map _ (by omega), Int.mul_neg, Int.mul_one, nl_neg]
      exact c.b i hi
  | .two op x y, h => by
    unfold formV Nd.w
    split
    · rename_i c
      rcases form_sh n x h.2.1 with ⟨e, f⟩ | c1
      · rw [f] at c; cases c.1
      rcases form_sh n y h.2.2 with ⟨e, f⟩ | c2
      · rw [f] at c; cases c.2
      exact both_sh op x.w_pos y.w_pos c1 c2
    · exact .inl ⟨rfl, rfl⟩
end Go.Rf

/- guard.Form: the walk. -/
namespace Go.Rf

@[simp] theorem t_Number_Name : (t_lang_Number = t_lang_Name) = False := eq_false (by decide)
@[simp] theorem t_Number_Minus : (t_lang_Number = t_lang_Minus) = False := eq_false (by decide)
@[simp] theorem t_Number_Two : (t_lang_Number = t_lang_Two) = False := eq_false (by decide)
@[simp] theorem t_Name_Number : (t_lang_Name = t_lang_Number) = False := eq_false (by decide)
@[simp] theorem t_Name_Minus : (t_lang_Name = t_lang_Minus) = False := eq_false (by decide)
@[simp] theorem t_Name_Two : (t_lang_Name = t_lang_Two) = False := eq_false (by decide)
@[simp] theorem t_Minus_Number : (t_lang_Minus = t_lang_Number) = False := eq_false (by decide)
@[simp] theorem t_Minus_Name : (t_lang_Minus = t_lang_Name) = False := eq_false (by decide)
@[simp] theorem t_Minus_Two : (t_lang_Minus = t_lang_Two) = False := eq_false (by decide)
@[simp] theorem t_Two_Number : (t_lang_Two = t_lang_Number) = False := eq_false (by decide)
@[simp] theorem t_Two_Name : (t_lang_Two = t_lang_Name) = False := eq_false (by decide)
@[simp] theorem t_Two_Minus : (t_lang_Two = t_lang_Minus) = False := eq_false (by decide)
@[simp] theorem fitV_nd (x : Nd) : fitV (.d x.d) = true := by cases x <;> rfl
theorem sh_times {n w : Nat} {f : List Int} (h : f = [] ∨ Sh n w f) (hn : n ≤ 16) (hw : w < 134217728) : f.length ≤ 1000 ∧ ∀ i, i < f.length → nl (nth f i) < 1073741824 := by
  rcases h with h | h
  · subst h
    exact ⟨by simp, fun i hi => by simp at hi⟩
  · have := h.l
    refine ⟨by omega, fun i hi => ?_⟩
    have := h.b i (by omega)
    omega
theorem form_num (n : Nat) (hn : n ≤ 16) (k : Int) (hw : nl k < 134217728) : callE T0 X0 f_guard_Form [.d (Nd.num k).d, .d (.int .i64 n)] [] = some (.ret [.d (.sl (WL (formV n (.num k)).1)), .d (.bool (formV n (.num k)).2)] []) := by
  have s1 := wtrim_W (m := k) (by omega)
  have ht : ∀ v : Int, ((List.replicate (n + 1) 0).set n v).take (n + 1) = (List.replicate (n + 1) 0).set n v := fun v => List.take_of_length_le (by simp)
  have hg1 : (WV (List.replicate (n + 1) 0))[n]? = some (.d (Wd 0)) := by rw [WV_get (by simp), nth_rep]
  rw [callX_fun (af := a_guard_Form) rfl rfl rfl]
  simp only [Nd.d, formV]
  simp -implicitDefEqProofs (disch := omega) [a_guard_Form, s1, ht, hg1]
  done
theorem form_name (n : Nat) (hn : n ≤ 16) (v : Nat) (s : List UInt8) (hv : v < n) (hs : s.length ≤ 1100000) : callE T0 X0 f_guard_Form [.d (Nd.name v s).d, .d (.int .i64 n)] [] = some (.ret [.d (.sl (WL (formV n (.name v s)).1)), .d (.bool (formV n (.name v s)).2)] []) := by
  have s1 := wof_spec (n := 1) (by omega)
  have ht : ∀ k (w : Int), ((List.replicate (n + 1) 0).set k w).take (n + 1) = (List.replicate (n + 1) 0).set k w := fun k w => List.take_of_length_le (by simp)
  have hg1 : (WV (List.replicate (n + 1) 0))[v]? = some (.d (Wd 0)) := by rw [WV_get (by simp; omega), nth_rep]
  rw [callX_fun (af := a_guard_Form) rfl rfl rfl]
  simp only [Nd.d, formV, Int.toNat_natCast]
  simp -implicitDefEqProofs (disch := omega) [a_guard_Form, s1, ht, hg1]
  done
theorem form_minus (n : Nat) (hn : n ≤ 16) (x : Nd) (hx : x.fine n) (hw : x.w < 134217728) (ih : callE T0 X0 f_guard_Form [.d x.d, .d (.int .i64 n)] [] = some (.ret [.d (.sl (WL (formV n x).1)), .d (.bool (formV n x).2)] [])) :
    callE T0 X0 f_guard_Form [.d (Nd.minus x).d, .d (.int .i64 n)] [] = some (.ret [.d (.sl (WL (formV n (.minus x)).1)), .d (.bool (formV n (.minus x)).2)] []) := by
  have s1 := wof_spec (n := -1) (by omega)
  obtain ⟨t1, t2⟩ := sh_times ((form_sh n x hx).imp And.left id) hn hw
  have s2 := times_spec (f := (formV n x).1) (k := -1) t1 (by decide) t2
  rw [callX_fun (af := a_guard_Form) rfl rfl rfl]
  simp only [Nd.d, formV]
  generalize (formV n x).1.map (· * -1) = g at *
  simp -implicitDefEqProofs (disch := omega) [a_guard_Form, s1, s2, ih]
  done
theorem form_two (n : Nat) (hn : n ≤ 16) (op : Int) (x y : Nd) (hx : x.fine n) (hy : y.fine n) (hw : x.w + y.w < 134217728) (ih : callE T0 X0 f_guard_Form [.d x.d, .d (.int .i64 n)] [] = some (.ret [.d (.sl (WL (formV n x).1)), .d (.bool (formV n x).2)] []))
    (ih2 : callE T0 X0 f_guard_Form [.d y.d, .d (.int .i64 n)] [] = some (.ret [.d (.sl (WL (formV n y).1)), .d (.bool (formV n y).2)] [])) :
    callE T0 X0 f_guard_Form [.d (Nd.two op x y).d, .d (.int .i64 n)] [] = some (.ret [.d (.sl (WL (formV n (.two op x y)).1)), .d (.bool (formV n (.two op x y)).2)] []) := by
  have f1 := form_sh n x hx
  have f2 := form_sh n y hy
  rw [callX_fun (af := a_guard_Form) rfl rfl rfl]
  simp only [Nd.d, formV]
  generalize formV n x = fx at *
  generalize formV n y = fy at *
  obtain ⟨fx, b1⟩ := fx
  obtain ⟨fy, b2⟩ := fy
  simp only [] at *
  obtain ⟨t1, t2⟩ := sh_times (f1.imp And.left id) hn (by omega)
  obtain ⟨t3, t4⟩ := sh_times (f2.imp And.left id) hn (by omega)
  by_cases hb : b1 = true ∧ b2 = true
  · rw [if_pos hb]
    obtain ⟨rfl, rfl⟩ := hb
    have f1 : Sh n x.w fx := by rcases f1 with ⟨_, h⟩ | h; cases h; exact h
    have f2 : Sh n y.w fy := by rcases f2 with ⟨_, h⟩ | h; cases h; exact h
    have s1 := both_spec (op := op) (l := fx) (r := fy) (N := n + 1) (by omega) (by omega) f1.l f2.l (fun i hi => by have := f1.b i hi; omega) (fun i hi => by have := f2.b i hi; omega)
    generalize bothV op fx fy = z at *
    obtain ⟨z, b3⟩ := z
    simp -implicitDefEqProofs (disch := omega) [a_guard_Form, s1, ih, ih2]
    done
  · rw [if_neg hb]
    cases b1 <;> cases b2 <;> simp at hb <;> simp -implicitDefEqProofs (disch := omega) [a_guard_Form, ih, ih2]
    done
theorem form_spec (n : Nat) (hn : n ≤ 16) : ∀ x : Nd, x.fine n → x.w < 134217728 → callE T0 X0 f_guard_Form [.d x.d, .d (.int .i64 n)] [] = some (.ret [.d (.sl (WL (formV n x).1)), .d (.bool (formV n x).2)] [])
  | .num k, _, hw => form_num n hn k (by unfold Nd.w at hw; omega)
  | .name v s, h, _ => by
    obtain ⟨v, rfl⟩ := Int.eq_ofNat_of_zero_le h.1
    exact form_name n hn v s (by have := h.2.1; omega) h.2.2
  | .minus x, h, hw => form_minus n hn x h hw (form_spec n hn x h hw)
  | .two op x y, h, hw => by
    unfold Nd.w at hw
    exact form_two n hn op x y h.2.1 h.2.2 hw (form_spec n hn x h.2.1 (by omega)) (form_spec n hn y h.2.2 (by omega))
end Go.Rf
