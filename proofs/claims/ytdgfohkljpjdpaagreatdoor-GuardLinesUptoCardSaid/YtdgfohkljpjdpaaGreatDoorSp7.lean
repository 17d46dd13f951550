/- Parts of the proof: SpD6, SpA1, SpA2, SpA3, SpA4, SpA5, SpA6, SpR7, SpA7, SpA8, SpC4, SpC5. -/
import Derived.Test.YtdgfohkljpjdpaaGreatDoorSp6

set_option linter.unusedSimpArgs false
set_option linter.unusedVariables false
set_option linter.unnecessarySimpa false
namespace Go.Rf
theorem q4n {xs ys : List Int} (hx : Good xs) (hy : Good ys) (hs : xs.length + ys.length < 1073741824) :
    callE T0 X0 qmy [.d (.sl (L xs)), .d (.sl (L ys))] [] = some (.ret (if nv ys = 0 then [.d (.sl []), .d (.sl []), .d (.bool false)] else [.d (.sl (L (limbs (nv xs / nv ys)))), .d (.sl (L (limbs (nv xs % nv ys)))), .d (.bool true)]) []) := by
  rw [qab (af := qe7) rfl rfl rfl]
  have s1 := qa2 hx (by omega)
  have s2 := qa2 hy (by omega)
  have h1 := qbu (qae hx).1
  have h2 := qbu (qae hy).1
  have l1 : (limbs (nv xs)).length ≤ xs.length := qa7 (qae hx).1 (qae hx).2
  have l2 : (limbs (nv ys)).length ≤ ys.length := qa7 (qae hy).1 (qae hy).2
  have g1 := qaq (nv xs)
  have g2 := qaq (nv ys)
  have c1 := qf8 (nv xs)
  have c2 := qf8 (nv ys)
  generalize limbs (nv xs) = as at *
  generalize limbs (nv ys) = bs at *
  rw [← h1, ← h2]
  have n1 := qae g1
  have n2 := qae g2
  by_cases h0 : nv bs = 0
  · have e : bs = [] := by
      rcases c2 with h | h
      · exact h
      · have := qib (bs.length - 1)
        omega
    subst e
    rw [if_pos (show nv [] = 0 from rfl)]
    simp -implicitDefEqProofs (disch := omega) [qe7, s1, s2]
  · rw [if_neg h0]
    have hbl : bs.length ≠ 0 := fun h => h0 (by rw [List.length_eq_zero_iff.1 h]; rfl)
    have s3 := q6b g1 g2 (by omega) (by omega)
    by_cases hlt : nv as < nv bs
    · have e1 : nv as / nv bs = 0 := Int.ediv_eq_zero_of_lt n1.1 hlt
      have e2 : nv as % nv bs = nv as := Int.emod_eq_of_lt n1.1 hlt
      have s4 := quw g1 (by omega)
      rw [e1, e2]
      unfold cmp at s3
      rw [if_pos hlt] at s3
      simp -implicitDefEqProofs (disch := omega) [-List.length_eq_zero_iff, qe7, s1, s2, s3, s4]
    · have h3 : ¬ cmp (nv as) (nv bs) < 0 := by
        unfold cmp
        rw [if_neg hlt]
        split <;> omega
      by_cases hl1 : bs.length = 1
      · obtain ⟨y, rfl⟩ := List.length_eq_one_iff.1 hl1
        have hy0 : nv [y] = y := by simp [nv]
        have gy := (qf9.1 g2).1
        rw [hy0] at h0 h3 s3 ⊢
        have s4 := qwh (b := y) g1 (by omega) (by omega)
        have m0 := Int.emod_nonneg (nv as) h0
        have m1 := Int.emod_lt_of_pos (nv as) (show 0 < y by omega)
        have s5 := qsr (n := nv as % y) (by omega)
        simp only [q3b, L_nil] at s2 s3
        have hw : wl [D.int .u32 y] ≤ lots := by
          have := wl_L [y]
          simp only [q3b, L_nil] at this
          unfold lots; omega
        simp -implicitDefEqProofs (disch := omega) [qe7, s1, s2, s3, s4, s5, h3, hw]
      · have hbl2 : bs.length ≤ as.length := by
          by_cases h : bs.length ≤ as.length
          · exact h
          · have := qsa g1 c2 (show as.length < bs.length by omega)
            omega
        have htop : nth bs (bs.length - 1) ≠ 0 := fun h => by
          rcases c2 with c | c
          · exact hbl (by rw [c]; rfl)
          · have := qzx g2 (k := bs.length - 1) (fun i hi => by
              by_cases e : i = bs.length - 1
              · rw [e]; exact h
              · exact qn1 (by omega))
            omega
        have s4 := q97 g1 g2 (by omega) (by omega) hbl2 htop
        simp -implicitDefEqProofs (disch := omega) [-List.length_eq_zero_iff, qe7, s1, s2, s3, s4, h3]
theorem qtc {m n q r : Int} (hn : n ≠ 0) (h : m = q * n + r) (h0 : 0 ≤ r) (h1 : r < n.natAbs) : m / n = q ∧ m % n = r := by
  have e : m % n = r := by
    rw [h, Int.add_comm, Int.add_mul_emod_self_right]
    rcases Int.lt_or_gt_of_ne hn with hn | hn
    · rw [← Int.emod_neg]
      exact Int.emod_eq_of_lt h0 (by omega)
    · exact Int.emod_eq_of_lt h0 (by omega)
  refine ⟨?_, e⟩
  have d := Int.mul_ediv_add_emod m n
  rw [e] at d
  have : n * (m / n) = n * q := by rw [Int.mul_comm n q]; omega
  exact Int.eq_of_mul_eq_mul_left hn this
def q0 (m n : Int) : Int := sg (decide (m < 0) != decide (n < 0)) ((m.natAbs : Int) / n.natAbs)
def r0 (m n : Int) : Int := sg (decide (m < 0)) ((m.natAbs : Int) % n.natAbs)
theorem qr0 (m n : Int) (hn : n ≠ 0) : m = q0 m n * n + r0 m n ∧ (r0 m n).natAbs < n.natAbs ∧ (q0 m n).natAbs ≤ m.natAbs := by
  have d := Int.mul_ediv_add_emod (m.natAbs : Int) n.natAbs
  have m0 := Int.emod_nonneg (m.natAbs : Int) (show (n.natAbs : Int) ≠ 0 by omega)
  have m1 := Int.emod_lt_of_pos (m.natAbs : Int) (show 0 < (n.natAbs : Int) by omega)
  have q1 : (m.natAbs : Int) / n.natAbs ≤ m.natAbs := Int.ediv_le_self _ (by omega)
  have q2 : 0 ≤ (m.natAbs : Int) / n.natAbs := Int.ediv_nonneg (by omega) (by omega)
  unfold q0 r0 sg
  generalize (m.natAbs : Int) / n.natAbs = q at *
  generalize (m.natAbs : Int) % n.natAbs = r at *
  have e : (n.natAbs : Int) = if n < 0 then -n else n := by split <;> omega
  rw [e] at d
  by_cases hm : m < 0 <;> by_cases hn2 : n < 0 <;> simp only [hm, hn2, decide_true, decide_false, if_true, if_false, bne_self_eq_false, Bool.false_eq_true, Bool.true_bne, Bool.false_bne, Bool.not_false] at d ⊢ <;> refine ⟨?_, by omega, by omega⟩
  · rw [Int.neg_mul, Int.mul_comm] at d; omega
  · rw [Int.mul_comm] at d; rw [Int.neg_mul]; omega
  · rw [Int.neg_mul, Int.mul_comm] at d; rw [Int.neg_mul]; omega
  · rw [Int.mul_comm] at d; omega
section walk
variable {p pn : Bool} {as bs : List Int} {qa ra Q R : Int} (h1 : as.length < 268435456) (h2 : bs.length < 268435456) (h3 : (limbs qa).length < 536870912) (h4 : (limbs ra).length < 536870912) (h5 : (limbs Q.natAbs).length < 536870912) (h6 : (limbs R.natAbs).length < 536870912)
  (s1 : callE T0 X0 qmy [.d (.sl (L as)), .d (.sl (L bs))] [] = some (.ret [.d (.sl (L (limbs qa))), .d (.sl (L (limbs ra))), .d (.bool true)] []))
  (s2 : callE T0 X0 qb4 [.d (.bool (!(p == pn))), .d (.sl (L (limbs qa)))] [] = some (.ret [.d (.agg [.bool (decide (Q < 0)), .sl (L (limbs Q.natAbs))])] []))
  (s3 : callE T0 X0 qb4 [.d (.bool p), .d (.sl (L (limbs ra)))] [] = some (.ret [.d (.agg [.bool (decide (R < 0)), .sl (L (limbs R.natAbs))])] []))
include h1 h2 h3 h4 h5 h6 s1 s2 s3
theorem dm_pos (hr : ¬ R < 0) : callE T0 X0 qgd [.d (.agg [.bool p, .sl (L as)]), .d (.agg [.bool pn, .sl (L bs)])] [] = some (.ret [.d (.agg [.bool (decide (Q < 0)), .sl (L (limbs Q.natAbs))]), .d (.agg [.bool (decide (R < 0)), .sl (L (limbs R.natAbs))]), .d (.bool true)] []) := by
  have _ := h5
  have _ := h6
  rw [qab (af := qco) rfl rfl rfl]
  simp -implicitDefEqProofs (disch := omega) [qco, s1, s2, s3]
variable {one l6 l9 : List Int} {b6 b9 : Bool} {sn : Int} (h7 : one.length < 536870912)
  (s4 : callE T0 X0 qll [.d (.int .i64 1)] [] = some (.ret [.d (.agg [.bool false, .sl (L one)])] []))
  (s5 : callE T0 X0 qid [.d (.agg [.bool pn, .sl (L bs)])] [] = some (.ret [.d (.int .i64 sn)] []))
include h7 s4 s5
theorem dm_up (hr : R < 0) (hn : sn < 0)
  (s6 : callE T0 X0 qe5 [.d (.agg [.bool (decide (Q < 0)), .sl (L (limbs Q.natAbs))]), .d (.agg [.bool false, .sl (L one)])] [] = some (.ret [.d (.agg [.bool b6, .sl (L l6)])] []))
  (s9 : callE T0 X0 qh4 [.d (.agg [.bool true, .sl (L (limbs R.natAbs))]), .d (.agg [.bool pn, .sl (L bs)])] [] = some (.ret [.d (.agg [.bool b9, .sl (L l9)])] [])) :
  callE T0 X0 qgd [.d (.agg [.bool p, .sl (L as)]), .d (.agg [.bool pn, .sl (L bs)])] [] = some (.ret [.d (.agg [.bool b6, .sl (L l6)]), .d (.agg [.bool b9, .sl (L l9)]), .d (.bool true)] []) := by
  rw [qab (af := qco) rfl rfl rfl]
  simp -implicitDefEqProofs (disch := omega) [qco, s1, s2, s3, s4, s5, s6, s9]
theorem dm_dn (hr : R < 0) (hn : ¬ sn < 0)
  (s6 : callE T0 X0 qh4 [.d (.agg [.bool (decide (Q < 0)), .sl (L (limbs Q.natAbs))]), .d (.agg [.bool false, .sl (L one)])] [] = some (.ret [.d (.agg [.bool b6, .sl (L l6)])] []))
  (s9 : callE T0 X0 qe5 [.d (.agg [.bool true, .sl (L (limbs R.natAbs))]), .d (.agg [.bool pn, .sl (L bs)])] [] = some (.ret [.d (.agg [.bool b9, .sl (L l9)])] [])) :
  callE T0 X0 qgd [.d (.agg [.bool p, .sl (L as)]), .d (.agg [.bool pn, .sl (L bs)])] [] = some (.ret [.d (.agg [.bool b6, .sl (L l6)]), .d (.agg [.bool b9, .sl (L l9)]), .d (.bool true)] []) := by
  rw [qab (af := qco) rfl rfl rfl]
  simp -implicitDefEqProofs (disch := omega) [qco, s1, s2, s3, s4, s5, s6, s9]
end walk
theorem q8n {m n : Int} (hm : nl m < 268435456) (hn : nl n < 268435456) :
    callE T0 X0 qgd [.d (Wd m), .d (Wd n)] [] = some (.ret (if n = 0 then [.d (Wd 0), .d (Wd 0), .d (.bool false)] else [.d (Wd (m / n)), .d (Wd (m % n)), .d (.bool true)]) []) := by
  have s1 := q4n (qaq m.natAbs) (qaq n.natAbs) (by unfold nl at hm hn; omega)
  rw [qng, qng] at s1
  by_cases h0 : n = 0
  · subst h0
    rw [qab (af := qco) rfl rfl rfl]
    rw [if_pos (show ((Int.natAbs 0 : Nat) : Int) = 0 from rfl)] at s1
    rw [if_pos rfl]
    simp only [nl] at hm
    simp only [Wd, Int.natAbs_zero, Int.cast_ofNat_Int, qxw, L_nil] at s1 ⊢
    simp -implicitDefEqProofs (disch := omega) [qco, s1]
  · rw [if_neg h0]
    rw [if_neg (by omega)] at s1
    obtain ⟨e1, e2, e3⟩ := qr0 m n h0
    have lm := lt_nl m
    have ln := lt_nl n
    have nq : nl (q0 m n) ≤ nl m := nl_lt (by omega) (by omega)
    have nr : nl (r0 m n) ≤ nl n := nl_lt (by omega) (by omega)
    have hq0 : 0 ≤ (m.natAbs : Int) / n.natAbs := Int.ediv_nonneg (by omega) (by omega)
    have hr0 := Int.emod_nonneg (m.natAbs : Int) (show (n.natAbs : Int) ≠ 0 by omega)
    have k1 : (limbs ((m.natAbs : Int) / n.natAbs)).length ≤ nl m := qa7 hq0 (by have := Int.ediv_le_self (a := (m.natAbs : Int)) (n.natAbs : Int) (by omega); omega)
    have k2 : (limbs ((m.natAbs : Int) % n.natAbs)).length ≤ nl n := qa7 hr0 (by have := Int.emod_lt_of_pos (m.natAbs : Int) (show 0 < (n.natAbs : Int) by omega); omega)
    have s2 := qgs (decide (m < 0) != decide (n < 0)) hq0 (by omega)
    have s3 := qgs (decide (m < 0)) hr0 (by omega)
    change _ = some (CRes.ret [.d (Wd (q0 m n))] []) at s2
    change _ = some (CRes.ret [.d (Wd (r0 m n))] []) at s3
    have s4 := quc (n := 1) (by omega)
    have s5 := qyd (m := n) (by omega)
    by_cases hr : r0 m n < 0
    · have hrd : decide (r0 m n < 0) = true := decide_eq_true hr
      by_cases hneg : n < 0
      · obtain ⟨d1, d2⟩ := qtc (m := m) (n := n) (q := q0 m n + 1) (r := r0 m n - n) h0 (by rw [Int.add_mul, Int.one_mul]; omega) (by omega) (by omega)
        rw [d1, d2]
        have s6 := q8p (m := q0 m n) (n := 1) (by omega) (by decide)
        have s9 := zd3 (m := r0 m n) (n := n) (by omega) (by omega)
        have hsg : n.sign < 0 := by rw [Int.sign_eq_neg_one_of_neg hneg]; decide
        unfold Wd at s9
        rw [hrd] at s9
        exact dm_up (by unfold nl at hm; omega) (by unfold nl at hn; omega) (by omega) (by omega) (by unfold nl at nq hm; omega) (by unfold nl at nr hn; omega) s1 s2 s3 (by decide) s4 s5 hr hsg s6 s9
      · obtain ⟨d1, d2⟩ := qtc (m := m) (n := n) (q := q0 m n - 1) (r := r0 m n + n) h0 (by rw [Int.sub_mul, Int.one_mul]; omega) (by omega) (by omega)
        rw [d1, d2]
        have s6 := zd3 (m := q0 m n) (n := 1) (by omega) (by decide)
        have s9 := q8p (m := r0 m n) (n := n) (by omega) (by omega)
        have hsg : ¬ n.sign < 0 := by rw [Int.sign_eq_one_of_pos (by omega)]; decide
        unfold Wd at s9
        rw [hrd] at s9
        exact dm_dn (by unfold nl at hm; omega) (by unfold nl at hn; omega) (by omega) (by omega) (by unfold nl at nq hm; omega) (by unfold nl at nr hn; omega) s1 s2 s3 (by decide) s4 s5 hr hsg s6 s9
    · obtain ⟨d1, d2⟩ := qtc (q := q0 m n) (r := r0 m n) h0 e1 (by omega) (by omega)
      rw [d1, d2]
      exact dm_pos (by unfold nl at hm; omega) (by unfold nl at hn; omega) (by omega) (by omega) (by unfold nl at nq hm; omega) (by unfold nl at nr hn; omega) s1 s2 s3 hr
end Go.Rf

namespace Go.Rf
def WL (l : List Int) : List D := l.map Wd
def WV (l : List Int) : List V := l.map fun n => .d (Wd n)
@[simp] theorem WL_len (l) : (WL l).length = l.length := by simp [WL]
@[simp] theorem WV_len (l) : (WV l).length = l.length := by simp [WV]
@[simp] theorem zfc : WV [] = [] := rfl
@[simp] theorem WV_take (l n) : (WV l).take n = WV (l.take n) := by simp [WV, List.map_take]
@[simp] theorem WL_take (l n) : (WL l).take n = WL (l.take n) := by simp [WL, List.map_take]
@[simp] theorem WV_app1 (l : List Int) (n : Int) : WV l ++ [.d (Wd n)] = WV (l ++ [n]) := by simp [WV]
@[simp] theorem WV_set (l : List Int) (i : Nat) (n : Int) : (WV l).set i (.d (Wd n)) = WV (l.set i n) := by simp [WV, List.map_set]
@[simp] theorem WV_rep (n : Nat) (y : Int) : List.replicate n (V.d (Wd y)) = WV (List.replicate n y) := by simp [WV]
@[simp] theorem Wd_0' : V.d (.agg [.bool false, .sl []]) = V.d (Wd 0) := rfl
@[simp] theorem WV_rep0 (n : Nat) : List.replicate n (V.d (.agg [.bool false, .sl []])) = WV (List.replicate n 0) := WV_rep n 0
@[simp] theorem zfd (l) : (WL l).map V.d = WV l := by simp [WL, WV, Function.comp_def]
@[simp] theorem allD_WV (l) : allD (WV l) = some (WL l) := by rw [← zfd]; exact q6n _
@[simp] theorem rens_WV (al : Loc → Bool) (l : List Int) (m : List Loc) : rens al (WV l) m = (WV l, m) := by rw [← zfd]; exact qpo ..
@[simp] theorem mapLs_WV (f : Loc → Loc) (l : List Int) : mapLs f (WV l) = WV l := by
  induction l with
  | nil => rfl
  | cons x xs ih =>
    show V.mapL f (.d _) :: mapLs f (WV xs) = _
    rw [ih]
    rfl
@[simp] theorem frzL_WV (h : Loc → Option Obj) (k : Nat) (l : List Int) : frzL (frz h (k + 1)) (WV l) = some (WL l, []) := by
  induction l with
  | nil => rfl
  | cons x xs ih =>
    show frzL (frz h (k + 1)) (.d _ :: WV xs) = _
    simp only [frzL, ih]
    rfl
theorem wl_WL (l : List Int) : wl (WL l) ≤ 32 := by
  induction l with
  | nil => simp [WL, wl]
  | cons x xs ih =>
    show max (wt (Wd x)) (wl (WL xs)) ≤ 32
    have : wt (Wd x) = 25 := rfl
    omega
@[simp] theorem wl_WL32 (l) : (wl (WL l) ≤ 32) = True := eq_true (wl_WL l)
@[simp] theorem fit_WL {n : Nat} {l : List Int} (h : n ≤ 1099511627) : (n * wl (WL l) ≤ lots) = True := eq_true (Nat.le_trans (Nat.mul_le_mul h (wl_WL l)) (by unfold lots; omega))
@[simp] theorem WV_cells (l) : (∀ x ∈ WV l, x.cells.length = 2) = True := eq_true (by
  intro x hx
  obtain ⟨n, _, rfl⟩ := List.mem_map.1 hx
  rfl)
@[simp] theorem WL_cells (l) : (∀ x ∈ WL l, x.cells.length = 2) = True := eq_true (by
  intro x hx
  obtain ⟨n, _, rfl⟩ := List.mem_map.1 hx
  rfl)
theorem WL_get {l : List Int} {i : Nat} (h : i < l.length) : (WL l)[i]? = some (Wd (nth l i)) := by simp [WL, nth, h]
theorem q3a {l : List Int} {i : Nat} (h : i < l.length) : (WV l)[i]? = some (.d (Wd (nth l i))) := by simp [WV, nth, h]
attribute [simp] WL_get q3a
@[simp] theorem cells_Wd (n : Int) : (Wd n).cells.length = 2 := rfl
@[simp] theorem vcells_Wd (n : Int) : (V.cells (.d (Wd n))).length = 2 := rfl
@[simp] theorem aggO_Wd (n) : aggO (List.take 2 (V.d (Wd n)).cells) (allD (List.take 2 (V.d (Wd n)).cells)) = .d (Wd n) := rfl
@[simp] theorem take2_Wd (n) : List.take 2 (V.d (Wd n)).cells = (V.d (Wd n)).cells := rfl
@[simp] theorem aggO_Wd' (n) : aggO (V.d (Wd n)).cells (allD (V.d (Wd n)).cells) = .d (Wd n) := rfl
theorem zhm {n : Int} (h : nl n < 1099511627776) : fitV (.d (Wd n)) = true := by
  have : wl (L (limbs n.natAbs)) ≤ 4 := wl_L _
  have h2 : (limbs n.natAbs).length * wl (L (limbs n.natAbs)) ≤ 1099511627776 * 4 := Nat.mul_le_mul (Nat.le_of_lt h) this
  simp [Wd, fitV, fitC]
  unfold lots; omega
attribute [simp] zhm
@[simp] theorem nl_0 : nl 0 = 0 := rfl
@[simp] theorem nl_1 : nl 1 = 1 := rfl
@[simp] theorem nl_m1 : nl (-1) = 1 := rfl
@[simp] theorem fitV_Wd0 : fitV (.d (Wd 0)) = true := rfl
@[simp] theorem fitV_Wd1 : fitV (.d (Wd 1)) = true := rfl
@[simp] theorem fitV_Wdm1 : fitV (.d (Wd (-1))) = true := rfl
@[simp] theorem loadV_Wd (h n) : loadV h 2 true (.d (.box (Wd n))) = val (.d (Wd n)) := by simp [Wd]
@[simp] theorem setPart_Wd (x n : Int) : qd8 (.d (Wd x)) 0 (.d (Wd n)) = some (.d (Wd n)) := by simp [Wd, qd8]
theorem q6z (k : Int) (f : List Int) (hf : f.length ≤ 1000) (hk : nl k < 1073741824) (hb : ∀ i, i < f.length → nl (nth f i) < 1073741824) : ∀ d i (out : List Int) (e : List (Nat × V)), d + i = f.length → out.length = i →
    codeX T0 X0 0 qhy (some (.nrm, ⟨(3, .ptr (.b 0) 0 0) :: (5, .ref (.b 1) ⟨2, 32⟩ 0 i) :: (8, .d (.sl (WL f))) :: (9, .d (.int .i64 f.length)) :: (10, .d (.int .i64 i)) :: e, [.arr [.d (Wd k)] ⟨2, 0⟩, .arr (WV out) ⟨2, 32⟩]⟩)) =
      some (.exit 0, ⟨[(5, .ref (.b 0) ⟨2, 32⟩ 0 f.length)], [.arr (WV (out ++ (f.map (· * k)).drop i)) ⟨2, 32⟩]⟩) := by
  intro d
  induction d with
  | zero =>
    intro i out e hd ho
    rw [qac (l := qhy) rfl]
    have h1 : (f.map (· * k)).drop i = [] := List.drop_eq_nil_of_le (by simp; omega)
    have h2 : i = f.length := by omega
    subst h2
    have h3 : (f.map (· * k)).drop f.length = [] := h1
    simp -implicitDefEqProofs (disch := omega) [qky, h3]
  | succ d ih =>
    intro i out e hd ho
    rw [qac (l := qhy) rfl]
    have hi : i < f.length := by omega
    have h1 : (f.map (· * k)).drop i = (nth f i * k) :: (f.map (· * k)).drop (i + 1) := by rw [List.drop_eq_getElem_cons (by simpa using hi)]; simp [nth, hi]
    have hbi := hb i hi
    have s1 := wmul_W (m := nth f i) (n := k) (hb i hi) hk
    have s2 := fun e => ih (i + 1) (out ++ [nth f i * k]) e (by omega) (by simp [ho])
    have ht : out.take i = out := by rw [← ho]; exact List.take_length
    simp only [Int.natCast_add, Int.cast_ofNat_Int] at s2
    rw [h1]
    simp -implicitDefEqProofs (disch := omega) [qky, s1, s2, ht]
theorem qpm {k : Int} {f : List Int} (hf : f.length ≤ 1000) (hk : nl k < 1073741824) (hb : ∀ i, i < f.length → nl (nth f i) < 1073741824) :
    callE T0 X0 qiu [.d (.sl (WL f)), .d (Wd k)] [] = some (.ret [.d (.sl (WL (f.map (· * k))))] []) := by
  rw [qab (af := qlh) rfl rfl rfl]
  have h := fun e => q6z k f hf hk hb f.length 0 [] e rfl rfl
  simp only [Int.cast_ofNat_Int, List.length_nil, zfc, List.nil_append, List.drop_zero] at h
  have ht : (f.map (· * k)).take f.length = f.map (· * k) := by rw [List.take_of_length_le]; simp
  simp -implicitDefEqProofs (disch := omega) [qlh, h, ht]
theorem q0f (f g : List Int) (n : Nat) (hf : n ≤ 1000) (hb : ∀ i, i < n → nl (nth g i) < 1073741824) (hn : g.length = n) : ∀ d i (e : List (Nat × V)), d + i = n →
    codeX T0 X0 0 qf5 (some (.nrm, ⟨(0, .d (.sl (WL f))) :: (2, .ptr (.b 0) 0 0) :: (4, .d (.int .i64 n)) :: (12, .d (.sl (WL g))) :: (13, .d (.int .i64 n)) :: (14, .d (.int .i64 i)) :: e, [.arr [.d (Wd 0)] ⟨2, 0⟩]⟩)) =
      some (if g.drop i = List.replicate d 0 then (.exit 0, ⟨[(0, .d (.sl (WL f))), (2, .ptr (.b 0) 0 0), (4, .d (.int .i64 n))], [.arr [.d (Wd 0)] ⟨2, 0⟩]⟩) else (.ret, ⟨[(2, .ptr (.b 0) 0 0), (3, .d (.bool false))], [.arr [.d (Wd 0)] ⟨2, 0⟩]⟩)) := by
  intro d
  induction d with
  | zero =>
    intro i e hd
    rw [qac (l := qf5) rfl]
    have h1 : g.drop i = [] := List.drop_eq_nil_of_le (by omega)
    rw [h1]
    simp only [List.replicate_zero, if_pos]
    simp -implicitDefEqProofs (disch := omega) [qf6]
  | succ d ih =>
    intro i e hd
    rw [qac (l := qf5) rfl]
    have hi : i < n := by omega
    have h1 : g.drop i = nth g i :: g.drop (i + 1) := by rw [List.drop_eq_getElem_cons (by omega)]; simp [nth, hn ▸ hi]
    have s1 := qyd (m := nth g i) (hb i hi)
    have s2 := fun e => ih (i + 1) e (by omega)
    simp only [Int.natCast_add, Int.cast_ofNat_Int] at s2
    have hbi := hb i hi
    rw [h1]
    by_cases hz : nth g i = 0
    · simp only [hz, List.replicate_succ, List.cons.injEq, true_and, Int.sign_zero] at s1 ⊢
      simp -implicitDefEqProofs (disch := omega) [qf6, hz, s1, s2]
    · rw [if_neg (by simp [List.replicate_succ, hz])]
      have h2 : (nth g i).sign ≠ 0 := by simpa using hz
      simp -implicitDefEqProofs (disch := omega) [qf6, s1, h2]
def qer (f : List Int) : Int × Bool := if f.take (f.length - 1) = List.replicate (f.length - 1) 0 then (nth f (f.length - 1), true) else (0, false)
theorem qsh {f : List Int} (hf : f.length ≤ 1000) (h0 : 0 < f.length) (hb : ∀ i, i < f.length → nl (nth f i) < 1073741824) :
    callE T0 X0 qkv [.d (.sl (WL f))] [] = some (.ret [.d (Wd (qer f).1), .d (.bool (qer f).2)] []) := by
  obtain ⟨n, hn⟩ : ∃ n, f.length = n + 1 := ⟨f.length - 1, by omega⟩
  rw [qab (af := qgb) rfl rfl rfl]
  have hg : ∀ i, i < n → nth (f.take n) i = nth f i := fun i hi => by simp [nth, hi]
  have h := fun e => q0f f (f.take n) n (by omega) (fun i hi => by rw [hg i hi]; exact hb i (by omega)) (by simp; omega) n 0 e (by omega)
  simp only [Int.cast_ofNat_Int, List.drop_zero] at h
  unfold qer
  rw [hn, Nat.add_sub_cancel]
  by_cases c : f.take n = List.replicate n 0
  · simp only [if_pos c] at h ⊢
    simp -implicitDefEqProofs (disch := omega) [qgb, h, hn]
  · simp only [if_neg c] at h ⊢
    simp -implicitDefEqProofs (disch := omega) [qgb, h, hn]
end Go.Rf

namespace Go.Rf
@[simp] theorem WL_nil : WL [] = [] := rfl
theorem q24 (l r : List Int) (N : Nat) (hN : N ≤ 1000) (hl : l.length = N) (hr : r.length = N) (bl : ∀ i, i < N → nl (nth l i) < 1073741824) (br : ∀ i, i < N → nl (nth r i) < 1073741824) : ∀ d i (out : List Int) (e : List (Nat × V)), d + i = N → out.length = N →
    codeX T0 X0 0 qjf (some (.nrm, ⟨(1, .d (.sl (WL l))) :: (2, .d (.sl (WL r))) :: (12, .ref (.b 0) ⟨2, 32⟩ 0 N) :: (41, .d (.int .i64 N)) :: (42, .d (.int .i64 i)) :: e, [.arr (WV out) ⟨2, 32⟩]⟩)) =
      some (.exit 1, ⟨[(12, .ref (.b 0) ⟨2, 32⟩ 0 N)], [.arr (WV (out.take i ++ (List.zipWith (· + ·) l r).drop i)) ⟨2, 32⟩]⟩) := by
  intro d
  induction d with
  | zero =>
    intro i out e hd ho
    rw [qac (l := qjf) rfl]
    have h1 : (List.zipWith (· + ·) l r).drop i = [] := List.drop_eq_nil_of_le (by simp; omega)
    have h2 : out.take i = out := List.take_of_length_le (by omega)
    rw [h1, h2]
    simp -implicitDefEqProofs (disch := omega) [ql9]
  | succ d ih =>
    intro i out e hd ho
    rw [qac (l := qjf) rfl]
    have hi : i < N := by omega
    have h1 : (List.zipWith (· + ·) l r).drop i = (nth l i + nth r i) :: (List.zipWith (· + ·) l r).drop (i + 1) := by
      rw [List.drop_eq_getElem_cons (by simp; omega)]
      simp [nth, hl, hr, hi]
    have hbl := bl i hi
    have hbr := br i hi
    have s1 := q8p hbl hbr
    have s2 := fun e => ih (i + 1) (out.set i (nth l i + nth r i)) e (by omega) (by simp [ho])
    have h3 : (out.set i (nth l i + nth r i)).take (i + 1) = out.take i ++ [nth l i + nth r i] := by
      rw [qri (by simp; omega), List.take_set_of_le (Nat.le_refl _), qjm (by omega), if_pos rfl]
    rw [h1]
    rw [List.append_cons, ← h3]
    generalize nth l i + nth r i = x at *
    simp only [Int.natCast_add, Int.cast_ofNat_Int] at s2
    simp -implicitDefEqProofs (disch := omega) [ql9, s1, s2]
def bothV (op : Int) (l r : List Int) : List Int × Bool :=
  if op = 43 then (List.zipWith (· + ·) l r, true)
  else if op = 45 then (List.zipWith (· + ·) l (r.map (· * -1)), true)
  else if op = 42 then (if (qer l).2 = true then (r.map (· * (qer l).1), true) else (l.map (· * (qer r).1), (qer r).2))
  else if (qer l).2 = true ∧ (qer r).2 = true ∧ (qer r).1 ≠ 0 then
    ((List.replicate l.length 0).set (l.length - 1) (if op = 37 then (qer l).1 % (qer r).1 else (qer l).1 / (qer r).1), true)
  else ([], false)
theorem q2w {f : List Int} {k : Nat} (hb : ∀ i, i < f.length → nl (nth f i) < k) (h0 : 0 < k) (h1 : 0 < f.length) : nl (qer f).1 < k := by
  unfold qer
  split
  · exact hb _ (by omega)
  · exact h0
theorem qzy {f : List Int} (g : Int → Int) {i : Nat} (h : i < f.length) : nth (f.map g) i = g (nth f i) := by simp [nth, h]
theorem q92 (n : Int) : nl (-n) = nl n := by unfold nl; rw [Int.natAbs_neg]
theorem zbb {op : Int} {l r : List Int} {N : Nat} (hN : N ≤ 1000) (h0 : 0 < N) (hl : l.length = N) (hr : r.length = N) (bl : ∀ i, i < N → nl (nth l i) < 134217728) (br : ∀ i, i < N → nl (nth r i) < 134217728) :
    callE T0 X0 qt0 [.d (.int .u8 op), .d (.sl (WL l)), .d (.sl (WL r))] [] = some (.ret [.d (.sl (WL (bothV op l r).1)), .d (.bool (bothV op l r).2)] []) := by
  subst hl
  have cl := q2w bl (by omega) h0
  have cr := q2w (f := r) (fun i hi => br i (by omega)) (by omega) (by omega)
  have s1 := qsh (f := l) hN h0 (fun i hi => by have := bl i hi; omega)
  have s2 := qsh (f := r) (by omega) (by omega) (fun i hi => by have := br i (by omega); omega)
  rw [qab (af := qc3) rfl rfl rfl]
  unfold bothV
  by_cases o1 : op = 43
  · rw [if_pos o1]
    have lp := fun e => q24 l r l.length hN rfl hr (fun i hi => by have := bl i hi; omega) (fun i hi => by have := br i hi; omega) l.length 0 (List.replicate l.length 0) e (by omega) (by simp)
    simp only [Int.cast_ofNat_Int, List.drop_zero, List.take_zero, List.nil_append] at lp
    have ht : (List.zipWith (· + ·) l r).take l.length = List.zipWith (· + ·) l r := List.take_of_length_le (by simp; omega)
    subst o1
    simp -implicitDefEqProofs (disch := omega) [qc3, s1, s2, lp, ht]
  · rw [if_neg o1]
    by_cases o2 : op = 45
    · rw [if_pos o2]
      have s3 := qpm (f := r) (k := -1) (by omega) (by decide) (fun i hi => by have := br i (by omega); omega)
      have s4 := quc (n := -1) (by omega)
      have lp := fun e => q24 l (r.map (· * -1)) l.length hN rfl (by simpa using hr) (fun i hi => by have := bl i hi; omega) (fun i hi => by
        rw [qzy _ (by omega), Int.mul_neg, Int.mul_one, q92]
        have := br i hi; omega) l.length 0 (List.replicate l.length 0) e (by omega) (by simp)
      simp only [Int.cast_ofNat_Int, List.drop_zero, List.take_zero, List.nil_append] at lp
      have ht : (List.zipWith (· + ·) l (r.map (· * -1))).take l.length = List.zipWith (· + ·) l (r.map (· * -1)) := List.take_of_length_le (by simp; omega)
      have hr' : (r.map (· * -1)).length = l.length := by simpa using hr
      generalize r.map (· * -1) = r' at *
      subst o2
      simp -implicitDefEqProofs (disch := omega) [qc3, s1, s2, s3, s4, lp, ht]
    · rw [if_neg o2]
      by_cases o3 : op = 42
      · rw [if_pos o3]
        subst o3
        cases hc : (qer l).2 with
        | true =>
          rw [hc] at s1
          rw [if_pos rfl]
          have s3 := qpm (f := r) (k := (qer l).1) (by omega) (by omega) (fun i hi => by have := br i (by omega); omega)
          simp -implicitDefEqProofs (disch := omega) [qc3, s1, s2, s3]
        | false =>
          rw [hc] at s1
          rw [if_neg (by decide)]
          have s3 := qpm (f := l) (k := (qer r).1) (by omega) (by omega) (fun i hi => by have := bl i (by omega); omega)
          simp -implicitDefEqProofs (disch := omega) [qc3, s1, s2, s3]
      · rw [if_neg o3]
        have s3 := q8n (m := (qer l).1) (n := (qer r).1) (by omega) (by omega)
        generalize hc1 : (qer l).2 = c1 at *
        generalize hc2 : (qer r).2 = c2 at *
        generalize hx : (qer l).1 = x at *
        generalize hy : (qer r).1 = y at *
        by_cases hz : y = 0
        · rw [if_neg (by simp [hz])]
          rw [if_pos hz] at s3
          subst hz
          cases c1 <;> cases c2 <;> simp -implicitDefEqProofs (disch := omega) [qc3, s1, s2, s3, o1, o2, o3]
        · rw [if_neg hz] at s3
          cases c1 with
          | false =>
            rw [if_neg (by simp)]
            simp -implicitDefEqProofs (disch := omega) [qc3, s1, s2, s3, o1, o2, o3]
          | true =>
            cases c2 with
            | false =>
              rw [if_neg (by simp)]
              simp -implicitDefEqProofs (disch := omega) [qc3, s1, s2, s3, o1, o2, o3]
            | true =>
              rw [if_pos ⟨rfl, rfl, hz⟩]
              generalize x / y = q at *
              generalize x % y = m at *
              have ht : ∀ v : Int, ((List.replicate l.length 0).set (l.length - 1) v).take l.length = (List.replicate l.length 0).set (l.length - 1) v := fun v => List.take_of_length_le (by simp)
              have hg1 : (WV (List.replicate l.length 0))[l.length - 1]? = some (.d (Wd 0)) := by rw [q3a (by simp; omega)]; simp [nth, List.getD_eq_getElem?_getD, List.getElem?_replicate, h0]; rw [if_pos (by omega)]; rfl
              have hg2 : ∀ v : Int, (WV ((List.replicate l.length 0).set (l.length - 1) v))[l.length - 1]? = some (.d (Wd v)) := fun v => by rw [q3a (by simp; omega), qjm (by simp; omega), if_pos rfl]
              by_cases o4 : op = 37
              · rw [if_pos o4]
                subst o4
                simp -implicitDefEqProofs (disch := omega) [qc3, s1, s2, s3, ht, hg1, hg2]
              · rw [if_neg o4]
                simp -implicitDefEqProofs (disch := omega) [qc3, s1, s2, s3, ht, hg1, o1, o2, o3, o4]
end Go.Rf

namespace Go.Rf
def formV (n : Nat) : Nd → List Int × Bool
  | .num k => ((List.replicate (n + 1) 0).set n k, true)
  | .name v _ => ((List.replicate (n + 1) 0).set v.toNat 1, true)
  | .minus x => ((formV n x).1.map (· * -1), (formV n x).2)
  | .two op x y => if (formV n x).2 = true ∧ (formV n y).2 = true then bothV op (formV n x).1 (formV n y).1 else ([], false)
def Nd.w : Nd → Nat
  | .num k => nl k + 1
  | .name _ _ => 1
  | .minus x => x.w
  | .two _ x y => x.w + y.w
def Nd.fine (n : Nat) : Nd → Prop
  | .num _ => True
  | .name v s => 0 ≤ v ∧ v < n ∧ s.length ≤ 1100000
  | .minus x => x.fine n
  | .two op x y => (op = 43 ∨ op = 45 ∨ op = 42 ∨ op = 47 ∨ op = 37) ∧ x.fine n ∧ y.fine n
theorem Nd.w_pos : ∀ x : Nd, 0 < x.w
  | .num k => by unfold Nd.w; omega
  | .name _ _ => by unfold Nd.w; omega
  | .minus x => by unfold Nd.w; exact x.w_pos
  | .two _ x y => by unfold Nd.w; have := x.w_pos; omega
theorem q1g {k : Nat} (h : 0 < k) : 4294967296 ≤ pw k := by
  have := pw_le (m := 1) (n := k) h
  simpa [pw] using this
theorem zep {a b : Int} {k m : Nat} (ha : nl a ≤ k) (hb : nl b ≤ m) (hk : 0 < k) (hm : 0 < m) : nl (a + b) ≤ k + m := by
  have h1 := lt_nl a
  have h2 := lt_nl b
  have p1 := pw_le ha
  have p2 := pw_le hb
  have q1 := q1g hk
  have q2 := q1g hm
  have e : pw (k + m) = pw k * pw m := qrs m k
  have e1 : pw k * 4294967296 ≤ pw k * pw m := Int.mul_le_mul_of_nonneg_left q2 (by omega)
  have e2 : 4294967296 * pw m ≤ pw k * pw m := Int.mul_le_mul_of_nonneg_right q1 (by omega)
  exact nl_lt (by omega) (by omega)
theorem zeo {a b : Int} {k m : Nat} (ha : nl a ≤ k) (hb : nl b ≤ m) : nl (a * b) ≤ k + m := by
  have h1 := lt_nl a
  have h2 := lt_nl b
  have p1 := pw_le ha
  have p2 := pw_le hb
  have e : pw (k + m) = pw k * pw m := qrs m k
  have e1 : ((a * b).natAbs : Int) < pw k * pw m := by
    rw [Int.natAbs_mul, Int.natCast_mul]
    exact Int.lt_of_le_of_lt (Int.mul_le_mul_of_nonneg_left (Int.le_of_lt (Int.lt_of_lt_of_le h2 p2)) (by omega)) (Int.mul_lt_mul_of_pos_right (by omega) (qib m))
  exact nl_lt (by omega) (by omega)
theorem zc6 {a b : Int} (h : a.natAbs ≤ b.natAbs) : nl a ≤ nl b := by
  have := lt_nl b
  exact nl_lt (by omega) (by omega)
theorem nl_div (a b : Int) : nl (a / b) ≤ nl a + 1 := by
  have h1 := lt_nl a
  have h2 : (a / b).natAbs ≤ a.natAbs + 1 := by
    by_cases hb : b = 0
    · subst hb; simp
    · obtain ⟨e1, e2, e3⟩ := qr0 a b hb
      by_cases hr : r0 a b < 0
      · by_cases hn : b < 0
        · rw [(qtc (m := a) (n := b) (q := q0 a b + 1) (r := r0 a b - b) hb (by rw [Int.add_mul, Int.one_mul]; omega) (by omega) (by omega)).1]
          omega
        · rw [(qtc (m := a) (n := b) (q := q0 a b - 1) (r := r0 a b + b) hb (by rw [Int.sub_mul, Int.one_mul]; omega) (by omega) (by omega)).1]
          omega
      · rw [(qtc (m := a) (n := b) (q := q0 a b) (r := r0 a b) hb e1 (by omega) (by omega)).1]
        omega
  have := qib (nl a)
  exact nl_lt (by rw [qox]; omega) (by rw [qox]; omega)
theorem nl_mod (a b : Int) (h : b ≠ 0) : nl (a % b) ≤ nl b := by
  have m0 := Int.emod_nonneg a h
  have m1 := Int.emod_lt a h
  exact zc6 (by omega)
theorem q4a (n i : Nat) : nth (List.replicate n 0) i = 0 := by
  simp only [nth, List.getD_eq_getElem?_getD, List.getElem?_replicate]
  split <;> rfl
theorem qqw {n k : Nat} (h : k < n) (v : Int) (i : Nat) : nth ((List.replicate n 0).set k v) i = if i = k then v else 0 := by
  rw [qjm (by simpa using h)]
  split
  · rfl
  · exact q4a ..
structure Sh (n w : Nat) (f : List Int) : Prop where
  l : f.length = n + 1
  b : ∀ i, i < n + 1 → nl (nth f i) ≤ w
theorem q59 {n w : Nat} {f : List Int} (h : Sh n w f) : nl (qer f).1 ≤ w := by
  unfold qer
  split
  · exact h.b _ (by have := h.l; omega)
  · show nl 0 ≤ w
    simp
theorem zii {n a b : Nat} {f g : List Int} (op : Int) (ha : 0 < a) (hb : 0 < b) (hf : Sh n a f) (hg : Sh n b g) : (bothV op f g).1 = [] ∧ (bothV op f g).2 = false ∨ Sh n (a + b) (bothV op f g).1 := by
  have l1 := hf.l
  have l2 := hg.l
  have cf := q59 hf
  have cg := q59 hg
  unfold bothV
  split
  · refine .inr ⟨by simp [l1, l2], fun i hi => ?_⟩
    have e : nth (List.zipWith (· + ·) f g) i = nth f i + nth g i := by simp [nth, l1, l2, hi]
    rw [e]
    exact zep (hf.b i hi) (hg.b i hi) ha hb
  split
  · refine .inr ⟨by simp [l1, l2], fun i hi => ?_⟩
    have e : nth (List.zipWith (· + ·) f (g.map (· * -1))) i = nth f i + nth g i * -1 := by simp [nth, l1, l2, hi]
    rw [e]
    exact zep (hf.b i hi) (by rw [Int.mul_neg, Int.mul_one, q92]; exact hg.b i hi) ha hb
  split
  · split
    · refine .inr ⟨by simp [l2], fun i hi => ?_⟩
      rw [qzy _ (by omega)]
      rw [Nat.add_comm]
      exact zeo (hg.b i hi) cf
    · refine .inr ⟨by simp [l1], fun i hi => ?_⟩
      rw [qzy _ (by omega)]
      exact zeo (hf.b i hi) cg
  split
  · rename_i c
    refine .inr ⟨by simp [l1], fun i hi => ?_⟩
    rw [qqw (by omega)]
    split
    · split
      · have := nl_mod (qer f).1 _ c.2.2
        omega
      · have := nl_div (qer f).1 (qer g).1
        omega
    · simp
  · exact .inl ⟨rfl, rfl⟩
theorem qs8 (n : Nat) : ∀ x : Nd, x.fine n → (formV n x).1 = [] ∧ (formV n x).2 = false ∨ Sh n x.w (formV n x).1
  | .num k, _ => by
    refine .inr ⟨by simp [formV], fun i hi => ?_⟩
    unfold formV Nd.w
    rw [qqw (by omega)]
    split <;> simp
  | .name v s, h => by
    unfold Nd.fine at h
    refine .inr ⟨by simp [formV], fun i hi => ?_⟩
    unfold formV Nd.w
    rw [qqw (by omega)]
    split <;> simp
  | .minus x, h => by
    unfold formV Nd.w
    rcases qs8 n x h with ⟨e, f⟩ | c
    · exact .inl ⟨by simp [e], f⟩
    · have := c.l
      refine .inr ⟨by simpa using c.l, fun i hi => ?_⟩
      rw [qzy _ (by omega), Int.mul_neg, Int.mul_one, q92]
      exact c.b i hi
  | .two op x y, h => by
    unfold formV Nd.w
    split
    · rename_i c
      rcases qs8 n x h.2.1 with ⟨e, f⟩ | c1
      · rw [f] at c; cases c.1
      rcases qs8 n y h.2.2 with ⟨e, f⟩ | c2
      · rw [f] at c; cases c.2
      exact zii op x.w_pos y.w_pos c1 c2
    · exact .inl ⟨rfl, rfl⟩
end Go.Rf

namespace Go.Rf
@[simp] theorem zb8 : (qcp = qei) = False := eq_false (by decide)
@[simp] theorem zbt : (qcp = qdj) = False := eq_false (by decide)
@[simp] theorem zd6 : (qcp = qce) = False := eq_false (by decide)
@[simp] theorem zb9 : (qei = qcp) = False := eq_false (by decide)
@[simp] theorem zd7 : (qei = qdj) = False := eq_false (by decide)
@[simp] theorem t_Name_Two : (qei = qce) = False := eq_false (by decide)
@[simp] theorem zbu : (qdj = qcp) = False := eq_false (by decide)
@[simp] theorem zd8 : (qdj = qei) = False := eq_false (by decide)
@[simp] theorem zft : (qdj = qce) = False := eq_false (by decide)
@[simp] theorem zd5 : (qce = qcp) = False := eq_false (by decide)
@[simp] theorem t_Two_Name : (qce = qei) = False := eq_false (by decide)
@[simp] theorem zfs : (qce = qdj) = False := eq_false (by decide)
@[simp] theorem fitV_nd (x : Nd) : fitV (.d x.d) = true := by cases x <;> rfl
theorem qyh {n w : Nat} {f : List Int} (h : f = [] ∨ Sh n w f) (hn : n ≤ 16) (hw : w < 134217728) : f.length ≤ 1000 ∧ ∀ i, i < f.length → nl (nth f i) < 1073741824 := by
  rcases h with h | h
  · subst h
    exact ⟨by simp, fun i hi => by simp at hi⟩
  · have := h.l
    refine ⟨by omega, fun i hi => ?_⟩
    have := h.b i (by omega)
    omega
theorem zdl (n : Nat) (hn : n ≤ 16) (k : Int) (hw : nl k < 134217728) : callE T0 X0 qci [.d (Nd.num k).d, .d (.int .i64 n)] [] = some (.ret [.d (.sl (WL (formV n (.num k)).1)), .d (.bool (formV n (.num k)).2)] []) := by
  have s1 := zfi (m := k) (by omega)
  have ht : ∀ v : Int, ((List.replicate (n + 1) 0).set n v).take (n + 1) = (List.replicate (n + 1) 0).set n v := fun v => List.take_of_length_le (by simp)
  have hg1 : (WV (List.replicate (n + 1) 0))[n]? = some (.d (Wd 0)) := by rw [q3a (by simp), q4a]
  rw [qab (af := qdp) rfl rfl rfl]
  simp only [Nd.d, formV]
  simp -implicitDefEqProofs (disch := omega) [qdp, s1, ht, hg1]
theorem zal (n : Nat) (hn : n ≤ 16) (v : Nat) (s : List UInt8) (hv : v < n) (hs : s.length ≤ 1100000) : callE T0 X0 qci [.d (Nd.name v s).d, .d (.int .i64 n)] [] = some (.ret [.d (.sl (WL (formV n (.name v s)).1)), .d (.bool (formV n (.name v s)).2)] []) := by
  have s1 := quc (n := 1) (by omega)
  have ht : ∀ k (w : Int), ((List.replicate (n + 1) 0).set k w).take (n + 1) = (List.replicate (n + 1) 0).set k w := fun k w => List.take_of_length_le (by simp)
  have hg1 : (WV (List.replicate (n + 1) 0))[v]? = some (.d (Wd 0)) := by rw [q3a (by simp; omega), q4a]
  rw [qab (af := qdp) rfl rfl rfl]
  simp only [Nd.d, formV, Int.toNat_natCast]
  simp -implicitDefEqProofs (disch := omega) [qdp, s1, ht, hg1]
theorem q7y (n : Nat) (hn : n ≤ 16) (x : Nd) (hx : x.fine n) (hw : x.w < 134217728) (ih : callE T0 X0 qci [.d x.d, .d (.int .i64 n)] [] = some (.ret [.d (.sl (WL (formV n x).1)), .d (.bool (formV n x).2)] [])) :
    callE T0 X0 qci [.d (Nd.minus x).d, .d (.int .i64 n)] [] = some (.ret [.d (.sl (WL (formV n (.minus x)).1)), .d (.bool (formV n (.minus x)).2)] []) := by
  have s1 := quc (n := -1) (by omega)
  obtain ⟨t1, t2⟩ := qyh ((qs8 n x hx).imp And.left id) hn hw
  have s2 := qpm (f := (formV n x).1) (k := -1) t1 (by decide) t2
  rw [qab (af := qdp) rfl rfl rfl]
  simp only [Nd.d, formV]
  generalize (formV n x).1.map (· * -1) = g at *
  simp -implicitDefEqProofs (disch := omega) [qdp, s1, s2, ih]
theorem zdk (n : Nat) (hn : n ≤ 16) (op : Int) (x y : Nd) (hx : x.fine n) (hy : y.fine n) (hw : x.w + y.w < 134217728) (ih : callE T0 X0 qci [.d x.d, .d (.int .i64 n)] [] = some (.ret [.d (.sl (WL (formV n x).1)), .d (.bool (formV n x).2)] []))
    (ih2 : callE T0 X0 qci [.d y.d, .d (.int .i64 n)] [] = some (.ret [.d (.sl (WL (formV n y).1)), .d (.bool (formV n y).2)] [])) :
    callE T0 X0 qci [.d (Nd.two op x y).d, .d (.int .i64 n)] [] = some (.ret [.d (.sl (WL (formV n (.two op x y)).1)), .d (.bool (formV n (.two op x y)).2)] []) := by
  have f1 := qs8 n x hx
  have f2 := qs8 n y hy
  rw [qab (af := qdp) rfl rfl rfl]
  simp only [Nd.d, formV]
  generalize formV n x = fx at *
  generalize formV n y = fy at *
  obtain ⟨fx, b1⟩ := fx
  obtain ⟨fy, b2⟩ := fy
  simp only [] at *
  obtain ⟨t1, t2⟩ := qyh (f1.imp And.left id) hn (by omega)
  obtain ⟨t3, t4⟩ := qyh (f2.imp And.left id) hn (by omega)
  by_cases hb : b1 = true ∧ b2 = true
  · rw [if_pos hb]
    obtain ⟨rfl, rfl⟩ := hb
    have f1 : Sh n x.w fx := by rcases f1 with ⟨_, h⟩ | h; cases h; exact h
    have f2 : Sh n y.w fy := by rcases f2 with ⟨_, h⟩ | h; cases h; exact h
    have s1 := zbb (op := op) (l := fx) (r := fy) (N := n + 1) (by omega) (by omega) f1.l f2.l (fun i hi => by have := f1.b i hi; omega) (fun i hi => by have := f2.b i hi; omega)
    generalize bothV op fx fy = z at *
    obtain ⟨z, b3⟩ := z
    simp -implicitDefEqProofs (disch := omega) [qdp, s1, ih, ih2]
  · rw [if_neg hb]
    cases b1 <;> cases b2 <;> simp at hb <;> simp -implicitDefEqProofs (disch := omega) [qdp, ih, ih2]
theorem qpe (n : Nat) (hn : n ≤ 16) : ∀ x : Nd, x.fine n → x.w < 134217728 → callE T0 X0 qci [.d x.d, .d (.int .i64 n)] [] = some (.ret [.d (.sl (WL (formV n x).1)), .d (.bool (formV n x).2)] [])
  | .num k, _, hw => zdl n hn k (by unfold Nd.w at hw; omega)
  | .name v s, h, _ => by
    obtain ⟨v, rfl⟩ := Int.eq_ofNat_of_zero_le h.1
    exact zal n hn v s (by have := h.2.1; omega) h.2.2
  | .minus x, h, hw => q7y n hn x h hw (qpe n hn x h hw)
  | .two op x y, h, hw => by
    unfold Nd.w at hw
    exact zdk n hn op x y h.2.1 h.2.2 hw (qpe n hn x h.2.1 (by omega)) (qpe n hn y h.2.2 (by omega))
end Go.Rf

namespace Go.Rf
abbrev RWh := Bool × List Int
def Rw (w : RWh) : D := .agg [.bool w.1, .sl (L w.2)]
def RL (ws : List RWh) : List D := ws.map Rw
def rth (ws : List RWh) (i : Nat) : RWh := ws.getD i (false, [])
@[simp] theorem RL_len (l) : (RL l).length = l.length := by simp [RL]
theorem RL_get {l : List RWh} {i : Nat} (h : i < l.length) : (RL l)[i]? = some (Rw (rth l i)) := by simp [RL, rth, h]
attribute [simp] RL_get
theorem wl_RL (l : List RWh) : wl (RL l) ≤ 32 := by
  induction l with
  | nil => simp [RL, wl]
  | cons x xs ih =>
    show max (wt (Rw x)) (wl (RL xs)) ≤ 32
    have : wt (Rw x) = 25 := rfl
    omega
@[simp] theorem wl_RL32 (l) : (wl (RL l) ≤ 32) = True := eq_true (wl_RL l)
@[simp] theorem fit_RL {n : Nat} {l : List RWh} (h : n ≤ 1099511627) : (n * wl (RL l) ≤ lots) = True := eq_true (Nat.le_trans (Nat.mul_le_mul h (wl_RL l)) (by unfold lots; omega))
@[simp] theorem RL_cells (l) : (∀ x ∈ RL l, x.cells.length = 2) = True := eq_true (by
  intro x hx
  obtain ⟨n, _, rfl⟩ := List.mem_map.1 hx
  rfl)
@[simp] theorem cells_Rw (n) : (Rw n).cells.length = 2 := rfl
@[simp] theorem vcells_Rw (n) : (V.cells (.d (Rw n))).length = 2 := rfl
@[simp] theorem aggO_Rw (n) : aggO (List.take 2 (V.d (Rw n)).cells) (allD (List.take 2 (V.d (Rw n)).cells)) = .d (Rw n) := rfl
@[simp] theorem take2_Rw (n) : List.take 2 (V.d (Rw n)).cells = (V.d (Rw n)).cells := rfl
@[simp] theorem aggO_Rw' (n) : aggO (V.d (Rw n)).cells (allD (V.d (Rw n)).cells) = .d (Rw n) := rfl
theorem zhn {n : RWh} (h : n.2.length < 1099511627776) : fitV (.d (Rw n)) = true := by
  have : wl (L n.2) ≤ 4 := wl_L _
  have h2 : n.2.length * wl (L n.2) ≤ 1099511627776 * 4 := Nat.mul_le_mul (Nat.le_of_lt h) this
  simp [Rw, fitV, fitC]
  unfold lots; omega
attribute [simp] zhn
@[simp] theorem loadV_Rw (h n) : loadV h 2 true (.d (.box (Rw n))) = val (.d (Rw n)) := by simp [Rw]
@[simp] theorem setPart_Rw (x : Int) (n) : qd8 (.d (Wd x)) 0 (.d (Rw n)) = some (.d (Rw n)) := by simp [Wd, Rw, qd8]
@[simp] theorem setPart_WR (n : Int) (x) : qd8 (.d (Rw x)) 0 (.d (Wd n)) = some (.d (Wd n)) := by simp [Wd, Rw, qd8]
end Go.Rf

namespace Go.Rf
end Go.Rf

namespace Go.Rf
theorem qwf (T X p a st) : codeE T X p a st = codeX T X p a (some (.nrm, st)) := rfl
section
variable (p : Nat) (res : List (ARes × Bool))
@[simp] theorem pEnd_nrm (k st) : pEnd p res k (some (.nrm, st)) = k st := rfl
@[simp] theorem pEnd_ret (k st) : pEnd p res k (some (.ret, st)) = qjh p res st := rfl
@[simp] theorem hEnd_nrm (env st) : hEnd p res env (some (.nrm, st)) = qjh p res { env, heap := st.heap } := rfl
@[simp] theorem hEnd_ret (env st) : hEnd p res env (some (.ret, st)) = qjh p res { env, heap := st.heap } := rfl
@[simp] theorem bEnd_nrm (k st) : bEnd k (some (.nrm, st)) = k (.d .nili) st.heap := rfl
@[simp] theorem bEnd_ret (k st) : bEnd k (some (.ret, st)) = k (.d .nili) st.heap := rfl
@[simp] theorem bEnd_pan (k t x st) : bEnd k (some (.pan (.d (.iface t x)), st)) = k (.d (.iface t x)) st.heap := rfl
end
theorem zcz (s : List UInt8) (hs : s.length ≤ 1100000) (vs : List (List UInt8)) (hv : vs.length ≤ 16) (he : (scan s).2.1 ≠ 0) :
    callE T0 X0 qjp [.d (.str s), .d (.sl (SL vs)), .fn qfm [.ptr (.b 0) 0 0]] [.arr [.d .nili] ⟨1, 0⟩] = some (.ret [.d (.int .i64 (scan s).2.1), .d (.agg (scan s).2.2.cs)] [.arr [.d .nili] ⟨1, 0⟩]) := by
  rw [qpl (r := qbt) rfl rfl rfl]
  unfold recG
  have s1 := qm5 s (by omega)
  simp only [qwf]
  simp only [Pl.cs] at s1 ⊢
  simp -implicitDefEqProofs (disch := omega) [qbt, qbn, s1]
def rd0 (ts : List Tok) (vs : List (List UInt8)) : Rd := ⟨ts, 0, vs, 0, some (.sl (SL vs)), []⟩
def readR (r : Rs) : Int × Pl × D := match r with
  | .bad e q _ => (e, q, .nili)
  | .ok x r' => if r'.tok.kind = 0 then (0, qam, x.d) else (80, r'.tok.pos, x.d)
theorem zgp (s : List UInt8) (hs : s.length ≤ 1100000) (vs : List (List UInt8)) (hv : vs.length ≤ 16) {ts : List Tok} {p : Pl} (he : scan s = (some ts, 0, p)) (h : (rd0 ts vs).ok) (hn : ts.length ≤ 5000) (hnum : ∀ t ∈ ts, t.kind = 2 → NumTx t.text) {b : Rs} (hb : rd (rd0 ts vs).fuel .s (rd0 ts vs) = b) :
    callE T0 X0 qjp [.d (.str s), .d (.sl (SL vs)), .fn qfm [.ptr (.b 0) 0 0]] [.arr [.d .nili] ⟨1, 0⟩] = some (.ret [.d (.int .i64 (readR b).1), .d (.agg (readR b).2.1.cs)] [.arr [.d (readR b).2.2] ⟨1, 0⟩]) := by
  rw [qpl (r := qbt) rfl rfl rfl]
  unfold recG
  have s1 := qm5 s (by omega)
  rw [he] at s1
  have s2 := zcp h (x := .sl (SL vs)) rfl hnum
  have kk := (reads hnum (rd0 ts vs).fuel).s (rd0 ts vs) h rfl (Nat.le_refl _)
  simp only [qwf]
  rw [hb] at s2 kk
  have e1 := fine_ly kk.2
  simp only [Rs.st, rd0] at e1
  cases b with
  | bad e q r' =>
    simp only [Pl.cs, rx1R, Rd.heap3, rd0, e1, qua, Option.getD_some, qap, Int.cast_ofNat_Int, readR] at s1 s2 ⊢
    simp -implicitDefEqProofs (disch := omega) [qbt, qbn, qb9, qb8, s1, s2, qoh, qk0, qbj, ARes.slot]
  | ok x r' =>
    have h' : r'.ok := kk.2.1.ok
    have s3 := qbi h'
    have s4 := qcr r' 80
    have s5 := qdb h' 80
    simp only [readR]
    by_cases hk : r'.tok.kind = 0
    · rw [if_pos hk]
      simp only [Pl.cs, Tok.cs, rx1R, Rd.heap, Rd.heap3, rd0, e1, qua, Option.getD_some, qap, qam, Option.getD_some, Int.cast_ofNat_Int] at s1 s2 s3 s4 s5 ⊢
      generalize r'.tok = t at *
      simp -implicitDefEqProofs (disch := omega) [qbt, qbn, qb9, qb8, s1, s2, s3, s4, hk, qoh, qk0, qbj, ARes.slot]
    · rw [if_neg hk]
      simp only [Pl.cs, Tok.cs, rx1R, Rd.heap, Rd.heap3, rd0, e1, qua, Option.getD_some, qap, qam, Option.getD_some, Int.cast_ofNat_Int] at s1 s2 s3 s4 s5 ⊢
      generalize r'.tok = t at *
      simp -implicitDefEqProofs (disch := omega) [qbt, qbn, qb9, qb8, s1, s2, s3, s5, hk, qoh, qk0, qbj, ARes.slot]
end Go.Rf

namespace Go.Rf
theorem q3q : ∀ n m r e p r', rd n m r = .bad e p r' → e ≠ 0 := by
  intro n
  induction n with
  | zero => intro m r e p r' h; unfold rd at h; cases h; decide
  | succ n ih =>
    intro m r e p r' h
    have bnd : ∀ (x : Rs) (f : Nd → Rd → Rs), (∀ e p r', x = .bad e p r' → e ≠ 0) → (∀ y r e p r', f y r = .bad e p r' → e ≠ 0) → x.bind f = .bad e p r' → e ≠ 0 := by
      intro x f h1 h2 h3
      cases x with
      | ok y r => exact h2 _ _ _ _ _ h3
      | bad e' p' r2 => cases h3; exact h1 _ _ _ rfl
    cases m with
    | u =>
      unfold rd at h
      split at h
      · exact bnd _ _ (ih _ _) (fun y r e p r' h => by cases h) h
      split at h
      · cases h
      split at h
      · split at h
        · cases h
        · cases h; decide
      split at h
      · rename_i e' he
        cases h
        unfold Rd.into at he
        split at he
        · split at he
          · cases he
          · cases he; decide
        · cases he; decide
      · refine bnd _ _ (ih _ _) (fun y r e p r' h => ?_) h
        split at h
        · cases h
        · cases h; decide
    | p => unfold rd at h; exact bnd _ _ (ih _ _) (fun y r => ih _ _) h
    | s => unfold rd at h; exact bnd _ _ (ih _ _) (fun y r => ih _ _) h
    | lp x =>
      unfold rd at h
      split at h
      · exact bnd _ _ (ih _ _) (fun y r => ih _ _) h
      split at h
      · exact bnd _ _ (ih _ _) (fun y r => ih _ _) h
      split at h
      · exact bnd _ _ (ih _ _) (fun y r => ih _ _) h
      cases h
    | ls x =>
      unfold rd at h
      split at h
      · exact bnd _ _ (ih _ _) (fun y r => ih _ _) h
      split at h
      · exact bnd _ _ (ih _ _) (fun y r => ih _ _) h
      cases h
theorem num_nl {s : List UInt8} (h : NumTx s) : nl (numV s) + 1 ≤ 457 := by
  have hn := qs6 h.1
  have : (limbs (numV s)).length ≤ 456 := qa7 hn.1 (by have := (qnq 456).2; have := h.1; omega)
  unfold nl
  rw [Int.natAbs_of_nonneg hn.1]
  omega
def RdOk (r : Rd) (a : Nat) : Rs → Prop
  | .ok x r' => Kept r r' ∧ x.fine r.vs.length ∧ x.w + 457 * r.i ≤ a + 457 * r'.i
  | .bad _ _ _ => True
theorem RdOk.bind {r r0 : Rd} {a c : Nat} {b : Rs} {f : Nd → Rd → Rs} (h : RdOk r0 a b) (g : ∀ x r', Kept r0 r' → x.fine r0.vs.length → x.w + 457 * r0.i ≤ a + 457 * r'.i → RdOk r c (f x r')) : RdOk r c (b.bind f) := by
  cases b with
  | bad e p r' => trivial
  | ok x r' => exact g x r' h.1 h.2.1 h.2.2
theorem RdOk.from {r r' : Rd} {a c : Nat} {b : Rs} (h : RdOk r' c b) (k : Kept r r') (hw : c + 457 * r.i ≤ a + 457 * r'.i) : RdOk r a b := by
  cases b with
  | bad e p r2 => trivial
  | ok x r2 =>
    obtain ⟨h1, h2, h3⟩ := h
    exact ⟨k.trans h1, by rw [← k.vs]; exact h2, by omega⟩
def Md.w : Md → Nat
  | .lp x => x.w
  | .ls x => x.w
  | _ => 0
def Md.fine (k : Nat) : Md → Prop
  | .lp x => x.fine k
  | .ls x => x.fine k
  | _ => True
theorem rd_ok : ∀ n m r, Rd.ok r → (∀ t ∈ r.ts, t.kind = 2 → NumTx t.text) → m.fine r.vs.length → RdOk r m.w (rd n m r) := by
  intro n
  induction n with
  | zero => intro m r _ _ _; trivial
  | succ n ih =>
    intro m r h hnum hm
    have hno := r.next_op
    have kn := Kept.next h
    have two : ∀ (op : Int) (x : Nd) (md : Md) (m2 : Nd → Md), (op = 43 ∨ op = 45 ∨ op = 42 ∨ op = 47 ∨ op = 37) → r.tok.kind ≠ 0 → md.w = 0 → md.fine r.vs.length → x.fine r.vs.length → (∀ y, (m2 y).w = y.w ∧ ∀ k, y.fine k → (m2 y).fine k) →
        RdOk r x.w ((rd n md r.next).bind fun y r => rd n (m2 (.two op x y)) r) := by
      intro op x md m2 hop hk h0 hf hx h2
      have hi := qfj hk
      have a := ih md r.next (Rd.next_ok h) (by rw [hno.2.1]; exact hnum) (by rw [hno.2.2]; exact hf)
      rw [h0] at a
      refine a.bind fun y r' k1 fy wy => ?_
      have k2 := kn.trans k1
      have b := ih (m2 (.two op x y)) r' k1.ok (by rw [k2.ts]; exact hnum) ((h2 _).2 _ (by rw [k2.vs]; exact ⟨hop, hx, by rw [← hno.2.2]; exact fy⟩))
      rw [(h2 _).1] at b
      exact b.from k2 (by show x.w + y.w + _ ≤ _; omega)
    have seq : ∀ (md : Md) (m2 : Nd → Md), md.w = 0 → md.fine r.vs.length → (∀ y, (m2 y).w = y.w ∧ ∀ k, y.fine k → (m2 y).fine k) → RdOk r 0 ((rd n md r).bind fun y r => rd n (m2 y) r) := by
      intro md m2 h0 hf h2
      have a := ih md r h hnum hf
      rw [h0] at a
      refine a.bind fun y r' k1 fy wy => ?_
      have b := ih (m2 y) r' k1.ok (by rw [k1.ts]; exact hnum) ((h2 _).2 _ (by rw [k1.vs]; exact fy))
      rw [(h2 _).1] at b
      exact b.from k1 (by omega)
    have self : ∀ x : Nd, x.fine r.vs.length → RdOk r x.w (.ok x r) := fun x hx => ⟨Kept.refl h, hx, Nat.le_refl _⟩
    cases m with
    | p => unfold rd; exact seq .u .lp rfl trivial (fun _ => ⟨rfl, fun _ h => h⟩)
    | s => unfold rd; exact seq .p .ls rfl trivial (fun _ => ⟨rfl, fun _ h => h⟩)
    | lp x =>
      unfold rd
      split
      · rename_i c; exact two 42 x .u .lp (by omega) (qca c) rfl trivial hm (fun _ => ⟨rfl, fun _ h => h⟩)
      split
      · rename_i c; exact two 47 x .u .lp (by omega) (qca c) rfl trivial hm (fun _ => ⟨rfl, fun _ h => h⟩)
      split
      · rename_i c; exact two 37 x .u .lp (by omega) (qca c) rfl trivial hm (fun _ => ⟨rfl, fun _ h => h⟩)
      exact self x hm
    | ls x =>
      unfold rd
      split
      · rename_i c; exact two 43 x .p .ls (by omega) (qca c) rfl trivial hm (fun _ => ⟨rfl, fun _ h => h⟩)
      split
      · rename_i c; exact two 45 x .p .ls (by omega) (qca c) rfl trivial hm (fun _ => ⟨rfl, fun _ h => h⟩)
      exact self x hm
    | u =>
      unfold rd
      split
      · rename_i c
        have hi := qfj (qca c)
        have a := ih .u r.next (Rd.next_ok h) (by rw [hno.2.1]; exact hnum) trivial
        refine a.bind fun y r' k1 fy wy => ?_
        refine ⟨kn.trans k1, by rw [← hno.2.2]; exact fy, ?_⟩
        show y.w + _ ≤ _
        have : Md.w .u = 0 := rfl
        omega
      split
      · rename_i c
        have hi := qfj (r := r) (by omega)
        have := num_nl (hnum _ (qrh h) c)
        refine ⟨kn, trivial, ?_⟩
        show nl _ + 1 + _ ≤ 0 + _
        omega
      split
      · rename_i c
        have hk : r.tok.kind = 1 := by
          unfold Rd.isName at c
          simp only [Bool.and_eq_true, decide_eq_true_eq] at c
          exact c.1
        have hi := qfj (r := r) (by omega)
        split
        · rename_i c2
          have hv := qyg r.vs r.tok.text r.vs.length 0 (by omega)
          refine ⟨kn, ⟨c2, by unfold Rd.var; omega, qh0 h⟩, ?_⟩
          show 1 + _ ≤ 0 + _
          omega
        · trivial
      split
      · trivial
      · rename_i hin
        have hop : r.op < 16 := by
          unfold Rd.into at hin
          split at hin
          · split at hin
            · assumption
            · cases hin
          · cases hin
        have ho := Rd.opened_ok h hop
        have kn2 := Kept.next ho
        have hno2 := r.opened.next_op
        have a := ih .s r.opened.next (Rd.next_ok ho) (by rw [hno2.2.1]; exact hnum) trivial
        refine a.bind fun y r' k1 fy wy => ?_
        have k3 := kn2.trans k1
        split
        · have kn4 := Kept.next k3.ok
          have hpos : 0 < r'.next.op := by
            rw [kn4.op, k3.op]
            have := h.op
            show 0 < r.op + 1
            omega
          have hi4 := kn4.i
          have hi5 : r.i ≤ r.opened.next.i := kn2.i
          have hi6 := k1.i
          refine ⟨⟨Rd.closed_ok kn4.ok hpos, ?_, ?_, ?_, ?_, kn4.ly.trans k3.ly, kn4.ms.trans k3.ms⟩, ?_, ?_⟩
          · exact kn4.ts.trans k3.ts
          · exact kn4.vs.trans k3.vs
          · show r'.next.op - 1 = r.op
            rw [kn4.op, k3.op]
            show r.op + 1 - 1 = r.op
            omega
          · show r.i ≤ r'.next.i
            omega
          · have : r.opened.next.vs = r.vs := hno2.2.2
            rw [← this]; exact fy
          · have : Md.w .s = 0 := rfl
            show y.w + _ ≤ 0 + 457 * r'.next.i
            omega
        · trivial
end Go.Rf

namespace Go.Rf
theorem qxe : ∀ f (s : Sc) (out : List Tok) e p, scanF f s out = (none, e, p) → e ≠ 0
  | 0, s, out, e, p, h => by unfold scanF at h; cases h
  | f + 1, s, out, e, p, h => by
    unfold scanF at h
    split at h
    · rename_i c; cases h; exact c
    · split at h
      · cases h
      · exact qxe f _ _ _ _ h
theorem qu0 {s : List UInt8} {e p} (h : scan s = (none, e, p)) : e ≠ 0 := by
  unfold scan at h
  split at h
  · cases h; decide
  · exact qxe _ _ _ _ _ h
structure TsOk (ts : List Tok) : Prop where
  rd : ∀ vs : List (List UInt8), vs.length ≤ 16 → (∀ k, (tx vs k).length ≤ 1100000) → (rd0 ts vs).ok
  n : ts.length ≤ 5000
  num : ∀ t ∈ ts, t.kind = 2 → NumTx t.text
theorem qm6 {s : List UInt8} {ts e p} (h : scan s = (some ts, e, p)) : e = 0 ∧ TsOk ts := by
  unfold scan at h
  split at h
  · cases h
  rename_i hl
  have hok : Sc.ok ⟨s, start, 0, qam⟩ := ⟨by show s.length ≤ 4096; omega, by show Pl.small start s.length; unfold Pl.small start; simp only []; omega⟩
  obtain ⟨o, t, rfl, hp, hk, ht, he⟩ := q5c _ _ _ _ _ _ hok (by show s.length < s.length + 1; omega) ⟨(fun t h => by cases h), (fun t h => by cases h), (fun t h => by cases h)⟩ h
  have hn := qrr _ _ _ _ _ _ hok h
  simp only [List.length_append, List.length_cons, List.length_nil] at hn
  refine ⟨he, ⟨fun vs hv ht2 => ⟨?_, ?_, ?_, ?_, hv, ⟨by show (0 : Int) ≤ 0; omega, by show (0 : Int) ≤ 16; omega⟩, ?_, ht2, fun x h => .inl (by cases h; rfl)⟩, by simp; omega, ?_⟩⟩
  · show 0 < (o ++ [t]).length
    simp
  · show (o ++ [t]).length ≤ 5000
    simp; omega
  · intro j hj
    have hj : j < o.length := by
      have : (rd0 (o ++ [t]) vs).ts.length = o.length + 1 := by simp [rd0]
      omega
    show ((o ++ [t]).getD j ⟨0, [], qam⟩).kind ≠ 0
    rw [List.getD_eq_getElem?_getD, List.getElem?_append_left hj, List.getElem?_eq_getElem hj]
    exact hp.k _ (List.getElem_mem hj)
  · intro j hj
    have hj : j = o.length := by
      have : (rd0 (o ++ [t]) vs).ts.length = o.length + 1 := by simp [rd0]
      omega
    subst hj
    show ((o ++ [t]).getD o.length ⟨0, [], qam⟩).kind = 0
    simp [hk]
  · intro t' hm
    rcases List.mem_append.1 (show t' ∈ o ++ [t] from hm) with h | h
    · exact hp.tx _ h
    · rw [List.mem_singleton.1 h]; exact ht
  · intro t' hm h2
    rcases List.mem_append.1 hm with h | h
    · exact hp.nm _ h h2
    · rw [List.mem_singleton.1 h] at h2
      omega
def oD : Option Nd → D
  | none => .nili
  | some x => x.d
def exprV (s : List UInt8) (vs : List (List UInt8)) : Option Nd × Int × Pl :=
  if names vs ≠ 0 then (none, 1, qam)
  else match scan s with
    | (none, e, p) => (none, e, p)
    | (some ts, _, _) => match rd (rd0 ts vs).fuel .s (rd0 ts vs) with
      | .bad e q _ => (none, e, q)
      | .ok x r' => if r'.tok.kind = 0 then (some x, 0, qam) else (none, 80, r'.tok.pos)
theorem zhq {s vs x e p} (hb : ∀ k, (tx vs k).length ≤ 1100000) (h : exprV s vs = (some x, e, p)) : e = 0 ∧ p = qam ∧ x.fine vs.length ∧ x.w ≤ 4000000 ∧ vs.length ≤ 16 := by
  unfold exprV at h
  split at h
  · cases h
  rename_i hn
  have hv : vs.length ≤ 16 := by
    unfold names at hn
    split at hn
    · exact absurd (by decide : (1 : Int) ≠ 0) hn
    · omega
  split at h
  · cases h
  rename_i ts e' p' hs
  obtain ⟨_, ht⟩ := qm6 hs
  have hr := rd_ok (rd0 ts vs).fuel .s (rd0 ts vs) (ht.rd vs hv hb) ht.num trivial
  split at h
  · cases h
  rename_i y r' he
  rw [he] at hr
  split at h
  · cases h
    obtain ⟨k, f, w⟩ := hr
    have hi := k.ok.i
    have hl := k.ok.n
    have : Md.w .s = 0 := rfl
    exact ⟨rfl, rfl, f, by omega, hv⟩
  · cases h
theorem q0b {s vs e p} (h : exprV s vs = (none, e, p)) : e ≠ 0 := by
  unfold exprV at h
  split at h
  · cases h; decide
  split at h
  · rename_i e' p' hs
    cases h
    exact qu0 hs
  · split at h
    · rename_i e' q r' he
      cases h
      exact q3q _ _ _ _ _ _ he
    · split at h
      · cases h
      · cases h; decide
@[simp] theorem setPart_nn : qd8 (.d .nili) 0 (.d .nili) = some (.d .nili) := rfl
@[simp] theorem setPart_xn (x : Nd) : qd8 (.d x.d) 0 (.d .nili) = some (.d .nili) := by cases x <;> rfl
@[simp] theorem setPart_xx (x : Nd) : qd8 (.d x.d) 0 (.d x.d) = some (.d x.d) := by cases x <;> rfl
@[simp] theorem mkFn_ptr (f l a b) : mkFn f [.ptr l a b] = .fn f [.ptr l a b] := rfl
theorem q7h {s : List UInt8} {vs : List (List UInt8)} (hs : s.length ≤ 1100000) (hv : vs.length ≤ 1099511627) (hb : ∀ k, (tx vs k).length ≤ 1100000) :
    callE T0 X0 qis [.d (.str s), .d (.sl (SL vs))] [] = some (.ret [.d (oD (exprV s vs).1), .d (.int .i64 (exprV s vs).2.1), .d (.agg (exprV s vs).2.2.cs)] []) := by
  have s1 := qxo vs (by omega) hb
  rw [qab (af := qb1) rfl rfl rfl]
  cases he : exprV s vs with
  | mk o ep =>
    obtain ⟨e, p⟩ := ep
    have he0 := he
    unfold exprV at he
    split at he
    · rename_i hn
      cases he
      have hn1 : names vs = 1 := by
        unfold names at hn ⊢
        split
        · rfl
        · rename_i c
          rw [if_neg c] at hn
          rcases qr6 vs vs.length 0 with h | h
          · exact absurd h hn
          · exact h
      rw [hn1] at s1
      simp only [oD, qam, Pl.cs]
      simp -implicitDefEqProofs (disch := omega) [qb1, s1]
    rename_i hn
    have hn : names vs = 0 := Classical.not_not.1 hn
    have hv16 : vs.length ≤ 16 := by
      unfold names at hn
      split at hn
      · cases hn
      · omega
    rw [hn] at s1
    split at he
    · rename_i e' p' hsc
      cases he
      have hne := qu0 hsc
      have s2 := zcz s hs vs hv16 (by rw [hsc]; exact hne)
      rw [hsc] at s2
      simp only [oD, Pl.cs] at s2 ⊢
      simp -implicitDefEqProofs (disch := omega) [qb1, s1, s2, hne]
    · rename_i ts e' p' hsc
      obtain ⟨he', ht⟩ := qm6 hsc
      subst he'
      have s2 := zgp s hs vs hv16 hsc (ht.rd vs hv16 hb) ht.n ht.num rfl
      split at he
      · rename_i e2 q r' hr
        rw [hr] at s2
        cases he
        have hne := q3q _ _ _ _ _ _ hr
        simp only [oD, Pl.cs, readR] at s2 ⊢
        simp -implicitDefEqProofs (disch := omega) [qb1, s1, s2, hne]
      · rename_i x r' hr
        rw [hr] at s2
        simp only [readR] at s2
        split at he
        · rename_i hk
          rw [if_pos hk] at s2
          cases he
          simp only [oD, Pl.cs, qam] at s2 ⊢
          simp -implicitDefEqProofs (disch := omega) [qb1, s1, s2]
        · rename_i hk
          rw [if_neg hk] at s2
          cases he
          simp only [oD, Pl.cs] at s2 ⊢
          simp -implicitDefEqProofs (disch := omega) [qb1, s1, s2]
end Go.Rf

namespace Go.Rf
abbrev Tk := Int × List UInt8
mutual
inductive Un (vs : List (List UInt8)) : Nat → List Tk → Nd → Prop where
  | num {e w} : Un vs e [(2, w)] (.num (numV w))
  | name {e w v} : varF vs w vs.length 0 = v → 0 ≤ v → qk2 w = false → Un vs e [(1, w)] (.name v w)
  | minus {e l x} : Un vs e l x → Un vs e ((3, [45]) :: l) (.minus x)
  | par {e l x} : Su vs e l x → Un vs (e + 1) ((3, [40]) :: (l ++ [(3, [41])])) x
  | weak {e l x} : Un vs e l x → Un vs (e + 1) l x
inductive Pr (vs : List (List UInt8)) : Nat → List Tk → Nd → Prop where
  | one {e l x} : Un vs e l x → Pr vs e l x
  | mul {e l l' x y c op} : Pr vs e l x → Un vs e l' y → (c = 42 ∧ op = 42 ∨ c = 47 ∧ op = 47 ∨ c = 37 ∧ op = 37) → Pr vs e (l ++ (3, [c]) :: l') (.two op x y)
inductive Su (vs : List (List UInt8)) : Nat → List Tk → Nd → Prop where
  | one {e l x} : Pr vs e l x → Su vs e l x
  | add {e l l' x y c op} : Su vs e l x → Pr vs e l' y → (c = 43 ∧ op = 43 ∨ c = 45 ∧ op = 45) → Su vs e (l ++ (3, [c]) :: l') (.two op x y)
end
def Rd.kts (r : Rd) : List Tk := (r.ts.drop r.i).map kt
theorem qin {r : Rd} (h : r.ok) {k : Int} {w : List UInt8} {l : List Tk} (e : r.kts = (k, w) :: l) : r.tok.kind = k ∧ r.tok.text = w ∧ (k ≠ 0 → r.next.kts = l ∧ r.next.i = r.i + 1) := by
  have hi := h.i
  have e2 : r.ts.drop r.i = r.tok :: r.ts.drop (r.i + 1) := by
    rw [List.drop_eq_getElem_cons hi]
    unfold Rd.tok
    simp [hi]
  unfold Rd.kts at e
  rw [e2] at e
  simp only [List.map_cons, List.cons.injEq, kt, Prod.mk.injEq] at e
  refine ⟨e.1.1, e.1.2, fun hk => ?_⟩
  have hn : r.next = { r with i := r.i + 1 } := by
    unfold Rd.next
    rw [if_neg (by rw [e.1.1]; exact hk)]
  rw [hn]
  exact ⟨e.2, rfl⟩
theorem qlr {r : Rd} {k : Int} {w : List UInt8} (hk : r.tok.kind = k) (hw : r.tok.text = w) (s : List UInt8) : r.isT s = decide (w = s ∧ (k = 3 ∨ k = 1)) := by
  unfold Rd.isT
  rw [hk, hw]
def nm : List Tk → Prop
  | (k, w) :: _ => ¬ ((k = 3 ∨ k = 1) ∧ (w = [42] ∨ w = [47] ∨ w = [37]))
  | [] => True
def ns : List Tk → Prop
  | (k, w) :: _ => ¬ ((k = 3 ∨ k = 1) ∧ (w = [43] ∨ w = [45]))
  | [] => True
theorem nm_c {c : UInt8} {l : List Tk} (h : c ≠ 42 ∧ c ≠ 47 ∧ c ≠ 37) : nm ((3, [c]) :: l) := fun ⟨_, hw⟩ => by
  rcases hw with e | e | e <;> simp only [List.cons.injEq, and_true] at e
  · exact h.1 e
  · exact h.2.1 e
  · exact h.2.2 e
theorem ns_c {c : UInt8} {l : List Tk} (h : c ≠ 43 ∧ c ≠ 45) : ns ((3, [c]) :: l) := fun ⟨_, hw⟩ => by
  rcases hw with e | e <;> simp only [List.cons.injEq, and_true] at e
  · exact h.1 e
  · exact h.2 e
theorem zer {r : Rd} (h : r.ok) {x : Nd} {n : Nat} (hn : 1 ≤ n) (hm : nm r.kts) : rd n (.lp x) r = .ok x r := by
  obtain ⟨n, rfl⟩ : ∃ m, n = m + 1 := ⟨n - 1, by omega⟩
  cases hk : r.kts with
  | nil =>
    have := h.i
    have : r.kts.length = r.ts.length - r.i := by simp [Rd.kts]
    rw [hk] at this
    simp at this
    omega
  | cons p l =>
    obtain ⟨k, w⟩ := p
    obtain ⟨a, b, _⟩ := qin h hk
    rw [hk] at hm
    unfold nm at hm
    unfold rd
    rw [qlr a b, qlr a b, qlr a b]
    rw [if_neg (fun hd => hm ⟨(of_decide_eq_true hd).2, .inl (of_decide_eq_true hd).1⟩), if_neg (fun hd => hm ⟨(of_decide_eq_true hd).2, .inr (.inl (of_decide_eq_true hd).1)⟩), if_neg (fun hd => hm ⟨(of_decide_eq_true hd).2, .inr (.inr (of_decide_eq_true hd).1)⟩)]
theorem zeq {r : Rd} (h : r.ok) {x : Nd} {n : Nat} (hn : 1 ≤ n) (hm : ns r.kts) : rd n (.ls x) r = .ok x r := by
  obtain ⟨n, rfl⟩ : ∃ m, n = m + 1 := ⟨n - 1, by omega⟩
  cases hk : r.kts with
  | nil =>
    have := h.i
    have : r.kts.length = r.ts.length - r.i := by simp [Rd.kts]
    rw [hk] at this
    simp at this
    omega
  | cons p l =>
    obtain ⟨k, w⟩ := p
    obtain ⟨a, b, _⟩ := qin h hk
    rw [hk] at hm
    unfold ns at hm
    unfold rd
    rw [qlr a b, qlr a b]
    rw [if_neg (fun hd => hm ⟨(of_decide_eq_true hd).2, .inl (of_decide_eq_true hd).1⟩), if_neg (fun hd => hm ⟨(of_decide_eq_true hd).2, .inr (of_decide_eq_true hd).1⟩)]
def GoU (l : List Tk) (x : Nd) (e : Nat) (vs : List (List UInt8)) : Prop := ∀ (r : Rd) (rest : List Tk) (n : Nat), r.ok → r.vs = vs → r.kts = l ++ rest → r.op + e ≤ 16 → 4 * (r.ts.length - r.i) + 1 ≤ n →
  ∃ r', rd n .u r = .ok x r' ∧ Kept r r' ∧ r.i < r'.i ∧ r'.kts = rest
def GoP (l : List Tk) (x : Nd) (e : Nat) (vs : List (List UInt8)) : Prop := ∀ (r : Rd) (rest : List Tk) (n : Nat), r.ok → r.vs = vs → r.kts = l ++ rest → r.op + e ≤ 16 → 4 * (r.ts.length - r.i) + 2 ≤ n →
  ∃ n' r', rd n .p r = rd n' (.lp x) r' ∧ Kept r r' ∧ r.i < r'.i ∧ r'.kts = rest ∧ 4 * (r'.ts.length - r'.i) + 1 ≤ n'
def GoS (l : List Tk) (x : Nd) (e : Nat) (vs : List (List UInt8)) : Prop := ∀ (r : Rd) (rest : List Tk) (n : Nat), r.ok → r.vs = vs → r.kts = l ++ rest → r.op + e ≤ 16 → nm rest → 4 * (r.ts.length - r.i) + 3 ≤ n →
  ∃ n' r', rd n .s r = rd n' (.ls x) r' ∧ Kept r r' ∧ r.i < r'.i ∧ r'.kts = rest ∧ 4 * (r'.ts.length - r'.i) + 1 ≤ n'
theorem zhf {l : List Tk} {x : Nd} {e : Nat} {vs : List (List UInt8)} (h : GoU l x e vs) : GoP l x e vs := by
  intro r rest n hr hv hk ho hn
  obtain ⟨n, rfl⟩ : ∃ m, n = m + 1 := ⟨n - 1, by omega⟩
  obtain ⟨r', h1, h2, h3, h4⟩ := h r rest n hr hv hk ho (by omega)
  have hi := h2.ok.i
  refine ⟨n, r', ?_, h2, h3, h4, by rw [h2.ts] at hi ⊢; omega⟩
  conv => lhs; unfold rd
  rw [h1]
  rfl
theorem zhg {l l' : List Tk} {x y : Nd} {e : Nat} {vs : List (List UInt8)} {c : UInt8} {op : Int} (hc : c = 42 ∧ op = 42 ∨ c = 47 ∧ op = 47 ∨ c = 37 ∧ op = 37) (h : GoP l x e vs) (h' : GoU l' y e vs) : GoP (l ++ (3, [c]) :: l') (.two op x y) e vs := by
  intro r rest n hr hv hk ho hn
  obtain ⟨n1, r1, a1, a2, a3, a4, a5⟩ := h r ((3, [c]) :: (l' ++ rest)) n hr hv (by rw [hk]; simp) ho hn
  obtain ⟨m, rfl⟩ : ∃ m, n1 = m + 1 := ⟨n1 - 1, by omega⟩
  obtain ⟨k1, k2, k3⟩ := qin a2.ok a4
  obtain ⟨k3, k4⟩ := k3 (by decide)
  have kn := Kept.next a2.ok
  have hi1 := kn.ok.i
  obtain ⟨r2, b1, b2, b3, b4⟩ := h' r1.next rest m kn.ok (by rw [kn.vs, a2.vs, hv]) k3 (by rw [kn.op, a2.op]; exact ho) (by rw [kn.ts] at hi1 ⊢; omega)
  have hi2 := b2.ok.i
  refine ⟨m, r2, ?_, a2.trans (kn.trans b2), by omega, b4, by rw [b2.ts, kn.ts] at hi2 ⊢; rw [kn.ts] at hi1; omega⟩
  rw [a1]
  conv => lhs; unfold rd
  rw [qlr k1 k2, qlr k1 k2, qlr k1 k2]
  rcases hc with ⟨rfl, rfl⟩ | ⟨rfl, rfl⟩ | ⟨rfl, rfl⟩
  · rw [if_pos (by decide), b1]; rfl
  · rw [if_neg (by decide), if_pos (by decide), b1]; rfl
  · rw [if_neg (by decide), if_neg (by decide), if_pos (by decide), b1]; rfl
theorem zhd {l : List Tk} {x : Nd} {e : Nat} {vs : List (List UInt8)} (h : GoP l x e vs) : GoS l x e vs := by
  intro r rest n hr hv hk ho hm hn
  obtain ⟨n, rfl⟩ : ∃ m, n = m + 1 := ⟨n - 1, by omega⟩
  obtain ⟨n1, r1, a1, a2, a3, a4, a5⟩ := h r rest n hr hv hk ho (by omega)
  have hi := a2.ok.i
  refine ⟨n, r1, ?_, a2, a3, a4, by rw [a2.ts] at hi ⊢; omega⟩
  conv => lhs; unfold rd
  rw [a1, zer a2.ok (by omega) (by rw [a4]; exact hm)]
  rfl
theorem zhe {l l' : List Tk} {x y : Nd} {e : Nat} {vs : List (List UInt8)} {c : UInt8} {op : Int} (hc : c = 43 ∧ op = 43 ∨ c = 45 ∧ op = 45) (h : GoS l x e vs) (h' : GoP l' y e vs) : GoS (l ++ (3, [c]) :: l') (.two op x y) e vs := by
  intro r rest n hr hv hk ho hm hn
  obtain ⟨n1, r1, a1, a2, a3, a4, a5⟩ := h r ((3, [c]) :: (l' ++ rest)) n hr hv (by rw [hk]; simp) ho (by
    rcases hc with ⟨rfl, _⟩ | ⟨rfl, _⟩ <;> exact nm_c (by decide)) hn
  obtain ⟨m, rfl⟩ : ∃ m, n1 = m + 1 := ⟨n1 - 1, by omega⟩
  obtain ⟨k1, k2, k3⟩ := qin a2.ok a4
  obtain ⟨k3, k4⟩ := k3 (by decide)
  have kn := Kept.next a2.ok
  have hi1 := kn.ok.i
  obtain ⟨n2, r2, b1, b2, b3, b4, b5⟩ := h' r1.next rest m kn.ok (by rw [kn.vs, a2.vs, hv]) k3 (by rw [kn.op, a2.op]; exact ho) (by rw [kn.ts] at hi1 ⊢; omega)
  have hi2 := b2.ok.i
  refine ⟨m, r2, ?_, a2.trans (kn.trans b2), by omega, b4, by rw [b2.ts, kn.ts] at hi2 ⊢; rw [kn.ts] at hi1; omega⟩
  rw [a1]
  conv => lhs; unfold rd
  rw [qlr k1 k2, qlr k1 k2]
  have e2 := zer (x := y) b2.ok (show 1 ≤ n2 by omega) (by rw [b4]; exact hm)
  rcases hc with ⟨rfl, rfl⟩ | ⟨rfl, rfl⟩
  · rw [if_pos (by decide), b1, e2]; rfl
  · rw [if_neg (by decide), if_pos (by decide), b1, e2]; rfl
theorem zhb {l : List Tk} {x : Nd} {e : Nat} {vs : List (List UInt8)} (h : GoS l x e vs) : GoU ((3, [40]) :: (l ++ [(3, [41])])) x (e + 1) vs := by
  intro r rest n hr hv hk ho hn
  obtain ⟨n, rfl⟩ : ∃ m, n = m + 1 := ⟨n - 1, by omega⟩
  obtain ⟨k1, k2, k3⟩ := qin hr (show r.kts = (3, [40]) :: (l ++ (3, [41]) :: rest) by rw [hk]; simp)
  obtain ⟨k3, k4⟩ := k3 (by decide)
  have hop : r.op < 16 := by omega
  have ho' := Rd.opened_ok hr hop
  have kn := Kept.next ho'
  have hk3 : r.opened.next.kts = l ++ (3, [41]) :: rest ∧ r.opened.next.i = r.i + 1 := by
    have e0 : r.opened.kts = (3, [40]) :: (l ++ (3, [41]) :: rest) := by
      show r.kts = _
      rw [hk]; simp
    exact (qin ho' e0).2.2 (by decide)
  have hi1 := kn.ok.i
  have hts : r.opened.next.ts = r.ts := kn.ts
  obtain ⟨n1, r1, a1, a2, a3, a4, a5⟩ := h r.opened.next ((3, [41]) :: rest) n kn.ok (by rw [kn.vs]; exact hv) hk3.1 (by rw [kn.op]; show r.op + 1 + e ≤ 16; omega) (nm_c (by decide)) (by rw [hts] at hi1 ⊢; omega)
  obtain ⟨q1, q2, q3⟩ := qin a2.ok a4
  obtain ⟨q3, q4⟩ := q3 (by decide)
  have kn4 := Kept.next a2.ok
  have hpos : 0 < r1.next.op := by
    rw [kn4.op, a2.op, kn.op]
    have := hr.op
    show 0 < r.op + 1
    omega
  have hts2 := kn4.ts.trans (a2.ts.trans hts)
  refine ⟨r1.next.closed, ?_, ⟨Rd.closed_ok kn4.ok hpos, hts2, kn4.vs.trans (a2.vs.trans kn.vs), ?_, ?_, kn4.ly.trans (a2.ly.trans kn.ly), kn4.ms.trans (a2.ms.trans kn.ms)⟩, ?_, q3⟩
  · unfold rd
    rw [qlr k1 k2, if_neg (by decide), if_neg (by rw [k1]; decide)]
    have hnn : r.isName = false := by
      unfold Rd.isName
      rw [k1]
      rfl
    rw [if_neg (by rw [hnn]; decide)]
    have hin : r.into [40] = none := by
      unfold Rd.into
      rw [if_pos ⟨k1, k2⟩, if_pos hop]
    rw [hin]
    simp only []
    rw [a1, zeq a2.ok (by omega) (by rw [a4]; exact ns_c (by decide))]
    show (if r1.isT [41] = true then Rs.ok x r1.next.closed else _) = _
    rw [qlr q1 q2, if_pos (by decide)]
  · show r1.next.op - 1 = r.op
    rw [kn4.op, a2.op, kn.op]
    show r.op + 1 - 1 = r.op
    omega
  · show r.i ≤ r1.next.i
    omega
  · show r.i < r1.next.i
    omega
theorem zai {l : List Tk} {x : Nd} {e : Nat} {vs : List (List UInt8)} (h : GoU l x e vs) : GoU ((3, [45]) :: l) (.minus x) e vs := by
  intro r rest n hr hv hk ho hn
  obtain ⟨n, rfl⟩ : ∃ m, n = m + 1 := ⟨n - 1, by omega⟩
  obtain ⟨k1, k2, k3⟩ := qin hr (show r.kts = (3, [45]) :: (l ++ rest) by rw [hk]; simp)
  obtain ⟨k3, k4⟩ := k3 (by decide)
  have kn := Kept.next hr
  have hi1 := kn.ok.i
  obtain ⟨r1, a1, a2, a3, a4⟩ := h r.next rest n kn.ok (by rw [kn.vs, hv]) k3 (by rw [kn.op]; exact ho) (by rw [kn.ts] at hi1 ⊢; omega)
  refine ⟨r1, ?_, kn.trans a2, by omega, a4⟩
  unfold rd
  rw [qlr k1 k2, if_pos (by decide), a1]
  rfl
theorem zhc {w : List UInt8} {e : Nat} {vs : List (List UInt8)} : GoU [(2, w)] (.num (numV w)) e vs := by
  intro r rest n hr hv hk ho hn
  obtain ⟨n, rfl⟩ : ∃ m, n = m + 1 := ⟨n - 1, by omega⟩
  obtain ⟨k1, k2, k3⟩ := qin hr (show r.kts = (2, w) :: rest by rw [hk]; rfl)
  obtain ⟨k3, k4⟩ := k3 (by decide)
  refine ⟨r.next, ?_, Kept.next hr, by omega, k3⟩
  unfold rd
  rw [qlr k1 k2, if_neg (by simp), if_pos k1, k2]
theorem zdi {w : List UInt8} {v : Int} {e : Nat} {vs : List (List UInt8)} (h1 : varF vs w vs.length 0 = v) (h2 : 0 ≤ v) (h3 : qk2 w = false) (hw : w ≠ [45]) : GoU [(1, w)] (.name v w) e vs := by
  intro r rest n hr hv hk ho hn
  obtain ⟨n, rfl⟩ : ∃ m, n = m + 1 := ⟨n - 1, by omega⟩
  obtain ⟨k1, k2, k3⟩ := qin hr (show r.kts = (1, w) :: rest by rw [hk]; rfl)
  obtain ⟨k3, k4⟩ := k3 (by decide)
  refine ⟨r.next, ?_, Kept.next hr, by omega, k3⟩
  have hvar : r.var w = v := by unfold Rd.var; rw [hv, h1]
  have hnn : r.isName = true := by
    unfold Rd.isName
    rw [k1, k2, h3]
    rfl
  unfold rd
  rw [qlr k1 k2, if_neg (by simp [hw]), if_neg (by rw [k1]; decide), if_pos hnn, k2, hvar, if_pos h2]
mutual
theorem go_un {vs : List (List UInt8)} (hvs : ∀ w, varF vs w vs.length 0 ≥ 0 → w ≠ [45]) : ∀ {e l x}, Un vs e l x → GoU l x e vs
  | _, _, _, .num => zhc
  | _, _, _, .name h1 h2 h3 => zdi h1 h2 h3 (hvs _ (by rw [h1]; exact h2))
  | _, _, _, .minus h => zai (go_un hvs h)
  | _, _, _, .par h => zhb (go_su hvs h)
  | _, _, _, .weak h => fun r rest n hr hv hk ho hn => go_un hvs h r rest n hr hv hk (by omega) hn
theorem go_pr {vs : List (List UInt8)} (hvs : ∀ w, varF vs w vs.length 0 ≥ 0 → w ≠ [45]) : ∀ {e l x}, Pr vs e l x → GoP l x e vs
  | _, _, _, .one h => zhf (go_un hvs h)
  | _, _, _, .mul h h' hc => zhg hc (go_pr hvs h) (go_un hvs h')
theorem go_su {vs : List (List UInt8)} (hvs : ∀ w, varF vs w vs.length 0 ≥ 0 → w ≠ [45]) : ∀ {e l x}, Su vs e l x → GoS l x e vs
  | _, _, _, .one h => zhd (go_pr hvs h)
  | _, _, _, .add h h' hc => zhe hc (go_su hvs h) (go_pr hvs h')
end
end Go.Rf

namespace Go.Rf
theorem q3g (vs : List (List UInt8)) (s : List UInt8) : ∀ d i, 0 ≤ varF vs s d i → ∃ j, j < i + d ∧ varF vs s d i = (j : Int) ∧ tx vs j = s
  | 0, i, h => by exact absurd h (by show ¬ (0 : Int) ≤ -1; decide)
  | d + 1, i, h => by
    unfold varF at h ⊢
    split at h
    · rename_i c
      rw [if_pos c]
      exact ⟨i, by omega, rfl, c.symm⟩
    · rename_i c
      rw [if_neg c]
      obtain ⟨j, a, b, e⟩ := q3g vs s d (i + 1) h
      exact ⟨j, by omega, b, e⟩
theorem qxp (vs : List (List UInt8)) : ∀ f i, qk1 vs f i = 0 → ∀ j, i ≤ j → j < i + f → isName (tx vs j) = true
  | 0, i, _, j, h1, h2 => by omega
  | f + 1, i, h, j, h1, h2 => by
    unfold qk1 at h
    split at h
    · cases h
    · rename_i c
      split at h
      · cases h
      · by_cases e : j = i
        · subst e; simpa using c
        · exact qxp vs f (i + 1) h j (by omega) (by omega)
theorem q16 {vs : List (List UInt8)} (h : names vs = 0) : vs.length ≤ 16 ∧ ∀ j, j < vs.length → isName (tx vs j) = true := by
  unfold names at h
  split at h
  · cases h
  · exact ⟨by omega, fun j hj => qxp vs _ 0 h j (by omega) (by omega)⟩
theorem zb1 {vs : List (List UInt8)} (h : names vs = 0) {w : List UInt8} (hv : 0 ≤ varF vs w vs.length 0) : NameOk w := by
  obtain ⟨j, a, _, e⟩ := q3g vs w _ _ hv
  rw [← e]
  exact zg1 ((q16 h).2 j (by omega))
theorem zhr {s : List UInt8} {l : List Tk} {x : Nd} {e : Nat} {vs : List (List UInt8)} (hl : s.length ≤ 4096) (hr : Rend s l) (hx : Su vs e l x) (he : e ≤ 16) (hn : names vs = 0) (hb : ∀ k, (tx vs k).length ≤ 1100000) : exprV s vs = (some x, 0, qam) := by
  obtain ⟨hv16, hnm⟩ := q16 hn
  obtain ⟨ts, p, hs, hk⟩ := zcv hr hl
  obtain ⟨_, ht⟩ := qm6 hs
  have hok := ht.rd vs hv16 hb
  have hvs : ∀ w, varF vs w vs.length 0 ≥ 0 → w ≠ [45] := fun w hw e => by
    have := (zb1 hn hw).c
    rw [e] at this
    exact absurd this (by decide)
  have hk0 : (rd0 ts vs).kts = l ++ [(0, [])] := hk
  obtain ⟨n', r', h1, h2, h3, h4, h5⟩ := go_su hvs hx (rd0 ts vs) [(0, [])] (rd0 ts vs).fuel hok rfl hk0 (by show (0 : Int) + e ≤ 16; omega) (fun ⟨h, _⟩ => by rcases h with h | h <;> cases h) (Nat.le_refl _)
  have e1 := zeq (x := x) h2.ok (show 1 ≤ n' by omega) (by rw [h4]; exact fun ⟨h, _⟩ => by rcases h with h | h <;> cases h)
  have hk2 := (qin h2.ok h4).1
  unfold exprV
  rw [if_neg (by rw [hn]; simp), hs]
  simp only []
  rw [h1, e1]
  simp only []
  rw [if_pos hk2]
def sumOp (op : Int) : Bool := op == 43 || op == 45
def Nd.adds : Nd → Bool
  | .two op _ _ => sumOp op
  | _ => false
def Nd.single : Nd → Bool
  | .two _ _ _ => false
  | _ => true
def opc (op : Int) : UInt8 := UInt8.ofNat op.toNat
def wrB (b : Bool) (w : List UInt8) : List UInt8 := if b then 40 :: (w ++ [41]) else w
def ptB (b : Bool) (l : List Tk) : List Tk := if b then (3, [40]) :: (l ++ [(3, [41])]) else l
def dpB (b : Bool) (d : Nat) : Nat := if b then d + 1 else d
def wr : Nd → List UInt8
  | .num k => textV 456 k
  | .name _ s => s
  | .minus x => 45 :: wrB (!x.single) (wr x)
  | .two op x y => wrB (!sumOp op && x.adds) (wr x) ++ 32 :: opc op :: 32 :: wrB (sumOp op && y.adds || !sumOp op && !y.single) (wr y)
def pt : Nd → List Tk
  | .num k => [(2, textV 456 k)]
  | .name _ s => [(1, s)]
  | .minus x => (3, [45]) :: ptB (!x.single) (pt x)
  | .two op x y => ptB (!sumOp op && x.adds) (pt x) ++ (3, [opc op]) :: ptB (sumOp op && y.adds || !sumOp op && !y.single) (pt y)
def dp : Nd → Nat
  | .num _ => 0
  | .name _ _ => 0
  | .minus x => dpB (!x.single) (dp x)
  | .two op x y => max (dpB (!sumOp op && x.adds) (dp x)) (dpB (sumOp op && y.adds || !sumOp op && !y.single) (dp y))
def Nd.pr (vs : List (List UInt8)) : Nd → Prop
  | .num k => 0 ≤ k ∧ (limbs k).length ≤ 32
  | .name v s => NameOk s ∧ varF vs s vs.length 0 = v ∧ 0 ≤ v ∧ qk2 s = false
  | .minus x => x.pr vs
  | .two op x y => (op = 43 ∨ op = 45 ∨ op = 42 ∨ op = 47 ∨ op = 37) ∧ x.pr vs ∧ y.pr vs
theorem un_le {vs : List (List UInt8)} {e l x} (h : Un vs e l x) : ∀ k, Un vs (e + k) l x
  | 0 => h
  | k + 1 => .weak (un_le h k)
theorem pr_le {vs : List (List UInt8)} (k : Nat) : ∀ {e l x}, Pr vs e l x → Pr vs (e + k) l x
  | _, _, _, .one h => .one (un_le h k)
  | _, _, _, .mul h h' hc => .mul (pr_le k h) (un_le h' k) hc
theorem su_le {vs : List (List UInt8)} (k : Nat) : ∀ {e l x}, Su vs e l x → Su vs (e + k) l x
  | _, _, _, .one h => .one (pr_le k h)
  | _, _, _, .add h h' hc => .add (su_le k h) (pr_le k h') hc
theorem un_to {vs : List (List UInt8)} {e f : Nat} {l x} (h : Un vs e l x) (hf : e ≤ f) : Un vs f l x := by
  have := un_le h (f - e)
  rwa [show e + (f - e) = f by omega] at this
theorem pr_to {vs : List (List UInt8)} {e f : Nat} {l x} (h : Pr vs e l x) (hf : e ≤ f) : Pr vs f l x := by
  have := pr_le (f - e) h
  rwa [show e + (f - e) = f by omega] at this
theorem su_to {vs : List (List UInt8)} {e f : Nat} {l x} (h : Su vs e l x) (hf : e ≤ f) : Su vs f l x := by
  have := su_le (f - e) h
  rwa [show e + (f - e) = f by omega] at this
theorem zel {op : Int} (h : op = 43 ∨ op = 45 ∨ op = 42 ∨ op = 47 ∨ op = 37) : opc op ∈ signs ∧ (sumOp op = true → (opc op = 43 ∧ op = 43 ∨ opc op = 45 ∧ op = 45)) ∧ (sumOp op = false → (opc op = 42 ∧ op = 42 ∨ opc op = 47 ∧ op = 47 ∨ opc op = 37 ∧ op = 37)) := by
  rcases h with rfl | rfl | rfl | rfl | rfl <;> decide
structure PtOk (vs : List (List UInt8)) (x : Nd) : Prop where
  s : Su vs (dp x) (pt x) x
  p : x.adds = false → Pr vs (dp x) (pt x) x
  u : x.single = true → Un vs (dp x) (pt x) x
theorem PtOk.ub {vs x} (h : PtOk vs x) (b : Bool) (hb : b = !x.single) : Un vs (dpB b (dp x)) (ptB b (pt x)) x := by
  subst hb
  cases hs : x.single with
  | true => exact h.u hs
  | false => exact .par h.s
theorem PtOk.pb {vs x} (h : PtOk vs x) (b : Bool) (hb : b = x.adds) : Pr vs (dpB b (dp x)) (ptB b (pt x)) x := by
  subst hb
  cases hs : x.adds with
  | true => exact .one (.par h.s)
  | false => exact h.p hs
theorem pt_ok {vs : List (List UInt8)} : ∀ x : Nd, x.pr vs → PtOk vs x
  | .num k, h => by
    have hv := (qo5 h.1 (qq0 h.1 h.2)).2
    have hu : Un vs 0 [(2, textV 456 k)] (.num k) := by
      conv => arg 4; rw [← hv]
      exact .num
    exact ⟨.one (.one hu), fun _ => .one hu, fun _ => hu⟩
  | .name v s, h => by
    have hu : Un vs 0 [(1, s)] (.name v s) := .name h.2.1 h.2.2.1 h.2.2.2
    exact ⟨.one (.one hu), fun _ => .one hu, fun _ => hu⟩
  | .minus x, h => by
    have ih := pt_ok x h
    have hu : Un vs (dp (.minus x)) (pt (.minus x)) (.minus x) := .minus (ih.ub _ rfl)
    exact ⟨.one (.one hu), fun _ => .one hu, fun _ => hu⟩
  | .two op x y, h => by
    have i1 := pt_ok x h.2.1
    have i2 := pt_ok y h.2.2
    obtain ⟨_, o1, o2⟩ := zel h.1
    cases hs : sumOp op with
    | true =>
      have e1 : (!sumOp op && x.adds) = false := by rw [hs]; rfl
      have e2 : (sumOp op && y.adds || !sumOp op && !y.single) = y.adds := by rw [hs]; simp
      have hsu : Su vs (dp (.two op x y)) (pt (.two op x y)) (.two op x y) := by
        unfold dp pt
        rw [e1, e2]
        exact .add (su_to i1.s (Nat.le_max_left ..)) (pr_to (i2.pb _ rfl) (Nat.le_max_right ..)) (o1 hs)
      refine ⟨hsu, fun ha => ?_, fun ha => ?_⟩
      · have ha : sumOp op = false := ha
        rw [hs] at ha; cases ha
      · cases ha
    | false =>
      have e1 : (!sumOp op && x.adds) = x.adds := by rw [hs]; rfl
      have e2 : (sumOp op && y.adds || !sumOp op && !y.single) = !y.single := by rw [hs]; simp
      have hp : Pr vs (dp (.two op x y)) (pt (.two op x y)) (.two op x y) := by
        unfold dp pt
        rw [e1, e2]
        exact .mul (pr_to (i1.pb _ rfl) (Nat.le_max_left ..)) (un_to (i2.ub _ rfl) (Nat.le_max_right ..)) (o2 hs)
      exact ⟨.one hp, fun _ => hp, fun ha => by cases ha⟩
def Tl (t : List UInt8) : Prop := Stops qbr t ∧ Stops qb3 t
theorem tl_nil : Tl [] := ⟨trivial, trivial⟩
theorem zb4 (t) : Tl (32 :: t) := ⟨⟨by decide, by decide⟩, ⟨by decide, by decide⟩⟩
theorem zb5 (t) : Tl (41 :: t) := ⟨⟨by decide, by decide⟩, ⟨by decide, by decide⟩⟩
theorem zfk {vs : List (List UInt8)} : ∀ x : Nd, x.pr vs → ∀ (t : List UInt8) (l : List Tk), Tl t → Rend t l → Rend (wr x ++ t) (pt x ++ l) := by
  have brk : ∀ (b : Bool) (w : List UInt8) (q : List Tk), (∀ t l, Tl t → Rend t l → Rend (w ++ t) (q ++ l)) → ∀ t l, Tl t → Rend t l → Rend (wrB b w ++ t) (ptB b q ++ l) := by
    intro b w q h t l ht hr
    cases b with
    | false => exact h t l ht hr
    | true =>
      have h1 := h (41 :: t) ((3, [41]) :: l) (zb5 t) (.sign (by decide) hr)
      have h2 := Rend.sign (c := 40) (by decide) h1
      simpa [wrB, ptB] using h2
  intro x
  induction x with
  | num k => intro h t l ht hr; exact zcu h.1 h.2 ht.2 hr
  | name v s => intro h t l ht hr; exact q9h h.1 ht.1 hr
  | minus x ih =>
    intro h t l ht hr
    have h1 := brk (!x.single) (wr x) (pt x) (ih h) t l ht hr
    exact .sign (by decide) h1
  | two op x y ih1 ih2 =>
    intro h t l ht hr
    obtain ⟨o0, _, _⟩ := zel h.1
    have h2 := brk (sumOp op && y.adds || !sumOp op && !y.single) (wr y) (pt y) (ih2 h.2.2) t l ht hr
    have h1 := brk (!sumOp op && x.adds) (wr x) (pt x) (ih1 h.2.1) _ _ (zb4 _) (.space (.sign o0 (.space h2)))
    simpa [wr, pt] using h1
end Go.Rf
