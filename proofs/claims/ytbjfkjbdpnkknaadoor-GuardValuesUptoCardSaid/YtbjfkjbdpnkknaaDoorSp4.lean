/- Parts of the proof: SpL2, SpL3, SpP, SpT. -/
import Derived.Test.YtbjfkjbdpnkknaaDoorSp3

/- limbs: adding, taking away, multiplying. -/
namespace Go.Rf

theorem nth_out {xs : List Int} {i : Nat} (h : xs.length ≤ i) : nth xs i = 0 := by simp [nth, List.getD_eq_getElem?_getD, List.getElem?_eq_none h]
theorem nv_take_succ' (xs : List Int) (i : Nat) : nv (xs.take (i + 1)) = nv (xs.take i) + pw i * nth xs i := by
  by_cases h : i < xs.length
  · exact nv_take_succ h
  · rw [List.take_of_length_le (by omega), List.take_of_length_le (by omega), nth_out (by omega)]; simp
theorem pw_split (i : Nat) (c : Int) : pw i * (c % 4294967296) + pw (i + 1) * (c / 4294967296) = pw i * c := by
  have h : c = c % 4294967296 + 4294967296 * (c / 4294967296) := by omega
  have e : pw i * c = pw i * (c % 4294967296 + 4294967296 * (c / 4294967296)) := by rw [← h]
  rw [e, Int.mul_add, pw]
  congr 1
  rw [Int.mul_comm 4294967296 (pw i), Int.mul_assoc]
theorem nth_set {xs : List Int} {k : Nat} (h : k < xs.length) (y : Int) (j : Nat) : nth (xs.set k y) j = if j = k then y else nth xs j := by
  unfold nth
  simp only [List.getD_eq_getElem?_getD, List.getElem?_set]
  by_cases e : k = j
  · subst e; simp [h]
  · rw [if_neg e, if_neg (Ne.symm e)]
theorem nv_set : ∀ {xs : List Int} {k : Nat}, k < xs.length → ∀ y, nv (xs.set k y) = nv xs + pw k * (y - nth xs k)
  | x :: xs, 0, _, y => by simp only [List.set_cons_zero, nv, nth_cons_zero, pw]; omega
  | x :: xs, k + 1, h, y => by
    simp only [List.set_cons_succ, nv, nth_cons_succ, pw, nv_set (Nat.lt_of_succ_lt_succ h) y, Int.mul_add, Int.mul_assoc]
    omega
theorem good_set {xs : List Int} (hg : Good xs) (k : Nat) {y : Int} (h : 0 ≤ y ∧ y < 4294967296) : Good (xs.set k y) := by
  intro x hx
  rcases List.mem_or_eq_of_mem_set hx with hx | hx
  · exact hg x hx
  · subst hx; exact h
theorem good_rep (n : Nat) : Good (List.replicate n 0) := by
  intro x hx
  rw [(List.mem_replicate.1 hx).2]
  decide
theorem nv_rep (n : Nat) : nv (List.replicate n 0) = 0 := by
  induction n with
  | zero => rfl
  | succ n ih => simp only [List.replicate_succ, nv, ih]; rfl
theorem nv_set_take {xs : List Int} {i : Nat} (h : i < xs.length) (y : Int) : nv ((xs.set i y).take (i + 1)) = nv (xs.take i) + pw i * y := by
  rw [nv_take_succ (by simpa using h), List.take_set_of_le (Nat.le_refl _), nth_set h, if_pos rfl]
theorem mul_lt {x y : Int} (hx : 0 ≤ x ∧ x < 4294967296) (hy : 0 ≤ y ∧ y < 4294967296) : 0 ≤ x * y ∧ x * y ≤ 18446744065119617025 := by
  refine ⟨Int.mul_nonneg hx.1 hy.1, ?_⟩
  have h1 : x * y ≤ 4294967295 * y := Int.mul_le_mul_of_nonneg_right (by omega) hy.1
  omega

/-! ### Add -/
theorem add_loop (as bs : List Int) (hs : as.length ≤ 1099511627776) (hs' : bs.length ≤ as.length) (ha : Good as) (hb : Good bs) : ∀ d i (out : List Int) (c : Int), d + i = as.length → out.length = i → Good out → 0 ≤ c → c ≤ 1 →
    nv out + pw i * c = nv (as.take i) + nv (bs.take i) →
    ∃ out' c', codeX T0 X0 0 a_limbs_Add_l0 (some (.nrm, ⟨[(0, .d (.sl (L as))), (1, .d (.sl (L bs))), (5, .ref (.b 0) ⟨1, 4⟩ 0 out.length), (6, .d (.int .u64 c)), (24, .d (.int .i64 as.length)), (25, .d (.int .i64 i))], [.arr (LV out) ⟨1, 4⟩]⟩)) = some (.exit 0, ⟨[(5, .ref (.b 0) ⟨1, 4⟩ 0 out'.length), (6, .d (.int .u64 c'))], [.arr (LV out') ⟨1, 4⟩]⟩) ∧
      out'.length = as.length ∧ Good out' ∧ 0 ≤ c' ∧ c' ≤ 1 ∧ nv out' + pw as.length * c' = nv as + nv (bs.take as.length) := by
  intro d
  induction d with
  | zero =>
    intro i out c hi ho hg hc hc1 hv
    have : i = as.length := by omega
    subst this
    refine ⟨out, c, ?_, ho, hg, hc, hc1, by rw [hv, List.take_length]⟩
    rw [codeX_loop (l := a_limbs_Add_l0) rfl]
    simp -implicitDefEqProofs (disch := omega) [a_limbs_Add_b0]
  | succ d ih =>
    intro i out c hi ho hg hc hc1 hv
    have n1 := ha.nth i
    have n2 := hb.nth i
    rw [codeX_loop (l := a_limbs_Add_l0) rfl]
    have step := ih (i + 1) (out ++ [(c + nth as i + nth bs i) % 4294967296]) ((c + nth as i + nth bs i) / 4294967296) (by omega) (by simp [ho]) (good_app.2 ⟨hg, good_cons.2 ⟨by omega, Good.nil⟩⟩) (by omega) (by omega) (by
      rw [nv_take_succ', nv_take_succ', nv_snoc, ho]
      have := pw_split i (c + nth as i + nth bs i)
      simp only [Int.mul_add] at this ⊢
      omega)
    obtain ⟨out', c', h1, h2⟩ := step
    refine ⟨out', c', ?_, h2⟩
    rw [← h1]
    by_cases hb' : i < bs.length
    · simp -implicitDefEqProofs (disch := omega) [a_limbs_Add_b0]
    · have e := nth_out (xs := bs) (i := i) (by omega)
      simp -implicitDefEqProofs (disch := omega) [a_limbs_Add_b0, e]
theorem add_res {as bs out : List Int} {c : Int} (c1 : Can as) (hbn : 0 ≤ nv bs) (ho : out.length = as.length) (hg : Good out) (hc : c = 0 ∨ c = 1)
    (hv : nv out + pw as.length * c = nv as + nv bs) : limbs (nv as + nv bs) = if c = 0 then out else out ++ [1] := by
  have hbd := nv_bounds hg
  rcases hc with rfl | rfl
  · have hv' : nv as + nv bs = nv out := by omega
    rw [hv', if_pos rfl, ← limbs_of hg]
    rcases c1 with c1 | c1
    · left; rw [c1] at ho; exact List.eq_nil_of_length_eq_zero ho
    · right; rw [ho]; omega
  · have hv' : nv as + nv bs = nv (out ++ [1]) := by rw [nv_snoc, ho]; omega
    rw [hv', if_neg (by decide), ← limbs_of (good_app.2 ⟨hg, good_cons.2 ⟨by decide, Good.nil⟩⟩)]
    right
    rw [nv_snoc, List.length_append, List.length_singleton, Nat.add_sub_cancel]
    omega
theorem add_spec {xs ys : List Int} (hx : Good xs) (hy : Good ys) (hs : xs.length < 1099511627776) (hs' : ys.length < 1099511627776) :
    callE T0 X0 f_limbs_Add [.d (.sl (L xs)), .d (.sl (L ys))] [] = some (.ret [.d (.sl (L (limbs (nv xs + nv ys))))] []) := by
  rw [callX_fun (af := a_limbs_Add) rfl rfl rfl]
  have h1 := limbs_nv (nv_bounds hx).1
  have h2 := limbs_nv (nv_bounds hy).1
  have l1 : (limbs (nv xs)).length ≤ xs.length := limbs_len (nv_bounds hx).1 (nv_bounds hx).2
  have l2 : (limbs (nv ys)).length ≤ ys.length := limbs_len (nv_bounds hy).1 (nv_bounds hy).2
  have g1 := limbs_good (nv xs)
  have g2 := limbs_good (nv ys)
  have c1 := limbs_can (nv xs)
  have c2 := limbs_can (nv ys)
  have s1 := short_spec hx (by omega)
  have s2 := short_spec hy (by omega)
  generalize ha : limbs (nv xs) = as at *
  generalize hb : limbs (nv ys) = bs at *
  rw [← h1, ← h2]
  have hn1 := (nv_bounds g1).1
  have hn2 := (nv_bounds g2).1
  by_cases hle : as.length < bs.length
  · obtain ⟨out, c, hl, ho, hg, hc0, hc1, hv⟩ := add_loop bs as (by omega) (by omega) g2 g1 bs.length 0 [] 0 (by omega) rfl Good.nil (by omega) (by omega) rfl
    rw [List.take_of_length_le (by omega)] at hv
    rw [Int.add_comm, add_res c2 hn1 ho hg (by omega) hv]
    simp only [List.length_nil, LV_nil, Int.cast_ofNat_Int] at hl
    by_cases hc : c = 0
    · subst hc
      simp -implicitDefEqProofs (disch := omega) [a_limbs_Add, s1, s2, hl]
    · have hc : c = 1 := by omega
      subst hc
      simp -implicitDefEqProofs (disch := omega) [a_limbs_Add, s1, s2, hl]
  · obtain ⟨out, c, hl, ho, hg, hc0, hc1, hv⟩ := add_loop as bs (by omega) (by omega) g1 g2 as.length 0 [] 0 (by omega) rfl Good.nil (by omega) (by omega) rfl
    rw [List.take_of_length_le (by omega)] at hv
    rw [add_res c1 hn2 ho hg (by omega) hv]
    simp only [List.length_nil, LV_nil, Int.cast_ofNat_Int] at hl
    by_cases hc : c = 0
    · subst hc
      simp -implicitDefEqProofs (disch := omega) [a_limbs_Add, s1, s2, hl]
    · have hc : c = 1 := by omega
      subst hc
      simp -implicitDefEqProofs (disch := omega) [a_limbs_Add, s1, s2, hl]

/-! ### Sub -/
theorem sub_loop (as bs : List Int) (hs : as.length ≤ 1099511627776) (hs' : bs.length ≤ as.length) (ha : Good as) (hb : Good bs) : ∀ d i (out : List Int) (c : Int), d + i = as.length → out.length = as.length → Good out → 0 ≤ c → c ≤ 1 →
    nv (out.take i) - pw i * c = nv (as.take i) - nv (bs.take i) →
    ∃ out' c', codeX T0 X0 0 a_limbs_Sub_l0 (some (.nrm, ⟨[(0, .d (.sl (L as))), (1, .d (.sl (L bs))), (6, .ref (.b 0) ⟨1, 4⟩ 0 as.length), (7, .d (.int .u64 c)), (22, .d (.int .i64 as.length)), (23, .d (.int .i64 i))], [.arr (LV out) ⟨1, 4⟩]⟩)) = some (.exit 0, ⟨[(6, .ref (.b 0) ⟨1, 4⟩ 0 as.length)], [.arr (LV out') ⟨1, 4⟩]⟩) ∧
      out'.length = as.length ∧ Good out' ∧ 0 ≤ c' ∧ c' ≤ 1 ∧ nv out' - pw as.length * c' = nv as - nv (bs.take as.length) := by
  intro d
  induction d with
  | zero =>
    intro i out c hi ho hg hc hc1 hv
    have : i = as.length := by omega
    subst this
    refine ⟨out, c, ?_, ho, hg, hc, hc1, by rw [← ho, List.take_length] at hv; rw [ho] at hv; rw [hv, List.take_length]⟩
    rw [codeX_loop (l := a_limbs_Sub_l0) rfl]
    simp -implicitDefEqProofs (disch := omega) [a_limbs_Sub_b0]
  | succ d ih =>
    intro i out c hi ho hg hc hc1 hv
    have n1 := ha.nth i
    have n2 := hb.nth i
    rw [codeX_loop (l := a_limbs_Sub_l0) rfl]
    have step := ih (i + 1) (out.set i ((nth as i - c - nth bs i) % 4294967296)) (-((nth as i - c - nth bs i) / 4294967296)) (by omega) (by simp [ho]) (good_set hg _ (by omega)) (by omega) (by omega) (by
      rw [nv_set_take (by omega), nv_take_succ', nv_take_succ']
      have := pw_split i (nth as i - c - nth bs i)
      simp only [Int.mul_sub, Int.mul_neg] at this ⊢
      omega)
    obtain ⟨out', c', h1, h2⟩ := step
    refine ⟨out', c', ?_, h2⟩
    rw [← h1]
    by_cases hb' : i < bs.length
    · have e2 : (nth as i - c - nth bs i) % 18446744073709551616 / 9223372036854775808 = -((nth as i - c - nth bs i) / 4294967296) := by omega
      simp -implicitDefEqProofs (disch := omega) [a_limbs_Sub_b0, wrap_u64_mod, e2]
    · have e := nth_out (xs := bs) (i := i) (by omega)
      have e2 : (nth as i - c) % 18446744073709551616 / 9223372036854775808 = -((nth as i - c) / 4294967296) := by omega
      simp -implicitDefEqProofs (disch := omega) [a_limbs_Sub_b0, e, wrap_u64_mod, e2]

theorem sub_spec {xs ys : List Int} (hx : Good xs) (hy : Good ys) (hs : xs.length < 1099511627776) (hs' : ys.length < 1099511627776) :
    callE T0 X0 f_limbs_Sub [.d (.sl (L xs)), .d (.sl (L ys))] [] = some (.ret (if nv xs < nv ys then [.d (.sl []), .d (.bool false)] else [.d (.sl (L (limbs (nv xs - nv ys)))), .d (.bool true)]) []) := by
  rw [callX_fun (af := a_limbs_Sub) rfl rfl rfl]
  have h1 := limbs_nv (nv_bounds hx).1
  have h2 := limbs_nv (nv_bounds hy).1
  have l1 : (limbs (nv xs)).length ≤ xs.length := limbs_len (nv_bounds hx).1 (nv_bounds hx).2
  have l2 : (limbs (nv ys)).length ≤ ys.length := limbs_len (nv_bounds hy).1 (nv_bounds hy).2
  have g1 := limbs_good (nv xs)
  have g2 := limbs_good (nv ys)
  have c1 := limbs_can (nv xs)
  have c2 := limbs_can (nv ys)
  have s1 := short_spec hx (by omega)
  have s2 := short_spec hy (by omega)
  generalize ha : limbs (nv xs) = as at *
  generalize hb : limbs (nv ys) = bs at *
  rw [← h1, ← h2]
  have s3 := cmp_spec g1 g2 (by omega) (by omega)
  by_cases hlt : nv as < nv bs
  · rw [cmp, if_pos hlt] at s3
    simp -implicitDefEqProofs (disch := omega) [a_limbs_Sub, s1, s2, s3]
  · have hle : bs.length ≤ as.length := by
      by_cases h : bs.length ≤ as.length
      · exact h
      · have := len_lt_nv g1 c2 (show as.length < bs.length by omega)
        omega
    have h3 : ¬ cmp (nv as) (nv bs) < 0 := by
      unfold cmp
      rw [if_neg hlt]
      split <;> omega
    obtain ⟨out, c, hl, ho, hg, hc0, hc1, hv⟩ := sub_loop as bs (by omega) (by omega) g1 g2 as.length 0 (List.replicate as.length 0) 0 (by omega) (by simp) (good_rep _) (by omega) (by omega) (by simp [nv])
    rw [List.take_of_length_le (by omega)] at hv
    have hb1 := nv_bounds hg
    rw [ho] at hb1
    have hc : c = 0 := by
      rcases (show c = 0 ∨ c = 1 by omega) with h | h
      · exact h
      · subst h; omega
    subst hc
    have s4 := short_spec hg (by omega)
    have hv' : nv out = nv as - nv bs := by omega
    rw [hv'] at s4
    simp only [Int.cast_ofNat_Int] at hl
    have ht : out.take as.length = out := List.take_of_length_le (by omega)
    simp -implicitDefEqProofs (disch := omega) [a_limbs_Sub, s1, s2, s3, s4, hl, ht]
    done

/-! ### Mul -/
theorem mul_in (as out0 bs : List Int) (i : Nat) (x : Int) (hs : out0.length ≤ 1099511627776) (hi : i + bs.length < out0.length) (hx : 0 ≤ x ∧ x < 4294967296) (hb : Good bs) : ∀ d j (out : List Int) (c : Int), d + j = bs.length → out.length = out0.length → Good out → 0 ≤ c → c < 4294967296 →
    (∀ k, i + bs.length ≤ k → nth out k = nth out0 k) →
    nv out + pw (i + j) * c = nv out0 + pw i * (x * nv (bs.take j)) →
    ∃ out' c', codeX T0 X0 0 a_limbs_Mul_l0 (some (.nrm, ⟨[(1, .d (.sl (L bs))), (5, .ref (.b 0) ⟨1, 4⟩ 0 out0.length), (6, .d (.int .i64 i)), (7, .d (.int .u32 x)), (8, .d (.int .u64 c)), (29, .d (.sl (L as))), (30, .d (.int .i64 as.length)), (31, .d (.int .i64 i)), (36, .d (.sl (L bs))), (37, .d (.int .i64 bs.length)), (38, .d (.int .i64 j))], [.arr (LV out) ⟨1, 4⟩]⟩)) =
        some (.exit 2, ⟨[(1, .d (.sl (L bs))), (5, .ref (.b 0) ⟨1, 4⟩ 0 out0.length), (6, .d (.int .i64 i)), (8, .d (.int .u64 c')), (29, .d (.sl (L as))), (30, .d (.int .i64 as.length)), (31, .d (.int .i64 i))], [.arr (LV out') ⟨1, 4⟩]⟩) ∧
      out'.length = out0.length ∧ Good out' ∧ 0 ≤ c' ∧ c' < 4294967296 ∧ (∀ k, i + bs.length ≤ k → nth out' k = nth out0 k) ∧ nv out' + pw (i + bs.length) * c' = nv out0 + pw i * (x * nv bs) := by
  intro d
  induction d with
  | zero =>
    intro j out c hd ho hg hc hc1 hk hv
    have : j = bs.length := by omega
    subst this
    refine ⟨out, c, ?_, ho, hg, hc, hc1, hk, by rw [hv, List.take_length]⟩
    rw [codeX_loop (l := a_limbs_Mul_l0) rfl]
    simp -implicitDefEqProofs (disch := omega) [a_limbs_Mul_b0]
  | succ d ih =>
    intro j out c hd ho hg hc hc1 hk hv
    have n1 := hb.nth j
    have n2 := hg.nth (i + j)
    have n3 := mul_lt hx n1
    have hm : 0 ≤ c + (x * nth bs j + nth out (i + j)) ∧ c + (x * nth bs j + nth out (i + j)) ≤ 18446744073709551615 := by omega
    rw [codeX_loop (l := a_limbs_Mul_l0) rfl]
    have step := ih (j + 1) (out.set (i + j) ((c + (x * nth bs j + nth out (i + j))) % 4294967296)) ((c + (x * nth bs j + nth out (i + j))) / 4294967296) (by omega) (by simp [ho]) (good_set hg _ (by omega)) (by omega) (by omega) (by
      intro k hk'
      rw [nth_set (by omega), if_neg (by omega)]
      exact hk k hk') (by
      rw [nv_take_succ', nv_set (by omega)]
      have e1 := pw_split (i + j) (c + (x * nth bs j + nth out (i + j)))
      have e2 : pw i * (x * (nv (bs.take j) + pw j * nth bs j)) = pw i * (x * nv (bs.take j)) + pw (i + j) * (x * nth bs j) := by
        rw [pw_add j i, Int.mul_add, Int.mul_add, ← Int.mul_assoc x (pw j), Int.mul_comm x (pw j)]
        simp only [Int.mul_assoc]
      rw [e2, ← Nat.add_assoc]
      simp only [Int.mul_sub, Int.mul_add] at e1 ⊢
      omega)
    obtain ⟨out', c', h1, h2⟩ := step
    refine ⟨out', c', ?_, h2⟩
    rw [← h1]
    simp -implicitDefEqProofs (disch := omega) [a_limbs_Mul_b0]
    done

theorem mul_out (as bs : List Int) (hs : as.length + bs.length ≤ 1099511627776) (ha : Good as) (hb : Good bs) : ∀ d i (out : List Int), d + i = as.length → out.length = as.length + bs.length → Good out →
    (∀ k, i + bs.length ≤ k → nth out k = 0) → nv out = nv (as.take i) * nv bs →
    ∃ out', codeX T0 X0 0 a_limbs_Mul_l1 (some (.nrm, ⟨[(1, .d (.sl (L bs))), (5, .ref (.b 0) ⟨1, 4⟩ 0 out.length), (29, .d (.sl (L as))), (30, .d (.int .i64 as.length)), (31, .d (.int .i64 i))], [.arr (LV out) ⟨1, 4⟩]⟩)) =
        some (.exit 0, ⟨[(5, .ref (.b 0) ⟨1, 4⟩ 0 out'.length)], [.arr (LV out') ⟨1, 4⟩]⟩) ∧
      out'.length = as.length + bs.length ∧ Good out' ∧ nv out' = nv as * nv bs := by
  intro d
  induction d with
  | zero =>
    intro i out hd ho hg hk hv
    have : i = as.length := by omega
    subst this
    refine ⟨out, ?_, ho, hg, by rw [hv, List.take_length]⟩
    rw [codeX_loop (l := a_limbs_Mul_l1) rfl]
    simp -implicitDefEqProofs (disch := omega) [a_limbs_Mul_b1]
  | succ d ih =>
    intro i out hd ho hg hk hv
    have n1 := ha.nth i
    rw [codeX_loop (l := a_limbs_Mul_l1) rfl]
    obtain ⟨out1, c, h1, ho1, hg1, hc0, hc1, hk1, hv1⟩ := mul_in as out bs i (nth as i) (by omega) (by omega) n1 hb bs.length 0 out 0 (by omega) rfl hg (by omega) (by omega) (fun _ _ => rfl) (by simp [nv])
    have step := ih (i + 1) (out1.set (i + bs.length) c) (by omega) (by simp [ho1, ho]) (good_set hg1 _ (by omega)) (by
      intro k hk'
      rw [nth_set (by omega), if_neg (by omega), hk1 k (by omega)]
      exact hk k (by omega)) (by
      rw [nv_take_succ', nv_set (by omega), hk1 _ (Nat.le_refl _), hk _ (Nat.le_refl _), Int.sub_zero, Int.add_mul, Int.mul_assoc, ← hv]
      omega)
    obtain ⟨out', h3, h4⟩ := step
    refine ⟨out', ?_, h4⟩
    rw [← h3]
    simp only [Int.cast_ofNat_Int] at h1
    simp -implicitDefEqProofs (disch := omega) [a_limbs_Mul_b1, h1, ho1]
    done

theorem mul_spec {xs ys : List Int} (hx : Good xs) (hy : Good ys) (hs : xs.length + ys.length < 1099511627776) :
    callE T0 X0 f_limbs_Mul [.d (.sl (L xs)), .d (.sl (L ys))] [] = some (.ret [.d (.sl (L (limbs (nv xs * nv ys))))] []) := by
  rw [callX_fun (af := a_limbs_Mul) rfl rfl rfl]
  have h1 := limbs_nv (nv_bounds hx).1
  have h2 := limbs_nv (nv_bounds hy).1
  have l1 : (limbs (nv xs)).length ≤ xs.length := limbs_len (nv_bounds hx).1 (nv_bounds hx).2
  have l2 : (limbs (nv ys)).length ≤ ys.length := limbs_len (nv_bounds hy).1 (nv_bounds hy).2
  have g1 := limbs_good (nv xs)
  have g2 := limbs_good (nv ys)
  have s1 := short_spec hx (by omega)
  have s2 := short_spec hy (by omega)
  generalize ha : limbs (nv xs) = as at *
  generalize hb : limbs (nv ys) = bs at *
  rw [← h1, ← h2]
  by_cases za : as.length = 0
  · have za' := List.eq_nil_of_length_eq_zero za
    rw [show nv as = 0 by rw [za']; rfl, Int.zero_mul]
    simp -implicitDefEqProofs (disch := omega) [a_limbs_Mul, s1, s2, -List.length_eq_zero_iff]
  by_cases zb : bs.length = 0
  · have zb' := List.eq_nil_of_length_eq_zero zb
    rw [show nv bs = 0 by rw [zb']; rfl, Int.mul_zero]
    simp -implicitDefEqProofs (disch := omega) [a_limbs_Mul, s1, s2, -List.length_eq_zero_iff]
  obtain ⟨out, hl, ho, hg, hv⟩ := mul_out as bs (by omega) g1 g2 as.length 0 (List.replicate (as.length + bs.length) 0) (by omega) (by simp) (good_rep _) (by intro k _; simp [nth, List.getD_eq_getElem?_getD, List.getElem?_replicate]; split <;> rfl) (by simp [nv, nv_rep])
  have s4 := short_spec hg (by omega)
  rw [hv] at s4
  simp only [Int.cast_ofNat_Int, List.length_replicate] at hl
  simp -implicitDefEqProofs (disch := omega) [a_limbs_Mul, s1, s2, s4, hl, -List.length_eq_zero_iff]
end Go.Rf

/- limbs: small ones, bits. -/
namespace Go.Rf

/-- How many bits a number has. -/
def blen (n : Int) : Int := if n ≤ 0 then 0 else Nat.log2 n.toNat + 1
theorem blen_zero : blen 0 = 0 := rfl
theorem log2_div {n k : Nat} (h : 2 ^ k ≤ n) : Nat.log2 n = k + Nat.log2 (n / 2 ^ k) := by
  have hp : 0 < 2 ^ k := Nat.two_pow_pos k
  have hq : n / 2 ^ k ≠ 0 := by
    have := Nat.div_pos h hp
    omega
  apply (Nat.log2_eq_iff (by omega)).2
  have h1 := (Nat.log2_eq_iff hq).1 rfl
  generalize Nat.log2 (n / 2 ^ k) = m at h1
  rw [Nat.pow_add, show k + m + 1 = k + (m + 1) from rfl, Nat.pow_add]
  refine ⟨?_, ?_⟩
  · exact Nat.le_trans (Nat.mul_le_mul_left _ h1.1) (Nat.mul_div_le n _)
  · rw [Nat.mul_comm]; exact (Nat.div_lt_iff_lt_mul hp).1 h1.2
theorem blen_div {n : Int} {k : Nat} {p : Int} (hp : p = 2 ^ k) (h : p ≤ n) : blen n = k + blen (n / p) := by
  subst hp
  obtain ⟨m, rfl⟩ := Int.eq_ofNat_of_zero_le (Int.le_trans (by have := Int.pow_pos (n := 2) (m := k) (by decide); omega) h)
  have h' : 2 ^ k ≤ m := by exact_mod_cast h
  have hp : 0 < 2 ^ k := Nat.two_pow_pos k
  have hq := Nat.div_pos h' hp
  have e : ((m : Int) / 2 ^ k) = ((m / 2 ^ k : Nat) : Int) := by simp
  unfold blen
  rw [e, if_neg (by omega), if_neg (by omega), Int.toNat_natCast, Int.toNat_natCast, log2_div h']
  omega

theorem len8 : ∀ i : Fin 256, ([0, 1, 2, 2, 3, 3, 3, 3, 4, 4, 4, 4, 4, 4, 4, 4] ++ List.replicate 16 5 ++ List.replicate 32 6 ++ List.replicate 64 7 ++ List.replicate 128 8 : List UInt8)[i.val]? = some (UInt8.ofNat (if i.val = 0 then 0 else Nat.log2 i.val + 1)) := by decide +kernel
theorem len8' {tab : List UInt8} (ht : tab = [0, 1, 2, 2, 3, 3, 3, 3, 4, 4, 4, 4, 4, 4, 4, 4] ++ List.replicate 16 5 ++ List.replicate 32 6 ++ List.replicate 64 7 ++ List.replicate 128 8) {n : Int} (h : 0 ≤ n ∧ n < 256) : tab[n.toNat]? = some (UInt8.ofNat (blen n).toNat) := by
  have := len8 ⟨n.toNat, by omega⟩
  rw [ht, this]
  unfold blen
  by_cases h0 : n = 0
  · subst h0; rfl
  · rw [if_neg (by show ¬ n.toNat = 0; omega), if_neg (by omega)]
    congr 1
theorem len8t {n : Int} (h : 0 ≤ n ∧ n < 256) : tab0[n.toNat]? = some (UInt8.ofNat (blen n).toNat) := len8' (by decide +kernel) h
theorem blen_nonneg (n : Int) : 0 ≤ blen n := by unfold blen; split <;> omega
theorem blen_le {n : Int} {k : Nat} (h : n < 2 ^ k) : blen n ≤ k := by
  unfold blen
  split
  · omega
  · have h' : n.toNat < 2 ^ k := by
      have : (n.toNat : Int) < ((2 ^ k : Nat) : Int) := by rw [Int.toNat_of_nonneg (by omega)]; exact_mod_cast h
      exact_mod_cast this
    have := (Nat.log2_lt (by omega)).2 h'
    omega
theorem blen_spec {n : Int} (h : 0 < n) : (2 : Int) ^ ((blen n).toNat - 1) ≤ n ∧ n < 2 ^ (blen n).toNat := by
  unfold blen
  rw [if_neg (by omega)]
  have h1 := (Nat.log2_eq_iff (n := n.toNat) (by omega)).1 rfl
  have e : ((n.toNat.log2 : Int) + 1).toNat = n.toNat.log2 + 1 := by omega
  rw [e, Nat.add_sub_cancel]
  obtain ⟨m, rfl⟩ := Int.eq_ofNat_of_zero_le (Int.le_of_lt h)
  rw [Int.toNat_natCast] at *
  refine ⟨by exact_mod_cast h1.1, by exact_mod_cast h1.2⟩

theorem len32_spec {x : Int} (h : 0 ≤ x ∧ x < 4294967296) : callE T0 X0 f_bits_Len32 [.d (.int .u32 x)] [] = some (.ret [.d (.int .i64 (blen x))] []) := by
  rw [callX_fun (af := a_bits_Len32) rfl rfl rfl]
  have b8 : ∀ {y : Int}, 0 ≤ y → y < 256 → blen y ≤ 8 := fun _ hy => blen_le (k := 8) (by omega)
  by_cases h1 : 65536 ≤ x
  · have e1 := blen_div (n := x) (k := 16) (p := 65536) rfl h1
    by_cases h2 : 256 ≤ x / 65536
    · have e2 := blen_div (n := x / 65536) (k := 8) (p := 256) rfl h2
      have e3 := b8 (y := x / 65536 / 256) (by omega) (by omega)
      have e4 := blen_nonneg (x / 65536 / 256)
      rw [e1, e2]
      simp -implicitDefEqProofs (disch := omega) [a_bits_Len32, len8t]
      omega
    · have e3 := b8 (y := x / 65536) (by omega) (by omega)
      have e4 := blen_nonneg (x / 65536)
      rw [e1]
      simp -implicitDefEqProofs (disch := omega) [a_bits_Len32, len8t]
      omega
  · by_cases h2 : 256 ≤ x
    · have e2 := blen_div (n := x) (k := 8) (p := 256) rfl h2
      have e3 := b8 (y := x / 256) (by omega) (by omega)
      have e4 := blen_nonneg (x / 256)
      rw [e2]
      simp -implicitDefEqProofs (disch := omega) [a_bits_Len32, len8t]
      omega
    · have e3 := b8 (y := x) (by omega) (by omega)
      have e4 := blen_nonneg x
      simp -implicitDefEqProofs (disch := omega) [a_bits_Len32, len8t]
      omega
theorem lead_spec {x : Int} (h : 0 ≤ x ∧ x < 4294967296) : callE T0 X0 f_bits_LeadingZeros32 [.d (.int .u32 x)] [] = some (.ret [.d (.int .i64 (32 - blen x))] []) := by
  rw [callX_fun (af := a_bits_LeadingZeros32) rfl rfl rfl]
  have e3 := blen_le (n := x) (k := 32) (by omega)
  have e4 := blen_nonneg x
  have s1 := len32_spec h
  simp -implicitDefEqProofs (disch := omega) [a_bits_LeadingZeros32, s1]

theorem small_spec {n : Int} (h : 0 ≤ n ∧ n < 18446744073709551616) : callE T0 X0 f_limbs_Small [.d (.int .u64 n)] [] = some (.ret [.d (.sl (L (limbs n)))] []) := by
  rw [callX_fun (af := a_limbs_Small) rfl rfl rfl]
  have s1 := short_spec (xs := [n % 4294967296, n / 4294967296]) (good_cons.2 ⟨by omega, good_cons.2 ⟨by omega, Good.nil⟩⟩) (by simp)
  have e : nv [n % 4294967296, n / 4294967296] = n := by simp only [nv]; omega
  rw [e] at s1
  simp only [L_cons, L_nil] at s1
  have w := wl_L [n % 4294967296, n / 4294967296]
  simp only [L_cons, L_nil] at w
  simp -implicitDefEqProofs (disch := omega) [a_limbs_Small, s1, w]

/-- How many limbs a number has. -/
def nlen (n : Int) : Int := (limbs n).length
theorem bits_spec {xs : List Int} (hg : Good xs) (hs : xs.length ≤ 1099511627776) : callE T0 X0 f_limbs_Bits [.d (.sl (L xs))] [] =
    some (.ret [.d (.int .i64 (if nv xs = 0 then 0 else 32 * (nlen (nv xs) - 1) + blen (nth (limbs (nv xs)) ((limbs (nv xs)).length - 1))))] []) := by
  rw [callX_fun (af := a_limbs_Bits) rfl rfl rfl]
  have s1 := short_spec hg hs
  have l1 : (limbs (nv xs)).length ≤ xs.length := limbs_len (nv_bounds hg).1 (nv_bounds hg).2
  by_cases h0 : nv xs = 0
  · rw [if_pos h0]
    rw [h0, limbs_zero] at s1
    simp -implicitDefEqProofs (disch := omega) [a_limbs_Bits, s1]
  · rw [if_neg h0]
    have hn : (limbs (nv xs)).length ≠ 0 := by
      intro h
      exact h0 ((limbs_nil (nv_bounds hg).1).1 (List.eq_nil_of_length_eq_zero h))
    have g := (limbs_good (nv xs)).nth ((limbs (nv xs)).length - 1)
    have s2 := len32_spec g
    have e3 := blen_le (n := nth (limbs (nv xs)) ((limbs (nv xs)).length - 1)) (k := 32) (by omega)
    have e4 := blen_nonneg (nth (limbs (nv xs)) ((limbs (nv xs)).length - 1))
    unfold nlen
    generalize limbs (nv xs) = as at *
    simp -implicitDefEqProofs (disch := omega) [a_limbs_Bits, s1, s2, -List.length_eq_zero_iff]
end Go.Rf

/- limbs: reading and telling numbers in tens. -/
namespace Go.Rf

theorem grow_loop (m : Int) (hm : 0 ≤ m ∧ m < 4294967296) (k : Nat) (hk : k ≤ 1099511627776) : ∀ d i (xs : List Int) (c : Int), d + i = xs.length → xs.length = k → Good xs → 0 ≤ c → c < 4294967296 →
    ∃ xs' c', codeX T0 X0 1 a_limbs_grow_l0 (some (.nrm, ⟨[(0, .ref (.b 0) ⟨1, 4⟩ 0 k), (1, .d (.int .u32 m)), (7, .d (.int .u64 c)), (12, .d (.int .i64 k)), (13, .d (.int .i64 i))], [.arr (LV xs) ⟨1, 4⟩]⟩)) = some (.exit 0, ⟨[(0, .ref (.b 0) ⟨1, 4⟩ 0 k), (7, .d (.int .u64 c'))], [.arr (LV xs') ⟨1, 4⟩]⟩) ∧
      xs'.length = k ∧ Good xs' ∧ 0 ≤ c' ∧ c' < 4294967296 ∧ nv xs' + pw k * c' = nv (xs.take i) + pw i * (c + m * nv (xs.drop i)) := by
  intro d
  induction d with
  | zero =>
    intro i xs c hd hl hg hc hc1
    have : i = k := by omega
    subst this
    refine ⟨xs, c, ?_, hl, hg, hc, hc1, ?_⟩
    · rw [codeX_loop (l := a_limbs_grow_l0) rfl]
      simp -implicitDefEqProofs (disch := omega) [a_limbs_grow_b0]
    · rw [← hl, List.take_length, List.drop_length]
      simp [nv]
  | succ d ih =>
    intro i xs c hd hl hg hc hc1
    have n1 := hg.nth i
    have n2 := mul_lt n1 hm
    rw [codeX_loop (l := a_limbs_grow_l0) rfl]
    obtain ⟨xs', c', h1, h2, h3, h4, h5, h6⟩ := ih (i + 1) (xs.set i ((c + nth xs i * m) % 4294967296)) ((c + nth xs i * m) / 4294967296) (by simp; omega) (by simp [hl]) (good_set hg _ (by omega)) (by omega) (by omega)
    refine ⟨xs', c', ?_, h2, h3, h4, h5, ?_⟩
    · rw [← h1]
      simp -implicitDefEqProofs (disch := omega) [a_limbs_grow_b0]
      done
    · rw [h6, nv_set_take (by omega)]
      have e1 : xs.drop i = nth xs i :: xs.drop (i + 1) := by
        rw [List.drop_eq_getElem_cons (by omega)]
        simp [nth, show i < xs.length by omega]
      have e2 : (xs.set i ((c + nth xs i * m) % 4294967296)).drop (i + 1) = xs.drop (i + 1) := by
        rw [List.drop_set_of_lt (by omega)]
      rw [e1, e2, nv]
      have e3 := pw_split i (c + nth xs i * m)
      have e4 : pw i * (m * (4294967296 * nv (xs.drop (i + 1)))) = pw (i + 1) * (m * nv (xs.drop (i + 1))) := by
        rw [pw, Int.mul_left_comm m, ← Int.mul_assoc (pw i), Int.mul_comm (pw i)]
      have e5 : m * nth xs i = nth xs i * m := Int.mul_comm ..
      simp only [Int.mul_add, e4, e5] at e3 ⊢
      omega
theorem grow_spec {m n : Int} (hm : 0 ≤ m ∧ m < 4294967296) (hn : 0 ≤ n ∧ n < 4294967296) {xs : List Int} (hk : xs.length < 1099511627775) (hg : Good xs) :
    ∃ xs', Good xs' ∧ nv xs' = n + m * nv xs ∧ ((xs'.length = xs.length ∧
    callE T0 X0 f_limbs_grow [.ref (.b 0) ⟨1, 4⟩ 0 xs.length, .d (.int .u32 m), .d (.int .u32 n)] [.arr (LV xs) ⟨1, 4⟩] = some (.ret [.ref (.b 0) ⟨1, 4⟩ 0 xs.length] [.arr (LV xs') ⟨1, 4⟩])) ∨
    (xs'.length = xs.length + 1 ∧ callE T0 X0 f_limbs_grow [.ref (.b 0) ⟨1, 4⟩ 0 xs.length, .d (.int .u32 m), .d (.int .u32 n)] [.arr (LV xs) ⟨1, 4⟩] = some (.ret [.ref (.b 1) ⟨1, 4⟩ 0 (xs.length + 1)] [.dead, .arr (LV xs') ⟨1, 4⟩]))) := by
  rw [callX_fun (af := a_limbs_grow) rfl rfl rfl]
  obtain ⟨xs', c', h1, h2, h3, h4, h5, h6⟩ := grow_loop m hm xs.length (by omega) xs.length 0 xs n (by omega) rfl hg hn.1 hn.2
  simp only [Int.cast_ofNat_Int, List.take_zero, List.drop_zero, nv, pw, Int.zero_add, Int.one_mul] at h1 h6
  by_cases hc : c' = 0
  · subst hc
    refine ⟨xs', h3, by omega, .inl ⟨h2, ?_⟩⟩
    simp -implicitDefEqProofs (disch := omega) [a_limbs_grow, h1]
  · refine ⟨xs' ++ [c'], good_app.2 ⟨h3, good_cons.2 ⟨⟨h4, h5⟩, Good.nil⟩⟩, by rw [nv_snoc, h2]; exact h6, .inr ⟨by simp [h2], ?_⟩⟩
    have ht : xs'.take xs.length = xs' := List.take_of_length_le (by omega)
    simp -implicitDefEqProofs (disch := omega) [a_limbs_grow, h1, ht]

theorem dec_okp {s : List UInt8} {i : Nat} (h : i < s.length) : 1 ≤ (dec s i).2 ∧ i + (dec s i).2 ≤ s.length ∧ (dec s i).2 ≤ 4 ∧ (dec s i).1 ≤ 1114111 := by
  have hsz : (ByteArray.mk s.toArray).size = s.length := by simp [ByteArray.size]
  have := decode_ok ⟨s.toArray⟩ i (by omega) _ rfl
  rw [hsz] at this
  exact ⟨this.1, this.2.1, this.2.2.1, this.2.2.2.1⟩
/-- What digits tell, read one by one. -/
def decV (s : List UInt8) : Nat → Nat → Int → Option Int
  | 0, _, v => some v
  | f + 1, i, v => if i < s.length then (if (dec s i).1 < 48 ∨ 57 < (dec s i).1 then none else decV s f (i + (dec s i).2) (10 * v + ((dec s i).1 - 48 : Int))) else some v
theorem decV_nonneg (s : List UInt8) : ∀ f i v w, 0 ≤ v → decV s f i v = some w → 0 ≤ w
  | 0, _, v, w, h, e => by cases e; exact h
  | f + 1, i, v, w, h, e => by
    unfold decV at e
    split at e
    · split at e
      · cases e
      · exact decV_nonneg s f _ _ _ (by omega) e
    · cases e; exact h
theorem parse_loop (s : List UInt8) (hs : s.length ≤ 5120) : ∀ f i (xs : List Int) (n m : Int) (e : List (Nat × V)), s.length - i < f → i ≤ s.length → Good xs → xs.length ≤ i →
    (m = 1 ∨ m = 10 ∨ m = 100 ∨ m = 1000 ∨ m = 10000 ∨ m = 100000 ∨ m = 1000000 ∨ m = 10000000 ∨ m = 100000000) → 0 ≤ n → n < m →
    (decV s f i (nv xs * m + n) = none ∧ codeX T0 X0 0 a_limbs_Parse_l0 (some (.nrm, ⟨(4, .ref (.b 0) ⟨1, 4⟩ 0 xs.length) :: (5, .d (.int .u32 n)) :: (6, .d (.int .u32 m)) :: (20, .iter (.b 1)) :: e, [.arr (LV xs) ⟨1, 4⟩, .iter s i]⟩)) = some (.ret, ⟨[(2, .d (.sl [])), (3, .d (.int .i64 10))], []⟩)) ∨
    (∃ xs' n' m', decV s f i (nv xs * m + n) = some (nv xs' * m' + n') ∧ Good xs' ∧ xs'.length ≤ s.length ∧ 0 ≤ n' ∧ n' < m' ∧ m' ≤ 100000000 ∧
      codeX T0 X0 0 a_limbs_Parse_l0 (some (.nrm, ⟨(4, .ref (.b 0) ⟨1, 4⟩ 0 xs.length) :: (5, .d (.int .u32 n)) :: (6, .d (.int .u32 m)) :: (20, .iter (.b 1)) :: e, [.arr (LV xs) ⟨1, 4⟩, .iter s i]⟩)) = some (.exit 0, ⟨[(4, .ref (.b 0) ⟨1, 4⟩ 0 xs'.length), (5, .d (.int .u32 n')), (6, .d (.int .u32 m'))], [.arr (LV xs') ⟨1, 4⟩]⟩)) := by
  intro f
  induction f with
  | zero => intros; omega
  | succ f ih =>
    intro i xs n m e hf hi hg hx hm hn hnm
    rw [codeX_loop (l := a_limbs_Parse_l0) rfl]
    unfold decV
    by_cases hlt : i < s.length
    · rw [if_pos hlt]
      obtain ⟨d1, d2, d3, d4⟩ := dec_okp hlt
      by_cases hbad : (dec s i).1 < 48 ∨ 57 < (dec s i).1
      · rw [if_pos hbad]
        refine .inl ⟨rfl, ?_⟩
        rcases hbad with hbad | hbad <;> simp -implicitDefEqProofs (disch := omega) [a_limbs_Parse_b0]
      · rw [if_neg hbad]
        by_cases hb : m = 100000000
        · subst hb
          obtain ⟨xs1, g1, v1, g2⟩ := grow_spec (m := 1000000000) (n := 10 * n + ((dec s i).1 - 48)) (by omega) (by omega) (xs := xs) (by omega) hg
          have := ih (i + (dec s i).2) xs1 0 1 [] (by omega) (by omega) g1 (by omega) (by omega) (by omega) (by omega)
          have ev : nv xs1 * 1 + 0 = 10 * (nv xs * 100000000 + n) + ((dec s i).1 - 48) := by omega
          rw [ev] at this
          rcases this with ⟨h1, h2⟩ | ⟨xs', n', m', h1, h2, h3, h4, h5, h6, h7⟩
          · refine .inl ⟨h1, ?_⟩
            rw [← h2]
            rcases g2 with ⟨g2, g3⟩ | ⟨g2, g3⟩ <;> rw [g2] <;> simp -implicitDefEqProofs (disch := omega) [a_limbs_Parse_b0, g3]
            done
          · refine .inr ⟨xs', n', m', h1, h2, h3, h4, h5, h6, ?_⟩
            rw [← h7]
            rcases g2 with ⟨g2, g3⟩ | ⟨g2, g3⟩ <;> rw [g2] <;> simp -implicitDefEqProofs (disch := omega) [a_limbs_Parse_b0, g3]
            done
        · have := ih (i + (dec s i).2) xs (10 * n + ((dec s i).1 - 48)) (10 * m) [(39, .d (.bool false))] (by omega) (by omega) hg (by omega) (by omega) (by omega) (by omega)
          have ev : nv xs * (10 * m) + (10 * n + (((dec s i).1 : Int) - 48)) = 10 * (nv xs * m + n) + ((dec s i).1 - 48) := by
            rw [Int.mul_left_comm, Int.mul_add]
            omega
          rw [ev] at this
          rcases this with ⟨h1, h2⟩ | ⟨xs', n', m', h1, h2, h3, h4, h5, h6, h7⟩
          · refine .inl ⟨h1, ?_⟩
            rw [← h2]
            simp -implicitDefEqProofs (disch := omega) [a_limbs_Parse_b0]
            done
          · refine .inr ⟨xs', n', m', h1, h2, h3, h4, h5, h6, ?_⟩
            rw [← h7]
            simp -implicitDefEqProofs (disch := omega) [a_limbs_Parse_b0]
            done
    · rw [if_neg hlt]
      refine .inr ⟨xs, n, m, rfl, hg, by omega, hn, hnm, by omega, ?_⟩
      simp -implicitDefEqProofs (disch := omega) [a_limbs_Parse_b0]

/-- What a text of digits tells. -/
def parseV (s : List UInt8) : Option Int := if s = [] then none else decV s (s.length + 1) 0 0
theorem parse_spec {s : List UInt8} (hs : s.length ≤ 5120) : callE T0 X0 f_limbs_Parse [.d (.str s)] [] =
    some (.ret (match parseV s with | none => [.d (.sl []), .d (.int .i64 10)] | some v => [.d (.sl (L (limbs v))), .d (.int .i64 0)]) []) := by
  rw [callX_fun (af := a_limbs_Parse) rfl rfl rfl]
  unfold parseV
  by_cases h0 : s = []
  · rw [if_pos h0]
    subst h0
    simp -implicitDefEqProofs (disch := omega) [a_limbs_Parse]
  · rw [if_neg h0]
    have he : s.isEmpty = false := by simp [h0]
    have := parse_loop s hs (s.length + 1) 0 [] 0 1 [] (by omega) (by omega) Good.nil (by simp) (by omega) (by omega) (by omega)
    simp only [List.length_nil, LV_nil, nv] at this
    rcases this with ⟨h1, h2⟩ | ⟨xs', n', m', h1, h2, h3, h4, h5, h6, h7⟩
    · rw [show (0 : Int) * 1 + 0 = 0 from rfl] at h1
      rw [h1]
      simp -implicitDefEqProofs (disch := omega) [a_limbs_Parse, h2, he]
      done
    · rw [show (0 : Int) * 1 + 0 = 0 from rfl] at h1
      rw [h1]
      obtain ⟨xs1, g1, v1, g2⟩ := grow_spec (m := m') (n := n') (by omega) (by omega) (xs := xs') (by omega) h2
      have s1 := short_spec g1 (by omega)
      have l1 : (limbs (nv xs1)).length ≤ xs1.length := limbs_len (nv_bounds g1).1 (nv_bounds g1).2
      have ev : nv xs1 = nv xs' * m' + n' := by rw [v1, Int.mul_comm m']; omega
      rw [ev] at s1 l1
      rcases g2 with ⟨g2, g3⟩ | ⟨g2, g3⟩
      · have ht : xs1.take xs'.length = xs1 := List.take_of_length_le (by omega)
        simp -implicitDefEqProofs (disch := omega) [a_limbs_Parse, h7, he, g3, s1, ht]
      · have ht : xs1.take (xs'.length + 1) = xs1 := List.take_of_length_le (by omega)
        simp -implicitDefEqProofs (disch := omega) [a_limbs_Parse, h7, he, g3, s1, ht]
end Go.Rf

/- limbs: dividing by one limb; telling numbers in tens. -/
namespace Go.Rf

theorem or64 {x y : Int} (hx : 0 ≤ x) (hy : 0 ≤ y ∧ y < 4294967296) (h : x < 4294967296) : orK .u64 (x * 4294967296) y = x * 4294967296 + y := by
  obtain ⟨a, rfl⟩ := Int.eq_ofNat_of_zero_le hx
  obtain ⟨b, rfl⟩ := Int.eq_ofNat_of_zero_le hy.1
  unfold orK
  rw [BitVec.toNat_or]
  have e1 : (BitVec.ofInt IntKind.u64.bits ((a : Int) * 4294967296)).toNat = 2 ^ 32 * a := by
    rw [show ((a : Int) * 4294967296) = ((2 ^ 32 * a : Nat) : Int) by omega, BitVec.ofInt_natCast, BitVec.toNat_ofNat]
    exact Nat.mod_eq_of_lt (by show _ < 2 ^ 64; omega)
  have e2 : (BitVec.ofInt IntKind.u64.bits (b : Int)).toNat = b := by
    rw [BitVec.ofInt_natCast, BitVec.toNat_ofNat]
    exact Nat.mod_eq_of_lt (by show _ < 2 ^ 64; omega)
  rw [e1, e2, ← Nat.two_pow_add_eq_or_of_lt (by omega), wrap_u64 (by omega)]
  omega

theorem drop_nth {xs : List Int} {i : Nat} (h : i < xs.length) : xs.drop i = nth xs i :: xs.drop (i + 1) := by
  rw [List.drop_eq_getElem_cons h]
  simp [nth, h]
theorem drop_set_self {xs : List Int} {i : Nat} (h : i < xs.length) (y : Int) : (xs.set i y).drop i = y :: xs.drop (i + 1) := by
  rw [drop_nth (by simpa using h), nth_set h, if_pos rfl, List.drop_set_of_lt (by omega)]

theorem byLimb_loop (as : List Int) (b : Int) (hs : as.length ≤ 1099511627776) (ha : Good as) (hb : 0 < b ∧ b < 4294967296) : ∀ k (out : List Int) (r : Int), k ≤ as.length → out.length = as.length → Good out → 0 ≤ r → r < b →
    nv (as.drop k) = b * nv (out.drop k) + r →
    ∃ out' r', codeX T0 X0 0 a_limbs_byLimb_l0 (some (.nrm, ⟨[(0, .d (.sl (L as))), (1, .d (.int .u32 b)), (6, .ref (.b 0) ⟨1, 4⟩ 0 as.length), (7, .d (.int .u64 r)), (8, .d (.int .i64 ((k : Int) - 1)))], [.arr (LV out) ⟨1, 4⟩]⟩)) = some (.exit 0, ⟨[(6, .ref (.b 0) ⟨1, 4⟩ 0 as.length), (7, .d (.int .u64 r'))], [.arr (LV out') ⟨1, 4⟩]⟩) ∧
      out'.length = as.length ∧ Good out' ∧ 0 ≤ r' ∧ r' < b ∧ nv as = b * nv out' + r' := by
  intro k
  induction k with
  | zero =>
    intro out r _ ho hg h0 h1 hv
    refine ⟨out, r, ?_, ho, hg, h0, h1, by simpa using hv⟩
    rw [codeX_loop (l := a_limbs_byLimb_l0) rfl]
    simp -implicitDefEqProofs (disch := omega) [a_limbs_byLimb_b0]
  | succ k ih =>
    intro out r hk ho hg h0 h1 hv
    have n1 := ha.nth k
    rw [codeX_loop (l := a_limbs_byLimb_l0) rfl]
    have hx : 0 ≤ r * 4294967296 + nth as k := by omega
    have hq0 : 0 ≤ (r * 4294967296 + nth as k) / b := Int.ediv_nonneg hx (by omega)
    have hq : (r * 4294967296 + nth as k) / b < 4294967296 := Int.ediv_lt_of_lt_mul (by omega) (by
      have : (r + 1) * 4294967296 ≤ b * 4294967296 := Int.mul_le_mul_of_nonneg_right (by omega) (by omega)
      omega)
    have hr0 := Int.emod_nonneg (r * 4294967296 + nth as k) (show b ≠ 0 by omega)
    have hr1 := Int.emod_lt_of_pos (r * 4294967296 + nth as k) hb.1
    obtain ⟨out', r', h2, h3⟩ := ih (out.set k ((r * 4294967296 + nth as k) / b)) ((r * 4294967296 + nth as k) % b) (by omega) (by simp [ho]) (good_set hg _ ⟨hq0, hq⟩) hr0 hr1 (by
      rw [drop_nth (by omega), drop_set_self (by omega)]
      simp only [nv, hv]
      have e1 := Int.mul_ediv_add_emod (r * 4294967296 + nth as k) b
      have e2 : b * (4294967296 * nv (out.drop (k + 1))) = 4294967296 * (b * nv (out.drop (k + 1))) := Int.mul_left_comm ..
      simp only [Int.mul_add, e2]
      omega)
    refine ⟨out', r', ?_, h3⟩
    rw [← h2]
    simp -implicitDefEqProofs (disch := omega) [a_limbs_byLimb_b0, or64, Int.emod_eq_of_lt]
    done
theorem byLimb_spec {xs : List Int} {b : Int} (hx : Good xs) (hs : xs.length < 1099511627776) (hb : 0 < b ∧ b < 4294967296) :
    callE T0 X0 f_limbs_byLimb [.d (.sl (L xs)), .d (.int .u32 b)] [] = some (.ret [.d (.sl (L (limbs (nv xs / b)))), .d (.int .u32 (nv xs % b))] []) := by
  rw [callX_fun (af := a_limbs_byLimb) rfl rfl rfl]
  obtain ⟨out, r, h1, ho, hg, h0, hr, hv⟩ := byLimb_loop xs b (by omega) hx hb xs.length (List.replicate xs.length 0) 0 (by omega) (by simp) (good_rep _) (by omega) hb.1 (by simp [nv])
  have e1 : nv xs / b = nv out := by
    rw [hv, Int.add_comm, Int.add_mul_ediv_left _ _ (by omega), Int.ediv_eq_zero_of_lt h0 hr, Int.zero_add]
  have e2 : nv xs % b = r := by
    rw [hv, Int.add_comm, Int.add_mul_emod_self_left, Int.emod_eq_of_lt h0 hr]
  rw [e1, e2]
  have s1 := short_spec hg (by omega)
  have ht : out.take xs.length = out := List.take_of_length_le (by omega)
  simp -implicitDefEqProofs (disch := omega) [a_limbs_byLimb, h1, s1, ht]

/-- Bytes. -/
def B8 (s : List UInt8) : List V := s.map fun c => .d (.int .u8 c.toNat)
@[simp] theorem B8_len (s) : (B8 s).length = s.length := by simp [B8]
@[simp] theorem B8_nil : B8 [] = [] := rfl
@[simp] theorem B8_take (s n) : (B8 s).take n = B8 (s.take n) := by simp [B8, List.map_take]
@[simp] theorem B8_drop (s n) : (B8 s).drop n = B8 (s.drop n) := by simp [B8, List.map_drop]
@[simp] theorem B8_app1 (s : List UInt8) (c : UInt8) : B8 s ++ [.d (.int .u8 c.toNat)] = B8 (s ++ [c]) := by simp [B8]
@[simp] theorem B8_rep (n : Nat) : List.replicate n (V.d (.int .u8 0)) = B8 (List.replicate n 0) := by simp [B8]
theorem B8_get {s : List UInt8} {i : Nat} (h : i < s.length) : (B8 s)[i]? = some (.d (.int .u8 (s.getD i 0).toNat)) := by simp [B8, h]
@[simp] theorem B8_set (s : List UInt8) (i : Nat) (c : UInt8) : (B8 s).set i (.d (.int .u8 c.toNat)) = B8 (s.set i c) := by simp [B8, List.map_set]
@[simp] theorem B8_cells (s) : (∀ x ∈ B8 s, x.cells.length = 1) = True := eq_true (by
  intro x hx
  obtain ⟨n, _, rfl⟩ := List.mem_map.1 hx
  rfl)
@[simp] theorem rens_B8 (al : Loc → Bool) (s) (m : List Loc) : rens al (B8 s) m = (B8 s, m) := by
  have : B8 s = (s.map fun c => (D.int .u8 c.toNat)).map V.d := by simp [B8]
  rw [this]; exact rens_map ..
@[simp] theorem mapLs_B8 (f : Loc → Loc) (s) : mapLs f (B8 s) = B8 s := by
  induction s with
  | nil => rfl
  | cons x xs ih =>
    show V.mapL f (.d _) :: mapLs f (B8 xs) = _
    rw [ih]
    rfl
@[simp] theorem bytesOf_B8 (s) : bytesOf (B8 s) = some s := by
  induction s with
  | nil => rfl
  | cons c s ih =>
    show bytesOf (.d (.int .u8 c.toNat) :: B8 s) = _
    simp [bytesOf, ih]
attribute [simp] B8_get

/-- A digit. -/
def dig (r : Int) : UInt8 := UInt8.ofNat (48 + (r % 10).toNat)
theorem dig_eq {r : Int} (h : 0 ≤ r) : 48 + r % 10 = ((dig r).toNat : Int) := by
  unfold dig
  have : (r % 10).toNat < 10 := by omega
  rw [UInt8.toNat_ofNat', Nat.mod_eq_of_lt (by omega)]
  omega
/-- Digits of a part, the lowest first. -/
def inF : Nat → Int → Bool → List UInt8
  | 0, _, _ => []
  | f + 1, r, more => if 0 < r ∨ more = true then dig r :: inF f (r / 10) more else []
def backF : Nat → Int → List UInt8
  | 0, _ => []
  | f + 1, n => if n ≤ 0 then [] else inF 9 (n % 1000000000) (decide (0 < n / 1000000000)) ++ backF f (n / 1000000000)
theorem inF_len : ∀ f r b, (inF f r b).length ≤ f
  | 0, _, _ => Nat.le_refl _
  | f + 1, r, b => by
    unfold inF
    split
    · have := inF_len f (r / 10) b
      simp only [List.length_cons]; omega
    · simp

theorem text_in (q : Int) (hq : 0 ≤ q) (hs : (limbs q).length ≤ 1099511627776) : ∀ f (i : Nat) (r : Int) (back : List UInt8), f + i = 9 → back.length + f ≤ 1099511627 → 0 ≤ r → r < 4294967296 →
    codeX T0 X0 0 a_limbs_Text_l0 (some (.nrm, ⟨[(0, .d (.sl (L (limbs q)))), (3, .ref (.b 0) ⟨1, 1⟩ 0 back.length), (4, .d (.int .u32 r)), (5, .d (.int .i64 i))], [.arr (B8 back) ⟨1, 1⟩]⟩)) =
      some (.exit 2, ⟨[(0, .d (.sl (L (limbs q)))), (3, .ref (.b 0) ⟨1, 1⟩ 0 (back ++ inF f r (decide (0 < q))).length)], [.arr (B8 (back ++ inF f r (decide (0 < q)))) ⟨1, 1⟩]⟩) := by
  intro f
  induction f with
  | zero =>
    intro i r back hi hb h0 h1
    rw [codeX_loop (l := a_limbs_Text_l0) rfl]
    simp -implicitDefEqProofs (disch := omega) [a_limbs_Text_b0, inF]
  | succ f ih =>
    intro i r back hi hb h0 h1
    have hn : (limbs q).length = 0 ↔ q = 0 := by rw [List.length_eq_zero_iff]; exact limbs_nil hq
    rw [codeX_loop (l := a_limbs_Text_l0) rfl]
    unfold inF
    by_cases hc : 0 < r ∨ decide (0 < q) = true
    · rw [if_pos hc]
      have e := dig_eq h0
      have s1 := ih (i + 1) (r / 10) (back ++ [dig r]) (by omega) (by simp; omega) (by omega) (by omega)
      rw [List.append_assoc, List.singleton_append] at s1
      rw [← s1]
      by_cases hr : 0 < r
      · simp -implicitDefEqProofs (disch := omega) [a_limbs_Text_b0, e]
        done
      · have hq1 : 0 < q := by simpa [hr] using hc
        have hn' : (limbs q).length ≠ 0 := fun h => by have := hn.1 h; omega
        simp -implicitDefEqProofs (disch := omega) [a_limbs_Text_b0, e, -List.length_eq_zero_iff]
        done
    · rw [if_neg hc]
      simp at hc
      have hq0 : q = 0 := by omega
      subst hq0
      simp -implicitDefEqProofs (disch := omega) [a_limbs_Text_b0]
      done

theorem backF_len : ∀ f n, (backF f n).length ≤ 9 * f
  | 0, _ => Nat.le_refl _
  | f + 1, n => by
    unfold backF
    split
    · simp
    · have := inF_len 9 (n % 1000000000) (decide (0 < n / 1000000000))
      have := backF_len f (n / 1000000000)
      simp only [List.length_append]; omega
def tens : Nat → Int
  | 0 => 1
  | f + 1 => 1000000000 * tens f
theorem tens_pw : ∀ f, 0 < tens f ∧ tens f ≤ pw f
  | 0 => by simp [tens, pw]
  | f + 1 => by have := tens_pw f; simp only [tens, pw]; omega
theorem text_out : ∀ f (n : Int) (back : List UInt8), back.length + 9 * f ≤ 1099511627 → 0 ≤ n → n < tens f →
    codeX T0 X0 0 a_limbs_Text_l1 (some (.nrm, ⟨[(0, .d (.sl (L (limbs n)))), (3, .ref (.b 0) ⟨1, 1⟩ 0 back.length)], [.arr (B8 back) ⟨1, 1⟩]⟩)) =
      some (.exit 0, ⟨[(3, .ref (.b 0) ⟨1, 1⟩ 0 (back ++ backF f n).length)], [.arr (B8 (back ++ backF f n)) ⟨1, 1⟩]⟩) := by
  intro f
  induction f with
  | zero =>
    intro n back hb h0 h1
    have : n = 0 := by simp only [tens] at h1; omega
    subst this
    rw [codeX_loop (l := a_limbs_Text_l1) rfl]
    simp -implicitDefEqProofs (disch := omega) [a_limbs_Text_b1, backF]
  | succ f ih =>
    intro n back hb h0 h1
    rw [codeX_loop (l := a_limbs_Text_l1) rfl]
    unfold backF
    have hl : (limbs n).length ≤ f + 1 := limbs_len h0 (by have := (tens_pw (f + 1)).2; omega)
    have hn : (limbs n).length = 0 ↔ n = 0 := by rw [List.length_eq_zero_iff]; exact limbs_nil h0
    by_cases hz : n ≤ 0
    · rw [if_pos hz]
      have : n = 0 := by omega
      subst this
      simp -implicitDefEqProofs (disch := omega) [a_limbs_Text_b1]
      done
    · rw [if_neg hz]
      have hn' : (limbs n).length ≠ 0 := fun h => by have := hn.1 h; omega
      have s0 := byLimb_spec (limbs_good n) (b := 1000000000) (by omega) (by omega)
      rw [limbs_nv h0] at s0
      have hq : n / 1000000000 < tens f := by simp only [tens] at h1; omega
      have hl' : (limbs (n / 1000000000)).length ≤ f := limbs_len (by omega) (by have := (tens_pw f).2; omega)
      have s1 := text_in (n / 1000000000) (by omega) (by omega) 9 0 (n % 1000000000) back rfl (by omega) (by omega) (by omega)
      have hi := inF_len 9 (n % 1000000000) (decide (0 < n / 1000000000))
      have s2 := ih (n / 1000000000) (back ++ inF 9 (n % 1000000000) (decide (0 < n / 1000000000))) (by simp only [List.length_append]; omega) (by omega) hq
      rw [List.append_assoc] at s2
      rw [← s2]
      simp only [Int.cast_ofNat_Int] at s1
      simp -implicitDefEqProofs (disch := omega) [a_limbs_Text_b1, s0, s1, -List.length_eq_zero_iff]
      done

theorem text_back (back : List UInt8) (hb : back.length ≤ 1099511627) : ∀ d i (out : List UInt8), d + i = back.length → out.length = back.length → out.drop (back.length - i) = (back.take i).reverse →
    codeX T0 X0 0 a_limbs_Text_l2 (some (.nrm, ⟨[(3, .ref (.b 0) ⟨1, 1⟩ 0 back.length), (6, .ref (.b 1) ⟨1, 1⟩ 0 back.length), (47, .ref (.b 0) ⟨1, 1⟩ 0 back.length), (48, .d (.int .i64 back.length)), (49, .d (.int .i64 i))], [.arr (B8 back) ⟨1, 1⟩, .arr (B8 out) ⟨1, 1⟩]⟩)) =
      some (.exit 4, ⟨[(6, .ref (.b 0) ⟨1, 1⟩ 0 back.length)], [.arr (B8 back.reverse) ⟨1, 1⟩]⟩) := by
  intro d
  induction d with
  | zero =>
    intro i out hd ho hv
    have : i = back.length := by omega
    subst this
    simp at hv
    subst hv
    rw [codeX_loop (l := a_limbs_Text_l2) rfl]
    simp -implicitDefEqProofs (disch := omega) [a_limbs_Text_b2]
  | succ d ih =>
    intro i out hd ho hv
    rw [codeX_loop (l := a_limbs_Text_l2) rfl]
    have s1 := ih (i + 1) (out.set (back.length - 1 - i) (back.getD i 0)) (by omega) (by simp [ho]) (by
      rw [List.take_add_one, show back.length - (i + 1) = back.length - 1 - i by omega]
      have e : back[i]? = some (back.getD i 0) := by simp [show i < back.length by omega]
      rw [e]
      simp only [Option.toList_some, List.reverse_append, List.reverse_cons, List.reverse_nil, List.nil_append, List.cons_append]
      rw [← hv, List.drop_eq_getElem_cons (by simp; omega)]
      simp only [List.getElem_set_self]
      rw [List.drop_set_of_lt (by omega), show back.length - 1 - i + 1 = back.length - i by omega])
    rw [← s1]
    simp -implicitDefEqProofs (disch := omega) [a_limbs_Text_b2]
    done

/-- A number in tens. -/
def textV (f : Nat) (n : Int) : List UInt8 := if n = 0 then [48] else (backF f n).reverse
theorem text_spec {xs : List Int} (hx : Good xs) (f : Nat) (hf : f ≤ 100000) (hs : xs.length ≤ 1099511627776) (h : nv xs < tens f) : callE T0 X0 f_limbs_Text [.d (.sl (L xs))] [] = some (.ret [.d (.str (textV f (nv xs)))] []) := by
  rw [callX_fun (af := a_limbs_Text) rfl rfl rfl]
  have h0 := (nv_bounds hx).1
  have hl : (limbs (nv xs)).length ≤ f := limbs_len h0 (by have := (tens_pw f).2; omega)
  have s0 := short_spec hx hs
  have hn : (limbs (nv xs)).length = 0 ↔ nv xs = 0 := by rw [List.length_eq_zero_iff]; exact limbs_nil h0
  unfold textV
  by_cases hz : nv xs = 0
  · rw [if_pos hz]
    rw [hz] at s0
    simp -implicitDefEqProofs (disch := omega) [a_limbs_Text, s0]
  · rw [if_neg hz]
    have hn' : (limbs (nv xs)).length ≠ 0 := fun h => hz (hn.1 h)
    have s1 := text_out f (nv xs) [] (by simp; omega) h0 h
    have hb := backF_len f (nv xs)
    have s2 := text_back (backF f (nv xs)) (by omega) (backF f (nv xs)).length 0 (List.replicate (backF f (nv xs)).length 0) (by omega) (by simp) (by simp)
    simp only [List.length_nil, List.nil_append, B8_nil, Int.cast_ofNat_Int] at s1 s2
    have ht : (backF f (nv xs)).reverse.take (backF f (nv xs)).length = (backF f (nv xs)).reverse := List.take_of_length_le (by simp)
    simp -implicitDefEqProofs (disch := omega) [a_limbs_Text, s0, s1, s2, ht, -List.length_eq_zero_iff]
    done
end Go.Rf
