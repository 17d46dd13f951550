/- Parts of the proof: SpK6. -/
import Derived.Test.YtdgfohkljpjdpaaGreatDoorSp8

/- GuardEquals: the walk. -/
namespace Go.Rf

theorem exV_ok {s vs} (hb : ∀ k, (tx vs k).length ≤ 1100000) (h : (exV s vs).2.1 = 0) : ∃ x, exprV s vs = (some x, 0, emptyPl) ∧ x.fine vs.length ∧ x.w ≤ 4000000 ∧ vs.length ≤ 16 := by
  unfold exV at h
  cases he : exprV s vs with
  | mk o ep =>
    obtain ⟨e, p⟩ := ep
    rw [he] at h
    cases o with
    | none => exact absurd h (expr_bad he)
    | some x =>
      obtain ⟨rfl, rfl, hf, hw, hv16⟩ := expr_ok hb he
      exact ⟨x, rfl, hf, hw, hv16⟩
theorem ge_val1 {s t p q : List UInt8} {vs : List (List UInt8)} {ws : List RWh} {row : List Int} {len : Nat} {a b d : Int} {cc sd : Int}
    (s0 : callE T0 X0 f_rafterlaw09_awake [] [] = some (.ret [.d (.bool true)] []))
    (s1 : callE T0 X0 f_rafterlaw00_LenWholes [.d (.sl (RL ws))] [] = some (.ret [.d (.int .i64 len)] [])) (h15 : ¬ 1500 < len)
    (s2 : callE T0 X0 f_lang_Expr [.d (.str s), .d (.sl (SL vs))] [] = some (.ret [.d (.str p), .d (.int .i64 0), .d (.agg [.int .i64 0, .int .i64 0, .int .i64 0, .int .i64 0])] []))
    (s3 : callE T0 X0 f_lang_Expr [.d (.str t), .d (.sl (SL vs))] [] = some (.ret [.d (.str q), .d (.int .i64 0), .d (.agg [.int .i64 0, .int .i64 0, .int .i64 0, .int .i64 0])] []))
    (hlen : p.length + q.length + 4 ≤ 4096) (hs : s.length ≤ 1100000) (ht : t.length ≤ 1100000) (hv : vs.length ≤ 1100000) (hn : ws.length ≤ 1100000) (rl2 : row.length ≤ 1000)
    (s4 : callE T0 X0 f_guard_Cond [.d (.str (p ++ 32 :: 33 :: 61 :: 32 :: q)), .d (.sl (SL vs))] [] = some (.ret [.d (.sl (WL row)), .d (.bool true), .d (.bool false), .d (.int .i64 0), .d (.agg [.int .i64 0, .int .i64 0, .int .i64 0, .int .i64 0])] []))
    (s5 : callE T0 X0 f_guard_Cond [.d (.str (p ++ 32 :: 61 :: 32 :: q)), .d (.sl (SL vs))] [] = some (.ret [.d (.sl (WL row)), .d (.bool true), .d (.bool true), .d (.int .i64 0), .d (.agg [.int .i64 0, .int .i64 0, .int .i64 0, .int .i64 0])] []))
    (s6 : callE T0 X0 f_rafterlaw00_SameWholes [.d (.sl (WL row)), .d (.sl (WL row))] [] = some (.ret [.d (.bool true)] []))
    (hlw : ws.length = vs.length)
    (s7 : callE T0 X0 f_lang_Value [.d (.str s), .d (.sl (SL vs)), .d (.sl (RL ws))] [] = some (.ret [.d (Wd a), .d (.int .i64 0)] []))
    (s8 : callE T0 X0 f_lang_Value [.d (.str t), .d (.sl (SL vs)), .d (.sl (RL ws))] [] = some (.ret [.d (Wd b), .d (.int .i64 0)] []))
    (s9 : callE T0 X0 f_affine_Left [.d (.sl (WL row)), .d (.sl (RL ws))] [] = some (.ret [.d (Wd d), .d (.int .i64 0)] []))
    (s10 : callE T0 X0 f_affine_Canonical [.d (.sl (WL row))] [] = some (.ret [.d (.bool true)] []))
    (na : nl a ≤ 512) (nb : nl b ≤ 512) (nd : nl d ≤ 80000000)
    (s11 : callE T0 X0 f_whole_Cmp [.d (Wd a), .d (Wd b)] [] = some (.ret [.d (.int .i64 cc)] [])) (s12 : callE T0 X0 f_whole_Sign [.d (Wd d)] [] = some (.ret [.d (.int .i64 sd)] [])) (c1 : cc = 0) (c2 : sd = 0) :
    callE T0 X0 f_rafterlaw09_GuardEquals [.d (.str s), .d (.str t), .d (.sl (SL vs)), .d (.sl (RL ws))] [] = some (.ret [.d (.bool true)] []) := by
  subst c1
  subst c2
  rw [callX_fun (af := a_rafterlaw09_GuardEquals) rfl rfl rfl]
  simp -implicitDefEqProofs (disch := omega) [a_rafterlaw09_GuardEquals, s0, s1, s2, s3, s4, s5, s6, s7, s8, s9, s10, s11, s12, hlw]
  done
theorem ge_val2 {s t p q : List UInt8} {vs : List (List UInt8)} {ws : List RWh} {row : List Int} {len : Nat} {a b d : Int} {cc sd : Int}
    (s0 : callE T0 X0 f_rafterlaw09_awake [] [] = some (.ret [.d (.bool true)] []))
    (s1 : callE T0 X0 f_rafterlaw00_LenWholes [.d (.sl (RL ws))] [] = some (.ret [.d (.int .i64 len)] [])) (h15 : ¬ 1500 < len)
    (s2 : callE T0 X0 f_lang_Expr [.d (.str s), .d (.sl (SL vs))] [] = some (.ret [.d (.str p), .d (.int .i64 0), .d (.agg [.int .i64 0, .int .i64 0, .int .i64 0, .int .i64 0])] []))
    (s3 : callE T0 X0 f_lang_Expr [.d (.str t), .d (.sl (SL vs))] [] = some (.ret [.d (.str q), .d (.int .i64 0), .d (.agg [.int .i64 0, .int .i64 0, .int .i64 0, .int .i64 0])] []))
    (hlen : p.length + q.length + 4 ≤ 4096) (hs : s.length ≤ 1100000) (ht : t.length ≤ 1100000) (hv : vs.length ≤ 1100000) (hn : ws.length ≤ 1100000) (rl2 : row.length ≤ 1000)
    (s4 : callE T0 X0 f_guard_Cond [.d (.str (p ++ 32 :: 33 :: 61 :: 32 :: q)), .d (.sl (SL vs))] [] = some (.ret [.d (.sl (WL row)), .d (.bool true), .d (.bool false), .d (.int .i64 0), .d (.agg [.int .i64 0, .int .i64 0, .int .i64 0, .int .i64 0])] []))
    (s5 : callE T0 X0 f_guard_Cond [.d (.str (p ++ 32 :: 61 :: 32 :: q)), .d (.sl (SL vs))] [] = some (.ret [.d (.sl (WL row)), .d (.bool true), .d (.bool true), .d (.int .i64 0), .d (.agg [.int .i64 0, .int .i64 0, .int .i64 0, .int .i64 0])] []))
    (s6 : callE T0 X0 f_rafterlaw00_SameWholes [.d (.sl (WL row)), .d (.sl (WL row))] [] = some (.ret [.d (.bool true)] []))
    (hlw : ws.length = vs.length)
    (s7 : callE T0 X0 f_lang_Value [.d (.str s), .d (.sl (SL vs)), .d (.sl (RL ws))] [] = some (.ret [.d (Wd a), .d (.int .i64 0)] []))
    (s8 : callE T0 X0 f_lang_Value [.d (.str t), .d (.sl (SL vs)), .d (.sl (RL ws))] [] = some (.ret [.d (Wd b), .d (.int .i64 0)] []))
    (s9 : callE T0 X0 f_affine_Left [.d (.sl (WL row)), .d (.sl (RL ws))] [] = some (.ret [.d (Wd d), .d (.int .i64 0)] []))
    (s10 : callE T0 X0 f_affine_Canonical [.d (.sl (WL row))] [] = some (.ret [.d (.bool true)] []))
    (na : nl a ≤ 512) (nb : nl b ≤ 512) (nd : nl d ≤ 80000000)
    (s11 : callE T0 X0 f_whole_Cmp [.d (Wd a), .d (Wd b)] [] = some (.ret [.d (.int .i64 cc)] [])) (s12 : callE T0 X0 f_whole_Sign [.d (Wd d)] [] = some (.ret [.d (.int .i64 sd)] [])) (c1 : ¬ cc = 0) (c2 : ¬ sd = 0) :
    callE T0 X0 f_rafterlaw09_GuardEquals [.d (.str s), .d (.str t), .d (.sl (SL vs)), .d (.sl (RL ws))] [] = some (.ret [.d (.bool true)] []) := by
  rw [callX_fun (af := a_rafterlaw09_GuardEquals) rfl rfl rfl]
  simp -implicitDefEqProofs (disch := omega) [a_rafterlaw09_GuardEquals, s0, s1, s2, s3, s4, s5, s6, s7, s8, s9, s10, s11, s12, hlw, c1, c2]
  done
theorem ge_bad1 {s t p q : List UInt8} {vs : List (List UInt8)} {ws : List RWh} {row : List Int} {len : Nat} {a b d : Int} {h : Int}
    (s0 : callE T0 X0 f_rafterlaw09_awake [] [] = some (.ret [.d (.bool true)] []))
    (s1 : callE T0 X0 f_rafterlaw00_LenWholes [.d (.sl (RL ws))] [] = some (.ret [.d (.int .i64 len)] [])) (h15 : ¬ 1500 < len)
    (s2 : callE T0 X0 f_lang_Expr [.d (.str s), .d (.sl (SL vs))] [] = some (.ret [.d (.str p), .d (.int .i64 0), .d (.agg [.int .i64 0, .int .i64 0, .int .i64 0, .int .i64 0])] []))
    (s3 : callE T0 X0 f_lang_Expr [.d (.str t), .d (.sl (SL vs))] [] = some (.ret [.d (.str q), .d (.int .i64 0), .d (.agg [.int .i64 0, .int .i64 0, .int .i64 0, .int .i64 0])] []))
    (hlen : p.length + q.length + 4 ≤ 4096) (hs : s.length ≤ 1100000) (ht : t.length ≤ 1100000) (hv : vs.length ≤ 1100000) (hn : ws.length ≤ 1100000) (rl2 : row.length ≤ 1000)
    (s4 : callE T0 X0 f_guard_Cond [.d (.str (p ++ 32 :: 33 :: 61 :: 32 :: q)), .d (.sl (SL vs))] [] = some (.ret [.d (.sl (WL row)), .d (.bool true), .d (.bool false), .d (.int .i64 0), .d (.agg [.int .i64 0, .int .i64 0, .int .i64 0, .int .i64 0])] []))
    (s5 : callE T0 X0 f_guard_Cond [.d (.str (p ++ 32 :: 61 :: 32 :: q)), .d (.sl (SL vs))] [] = some (.ret [.d (.sl (WL row)), .d (.bool true), .d (.bool true), .d (.int .i64 0), .d (.agg [.int .i64 0, .int .i64 0, .int .i64 0, .int .i64 0])] []))
    (s6 : callE T0 X0 f_rafterlaw00_SameWholes [.d (.sl (WL row)), .d (.sl (WL row))] [] = some (.ret [.d (.bool true)] []))
    (hlw : ws.length = vs.length)
    (s7 : callE T0 X0 f_lang_Value [.d (.str s), .d (.sl (SL vs)), .d (.sl (RL ws))] [] = some (.ret [.d (Wd a), .d (.int .i64 2)] []))
    (s8 : callE T0 X0 f_lang_Value [.d (.str t), .d (.sl (SL vs)), .d (.sl (RL ws))] [] = some (.ret [.d (Wd b), .d (.int .i64 h)] []))
    (s9 : callE T0 X0 f_affine_Left [.d (.sl (WL row)), .d (.sl (RL ws))] [] = some (.ret [.d (Wd d), .d (.int .i64 0)] []))
    (s10 : callE T0 X0 f_affine_Canonical [.d (.sl (WL row))] [] = some (.ret [.d (.bool true)] []))
    (na : nl a ≤ 512) (nb : nl b ≤ 512) (nd : nl d ≤ 80000000)
     :
    callE T0 X0 f_rafterlaw09_GuardEquals [.d (.str s), .d (.str t), .d (.sl (SL vs)), .d (.sl (RL ws))] [] = some (.ret [.d (.bool true)] []) := by
  rw [callX_fun (af := a_rafterlaw09_GuardEquals) rfl rfl rfl]
  simp -implicitDefEqProofs (disch := omega) [a_rafterlaw09_GuardEquals, s0, s1, s2, s3, s4, s5, s6, s7, s8, s9, s10, hlw]
  done
theorem ge_bad2 {s t p q : List UInt8} {vs : List (List UInt8)} {ws : List RWh} {row : List Int} {len : Nat} {a b d : Int}
    (s0 : callE T0 X0 f_rafterlaw09_awake [] [] = some (.ret [.d (.bool true)] []))
    (s1 : callE T0 X0 f_rafterlaw00_LenWholes [.d (.sl (RL ws))] [] = some (.ret [.d (.int .i64 len)] [])) (h15 : ¬ 1500 < len)
    (s2 : callE T0 X0 f_lang_Expr [.d (.str s), .d (.sl (SL vs))] [] = some (.ret [.d (.str p), .d (.int .i64 0), .d (.agg [.int .i64 0, .int .i64 0, .int .i64 0, .int .i64 0])] []))
    (s3 : callE T0 X0 f_lang_Expr [.d (.str t), .d (.sl (SL vs))] [] = some (.ret [.d (.str q), .d (.int .i64 0), .d (.agg [.int .i64 0, .int .i64 0, .int .i64 0, .int .i64 0])] []))
    (hlen : p.length + q.length + 4 ≤ 4096) (hs : s.length ≤ 1100000) (ht : t.length ≤ 1100000) (hv : vs.length ≤ 1100000) (hn : ws.length ≤ 1100000) (rl2 : row.length ≤ 1000)
    (s4 : callE T0 X0 f_guard_Cond [.d (.str (p ++ 32 :: 33 :: 61 :: 32 :: q)), .d (.sl (SL vs))] [] = some (.ret [.d (.sl (WL row)), .d (.bool true), .d (.bool false), .d (.int .i64 0), .d (.agg [.int .i64 0, .int .i64 0, .int .i64 0, .int .i64 0])] []))
    (s5 : callE T0 X0 f_guard_Cond [.d (.str (p ++ 32 :: 61 :: 32 :: q)), .d (.sl (SL vs))] [] = some (.ret [.d (.sl (WL row)), .d (.bool true), .d (.bool true), .d (.int .i64 0), .d (.agg [.int .i64 0, .int .i64 0, .int .i64 0, .int .i64 0])] []))
    (s6 : callE T0 X0 f_rafterlaw00_SameWholes [.d (.sl (WL row)), .d (.sl (WL row))] [] = some (.ret [.d (.bool true)] []))
    (hlw : ws.length = vs.length)
    (s7 : callE T0 X0 f_lang_Value [.d (.str s), .d (.sl (SL vs)), .d (.sl (RL ws))] [] = some (.ret [.d (Wd a), .d (.int .i64 0)] []))
    (s8 : callE T0 X0 f_lang_Value [.d (.str t), .d (.sl (SL vs)), .d (.sl (RL ws))] [] = some (.ret [.d (Wd b), .d (.int .i64 2)] []))
    (s9 : callE T0 X0 f_affine_Left [.d (.sl (WL row)), .d (.sl (RL ws))] [] = some (.ret [.d (Wd d), .d (.int .i64 0)] []))
    (s10 : callE T0 X0 f_affine_Canonical [.d (.sl (WL row))] [] = some (.ret [.d (.bool true)] []))
    (na : nl a ≤ 512) (nb : nl b ≤ 512) (nd : nl d ≤ 80000000)
     :
    callE T0 X0 f_rafterlaw09_GuardEquals [.d (.str s), .d (.str t), .d (.sl (SL vs)), .d (.sl (RL ws))] [] = some (.ret [.d (.bool true)] []) := by
  rw [callX_fun (af := a_rafterlaw09_GuardEquals) rfl rfl rfl]
  simp -implicitDefEqProofs (disch := omega) [a_rafterlaw09_GuardEquals, s0, s1, s2, s3, s4, s5, s6, s7, s8, s9, s10, hlw]
  done
theorem ge_spec {s t : List UInt8} {vs : List (List UInt8)} {ws : List RWh} (hs : s.length ≤ 1100000) (ht : t.length ≤ 1100000) (hv : vs.length ≤ 1100000) (hb : ∀ k, (tx vs k).length ≤ 1100000) (hn : ws.length ≤ 1100000) (hl : ∀ i, (rth ws i).2.length ≤ 1100000) (hg : ∀ i, Good (rth ws i).2) :
    callE T0 X0 f_rafterlaw09_GuardEquals [.d (.str s), .d (.str t), .d (.sl (SL vs)), .d (.sl (RL ws))] [] = some (.ret [.d (.bool true)] []) := by
  have s0 := awake_spec
  have s1 := lenws_spec hn hl
  have hle := lenW_le ws hl ws.length
  by_cases h15 : 1500 < lenW ws ws.length
  · generalize lenW ws ws.length = len at *
    rw [callX_fun (af := a_rafterlaw09_GuardEquals) rfl rfl rfl]
    simp -implicitDefEqProofs (disch := omega) [a_rafterlaw09_GuardEquals, s0, s1]
    done
  have st : StOk ws := ⟨hg, fun i => by
    by_cases hi : i < ws.length
    · have := lenW_ge ws _ i hi
      omega
    · have : rth ws i = (false, []) := by simp [rth, List.getD_eq_getElem?_getD, List.getElem?_eq_none (Nat.le_of_not_lt hi)]
      rw [this]; simp, by have := lenW_n ws ws.length; omega⟩
  have h0 := lenW_n ws ws.length
  have s2 := lexpr_spec hs (by omega) hb
  have s3 := lexpr_spec ht (by omega) hb
  by_cases h1 : (exV s vs).2.1 = 0
  case neg =>
    generalize exV s vs = a1 at *
    generalize exV t vs = a2 at *
    generalize lenW ws ws.length = len at *
    simp only [Pl.cs] at s2 s3
    rw [callX_fun (af := a_rafterlaw09_GuardEquals) rfl rfl rfl]
    simp -implicitDefEqProofs (disch := omega) [a_rafterlaw09_GuardEquals, s0, s1, s2, s3, h1]
    done
  by_cases h2 : (exV t vs).2.1 = 0
  case neg =>
    generalize exV s vs = a1 at *
    generalize exV t vs = a2 at *
    generalize lenW ws ws.length = len at *
    simp only [Pl.cs] at s2 s3
    rw [callX_fun (af := a_rafterlaw09_GuardEquals) rfl rfl rfl]
    simp -implicitDefEqProofs (disch := omega) [a_rafterlaw09_GuardEquals, s0, s1, s2, s3, h1, h2]
    done
  obtain ⟨x, hx, fx, wx, h16⟩ := exV_ok hb h1
  obtain ⟨y, hy, fy, wy, _⟩ := exV_ok hb h2
  obtain ⟨hnm, px⟩ := expr_pr hb hx
  have py := (expr_pr hb hy).2
  have e1 : exV s vs = (wr x, 0, emptyPl) := by unfold exV; rw [hx]
  have e2 : exV t vs = (wr y, 0, emptyPl) := by unfold exV; rw [hy]
  rw [e1] at s2
  rw [e2] at s3
  have zx := wr_len x px
  have zy := wr_len y py
  have zx2 := expr_sz hb hx
  have zy2 := expr_sz hb hy
  have dx := expr_dp hb hx
  have dy := expr_dp hb hy
  simp only [Pl.cs, emptyPl] at s2 s3
  by_cases hlen : (wr x).length + (wr y).length + 4 ≤ 4096
  case neg =>
    generalize wr x = p at *
    generalize wr y = q at *
    generalize lenW ws ws.length = len at *
    rw [callX_fun (af := a_rafterlaw09_GuardEquals) rfl rfl rfl]
    simp -implicitDefEqProofs (disch := omega) [a_rafterlaw09_GuardEquals, s0, s1, s2, s3]
    done
  have r1 : Rend (wr x ++ 32 :: 33 :: 61 :: 32 :: wr y) (pt x ++ (3, if false then [61] else [33, 61]) :: pt y) := by
    have h := wr_rend y py [] [] tl_nil .nil
    rw [List.append_nil, List.append_nil] at h
    exact wr_rend x px _ _ (tl_space _) (.space (.mark (.inl rfl) (.space h)))
  have r2 : Rend (wr x ++ 32 :: 61 :: 32 :: wr y) (pt x ++ (3, if true then [61] else [33, 61]) :: pt y) := by
    have h := wr_rend y py [] [] tl_nil .nil
    rw [List.append_nil, List.append_nil] at h
    exact wr_rend x px _ _ (tl_space _) (.space (.sign (by decide) (.space h)))
  have ux := su_to (pt_ok x px).s dx
  have uy := su_to (pt_ok y py).s dy
  have s4 := gcond_spec (b := false) (by simp; omega) r1 ux uy hnm hb fx fy wx wy
  have s5 := gcond_spec (b := true) (by simp; omega) r2 ux uy hnm hb fx fy wx wy
  have rowlen : (rowR vs.length x y).1.length ≤ 1000 ∧ ∀ i, nl (nth (rowR vs.length x y).1 i) ≤ 32 := by
    cases hc : (rowR vs.length x y).2 with
    | true =>
      have R := row_ok fx fy hc
      exact ⟨by have := R.l; omega, R.b⟩
    | false =>
      have e : (rowR vs.length x y).1 = [] := by
        unfold rowR canV at *
        split at hc
        · rename_i h
          rw [if_pos h]
          split at hc
          · simp at hc
          · rename_i h2; rw [if_neg h2]
        · rename_i h; rw [if_neg h]
      rw [e]
      exact ⟨by simp, fun i => by rw [nth_out (Nat.zero_le _)]; simp⟩
  have s6 := sameWs_spec (f := (rowR vs.length x y).1) (g := (rowR vs.length x y).1) rowlen.1 rowlen.1 (fun i => by have := rowlen.2 i; omega) (fun i => by have := rowlen.2 i; omega)
  rw [decide_eq_true rfl] at s6
  simp only [Pl.cs, emptyPl] at s4 s5
  cases hc : (rowR vs.length x y).2 with
  | false =>
    rw [hc] at s4 s5
    generalize (rowR vs.length x y).1 = row at *
    generalize wr x = p at *
    generalize wr y = q at *
    generalize lenW ws ws.length = len at *
    have rl := rowlen.1
    rw [callX_fun (af := a_rafterlaw09_GuardEquals) rfl rfl rfl]
    simp -implicitDefEqProofs (disch := omega) [a_rafterlaw09_GuardEquals, s0, s1, s2, s3, s4, s5, s6]
    done
  | true =>
    rw [hc] at s4 s5
    have R := row_ok fx fy hc
    by_cases hlw : ws.length = vs.length
    case neg =>
      generalize (rowR vs.length x y).1 = row at *
      generalize wr x = p at *
      generalize wr y = q at *
      generalize lenW ws ws.length = len at *
      have rl := rowlen.1
      rw [callX_fun (af := a_rafterlaw09_GuardEquals) rfl rfl rfl]
      simp -implicitDefEqProofs (disch := omega) [a_rafterlaw09_GuardEquals, s0, s1, s2, s3, s4, s5, s6, hlw]
      done
    have s7 := value_spec hs (by omega) hb st
    have s8 := value_spec ht (by omega) hb st
    have n1 := valueV_nl s vs ws
    have n2 := valueV_nl t vs ws
    have v1 := value_of hx fx R.fx hlw
    have v2 := value_of hy fy R.fy hlw
    have z := R.z (stV ws)
    have rl : (rowR vs.length x y).1.length = ws.length + 1 := by have := R.l; omega
    have s9 := left_spec st (f := (rowR vs.length x y).1) (fun i => by have := rowlen.2 i; omega) rl (by omega)
    have a := sum_nl (f := (rowR vs.length x y).1) (fun i => by have := rowlen.2 i; omega) (st_nl st) ws.length
    have s10 := canonical_spec (f := (rowR vs.length x y).1) (by omega) (by omega) (fun i => by have := rowlen.2 i; omega) R.c
    have nd : nl (sumN (rowR vs.length x y).1 (stV ws) ws.length - nth (rowR vs.length x y).1 ws.length) ≤ 80000000 := by
      have hr := rowlen.2 ws.length
      have ng : nl (-nth (rowR vs.length x y).1 ws.length) ≤ 32 := by unfold nl at *; rw [Int.natAbs_neg]; exact hr
      have := nl_add a ng (by omega) (by omega)
      rw [Int.sub_eq_add_neg]
      omega
    rw [← hlw] at z
    have s11 := wcmp_W (m := (valueV s vs ws).1) (n := (valueV t vs ws).1) (by omega) (by omega)
    have s12 := wsign_W (m := sumN (rowR vs.length x y).1 (stV ws) ws.length - nth (rowR vs.length x y).1 ws.length) (by omega)
    rw [hlw] at v1 v2 z s9 s12 nd a
    generalize fval (formV vs.length x).1 (stV ws) vs.length = fx1 at *
    generalize fval (formV vs.length y).1 (stV ws) vs.length = fy1 at *
    generalize valueV s vs ws = w1 at *
    generalize valueV t vs ws = w2 at *
    generalize sumN (rowR vs.length x y).1 (stV ws) vs.length - nth (rowR vs.length x y).1 vs.length = d at *
    generalize (rowR vs.length x y).1 = row at *
    generalize wr x = p at *
    generalize wr y = q at *
    generalize lenW ws ws.length = len at *
    have rl2 := rowlen.1
    rcases v1 with v1 | v1
    · subst v1
      rcases v2 with v2 | v2
      · subst v2
        simp only [] at s7 s8 s11 n1 n2
        by_cases c : fx1 = fy1
        · exact ge_val1 s0 s1 h15 s2 s3 hlen hs ht hv hn rl2 s4 s5 s6 hlw s7 s8 s9 s10 n1 n2 nd s11 s12 (by unfold cmp; repeat (first | omega | split)) (by rw [z.2 c]; rfl)
        · exact ge_val2 s0 s1 h15 s2 s3 hlen hs ht hv hn rl2 s4 s5 s6 hlw s7 s8 s9 s10 n1 n2 nd s11 s12 (by unfold cmp; repeat (first | omega | split)) (fun e => c (z.1 (Int.sign_eq_zero_iff_zero.1 e)))
      · rw [v2] at s8
        exact ge_bad2 s0 s1 h15 s2 s3 hlen hs ht hv hn rl2 s4 s5 s6 hlw s7 s8 s9 s10 n1 n2 nd
    · rw [v1] at s7
      exact ge_bad1 s0 s1 h15 s2 s3 hlen hs ht hv hn rl2 s4 s5 s6 hlw s7 s8 s9 s10 n1 n2 nd
end Go.Rf
