/- Parts of the proof: SpB2, SpB3. -/
import Derived.Test.YtbjfkjbdpnkknaaDoorSp9

/- The plain law: an expression's value is its form's. -/
namespace Go.Rf

def fval (f : List Int) (st : Nat → Int) (n : Nat) : Int := sumN f st n + nth f n
theorem sum_zero {f : List Int} {st : Nat → Int} : ∀ n, (∀ i, i < n → nth f i = 0) → sumN f st n = 0
  | 0, _ => rfl
  | n + 1, h => by
    unfold sumN
    rw [sum_zero n (fun i hi => h i (by omega)), h n (by omega)]
    simp
theorem sum_one {f : List Int} {st : Nat → Int} {v : Nat} : ∀ n, (∀ i, i < n → nth f i = if i = v then 1 else 0) → sumN f st n = if v < n then st v else 0
  | 0, _ => rfl
  | n + 1, h => by
    unfold sumN
    rw [sum_one n (fun i hi => h i (by omega)), h n (by omega)]
    by_cases e : n = v
    · subst e; simp
    · by_cases e2 : v < n
      · simp [e, e2, show v < n + 1 by omega]
      · simp [e, e2, show ¬ v < n + 1 by omega]
theorem sum_lin {f g h : List Int} {st : Nat → Int} (a b : Int) : ∀ n, (∀ i, i < n → nth h i = nth f i * a + nth g i * b) → sumN h st n = sumN f st n * a + sumN g st n * b
  | 0, _ => by simp [sumN]
  | n + 1, hh => by
    unfold sumN
    rw [sum_lin a b n (fun i hi => hh i (by omega)), hh n (by omega), Int.add_mul, Int.add_mul, Int.add_mul, Int.mul_right_comm _ a, Int.mul_right_comm _ b]
    omega
theorem fval_lin {f g h : List Int} {st : Nat → Int} (a b : Int) {n : Nat} (hh : ∀ i, i < n + 1 → nth h i = nth f i * a + nth g i * b) : fval h st n = fval f st n * a + fval g st n * b := by
  unfold fval
  rw [sum_lin a b n (fun i hi => hh i (by omega)), hh n (by omega), Int.add_mul, Int.add_mul]
  omega
theorem fval_const {f : List Int} {st : Nat → Int} {n : Nat} (hl : f.length = n + 1) (h : (constV f).2 = true) : fval f st n = (constV f).1 := by
  unfold constV at h ⊢
  split at h
  · rename_i c
    rw [if_pos c]
    rw [hl, Nat.add_sub_cancel] at c ⊢
    have : ∀ i, i < n → nth f i = 0 := fun i hi => by
      have e : nth (f.take n) i = nth f i := by simp [nth, hi]
      rw [← e, c]
      exact nth_rep ..
    unfold fval
    rw [sum_zero n this]
    simp
  · cases h

theorem both_val {st : Nat → Int} {n : Nat} {op : Int} {f g : List Int} (ho : op = 43 ∨ op = 45 ∨ op = 42 ∨ op = 47 ∨ op = 37) (hf : f.length = n + 1) (hg : g.length = n + 1) (h : (bothV op f g).2 = true) :
    opV op (fval f st n) (fval g st n) = (fval (bothV op f g).1 st n, 0) := by
  unfold bothV at h ⊢
  unfold opV
  split at h
  · rename_i o
    rw [if_pos o, if_pos o]
    rw [fval_lin (h := List.zipWith (· + ·) f g) (f := f) (g := g) 1 1 (fun i hi => by simp [nth, hf, hg, hi])]
    simp
  rename_i o1
  rw [if_neg o1, if_neg o1]
  split at h
  · rename_i o
    rw [if_pos o, if_pos o]
    rw [fval_lin (h := List.zipWith (· + ·) f (g.map (· * -1))) (f := f) (g := g) 1 (-1) (fun i hi => by simp [nth, hf, hg, hi])]
    simp
    omega
  rename_i o2
  rw [if_neg o2, if_neg o2]
  split at h
  · rename_i o
    rw [if_pos o, if_pos o]
    split at h
    · rename_i c
      rw [if_pos c]
      rw [fval_lin (h := g.map (· * (constV f).1)) (f := g) (g := g) (constV f).1 0 (fun i hi => by rw [nth_map _ (by omega)]; simp), fval_const hf c]
      simp [Int.mul_comm]
    · rename_i c
      rw [if_neg c]
      rw [fval_lin (h := f.map (· * (constV g).1)) (f := f) (g := f) (constV g).1 0 (fun i hi => by rw [nth_map _ (by omega)]; simp), fval_const hg h]
      simp
  rename_i o3
  rw [if_neg o3, if_neg o3]
  split at h
  · rename_i c
    rw [if_pos c]
    have e : ∀ v : Int, fval ((List.replicate f.length 0).set (f.length - 1) v) st n = v := fun v => by
      unfold fval
      rw [sum_zero n (fun i hi => by rw [nth_rep_set (by omega), if_neg (by omega)]), nth_rep_set (by omega), if_pos (by omega)]
      simp
    rw [fval_const hf c.1, fval_const hg c.2.1, if_neg c.2.2]
    by_cases o4 : op = 37
    · rw [if_pos o4]
      rw [if_neg (by omega)]
      rw [e]
    · rw [if_neg o4]
      rw [if_pos (by omega)]
      rw [e]
  · cases h

theorem join_form (st : Nat → Int) (n : Nat) : ∀ x : Nd, x.fine n → (formV n x).2 = true → ((joinV st x).2 = 0 ∧ (joinV st x).1 = fval (formV n x).1 st n) ∨ (joinV st x).2 = 2 := by
  have wd : ∀ (x : Nd) (v : Int), ((joinV st x).2 = 0 ∧ (joinV st x).1 = v) ∨ (joinV st x).2 = 2 → wide (joinV st x) = (v, 0) ∨ (wide (joinV st x)).2 = 2 := by
    intro x v h
    unfold wide
    rcases h with ⟨h1, h2⟩ | h
    · rw [if_pos h1]
      split
      · exact .inr rfl
      · exact .inl (by rw [← h1, ← h2])
    · rw [if_neg (by omega)]
      exact .inr h
  intro x
  induction x with
  | num k =>
    intro _ _
    refine .inl ⟨rfl, ?_⟩
    show k = fval ((List.replicate (n + 1) 0).set n k) st n
    unfold fval
    rw [sum_zero n (fun i hi => by rw [nth_rep_set (by omega), if_neg (by omega)]), nth_rep_set (by omega), if_pos rfl]
    simp
  | name v s =>
    intro h _
    refine .inl ⟨rfl, ?_⟩
    have h1 := h.1
    have h2 := h.2.1
    show st v.toNat = fval ((List.replicate (n + 1) 0).set v.toNat 1) st n
    unfold fval
    rw [sum_one (v := v.toNat) n (fun i hi => by rw [nth_rep_set (by omega)]), nth_rep_set (by omega), if_pos (by omega), if_neg (by omega)]
    simp
  | minus x ih =>
    intro h ho
    rcases wd x _ (ih h ho) with e | e
    · refine .inl ?_
      unfold joinV formV
      rw [e]
      refine ⟨rfl, ?_⟩
      rcases form_sh n x h with ⟨_, f⟩ | sh
      · have ho : (formV n x).2 = true := ho
        rw [f] at ho; cases ho
      · have := sh.l
        rw [fval_lin (h := (formV n x).1.map (· * -1)) (f := (formV n x).1) (g := (formV n x).1) (-1) 0 (fun i hi => by rw [nth_map _ (by omega)]; simp)]
        show -fval _ st n = _
        simp
    · refine .inr ?_
      unfold joinV
      exact e
  | two op x y ih1 ih2 =>
    intro h ho
    have hc : (formV n x).2 = true ∧ (formV n y).2 = true := by
      unfold formV at ho
      split at ho
      · assumption
      · cases ho
    have ef : formV n (.two op x y) = bothV op (formV n x).1 (formV n y).1 := by
      rw [formV, if_pos hc]
    rw [ef] at ho ⊢
    rcases wd x _ (ih1 h.2.1 hc.1) with e1 | e1
    · rcases wd y _ (ih2 h.2.2 hc.2) with e2 | e2
      · refine .inl ?_
        have s1 : Sh n x.w (formV n x).1 := by
          rcases form_sh n x h.2.1 with ⟨_, f⟩ | sh
          · rw [f] at hc; cases hc.1
          · exact sh
        have s2 : Sh n y.w (formV n y).1 := by
          rcases form_sh n y h.2.2 with ⟨_, f⟩ | sh
          · rw [f] at hc; cases hc.2
          · exact sh
        have b := both_val (st := st) h.1 s1.l s2.l ho
        unfold joinV
        rw [e1, e2]
        simp only [ne_eq, not_true_eq_false, if_false]
        unfold opV at b
        rw [b]
        exact ⟨rfl, rfl⟩
      · refine .inr ?_
        unfold joinV
        rw [e1, if_neg (by simp), if_pos (by omega)]
        exact e2
    · refine .inr ?_
      unfold joinV
      rw [if_pos (by omega)]
      exact e1
theorem value_form {s : List UInt8} {vs : List (List UInt8)} {ws : List RWh} (hb : ∀ k, (tx vs k).length ≤ 1100000) (he : (affineV s vs).2.2.1 = 0) (ho : (affineV s vs).2.1 = true) (hl : ws.length = vs.length) :
    valueV s vs ws = (fval (affineV s vs).1 (stV ws) ws.length, 0) ∨ (valueV s vs ws).2 = 2 := by
  unfold affineV valueV at *
  cases hx : exprV s vs with
  | mk o ep =>
    obtain ⟨e, p⟩ := ep
    rw [hx] at he ho
    cases o with
    | none => cases ho
    | some x =>
      obtain ⟨rfl, rfl, hf, hw, hv16⟩ := expr_ok hb hx
      simp only [] at he ho ⊢
      rw [if_neg (by omega)]
      by_cases hc : (formV vs.length x).2 = true
      · simp only [if_pos hc]
        have := join_form (stV ws) vs.length x hf hc
        unfold wide
        rcases this with ⟨h1, h2⟩ | h
        · rw [if_pos h1]
          split
          · exact .inr rfl
          · exact .inl (by rw [hl, ← h1, ← h2])
        · rw [if_neg (by omega)]
          exact .inr h
      · simp only [if_neg hc] at ho
        cases ho
end Go.Rf

/- awake; GuardValues. -/
namespace Go.Rf

def awakeT : List UInt8 := [50, 42, 40, 120, 43, 51, 42, 121, 41, 45, 120]
def awakeU : List UInt8 := [120, 42, 121]
def xy : List (List UInt8) := [[120], [121]]
theorem awake_t : (affineV awakeT xy).1 = [1, 6, 0] ∧ (affineV awakeT xy).2.1 = true ∧ (affineV awakeT xy).2.2.1 = 0 := by decide +kernel
theorem awake_u : (affineV awakeU xy).2.1 = false ∧ (affineV awakeU xy).2.2.1 = 0 := by decide +kernel
theorem xy_tx (k : Nat) : (tx xy k).length ≤ 1100000 := by
  match k with
  | 0 => decide
  | 1 => decide
  | k + 2 => simp [tx, xy]
theorem awake_spec : callE T0 X0 f_rafterlaw09_awake [] [] = some (.ret [.d (.bool true)] []) := by
  have s1 := affine_spec (s := awakeT) (vs := xy) (by decide) (by decide) xy_tx
  have s2 := affine_spec (s := awakeU) (vs := xy) (by decide) (by decide) xy_tx
  rw [awake_t.1, awake_t.2.1, awake_t.2.2] at s1
  rw [awake_u.1, awake_u.2] at s2
  have s3 := row_spec (ns := [1, 6, 0]) (by decide) (fun i => by
    match i with
    | 0 => decide
    | 1 => decide
    | 2 => decide
    | i + 3 => simp [nth])
  have hn : ∀ i, nl (nth [1, 6, 0] i) ≤ 1073741824 := fun i => by
    match i with
    | 0 => decide
    | 1 => decide
    | 2 => decide
    | i + 3 => simp [nth]
  have s4 := sameWs_spec (f := [1, 6, 0]) (g := [1, 6, 0]) (by decide) (by decide) hn hn
  have hw1 : wl [D.str [120], D.str [121]] = 16 := rfl
  have hw2 : wl [D.int .i64 1, D.int .i64 6, D.int .i64 0] = 8 := rfl
  have hlot : ∀ n, n ≤ 1000 → (n ≤ lots) = True := fun n h => eq_true (by unfold lots; omega)
  rw [callX_fun (af := a_rafterlaw09_awake) rfl rfl rfl]
  simp only [awakeT, awakeU, xy, SL, IL, List.map, Pl.cs, decide_true] at s1 s2 s3 s4
  generalize hz : (affineV [120, 42, 121] [[120], [121]]).1 = z at *
  simp -implicitDefEqProofs (disch := omega) [a_rafterlaw09_awake, s1, s2, s3, s4, hw1, hw2, hlot]
  done
theorem affine_sh {s vs} (hb : ∀ k, (tx vs k).length ≤ 1100000) (ho : (affineV s vs).2.1 = true) : vs.length ≤ 16 ∧ Sh vs.length 4000000 (affineV s vs).1 := by
  unfold affineV at *
  cases hx : exprV s vs with
  | mk o ep =>
    obtain ⟨e, p⟩ := ep
    rw [hx] at ho
    cases o with
    | none => cases ho
    | some x =>
      obtain ⟨rfl, rfl, hf, hw, hv16⟩ := expr_ok hb hx
      simp only [] at ho ⊢
      by_cases hc : (formV vs.length x).2 = true
      · simp only [if_pos hc]
        rcases form_sh vs.length x hf with ⟨_, f⟩ | sh
        · rw [f] at hc; cases hc
        · exact ⟨hv16, sh.l, fun i hi => Nat.le_trans (sh.b i hi) hw⟩
      · simp only [if_neg hc] at ho
        cases ho
theorem affine_nil {s vs} (ho : (affineV s vs).2.1 = false) : (affineV s vs).1 = [] := by
  unfold affineV at *
  split
  · rfl
  · rename_i x e p hx
    rw [hx] at ho
    simp only [] at ho
    split
    · rename_i c
      rw [if_pos c] at ho
      cases ho
    · rfl
theorem gv_spec {s : List UInt8} {vs : List (List UInt8)} {ws : List RWh} (hs : s.length ≤ 1100000) (hv : vs.length ≤ 1100000) (hb : ∀ k, (tx vs k).length ≤ 1100000) (hn : ws.length ≤ 1100000) (hl : ∀ i, (rth ws i).2.length ≤ 1100000) (hg : ∀ i, Good (rth ws i).2) :
    callE T0 X0 f_rafterlaw09_GuardValues [.d (.str s), .d (.sl (SL vs)), .d (.sl (RL ws))] [] = some (.ret [.d (.bool true)] []) := by
  have s0 := awake_spec
  have s1 := lenws_spec hn hl
  have hle := lenW_le ws hl ws.length
  rw [callX_fun (af := a_rafterlaw09_GuardValues) rfl rfl rfl]
  by_cases h15 : 1500 < lenW ws ws.length
  · generalize lenW ws ws.length = len at *
    simp -implicitDefEqProofs (disch := omega) [a_rafterlaw09_GuardValues, s0, s1]
    done
  have st : StOk ws := ⟨hg, fun i => by
    by_cases hi : i < ws.length
    · have := lenW_ge ws _ i hi
      omega
    · have : rth ws i = (false, []) := by simp [rth, List.getD_eq_getElem?_getD, List.getElem?_eq_none (Nat.le_of_not_lt hi)]
      rw [this]; simp, by have := lenW_n ws ws.length; omega⟩
  have s2 := affine_spec hs (by omega) hb
  have h0 := lenW_n ws ws.length
  by_cases he : (affineV s vs).2.2.1 = 0
  · rw [he] at s2
    cases ho : (affineV s vs).2.1 with
    | false =>
      have hz := affine_nil ho
      rw [ho, hz] at s2
      generalize affineV s vs = a at *
      generalize lenW ws ws.length = len at *
      simp only [Pl.cs] at s2
      simp -implicitDefEqProofs (disch := omega) [a_rafterlaw09_GuardValues, s0, s1, s2]
      done
    | true =>
      rw [ho] at s2
      obtain ⟨hv16, sh⟩ := affine_sh hb ho
      have shl := sh.l
      by_cases hlen : ws.length = vs.length
      · have s3 := value_spec hs (by omega) hb st
        have hf : ∀ i, nl (nth (affineV s vs).1 i) ≤ 4194304 := fun i => by
          by_cases hi : i < vs.length + 1
          · have := sh.b i hi; omega
          · rw [nth_out (by omega)]; simp
        have s4 := aval_spec st hf (by omega) (by omega)
        have hval := value_form (ws := ws) hb he ho hlen
        change _ = some (CRes.ret [.d (Wd (fval (affineV s vs).1 (stV ws) ws.length)), _] []) at s4
        have nlv : nl (fval (affineV s vs).1 (stV ws) ws.length) ≤ 1073741824 := by
          have a := sum_nl hf (st_nl st) ws.length
          have b := nl_add (b := nth (affineV s vs).1 ws.length) a (hf ws.length) (by omega) (by omega)
          unfold fval
          omega
        generalize hV : valueV s vs ws = v at *
        generalize fval (affineV s vs).1 (stV ws) ws.length = want at *
        generalize affineV s vs = a at *
        generalize lenW ws ws.length = len at *
        simp only [Pl.cs] at s2
        rcases hval with h | h
        · subst h
          have s5 := sameW_W nlv nlv
          simp only [decide_true] at s3 s5
          simp -implicitDefEqProofs (disch := omega) [a_rafterlaw09_GuardValues, s0, s1, s2, s3, s4, s5, hlen]
          done
        · rw [h] at s3
          simp -implicitDefEqProofs (disch := omega) [a_rafterlaw09_GuardValues, s0, s1, s2, s3, s4, hlen]
          done
      · generalize affineV s vs = a at *
        generalize lenW ws ws.length = len at *
        simp only [Pl.cs] at s2
        simp -implicitDefEqProofs (disch := omega) [a_rafterlaw09_GuardValues, s0, s1, s2, hlen]
        done
  · generalize affineV s vs = a at *
    generalize lenW ws ws.length = len at *
    simp only [Pl.cs] at s2
    simp -implicitDefEqProofs (disch := omega) [a_rafterlaw09_GuardValues, s0, s1, s2, he]
    done
end Go.Rf
