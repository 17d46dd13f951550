/- Parts of the proof: SpA3, SpA4, SpA5, SpA6, SpA7, SpA8, SpA9, SpB1, SpB2, SpB4, SpC1. -/
import Derived.Test.YtdgfohkljpjdpaaGreatDoorSp5

/- guard.Form. -/
namespace Go.Rf

def formV (n : Nat) : Nd → List Int × Bool
  | .num k => ((List.replicate (n + 1) 0).set n k, true)
  | .name v _ => ((List.replicate (n + 1) 0).set v.toNat 1, true)
  | .minus x => ((formV n x).1.map (· * -1), (formV n x).2)
  | .two op x y => if (formV n x).2 = true ∧ (formV n y).2 = true then bothV op (formV n x).1 (formV n y).1 else ([], false)
/-- How many limbs the numbers of an expression's form have at most. -/
def Nd.w : Nd → Nat
  | .num k => nl k + 1
  | .name _ _ => 1
  | .minus x => x.w
  | .two _ x y => x.w + y.w
/-- Every name's number is one of a variable. -/
def Nd.fine (n : Nat) : Nd → Prop
  | .num _ => True
  | .name v s => 0 ≤ v ∧ v < n ∧ s.length ≤ 1100000
  | .minus x => x.fine n
  | .two op x y => (op = 43 ∨ op = 45 ∨ op = 42 ∨ op = 47 ∨ op = 37) ∧ x.fine n ∧ y.fine n
theorem Nd.w_pos : ∀ x : Nd, 0 < x.w
  | .num k => by unfold Nd.w; omega
  | .name _ _ => by unfold Nd.w; omega
  | .minus x => by unfold Nd.w; exact x.w_pos
  | .two _ x y => by unfold Nd.w; have := x.w_pos; omega
theorem pw_one_le {k : Nat} (h : 0 < k) : 4294967296 ≤ pw k := by
  have := pw_le (m := 1) (n := k) h
  simpa [pw] using this
theorem nl_add {a b : Int} {k m : Nat} (ha : nl a ≤ k) (hb : nl b ≤ m) (hk : 0 < k) (hm : 0 < m) : nl (a + b) ≤ k + m := by
  have h1 := lt_nl a
  have h2 := lt_nl b
  have p1 := pw_le ha
  have p2 := pw_le hb
  have q1 := pw_one_le hk
  have q2 := pw_one_le hm
  have e : pw (k + m) = pw k * pw m := pw_add m k
  have e1 : pw k * 4294967296 ≤ pw k * pw m := Int.mul_le_mul_of_nonneg_left q2 (by omega)
  have e2 : 4294967296 * pw m ≤ pw k * pw m := Int.mul_le_mul_of_nonneg_right q1 (by omega)
  exact nl_lt (by omega) (by omega)
theorem nl_mul {a b : Int} {k m : Nat} (ha : nl a ≤ k) (hb : nl b ≤ m) : nl (a * b) ≤ k + m := by
  have h1 := lt_nl a
  have h2 := lt_nl b
  have p1 := pw_le ha
  have p2 := pw_le hb
  have e : pw (k + m) = pw k * pw m := pw_add m k
  have e1 : ((a * b).natAbs : Int) < pw k * pw m := by
    rw [Int.natAbs_mul, Int.natCast_mul]
    exact Int.lt_of_le_of_lt (Int.mul_le_mul_of_nonneg_left (Int.le_of_lt (Int.lt_of_lt_of_le h2 p2)) (by omega)) (Int.mul_lt_mul_of_pos_right (by omega) (pw_pos m))
  exact nl_lt (by omega) (by omega)
theorem nl_le_of {a b : Int} (h : a.natAbs ≤ b.natAbs) : nl a ≤ nl b := by
  have := lt_nl b
  exact nl_lt (by omega) (by omega)
theorem nl_div (a b : Int) : nl (a / b) ≤ nl a + 1 := by
  have h1 := lt_nl a
  have h2 : (a / b).natAbs ≤ a.natAbs + 1 := by
    by_cases hb : b = 0
    · subst hb; simp
    · obtain ⟨e1, e2, e3⟩ := qr0 a b hb
      by_cases hr : r0 a b < 0
      · by_cases hn : b < 0
        · rw [(ediv_of (m := a) (n := b) (q := q0 a b + 1) (r := r0 a b - b) hb (by rw [Int.add_mul, Int.one_mul]; omega) (by omega) (by omega)).1]
          omega
        · rw [(ediv_of (m := a) (n := b) (q := q0 a b - 1) (r := r0 a b + b) hb (by rw [Int.sub_mul, Int.one_mul]; omega) (by omega) (by omega)).1]
          omega
      · rw [(ediv_of (m := a) (n := b) (q := q0 a b) (r := r0 a b) hb e1 (by omega) (by omega)).1]
        omega
  have := pw_pos (nl a)
  exact nl_lt (by rw [pw_succ]; omega) (by rw [pw_succ]; omega)
theorem nl_mod (a b : Int) (h : b ≠ 0) : nl (a % b) ≤ nl b := by
  have m0 := Int.emod_nonneg a h
  have m1 := Int.emod_lt a h
  exact nl_le_of (by omega)
theorem nth_rep (n i : Nat) : nth (List.replicate n 0) i = 0 := by
  simp only [nth, List.getD_eq_getElem?_getD, List.getElem?_replicate]
  split <;> rfl
theorem nth_rep_set {n k : Nat} (h : k < n) (v : Int) (i : Nat) : nth ((List.replicate n 0).set k v) i = if i = k then v else 0 := by
  rw [nth_set (by simpa using h)]
  split
  · rfl
  · exact nth_rep ..

/-- The form's shape. -/
structure Sh (n w : Nat) (f : List Int) : Prop where
  l : f.length = n + 1
  b : ∀ i, i < n + 1 → nl (nth f i) ≤ w
theorem const_sh {n w : Nat} {f : List Int} (h : Sh n w f) : nl (constV f).1 ≤ w := by
  unfold constV
  split
  · exact h.b _ (by have := h.l; omega)
  · show nl 0 ≤ w
    simp
theorem both_sh {n a b : Nat} {f g : List Int} (op : Int) (ha : 0 < a) (hb : 0 < b) (hf : Sh n a f) (hg : Sh n b g) : (bothV op f g).1 = [] ∧ (bothV op f g).2 = false ∨ Sh n (a + b) (bothV op f g).1 := by
  have l1 := hf.l
  have l2 := hg.l
  have cf := const_sh hf
  have cg := const_sh hg
  unfold bothV
  split
  · refine .inr ⟨by simp [l1, l2], fun i hi => ?_⟩
    have e : nth (List.zipWith (· + ·) f g) i = nth f i + nth g i := by simp [nth, l1, l2, hi]
    rw [e]
    exact nl_add (hf.b i hi) (hg.b i hi) ha hb
  split
  · refine .inr ⟨by simp [l1, l2], fun i hi => ?_⟩
    have e : nth (List.zipWith (· + ·) f (g.map (· * -1))) i = nth f i + nth g i * -1 := by simp [nth, l1, l2, hi]
    rw [e]
    exact nl_add (hf.b i hi) (by rw [Int.mul_neg, Int.mul_one, nl_neg]; exact hg.b i hi) ha hb
  split
  · split
    · refine .inr ⟨by simp [l2], fun i hi => ?_⟩
      rw [nth_map _ (by omega)]
      rw [Nat.add_comm]
      exact nl_mul (hg.b i hi) cf
    · refine .inr ⟨by simp [l1], fun i hi => ?_⟩
      rw [nth_map _ (by omega)]
      exact nl_mul (hf.b i hi) cg
  split
  · rename_i c
    refine .inr ⟨by simp [l1], fun i hi => ?_⟩
    rw [nth_rep_set (by omega)]
    split
    · split
      · have := nl_mod (constV f).1 _ c.2.2
        omega
      · have := nl_div (constV f).1 (constV g).1
        omega
    · simp
  · exact .inl ⟨rfl, rfl⟩
theorem form_sh (n : Nat) : ∀ x : Nd, x.fine n → (formV n x).1 = [] ∧ (formV n x).2 = false ∨ Sh n x.w (formV n x).1
  | .num k, _ => by
    refine .inr ⟨by simp [formV], fun i hi => ?_⟩
    unfold formV Nd.w
    rw [nth_rep_set (by omega)]
    split <;> simp
  | .name v s, h => by
    unfold Nd.fine at h
    refine .inr ⟨by simp [formV], fun i hi => ?_⟩
    unfold formV Nd.w
    rw [nth_rep_set (by omega)]
    split <;> simp
  | .minus x, h => by
    unfold formV Nd.w
    rcases form_sh n x h with ⟨e, f⟩ | c
    · exact .inl ⟨by simp [e], f⟩
    · have := c.l
      refine .inr ⟨by simpa using c.l, fun i hi => ?_⟩
      rw [nth_map _ (by omega), Int.mul_neg, Int.mul_one, nl_neg]
      exact c.b i hi
  | .two op x y, h => by
    unfold formV Nd.w
    split
    · rename_i c
      rcases form_sh n x h.2.1 with ⟨e, f⟩ | c1
      · rw [f] at c; cases c.1
      rcases form_sh n y h.2.2 with ⟨e, f⟩ | c2
      · rw [f] at c; cases c.2
      exact both_sh op x.w_pos y.w_pos c1 c2
    · exact .inl ⟨rfl, rfl⟩
end Go.Rf

/- guard.Form: the walk. -/
namespace Go.Rf

@[simp] theorem t_Number_Name : (t_lang_Number = t_lang_Name) = False := eq_false (by decide)
@[simp] theorem t_Number_Minus : (t_lang_Number = t_lang_Minus) = False := eq_false (by decide)
@[simp] theorem t_Number_Two : (t_lang_Number = t_lang_Two) = False := eq_false (by decide)
@[simp] theorem t_Name_Number : (t_lang_Name = t_lang_Number) = False := eq_false (by decide)
@[simp] theorem t_Name_Minus : (t_lang_Name = t_lang_Minus) = False := eq_false (by decide)
@[simp] theorem t_Name_Two : (t_lang_Name = t_lang_Two) = False := eq_false (by decide)
@[simp] theorem t_Minus_Number : (t_lang_Minus = t_lang_Number) = False := eq_false (by decide)
@[simp] theorem t_Minus_Name : (t_lang_Minus = t_lang_Name) = False := eq_false (by decide)
@[simp] theorem t_Minus_Two : (t_lang_Minus = t_lang_Two) = False := eq_false (by decide)
@[simp] theorem t_Two_Number : (t_lang_Two = t_lang_Number) = False := eq_false (by decide)
@[simp] theorem t_Two_Name : (t_lang_Two = t_lang_Name) = False := eq_false (by decide)
@[simp] theorem t_Two_Minus : (t_lang_Two = t_lang_Minus) = False := eq_false (by decide)
@[simp] theorem fitV_nd (x : Nd) : fitV (.d x.d) = true := by cases x <;> rfl
theorem sh_times {n w : Nat} {f : List Int} (h : f = [] ∨ Sh n w f) (hn : n ≤ 16) (hw : w < 134217728) : f.length ≤ 1000 ∧ ∀ i, i < f.length → nl (nth f i) < 1073741824 := by
  rcases h with h | h
  · subst h
    exact ⟨by simp, fun i hi => by simp at hi⟩
  · have := h.l
    refine ⟨by omega, fun i hi => ?_⟩
    have := h.b i (by omega)
    omega
theorem form_num (n : Nat) (hn : n ≤ 16) (k : Int) (hw : nl k < 134217728) : callE T0 X0 f_guard_Form [.d (Nd.num k).d, .d (.int .i64 n)] [] = some (.ret [.d (.sl (WL (formV n (.num k)).1)), .d (.bool (formV n (.num k)).2)] []) := by
  have s1 := wtrim_W (m := k) (by omega)
  have ht : ∀ v : Int, ((List.replicate (n + 1) 0).set n v).take (n + 1) = (List.replicate (n + 1) 0).set n v := fun v => List.take_of_length_le (by simp)
  have hg1 : (WV (List.replicate (n + 1) 0))[n]? = some (.d (Wd 0)) := by rw [WV_get (by simp), nth_rep]
  rw [callX_fun (af := a_guard_Form) rfl rfl rfl]
  simp only [Nd.d, formV]
  simp -implicitDefEqProofs (disch := omega) [a_guard_Form, s1, ht, hg1]
  done
theorem form_name (n : Nat) (hn : n ≤ 16) (v : Nat) (s : List UInt8) (hv : v < n) (hs : s.length ≤ 1100000) : callE T0 X0 f_guard_Form [.d (Nd.name v s).d, .d (.int .i64 n)] [] = some (.ret [.d (.sl (WL (formV n (.name v s)).1)), .d (.bool (formV n (.name v s)).2)] []) := by
  have s1 := wof_spec (n := 1) (by omega)
  have ht : ∀ k (w : Int), ((List.replicate (n + 1) 0).set k w).take (n + 1) = (List.replicate (n + 1) 0).set k w := fun k w => List.take_of_length_le (by simp)
  have hg1 : (WV (List.replicate (n + 1) 0))[v]? = some (.d (Wd 0)) := by rw [WV_get (by simp; omega), nth_rep]
  rw [callX_fun (af := a_guard_Form) rfl rfl rfl]
  simp only [Nd.d, formV, Int.toNat_natCast]
  simp -implicitDefEqProofs (disch := omega) [a_guard_Form, s1, ht, hg1]
  done
theorem form_minus (n : Nat) (hn : n ≤ 16) (x : Nd) (hx : x.fine n) (hw : x.w < 134217728) (ih : callE T0 X0 f_guard_Form [.d x.d, .d (.int .i64 n)] [] = some (.ret [.d (.sl (WL (formV n x).1)), .d (.bool (formV n x).2)] [])) :
    callE T0 X0 f_guard_Form [.d (Nd.minus x).d, .d (.int .i64 n)] [] = some (.ret [.d (.sl (WL (formV n (.minus x)).1)), .d (.bool (formV n (.minus x)).2)] []) := by
  have s1 := wof_spec (n := -1) (by omega)
  obtain ⟨t1, t2⟩ := sh_times ((form_sh n x hx).imp And.left id) hn hw
  have s2 := times_spec (f := (formV n x).1) (k := -1) t1 (by decide) t2
  rw [callX_fun (af := a_guard_Form) rfl rfl rfl]
  simp only [Nd.d, formV]
  generalize (formV n x).1.map (· * -1) = g at *
  simp -implicitDefEqProofs (disch := omega) [a_guard_Form, s1, s2, ih]
  done
theorem form_two (n : Nat) (hn : n ≤ 16) (op : Int) (x y : Nd) (hx : x.fine n) (hy : y.fine n) (hw : x.w + y.w < 134217728) (ih : callE T0 X0 f_guard_Form [.d x.d, .d (.int .i64 n)] [] = some (.ret [.d (.sl (WL (formV n x).1)), .d (.bool (formV n x).2)] []))
    (ih2 : callE T0 X0 f_guard_Form [.d y.d, .d (.int .i64 n)] [] = some (.ret [.d (.sl (WL (formV n y).1)), .d (.bool (formV n y).2)] [])) :
    callE T0 X0 f_guard_Form [.d (Nd.two op x y).d, .d (.int .i64 n)] [] = some (.ret [.d (.sl (WL (formV n (.two op x y)).1)), .d (.bool (formV n (.two op x y)).2)] []) := by
  have f1 := form_sh n x hx
  have f2 := form_sh n y hy
  rw [callX_fun (af := a_guard_Form) rfl rfl rfl]
  simp only [Nd.d, formV]
  generalize formV n x = fx at *
  generalize formV n y = fy at *
  obtain ⟨fx, b1⟩ := fx
  obtain ⟨fy, b2⟩ := fy
  simp only [] at *
  obtain ⟨t1, t2⟩ := sh_times (f1.imp And.left id) hn (by omega)
  obtain ⟨t3, t4⟩ := sh_times (f2.imp And.left id) hn (by omega)
  by_cases hb : b1 = true ∧ b2 = true
  · rw [if_pos hb]
    obtain ⟨rfl, rfl⟩ := hb
    have f1 : Sh n x.w fx := by rcases f1 with ⟨_, h⟩ | h; cases h; exact h
    have f2 : Sh n y.w fy := by rcases f2 with ⟨_, h⟩ | h; cases h; exact h
    have s1 := both_spec (op := op) (l := fx) (r := fy) (N := n + 1) (by omega) (by omega) f1.l f2.l (fun i hi => by have := f1.b i hi; omega) (fun i hi => by have := f2.b i hi; omega)
    generalize bothV op fx fy = z at *
    obtain ⟨z, b3⟩ := z
    simp -implicitDefEqProofs (disch := omega) [a_guard_Form, s1, ih, ih2]
    done
  · rw [if_neg hb]
    cases b1 <;> cases b2 <;> simp at hb <;> simp -implicitDefEqProofs (disch := omega) [a_guard_Form, ih, ih2]
    done
theorem form_spec (n : Nat) (hn : n ≤ 16) : ∀ x : Nd, x.fine n → x.w < 134217728 → callE T0 X0 f_guard_Form [.d x.d, .d (.int .i64 n)] [] = some (.ret [.d (.sl (WL (formV n x).1)), .d (.bool (formV n x).2)] [])
  | .num k, _, hw => form_num n hn k (by unfold Nd.w at hw; omega)
  | .name v s, h, _ => by
    obtain ⟨v, rfl⟩ := Int.eq_ofNat_of_zero_le h.1
    exact form_name n hn v s (by have := h.2.1; omega) h.2.2
  | .minus x, h, hw => form_minus n hn x h hw (form_spec n hn x h hw)
  | .two op x y, h, hw => by
    unfold Nd.w at hw
    exact form_two n hn op x y h.2.1 h.2.2 hw (form_spec n hn x h.2.1 (by omega)) (form_spec n hn y h.2.2 (by omega))
end Go.Rf

/- Whole numbers as they come; lang.join, Reckon. -/
namespace Go.Rf

abbrev RWh := Bool × List Int
def Rw (w : RWh) : D := .agg [.bool w.1, .sl (L w.2)]
def rv (w : RWh) : Int := sg w.1 (nv w.2)
def RL (ws : List RWh) : List D := ws.map Rw
def rth (ws : List RWh) (i : Nat) : RWh := ws.getD i (false, [])
@[simp] theorem RL_len (l) : (RL l).length = l.length := by simp [RL]
theorem RL_get {l : List RWh} {i : Nat} (h : i < l.length) : (RL l)[i]? = some (Rw (rth l i)) := by simp [RL, rth, h]
attribute [simp] RL_get
theorem wl_RL (l : List RWh) : wl (RL l) ≤ 32 := by
  induction l with
  | nil => simp [RL, wl]
  | cons x xs ih =>
    show max (wt (Rw x)) (wl (RL xs)) ≤ 32
    have : wt (Rw x) = 25 := rfl
    omega
@[simp] theorem wl_RL32 (l) : (wl (RL l) ≤ 32) = True := eq_true (wl_RL l)
@[simp] theorem fit_RL {n : Nat} {l : List RWh} (h : n ≤ 1099511627) : (n * wl (RL l) ≤ lots) = True := eq_true (Nat.le_trans (Nat.mul_le_mul h (wl_RL l)) (by unfold lots; omega))
@[simp] theorem RL_cells (l) : (∀ x ∈ RL l, x.cells.length = 2) = True := eq_true (by
  intro x hx
  obtain ⟨n, _, rfl⟩ := List.mem_map.1 hx
  rfl)
@[simp] theorem cells_Rw (n) : (Rw n).cells.length = 2 := rfl
@[simp] theorem vcells_Rw (n) : (V.cells (.d (Rw n))).length = 2 := rfl
@[simp] theorem aggO_Rw (n) : aggO (List.take 2 (V.d (Rw n)).cells) (allD (List.take 2 (V.d (Rw n)).cells)) = .d (Rw n) := rfl
@[simp] theorem take2_Rw (n) : List.take 2 (V.d (Rw n)).cells = (V.d (Rw n)).cells := rfl
@[simp] theorem aggO_Rw' (n) : aggO (V.d (Rw n)).cells (allD (V.d (Rw n)).cells) = .d (Rw n) := rfl
theorem fitV_Rw {n : RWh} (h : n.2.length < 1099511627776) : fitV (.d (Rw n)) = true := by
  have : wl (L n.2) ≤ 4 := wl_L _
  have h2 : n.2.length * wl (L n.2) ≤ 1099511627776 * 4 := Nat.mul_le_mul (Nat.le_of_lt h) this
  simp [Rw, fitV, fitC]
  unfold lots; omega
attribute [simp] fitV_Rw
@[simp] theorem loadV_Rw (h n) : loadV h 2 true (.d (.box (Rw n))) = val (.d (Rw n)) := by simp [Rw]
@[simp] theorem setPart_Rw (x : Int) (n) : setPart (.d (Wd x)) 0 (.d (Rw n)) = some (.d (Rw n)) := by simp [Wd, Rw, setPart]
@[simp] theorem setPart_WR (n : Int) (x) : setPart (.d (Rw x)) 0 (.d (Wd n)) = some (.d (Wd n)) := by simp [Wd, Rw, setPart]

theorem trim_Rw {w : RWh} (hg : Good w.2) (h : w.2.length < 1073741824) : callE T0 X0 f_whole_Trim [.d (Rw w)] [] = some (.ret [.d (Wd (rv w))] []) := wtrim_raw hg h w.1
theorem mul_WR {m : Int} {w : RWh} (hm : nl m < 1073741824) (hg : Good w.2) (h : w.2.length < 1073741824) : callE T0 X0 f_whole_Mul [.d (Wd m), .d (Rw w)] [] = some (.ret [.d (Wd (m * rv w))] []) := by
  have := wmul_raw (limbs_good m.natAbs) hg hm h (decide (m < 0)) w.1
  rwa [nv_abs, sg_abs] at this

/-- What is too wide is an error. -/
def wide (r : Int × Int) : Int × Int := if r.2 = 0 then (if 512 < nl r.1 then (0, 2) else r) else (0, r.2)
def joinV (st : Nat → Int) : Nd → Int × Int
  | .num k => (k, 0)
  | .name v _ => (st v.toNat, 0)
  | .minus x => (-(wide (joinV st x)).1, (wide (joinV st x)).2)
  | .two op x y =>
    if (wide (joinV st x)).2 ≠ 0 then wide (joinV st x)
    else if (wide (joinV st y)).2 ≠ 0 then wide (joinV st y)
    else if op = 43 then ((wide (joinV st x)).1 + (wide (joinV st y)).1, 0)
    else if op = 45 then ((wide (joinV st x)).1 - (wide (joinV st y)).1, 0)
    else if op = 42 then ((wide (joinV st x)).1 * (wide (joinV st y)).1, 0)
    else if (wide (joinV st y)).1 = 0 then (0, 20)
    else if op = 47 then ((wide (joinV st x)).1 / (wide (joinV st y)).1, 0)
    else ((wide (joinV st x)).1 % (wide (joinV st y)).1, 0)
theorem wide_nl (r : Int × Int) : nl (wide r).1 ≤ 512 := by
  unfold wide
  split
  · split
    · simp
    · omega
  · simp
theorem nl_sub {a b : Int} {k m : Nat} (ha : nl a ≤ k) (hb : nl b ≤ m) (hk : 0 < k) (hm : 0 < m) : nl (a - b) ≤ k + m := by
  rw [Int.sub_eq_add_neg]
  exact nl_add ha (by rwa [nl_neg]) hk hm
theorem join_nl (st : Nat → Int) (hst : ∀ i, nl (st i) ≤ 1500) (x : Nd) (hx : x.w < 134217728) : nl (joinV st x).1 < 268435456 := by
  cases x with
  | num k => unfold Nd.w at hx; show nl k < _; omega
  | name v s => show nl (st v.toNat) < _; have := hst v.toNat; omega
  | minus x => show nl (-(wide (joinV st x)).1) < _; rw [nl_neg]; have := wide_nl (joinV st x); omega
  | two op x y =>
    unfold joinV
    have h1 := wide_nl (joinV st x)
    have h2 := wide_nl (joinV st y)
    have a := nl_add h1 h2 (by omega) (by omega)
    have b := nl_sub h1 h2 (by omega) (by omega)
    have c := nl_mul h1 h2
    have d := nl_div (wide (joinV st x)).1 (wide (joinV st y)).1
    have hz : nl ((wide (joinV st x)).1 % (wide (joinV st y)).1) ≤ 600 := by
      by_cases hz : (wide (joinV st y)).1 = 0
      · rw [hz, Int.emod_zero]; omega
      · have e := nl_mod (wide (joinV st x)).1 _ hz; omega
    (repeat' split) <;> (try simp only [nl_0]) <;> omega

structure StOk (ws : List RWh) : Prop where
  g : ∀ i, Good (rth ws i).2
  l : ∀ i, (rth ws i).2.length ≤ 1500
  n : ws.length ≤ 1099511
def stV (ws : List RWh) (i : Nat) : Int := rv (rth ws i)
theorem st_nl {ws : List RWh} (h : StOk ws) (i : Nat) : nl (stV ws i) ≤ 1500 := by
  have b := nv_bounds (h.g i)
  have p := pw_le (h.l i)
  unfold stV rv sg
  split
  · exact nl_lt (by omega) (by omega)
  · exact nl_lt (by omega) (by omega)

theorem reck_of {x : Nd} {ws : List RWh} (h : StOk ws) {v e : Int} (hv : nl v < 268435456) (s1 : callE T0 X0 f_lang_join [.d x.d, .d (.sl (RL ws))] [] = some (.ret [.d (Wd v), .d (.int .i64 e)] [])) :
    callE T0 X0 f_lang_Reckon [.d x.d, .d (.sl (RL ws))] [] = some (.ret [.d (Wd (wide (v, e)).1), .d (.int .i64 (wide (v, e)).2)] []) := by
  have hn := h.n
  have s2 := wlimbs_W (m := v) (by omega)
  rw [callX_fun (af := a_lang_Reckon) rfl rfl rfl]
  unfold wide
  by_cases he : e = 0
  · subst he
    rw [if_pos rfl]
    by_cases hw : 512 < nl v
    · rw [if_pos hw]
      simp -implicitDefEqProofs (disch := omega) [a_lang_Reckon, s1, s2]
      done
    · rw [if_neg hw]
      simp -implicitDefEqProofs (disch := omega) [a_lang_Reckon, s1, s2]
      done
  · rw [if_neg he]
    simp -implicitDefEqProofs (disch := omega) [a_lang_Reckon, s1, he]
    done
theorem join_num {ws : List RWh} (h : StOk ws) (k : Int) (hk : nl k < 134217728) : callE T0 X0 f_lang_join [.d (Nd.num k).d, .d (.sl (RL ws))] [] = some (.ret [.d (Wd k), .d (.int .i64 0)] []) := by
  have hn := h.n
  have s1 := wtrim_W (m := k) (by omega)
  rw [callX_fun (af := a_lang_join) rfl rfl rfl]
  simp only [Nd.d]
  simp -implicitDefEqProofs (disch := omega) [a_lang_join, s1]
  done
theorem join_name {ws : List RWh} (h : StOk ws) (v : Nat) (s : List UInt8) (hv : v < ws.length) (hs : s.length ≤ 1100000) : callE T0 X0 f_lang_join [.d (Nd.name v s).d, .d (.sl (RL ws))] [] = some (.ret [.d (Wd (stV ws v)), .d (.int .i64 0)] []) := by
  have hn := h.n
  have hl := h.l v
  have s1 := trim_Rw (h.g v) (by omega)
  rw [callX_fun (af := a_lang_join) rfl rfl rfl]
  simp only [Nd.d, stV]
  simp -implicitDefEqProofs (disch := omega) [a_lang_join, s1]
  done
theorem join_minus {ws : List RWh} (h : StOk ws) (x : Nd) {v e : Int} (hv : nl v ≤ 512) (s1 : callE T0 X0 f_lang_Reckon [.d x.d, .d (.sl (RL ws))] [] = some (.ret [.d (Wd v), .d (.int .i64 e)] [])) :
    callE T0 X0 f_lang_join [.d (Nd.minus x).d, .d (.sl (RL ws))] [] = some (.ret [.d (Wd (-v)), .d (.int .i64 e)] []) := by
  have hn := h.n
  have s2 := wneg_W (m := v) (by omega)
  rw [callX_fun (af := a_lang_join) rfl rfl rfl]
  simp only [Nd.d]
  generalize -v = u at *
  simp -implicitDefEqProofs (disch := omega) [a_lang_join, s1, s2]
  done
theorem join_two1 {ws : List RWh} (h : StOk ws) (op : Int) (x y : Nd) {v e : Int} (hv : nl v ≤ 512) (he : e ≠ 0) (s1 : callE T0 X0 f_lang_Reckon [.d x.d, .d (.sl (RL ws))] [] = some (.ret [.d (Wd v), .d (.int .i64 e)] [])) :
    callE T0 X0 f_lang_join [.d (Nd.two op x y).d, .d (.sl (RL ws))] [] = some (.ret [.d (Wd v), .d (.int .i64 e)] []) := by
  have hn := h.n
  rw [callX_fun (af := a_lang_join) rfl rfl rfl]
  simp only [Nd.d]
  simp -implicitDefEqProofs (disch := omega) [a_lang_join, s1, he]
  done
theorem join_two2 {ws : List RWh} (h : StOk ws) (op : Int) (x y : Nd) {v u e : Int} (hv : nl v ≤ 512) (hu : nl u ≤ 512) (he : e ≠ 0) (s1 : callE T0 X0 f_lang_Reckon [.d x.d, .d (.sl (RL ws))] [] = some (.ret [.d (Wd v), .d (.int .i64 0)] []))
    (s2 : callE T0 X0 f_lang_Reckon [.d y.d, .d (.sl (RL ws))] [] = some (.ret [.d (Wd u), .d (.int .i64 e)] [])) :
    callE T0 X0 f_lang_join [.d (Nd.two op x y).d, .d (.sl (RL ws))] [] = some (.ret [.d (Wd u), .d (.int .i64 e)] []) := by
  have hn := h.n
  rw [callX_fun (af := a_lang_join) rfl rfl rfl]
  simp only [Nd.d]
  simp -implicitDefEqProofs (disch := omega) [a_lang_join, s1, s2, he]
  done
def opV (op v u : Int) : Int × Int :=
  if op = 43 then (v + u, 0) else if op = 45 then (v - u, 0) else if op = 42 then (v * u, 0) else if u = 0 then (0, 20) else if op = 47 then (v / u, 0) else (v % u, 0)
theorem join_two {ws : List RWh} (h : StOk ws) (op : Int) (x y : Nd) {v u : Int} (hv : nl v ≤ 512) (hu : nl u ≤ 512) (s1 : callE T0 X0 f_lang_Reckon [.d x.d, .d (.sl (RL ws))] [] = some (.ret [.d (Wd v), .d (.int .i64 0)] []))
    (s2 : callE T0 X0 f_lang_Reckon [.d y.d, .d (.sl (RL ws))] [] = some (.ret [.d (Wd u), .d (.int .i64 0)] [])) :
    callE T0 X0 f_lang_join [.d (Nd.two op x y).d, .d (.sl (RL ws))] [] = some (.ret [.d (Wd (opV op v u).1), .d (.int .i64 (opV op v u).2)] []) := by
  have hn := h.n
  rw [callX_fun (af := a_lang_join) rfl rfl rfl]
  simp only [Nd.d]
  unfold opV
  by_cases o1 : op = 43
  · have s3 := wadd_W (m := v) (n := u) (by omega) (by omega)
    rw [if_pos o1]
    subst o1
    simp -implicitDefEqProofs (disch := omega) [a_lang_join, s1, s2, s3]
    done
  rw [if_neg o1]
  by_cases o2 : op = 45
  · have s3 := wsub_W (m := v) (n := u) (by omega) (by omega)
    rw [if_pos o2]
    subst o2
    simp -implicitDefEqProofs (disch := omega) [a_lang_join, s1, s2, s3]
    done
  rw [if_neg o2]
  by_cases o3 : op = 42
  · have s3 := wmul_W (m := v) (n := u) (by omega) (by omega)
    rw [if_pos o3]
    subst o3
    simp -implicitDefEqProofs (disch := omega) [a_lang_join, s1, s2, s3]
    done
  rw [if_neg o3]
  have s3 := wdivmod_W (m := v) (n := u) (by omega) (by omega)
  by_cases hz : u = 0
  · rw [if_pos hz] at s3 ⊢
    subst hz
    simp -implicitDefEqProofs (disch := omega) [a_lang_join, s1, s2, s3, o1, o2, o3]
    done
  rw [if_neg hz] at s3 ⊢
  generalize v / u = q at *
  generalize v % u = m at *
  by_cases o4 : op = 47
  · rw [if_pos o4]
    subst o4
    simp -implicitDefEqProofs (disch := omega) [a_lang_join, s1, s2, s3]
    done
  · rw [if_neg o4]
    simp -implicitDefEqProofs (disch := omega) [a_lang_join, s1, s2, s3, o1, o2, o3, o4]
    done
theorem join_spec {ws : List RWh} (h : StOk ws) : ∀ x : Nd, x.fine ws.length → x.w < 134217728 → callE T0 X0 f_lang_join [.d x.d, .d (.sl (RL ws))] [] = some (.ret [.d (Wd (joinV (stV ws) x).1), .d (.int .i64 (joinV (stV ws) x).2)] [])
  | .num k, _, hw => join_num h k (by unfold Nd.w at hw; omega)
  | .name v s, hx, _ => by
    obtain ⟨v, rfl⟩ := Int.eq_ofNat_of_zero_le hx.1
    exact join_name h v s (by have := hx.2.1; omega) hx.2.2
  | .minus x, hx, hw => join_minus h x (wide_nl _) (reck_of h (join_nl _ (st_nl h) x hw) (join_spec h x hx hw))
  | .two op x y, hx, hw => by
    unfold Nd.w at hw
    have r1 := reck_of h (join_nl _ (st_nl h) x (by omega)) (join_spec h x hx.2.1 (by omega))
    have r2 := reck_of h (join_nl _ (st_nl h) y (by omega)) (join_spec h y hx.2.2 (by omega))
    have w1 := wide_nl (joinV (stV ws) x)
    have w2 := wide_nl (joinV (stV ws) y)
    unfold joinV
    by_cases e1 : (wide (joinV (stV ws) x)).2 ≠ 0
    · rw [if_pos e1]
      exact join_two1 h op x y w1 e1 r1
    rw [if_neg e1]
    have e1 : (wide (joinV (stV ws) x)).2 = 0 := Classical.not_not.1 e1
    rw [show ((joinV (stV ws) x).1, (joinV (stV ws) x).2) = joinV (stV ws) x from rfl, e1] at r1
    by_cases e2 : (wide (joinV (stV ws) y)).2 ≠ 0
    · rw [if_pos e2]
      exact join_two2 h op x y w1 w2 e2 r1 r2
    rw [if_neg e2]
    have e2 : (wide (joinV (stV ws) y)).2 = 0 := Classical.not_not.1 e2
    rw [show ((joinV (stV ws) y).1, (joinV (stV ws) y).2) = joinV (stV ws) y from rfl, e2] at r2
    exact join_two h op x y w1 w2 r1 r2
theorem reck_spec {ws : List RWh} (h : StOk ws) (x : Nd) (hx : x.fine ws.length) (hw : x.w < 134217728) : callE T0 X0 f_lang_Reckon [.d x.d, .d (.sl (RL ws))] [] = some (.ret [.d (Wd (wide (joinV (stV ws) x)).1), .d (.int .i64 (wide (joinV (stV ws) x)).2)] []) :=
  reck_of h (join_nl _ (st_nl h) x hw) (join_spec h x hx hw)
end Go.Rf

/- affine.sum, Value. -/
namespace Go.Rf

def sumN (f : List Int) (st : Nat → Int) : Nat → Int
  | 0 => 0
  | n + 1 => sumN f st n + nth f n * st n
theorem sum_nl {f : List Int} {st : Nat → Int} (hf : ∀ i, nl (nth f i) ≤ 4194304) (hs : ∀ i, nl (st i) ≤ 1500) : ∀ n, nl (sumN f st n) ≤ 1 + n * 4200000
  | 0 => by simp [sumN]
  | n + 1 => by
    have h := sum_nl hf hs n
    have h2 := nl_mul (hf n) (hs n)
    have h3 := nl_add h (show nl (nth f n * st n) ≤ 4200000 by omega) (by omega) (by omega)
    unfold sumN
    omega
theorem sum_loop {ws : List RWh} (h : StOk ws) (f : List Int) (hf : ∀ i, nl (nth f i) ≤ 4194304) (hl : ws.length ≤ f.length) (hw : ws.length ≤ 16) (hfl : f.length ≤ 1000) : ∀ d i (e : List (Nat × V)), d + i = ws.length →
    codeX T0 X0 0 a_affine_sum_l0 (some (.nrm, ⟨(0, .d (.sl (WL f))) :: (4, .ptr (.b 0) 0 0) :: (5, .ptr (.b 1) 0 0) :: (9, .d (.sl (RL ws))) :: (10, .d (.int .i64 ws.length)) :: (11, .d (.int .i64 i)) :: e, [.arr [.d (Wd 0)] ⟨2, 0⟩, .arr [.d (Wd (sumN f (stV ws) i))] ⟨2, 0⟩]⟩)) =
      some (.exit 0, ⟨[(4, .ptr (.b 0) 0 0), (5, .ptr (.b 1) 0 0)], [.arr [.d (Wd 0)] ⟨2, 0⟩, .arr [.d (Wd (sumN f (stV ws) ws.length))] ⟨2, 0⟩]⟩) := by
  intro d
  induction d with
  | zero =>
    intro i e hd
    have : i = ws.length := by omega
    subst this
    rw [codeX_loop (l := a_affine_sum_l0) rfl]
    simp -implicitDefEqProofs (disch := omega) [a_affine_sum_b0]
    done
  | succ d ih =>
    intro i e hd
    have hi : i < f.length := by omega
    have hb := sum_nl hf (st_nl h) i
    have hfi := hf i
    have hli := h.l i
    have hp := nl_mul hfi (st_nl h i)
    have s1 := mul_WR (m := nth f i) (w := rth ws i) (by omega) (h.g i) (by omega)
    have s2 := wadd_W (m := sumN f (stV ws) i) (n := nth f i * stV ws i) (by omega) (by omega)
    have s3 := fun e => ih (i + 1) e (by omega)
    simp only [Int.natCast_add, Int.cast_ofNat_Int, sumN] at s3
    change _ = some (CRes.ret [.d (Wd (nth f i * stV ws i))] []) at s1
    rw [codeX_loop (l := a_affine_sum_l0) rfl]
    generalize nth f i * stV ws i = p at *
    simp -implicitDefEqProofs (disch := omega) [a_affine_sum_b0, s1, s2, s3]
    done
theorem sum_spec {ws : List RWh} (h : StOk ws) {f : List Int} (hf : ∀ i, nl (nth f i) ≤ 4194304) (hl : ws.length ≤ f.length) (hw : ws.length ≤ 16) (hfl : f.length ≤ 1000) :
    callE T0 X0 f_affine_sum [.d (.sl (WL f)), .d (.sl (RL ws))] [] = some (.ret [.d (Wd (sumN f (stV ws) ws.length))] []) := by
  have lp := fun e => sum_loop h f hf hl hw hfl ws.length 0 e (by omega)
  simp only [Int.cast_ofNat_Int, sumN] at lp
  rw [callX_fun (af := a_affine_sum) rfl rfl rfl]
  simp -implicitDefEqProofs (disch := omega) [a_affine_sum, lp]
  done
end Go.Rf

/- lang.ReadExpr, Value; guard.Affine. -/
namespace Go.Rf

theorem rd_code : ∀ n m r e p r', rd n m r = .bad e p r' → e ≠ 0 := by
  intro n
  induction n with
  | zero => intro m r e p r' h; unfold rd at h; cases h; decide
  | succ n ih =>
    intro m r e p r' h
    have bnd : ∀ (x : Rs) (f : Nd → Rd → Rs), (∀ e p r', x = .bad e p r' → e ≠ 0) → (∀ y r e p r', f y r = .bad e p r' → e ≠ 0) → x.bind f = .bad e p r' → e ≠ 0 := by
      intro x f h1 h2 h3
      cases x with
      | ok y r => exact h2 _ _ _ _ _ h3
      | bad e' p' r2 => cases h3; exact h1 _ _ _ rfl
    cases m with
    | u =>
      unfold rd at h
      split at h
      · exact bnd _ _ (ih _ _) (fun y r e p r' h => by cases h) h
      split at h
      · cases h
      split at h
      · split at h
        · cases h
        · cases h; decide
      split at h
      · rename_i e' he
        cases h
        unfold Rd.into at he
        split at he
        · split at he
          · cases he
          · cases he; decide
        · cases he; decide
      · refine bnd _ _ (ih _ _) (fun y r e p r' h => ?_) h
        split at h
        · cases h
        · cases h; decide
    | p => unfold rd at h; exact bnd _ _ (ih _ _) (fun y r => ih _ _) h
    | s => unfold rd at h; exact bnd _ _ (ih _ _) (fun y r => ih _ _) h
    | lp x =>
      unfold rd at h
      split at h
      · exact bnd _ _ (ih _ _) (fun y r => ih _ _) h
      split at h
      · exact bnd _ _ (ih _ _) (fun y r => ih _ _) h
      split at h
      · exact bnd _ _ (ih _ _) (fun y r => ih _ _) h
      cases h
    | ls x =>
      unfold rd at h
      split at h
      · exact bnd _ _ (ih _ _) (fun y r => ih _ _) h
      split at h
      · exact bnd _ _ (ih _ _) (fun y r => ih _ _) h
      cases h

theorem num_nl {s : List UInt8} (h : NumTx s) : nl (numV s) + 1 ≤ 457 := by
  have hn := numV_ok h.1
  have : (limbs (numV s)).length ≤ 456 := limbs_len hn.1 (by have := (tens_pw 456).2; have := h.1; omega)
  unfold nl
  rw [Int.natAbs_of_nonneg hn.1]
  omega

/-- What was read is like this: its numbers' limbs by the tokens that it took. -/
def RdOk (r : Rd) (a : Nat) : Rs → Prop
  | .ok x r' => Kept r r' ∧ x.fine r.vs.length ∧ x.w + 457 * r.i ≤ a + 457 * r'.i
  | .bad _ _ _ => True
theorem RdOk.bind {r r0 : Rd} {a c : Nat} {b : Rs} {f : Nd → Rd → Rs} (h : RdOk r0 a b) (g : ∀ x r', Kept r0 r' → x.fine r0.vs.length → x.w + 457 * r0.i ≤ a + 457 * r'.i → RdOk r c (f x r')) : RdOk r c (b.bind f) := by
  cases b with
  | bad e p r' => trivial
  | ok x r' => exact g x r' h.1 h.2.1 h.2.2
theorem RdOk.from {r r' : Rd} {a c : Nat} {b : Rs} (h : RdOk r' c b) (k : Kept r r') (hw : c + 457 * r.i ≤ a + 457 * r'.i) : RdOk r a b := by
  cases b with
  | bad e p r2 => trivial
  | ok x r2 =>
    obtain ⟨h1, h2, h3⟩ := h
    exact ⟨k.trans h1, by rw [← k.vs]; exact h2, by omega⟩
def Md.w : Md → Nat
  | .lp x => x.w
  | .ls x => x.w
  | _ => 0
def Md.fine (k : Nat) : Md → Prop
  | .lp x => x.fine k
  | .ls x => x.fine k
  | _ => True
theorem rd_ok : ∀ n m r, Rd.ok r → (∀ t ∈ r.ts, t.kind = 2 → NumTx t.text) → m.fine r.vs.length → RdOk r m.w (rd n m r) := by
  intro n
  induction n with
  | zero => intro m r _ _ _; trivial
  | succ n ih =>
    intro m r h hnum hm
    have hno := r.next_op
    have kn := Kept.next h
    have two : ∀ (op : Int) (x : Nd) (md : Md) (m2 : Nd → Md), (op = 43 ∨ op = 45 ∨ op = 42 ∨ op = 47 ∨ op = 37) → r.tok.kind ≠ 0 → md.w = 0 → md.fine r.vs.length → x.fine r.vs.length → (∀ y, (m2 y).w = y.w ∧ ∀ k, y.fine k → (m2 y).fine k) →
        RdOk r x.w ((rd n md r.next).bind fun y r => rd n (m2 (.two op x y)) r) := by
      intro op x md m2 hop hk h0 hf hx h2
      have hi := next_i hk
      have a := ih md r.next (Rd.next_ok h) (by rw [hno.2.1]; exact hnum) (by rw [hno.2.2]; exact hf)
      rw [h0] at a
      refine a.bind fun y r' k1 fy wy => ?_
      have k2 := kn.trans k1
      have b := ih (m2 (.two op x y)) r' k1.ok (by rw [k2.ts]; exact hnum) ((h2 _).2 _ (by rw [k2.vs]; exact ⟨hop, hx, by rw [← hno.2.2]; exact fy⟩))
      rw [(h2 _).1] at b
      exact b.from k2 (by show x.w + y.w + _ ≤ _; omega)
    have seq : ∀ (md : Md) (m2 : Nd → Md), md.w = 0 → md.fine r.vs.length → (∀ y, (m2 y).w = y.w ∧ ∀ k, y.fine k → (m2 y).fine k) → RdOk r 0 ((rd n md r).bind fun y r => rd n (m2 y) r) := by
      intro md m2 h0 hf h2
      have a := ih md r h hnum hf
      rw [h0] at a
      refine a.bind fun y r' k1 fy wy => ?_
      have b := ih (m2 y) r' k1.ok (by rw [k1.ts]; exact hnum) ((h2 _).2 _ (by rw [k1.vs]; exact fy))
      rw [(h2 _).1] at b
      exact b.from k1 (by omega)
    have self : ∀ x : Nd, x.fine r.vs.length → RdOk r x.w (.ok x r) := fun x hx => ⟨Kept.refl h, hx, Nat.le_refl _⟩
    cases m with
    | p => unfold rd; exact seq .u .lp rfl trivial (fun _ => ⟨rfl, fun _ h => h⟩)
    | s => unfold rd; exact seq .p .ls rfl trivial (fun _ => ⟨rfl, fun _ h => h⟩)
    | lp x =>
      unfold rd
      split
      · rename_i c; exact two 42 x .u .lp (by omega) (isT_kind c) rfl trivial hm (fun _ => ⟨rfl, fun _ h => h⟩)
      split
      · rename_i c; exact two 47 x .u .lp (by omega) (isT_kind c) rfl trivial hm (fun _ => ⟨rfl, fun _ h => h⟩)
      split
      · rename_i c; exact two 37 x .u .lp (by omega) (isT_kind c) rfl trivial hm (fun _ => ⟨rfl, fun _ h => h⟩)
      exact self x hm
    | ls x =>
      unfold rd
      split
      · rename_i c; exact two 43 x .p .ls (by omega) (isT_kind c) rfl trivial hm (fun _ => ⟨rfl, fun _ h => h⟩)
      split
      · rename_i c; exact two 45 x .p .ls (by omega) (isT_kind c) rfl trivial hm (fun _ => ⟨rfl, fun _ h => h⟩)
      exact self x hm
    | u =>
      unfold rd
      split
      · rename_i c
        have hi := next_i (isT_kind c)
        have a := ih .u r.next (Rd.next_ok h) (by rw [hno.2.1]; exact hnum) trivial
        refine a.bind fun y r' k1 fy wy => ?_
        refine ⟨kn.trans k1, by rw [← hno.2.2]; exact fy, ?_⟩
        show y.w + _ ≤ _
        have : Md.w .u = 0 := rfl
        omega
      split
      · rename_i c
        have hi := next_i (r := r) (by omega)
        have := num_nl (hnum _ (tok_in h) c)
        refine ⟨kn, trivial, ?_⟩
        show nl _ + 1 + _ ≤ 0 + _
        omega
      split
      · rename_i c
        have hk : r.tok.kind = 1 := by
          unfold Rd.isName at c
          simp only [Bool.and_eq_true, decide_eq_true_eq] at c
          exact c.1
        have hi := next_i (r := r) (by omega)
        split
        · rename_i c2
          have hv := varF_le r.vs r.tok.text r.vs.length 0 (by omega)
          refine ⟨kn, ⟨c2, by unfold Rd.var; omega, tok_mem h⟩, ?_⟩
          show 1 + _ ≤ 0 + _
          omega
        · trivial
      split
      · trivial
      · rename_i hin
        have hop : r.op < 16 := by
          unfold Rd.into at hin
          split at hin
          · split at hin
            · assumption
            · cases hin
          · cases hin
        have ho := Rd.opened_ok h hop
        have kn2 := Kept.next ho
        have hno2 := r.opened.next_op
        have a := ih .s r.opened.next (Rd.next_ok ho) (by rw [hno2.2.1]; exact hnum) trivial
        refine a.bind fun y r' k1 fy wy => ?_
        have k3 := kn2.trans k1
        split
        · have kn4 := Kept.next k3.ok
          have hpos : 0 < r'.next.op := by
            rw [kn4.op, k3.op]
            have := h.op
            show 0 < r.op + 1
            omega
          have hi4 := kn4.i
          have hi5 : r.i ≤ r.opened.next.i := kn2.i
          have hi6 := k1.i
          refine ⟨⟨Rd.closed_ok kn4.ok hpos, ?_, ?_, ?_, ?_⟩, ?_, ?_⟩
          · exact kn4.ts.trans k3.ts
          · exact kn4.vs.trans k3.vs
          · show r'.next.op - 1 = r.op
            rw [kn4.op, k3.op]
            show r.op + 1 - 1 = r.op
            omega
          · show r.i ≤ r'.next.i
            omega
          · have : r.opened.next.vs = r.vs := hno2.2.2
            rw [← this]; exact fy
          · have : Md.w .s = 0 := rfl
            show y.w + _ ≤ 0 + 457 * r'.next.i
            omega
        · trivial
end Go.Rf

/- lang.ReadExpr, Value; guard.Affine: the walks. -/
namespace Go.Rf

theorem scanF_none : ∀ f (s : Sc) (out : List Tok) e p, scanF f s out = (none, e, p) → e ≠ 0
  | 0, s, out, e, p, h => by unfold scanF at h; cases h
  | f + 1, s, out, e, p, h => by
    unfold scanF at h
    split at h
    · rename_i c; cases h; exact c
    · split at h
      · cases h
      · exact scanF_none f _ _ _ _ h
theorem scan_none {s : List UInt8} {e p} (h : scan s = (none, e, p)) : e ≠ 0 := by
  unfold scan at h
  split at h
  · cases h; decide
  · exact scanF_none _ _ _ _ _ h
structure TsOk (ts : List Tok) : Prop where
  rd : ∀ vs : List (List UInt8), vs.length ≤ 16 → (∀ k, (tx vs k).length ≤ 1100000) → (rd0 ts vs).ok
  n : ts.length ≤ 5000
  num : ∀ t ∈ ts, t.kind = 2 → NumTx t.text
theorem scan_some {s : List UInt8} {ts e p} (h : scan s = (some ts, e, p)) : e = 0 ∧ TsOk ts := by
  unfold scan at h
  split at h
  · cases h
  rename_i hl
  have hok : Sc.ok ⟨s, start, 0, emptyPl⟩ := ⟨by show s.length ≤ 4096; omega, by show Pl.small start s.length; unfold Pl.small start; simp only []; omega⟩
  obtain ⟨o, t, rfl, hp, hk, ht, he⟩ := scanF_ok _ _ _ _ _ _ hok (by show s.length < s.length + 1; omega) ⟨(fun t h => by cases h), (fun t h => by cases h), (fun t h => by cases h)⟩ h
  have hn := scanF_len _ _ _ _ _ _ hok h
  simp only [List.length_append, List.length_cons, List.length_nil] at hn
  refine ⟨he, ⟨fun vs hv ht2 => ⟨?_, ?_, ?_, ?_, hv, ⟨by show (0 : Int) ≤ 0; omega, by show (0 : Int) ≤ 16; omega⟩, ?_, ht2⟩, by simp; omega, ?_⟩⟩
  · show 0 < (o ++ [t]).length
    simp
  · show (o ++ [t]).length ≤ 5000
    simp; omega
  · intro j hj
    have hj : j < o.length := by
      have : (rd0 (o ++ [t]) vs).ts.length = o.length + 1 := by simp [rd0]
      omega
    show ((o ++ [t]).getD j ⟨0, [], emptyPl⟩).kind ≠ 0
    rw [List.getD_eq_getElem?_getD, List.getElem?_append_left hj, List.getElem?_eq_getElem hj]
    exact hp.k _ (List.getElem_mem hj)
  · intro j hj
    have hj : j = o.length := by
      have : (rd0 (o ++ [t]) vs).ts.length = o.length + 1 := by simp [rd0]
      omega
    subst hj
    show ((o ++ [t]).getD o.length ⟨0, [], emptyPl⟩).kind = 0
    simp [hk]
  · intro t' hm
    rcases List.mem_append.1 (show t' ∈ o ++ [t] from hm) with h | h
    · exact hp.tx _ h
    · rw [List.mem_singleton.1 h]; exact ht
  · intro t' hm h2
    rcases List.mem_append.1 hm with h | h
    · exact hp.nm _ h h2
    · rw [List.mem_singleton.1 h] at h2
      omega

def oD : Option Nd → D
  | none => .nili
  | some x => x.d
def exprV (s : List UInt8) (vs : List (List UInt8)) : Option Nd × Int × Pl :=
  if names vs ≠ 0 then (none, 1, emptyPl)
  else match scan s with
    | (none, e, p) => (none, e, p)
    | (some ts, _, _) => match rd (rd0 ts vs).fuel .s (rd0 ts vs) with
      | .bad e q _ => (none, e, q)
      | .ok x r' => if r'.tok.kind = 0 then (some x, 0, emptyPl) else (none, 80, r'.tok.pos)
/-- An expression that was read, and its numbers' length. -/
theorem expr_ok {s vs x e p} (hb : ∀ k, (tx vs k).length ≤ 1100000) (h : exprV s vs = (some x, e, p)) : e = 0 ∧ p = emptyPl ∧ x.fine vs.length ∧ x.w ≤ 4000000 ∧ vs.length ≤ 16 := by
  unfold exprV at h
  split at h
  · cases h
  rename_i hn
  have hv : vs.length ≤ 16 := by
    unfold names at hn
    split at hn
    · exact absurd (by decide : (1 : Int) ≠ 0) hn
    · omega
  split at h
  · cases h
  rename_i ts e' p' hs
  obtain ⟨_, ht⟩ := scan_some hs
  have hr := rd_ok (rd0 ts vs).fuel .s (rd0 ts vs) (ht.rd vs hv hb) ht.num trivial
  split at h
  · cases h
  rename_i y r' he
  rw [he] at hr
  split at h
  · cases h
    obtain ⟨k, f, w⟩ := hr
    have hi := k.ok.i
    have hl := k.ok.n
    have : Md.w .s = 0 := rfl
    exact ⟨rfl, rfl, f, by omega, hv⟩
  · cases h
theorem expr_bad {s vs e p} (h : exprV s vs = (none, e, p)) : e ≠ 0 := by
  unfold exprV at h
  split at h
  · cases h; decide
  split at h
  · rename_i e' p' hs
    cases h
    exact scan_none hs
  · split at h
    · rename_i e' q r' he
      cases h
      exact rd_code _ _ _ _ _ _ he
    · split at h
      · cases h
      · cases h; decide
@[simp] theorem setPart_nn : setPart (.d .nili) 0 (.d .nili) = some (.d .nili) := rfl
@[simp] theorem setPart_xn (x : Nd) : setPart (.d x.d) 0 (.d .nili) = some (.d .nili) := by cases x <;> rfl
@[simp] theorem setPart_xx (x : Nd) : setPart (.d x.d) 0 (.d x.d) = some (.d x.d) := by cases x <;> rfl
@[simp] theorem mkFn_ptr (f l a b) : mkFn f [.ptr l a b] = .fn f [.ptr l a b] := rfl
theorem rexpr_spec {s : List UInt8} {vs : List (List UInt8)} (hs : s.length ≤ 1100000) (hv : vs.length ≤ 1099511627) (hb : ∀ k, (tx vs k).length ≤ 1100000) :
    callE T0 X0 f_lang_ReadExpr [.d (.str s), .d (.sl (SL vs))] [] = some (.ret [.d (oD (exprV s vs).1), .d (.int .i64 (exprV s vs).2.1), .d (.agg (exprV s vs).2.2.cs)] []) := by
  have s1 := names_spec vs (by omega) hb
  rw [callX_fun (af := a_lang_ReadExpr) rfl rfl rfl]
  cases he : exprV s vs with
  | mk o ep =>
    obtain ⟨e, p⟩ := ep
    have he0 := he
    unfold exprV at he
    split at he
    · rename_i hn
      cases he
      have hn1 : names vs = 1 := by
        unfold names at hn ⊢
        split
        · rfl
        · rename_i c
          rw [if_neg c] at hn
          rcases namesF_01 vs vs.length 0 with h | h
          · exact absurd h hn
          · exact h
      rw [hn1] at s1
      simp only [oD, emptyPl, Pl.cs]
      simp -implicitDefEqProofs (disch := omega) [a_lang_ReadExpr, s1]
      done
    rename_i hn
    have hn : names vs = 0 := Classical.not_not.1 hn
    have hv16 : vs.length ≤ 16 := by
      unfold names at hn
      split at hn
      · cases hn
      · omega
    rw [hn] at s1
    split at he
    · rename_i e' p' hsc
      cases he
      have hne := scan_none hsc
      have s2 := read_err s hs vs hv16 (by rw [hsc]; exact hne)
      rw [hsc] at s2
      simp only [oD, Pl.cs] at s2 ⊢
      simp -implicitDefEqProofs (disch := omega) [a_lang_ReadExpr, s1, s2, hne]
      done
    · rename_i ts e' p' hsc
      obtain ⟨he', ht⟩ := scan_some hsc
      subst he'
      have s2 := read_go s hs vs hv16 hsc (ht.rd vs hv16 hb) ht.n ht.num rfl
      split at he
      · rename_i e2 q r' hr
        rw [hr] at s2
        cases he
        have hne := rd_code _ _ _ _ _ _ hr
        simp only [oD, Pl.cs, readR] at s2 ⊢
        simp -implicitDefEqProofs (disch := omega) [a_lang_ReadExpr, s1, s2, hne]
        done
      · rename_i x r' hr
        rw [hr] at s2
        simp only [readR] at s2
        split at he
        · rename_i hk
          rw [if_pos hk] at s2
          cases he
          simp only [oD, Pl.cs, emptyPl] at s2 ⊢
          simp -implicitDefEqProofs (disch := omega) [a_lang_ReadExpr, s1, s2]
          done
        · rename_i hk
          rw [if_neg hk] at s2
          cases he
          simp only [oD, Pl.cs] at s2 ⊢
          simp -implicitDefEqProofs (disch := omega) [a_lang_ReadExpr, s1, s2]
          done
end Go.Rf

/- guard.Affine; lang.Value. -/
namespace Go.Rf

def affineV (s : List UInt8) (vs : List (List UInt8)) : List Int × Bool × Int × Pl :=
  match exprV s vs with
  | (none, e, p) => ([], false, e, p)
  | (some x, _, _) => if (formV vs.length x).2 = true then ((formV vs.length x).1, true, 0, emptyPl) else ([], false, 0, emptyPl)
theorem affine_spec {s : List UInt8} {vs : List (List UInt8)} (hs : s.length ≤ 1100000) (hv : vs.length ≤ 1099511627) (hb : ∀ k, (tx vs k).length ≤ 1100000) :
    callE T0 X0 f_guard_Affine [.d (.str s), .d (.sl (SL vs))] [] = some (.ret [.d (.sl (WL (affineV s vs).1)), .d (.bool (affineV s vs).2.1), .d (.int .i64 (affineV s vs).2.2.1), .d (.agg (affineV s vs).2.2.2.cs)] []) := by
  have s1 := rexpr_spec hs hv hb
  rw [callX_fun (af := a_guard_Affine) rfl rfl rfl]
  unfold affineV
  cases he : exprV s vs with
  | mk o ep =>
    obtain ⟨e, p⟩ := ep
    rw [he] at s1
    cases o with
    | none =>
      have hne := expr_bad he
      simp only [oD, Pl.cs] at s1 ⊢
      simp -implicitDefEqProofs (disch := omega) [a_guard_Affine, s1, hne]
      done
    | some x =>
      obtain ⟨rfl, rfl, hf, hw, hv16⟩ := expr_ok hb he
      have s2 := form_spec vs.length hv16 x hf (by omega)
      simp only [oD, Pl.cs, emptyPl] at s1 ⊢
      generalize formV vs.length x = f at *
      obtain ⟨f, ok⟩ := f
      cases ok with
      | true =>
        simp -implicitDefEqProofs (disch := omega) [a_guard_Affine, s1, s2]
        done
      | false =>
        simp -implicitDefEqProofs (disch := omega) [a_guard_Affine, s1, s2]
        done
def valueV (s : List UInt8) (vs : List (List UInt8)) (ws : List RWh) : Int × Int :=
  match exprV s vs with
  | (none, e, _) => (0, e)
  | (some x, _, _) => if ws.length ≠ vs.length then (0, 1) else wide (joinV (stV ws) x)
theorem value_spec {s : List UInt8} {vs : List (List UInt8)} (hs : s.length ≤ 1100000) (hv : vs.length ≤ 1099511627) (hb : ∀ k, (tx vs k).length ≤ 1100000) {ws : List RWh} (h : StOk ws) :
    callE T0 X0 f_lang_Value [.d (.str s), .d (.sl (SL vs)), .d (.sl (RL ws))] [] = some (.ret [.d (Wd (valueV s vs ws).1), .d (.int .i64 (valueV s vs ws).2)] []) := by
  have s1 := rexpr_spec hs hv hb
  have hn := h.n
  rw [callX_fun (af := a_lang_Value) rfl rfl rfl]
  unfold valueV
  cases he : exprV s vs with
  | mk o ep =>
    obtain ⟨e, p⟩ := ep
    rw [he] at s1
    cases o with
    | none =>
      have hne := expr_bad he
      simp only [oD, Pl.cs] at s1 ⊢
      simp -implicitDefEqProofs (disch := omega) [a_lang_Value, s1, hne]
      done
    | some x =>
      obtain ⟨rfl, rfl, hf, hw, hv16⟩ := expr_ok hb he
      by_cases hl : ws.length = vs.length
      · have s2 := reck_spec h x (by rw [hl]; exact hf) (by omega)
        simp only [oD, Pl.cs, emptyPl, hl, ne_eq, not_true_eq_false, if_false] at s1 ⊢
        generalize wide (joinV (stV ws) x) = r at *
        simp -implicitDefEqProofs (disch := omega) [a_lang_Value, s1, s2, hl]
        done
      · simp only [oD, Pl.cs, emptyPl, hl, ne_eq, not_false_eq_true, if_true] at s1 ⊢
        simp -implicitDefEqProofs (disch := omega) [a_lang_Value, s1, hl]
        done
end Go.Rf

/- The laws' own small functions. -/
namespace Go.Rf

theorem limbs_step {u : Int} (h : 0 < u) : limbs u = (u % 4294967296) :: limbs (u / 4294967296) := by
  have q0 : 0 ≤ u / 4294967296 := by omega
  have hv : nv ((u % 4294967296) :: limbs (u / 4294967296)) = u := by simp only [nv, limbs_nv q0]; omega
  have hc : Can ((u % 4294967296) :: limbs (u / 4294967296)) := by
    right
    rw [hv]
    rcases limbs_can (u / 4294967296) with e | e
    · rw [e]; simp [pw]; omega
    · by_cases hl : (limbs (u / 4294967296)).length = 0
      · simp [hl, pw]; omega
      · have := pw_succ ((limbs (u / 4294967296)).length - 1)
        rw [show (limbs (u / 4294967296)).length - 1 + 1 = (limbs (u / 4294967296)).length by omega] at this
        rw [limbs_nv q0] at e
        simp only [List.length_cons, Nat.add_sub_cancel]
        omega
  have := limbs_of (good_cons.2 ⟨by omega, limbs_good _⟩) hc
  rw [hv] at this
  exact this.symm
theorem small_loop (n : Int) : ∀ m (u : Int) (out : List Int) (e : List (Nat × V)), u.toNat = m → 0 ≤ u → u < 18446744073709551616 → out.length + (limbs u).length ≤ 2 → Good out →
    codeX T0 X0 0 a_rafterlaw00_Small_l0 (some (.nrm, ⟨(0, .d (.int .i64 n)) :: (2, .ptr (.b 0) 0 0) :: (3, .d (.int .u64 u)) :: (4, .ref (.b 1) ⟨1, 4⟩ 0 out.length) :: e, [.arr [.d (Wd 0)] ⟨2, 0⟩, .arr (LV out) ⟨1, 4⟩]⟩)) =
      some (.exit 0, ⟨[(0, .d (.int .i64 n)), (2, .ptr (.b 0) 0 0), (4, .ref (.b 1) ⟨1, 4⟩ 0 (out ++ limbs u).length)], [.arr [.d (Wd 0)] ⟨2, 0⟩, .arr (LV (out ++ limbs u)) ⟨1, 4⟩]⟩) := by
  intro m
  induction m using Nat.strongRecOn with
  | _ m ih =>
    intro u out e hm h0 h1 hl hg
    rw [codeX_loop (l := a_rafterlaw00_Small_l0) rfl]
    by_cases hu : u = 0
    · subst hu
      simp -implicitDefEqProofs (disch := omega) [a_rafterlaw00_Small_b0]
      done
    · rw [limbs_step (by omega)] at hl ⊢
      simp only [List.length_cons] at hl
      have s1 := fun e => ih (u / 4294967296).toNat (by omega) (u / 4294967296) (out ++ [u % 4294967296]) e rfl (by omega) (by omega) (by simp; omega) (good_app.2 ⟨hg, good_cons.2 ⟨by omega, Good.nil⟩⟩)
      simp only [List.append_assoc, List.singleton_append, List.length_append, List.length_cons, List.length_nil, Nat.zero_add] at s1 ⊢
      have ht : out.take out.length = out := List.take_length
      simp -implicitDefEqProofs (disch := omega) [a_rafterlaw00_Small_b0, s1, ht]
      done
theorem lsmall_spec {n : Int} (h : -9223372036854775808 ≤ n ∧ n ≤ 9223372036854775807) : callE T0 X0 f_rafterlaw00_Small [.d (.int .i64 n)] [] = some (.ret [.d (Wd n)] []) := by
  have hl := limbs_len (n := n.natAbs) (k := 2) (by omega) (by simp only [pw]; omega)
  have lp := fun e => small_loop n _ (n.natAbs : Int) [] e rfl (by omega) (by omega) (by simpa using hl) Good.nil
  simp only [List.length_nil, Int.cast_ofNat_Int, LV_nil, List.nil_append] at lp
  rw [callX_fun (af := a_rafterlaw00_Small) rfl rfl rfl]
  have vc0 : (V.d (Wd 0)).cells = [.d (.bool false), .d (.sl [])] := rfl
  have sp : ∀ a l w o k, setPart (.d (Wd 0)) 0 (.agg [.d (.bool a), .ref l w o k]) = some (.agg [.d (.bool a), .ref l w o k]) := fun _ _ _ _ _ => rfl
  have ht : (limbs (n.natAbs : Int)).take (limbs (n.natAbs : Int)).length = limbs (n.natAbs : Int) := List.take_length
  by_cases hn : n < 0
  · have e1 : IntKind.wrap .u64 n = n + 18446744073709551616 := by rw [wrap_u64_mod]; omega
    have e2 : IntKind.wrap .u64 (-(n + 18446744073709551616)) = n.natAbs := by rw [wrap_u64_mod]; omega
    simp -implicitDefEqProofs (disch := omega) [a_rafterlaw00_Small, e1, e2, lp, ht, vc0, sp, Wd]
    done
  · have e1 : IntKind.wrap .u64 n = n.natAbs := by rw [wrap_u64_mod]; omega
    simp -implicitDefEqProofs (disch := omega) [a_rafterlaw00_Small, e1, lp, ht, vc0, sp, Wd]
    done

/-- Numbers of the machine in a row. -/
def IL (l : List Int) : List D := l.map fun n => .int .i64 n
@[simp] theorem IL_len (l) : (IL l).length = l.length := by simp [IL]
theorem IL_get {l : List Int} {i : Nat} (h : i < l.length) : (IL l)[i]? = some (.int .i64 (nth l i)) := by simp [IL, nth, h]
attribute [simp] IL_get
theorem wl_IL (l) : wl (IL l) ≤ 8 := by
  induction l with
  | nil => simp [IL, wl]
  | cons x xs ih =>
    show max 8 (wl (IL xs)) ≤ 8
    omega
@[simp] theorem fit_IL {n : Nat} {l : List Int} (h : n ≤ 1099511627) : (n * wl (IL l) ≤ lots) = True := eq_true (Nat.le_trans (Nat.mul_le_mul h (wl_IL l)) (by unfold lots; omega))
@[simp] theorem IL_cells (l) : (∀ x ∈ IL l, x.cells.length = 1) = True := eq_true (by
  intro x hx
  obtain ⟨n, _, rfl⟩ := List.mem_map.1 hx
  rfl)
theorem row_loop (ns : List Int) (hn : ns.length ≤ 1000) (hb : ∀ i, -9223372036854775808 ≤ nth ns i ∧ nth ns i ≤ 9223372036854775807) : ∀ d i (out : List Int) (e : List (Nat × V)), d + i = ns.length → out.length = i →
    codeX T0 X0 0 a_rafterlaw00_Row_l0 (some (.nrm, ⟨(0, .d (.sl (IL ns))) :: (3, .ref (.b 0) ⟨2, 32⟩ 0 i) :: (4, .d (.int .i64 i)) :: e, [.arr (WV out) ⟨2, 32⟩]⟩)) =
      some (.exit 0, ⟨[(3, .ref (.b 0) ⟨2, 32⟩ 0 ns.length)], [.arr (WV (out ++ ns.drop i)) ⟨2, 32⟩]⟩) := by
  intro d
  induction d with
  | zero =>
    intro i out e hd ho
    rw [codeX_loop (l := a_rafterlaw00_Row_l0) rfl]
    have h1 : ns.drop i = [] := List.drop_eq_nil_of_le (by omega)
    have h2 : i = ns.length := by omega
    subst h2
    rw [h1]
    simp -implicitDefEqProofs (disch := omega) [a_rafterlaw00_Row_b0]
    done
  | succ d ih =>
    intro i out e hd ho
    rw [codeX_loop (l := a_rafterlaw00_Row_l0) rfl]
    have hi : i < ns.length := by omega
    have h1 : ns.drop i = nth ns i :: ns.drop (i + 1) := drop_nth hi
    have hbi := hb i
    have s1 := lsmall_spec hbi
    have s2 := fun e => ih (i + 1) (out ++ [nth ns i]) e (by omega) (by simp [ho])
    have ht : out.take i = out := by rw [← ho]; exact List.take_length
    simp only [Int.natCast_add, Int.cast_ofNat_Int, List.append_assoc, List.singleton_append] at s2
    rw [h1]
    simp -implicitDefEqProofs (disch := omega) [a_rafterlaw00_Row_b0, s1, s2, ht]
    done
theorem row_spec {ns : List Int} (hn : ns.length ≤ 1000) (hb : ∀ i, -9223372036854775808 ≤ nth ns i ∧ nth ns i ≤ 9223372036854775807) : callE T0 X0 f_rafterlaw00_Row [.d (.sl (IL ns))] [] = some (.ret [.d (.sl (WL ns))] []) := by
  have lp := fun e => row_loop ns hn hb ns.length 0 [] e rfl rfl
  simp only [Int.cast_ofNat_Int, WV_nil, List.nil_append, List.drop_zero] at lp
  rw [callX_fun (af := a_rafterlaw00_Row) rfl rfl rfl]
  have ht : ns.take ns.length = ns := List.take_length
  simp -implicitDefEqProofs (disch := omega) [a_rafterlaw00_Row, lp, ht]
  done

theorem sameL_loop (as bs : List Int) (hl : as.length = bs.length) (hs : as.length ≤ 1099511627) : ∀ d i (e : List (Nat × V)), d + i = as.length →
    codeX T0 X0 0 a_rafterlaw00_SameLimbs_l0 (some (.nrm, ⟨(0, .d (.sl (L as))) :: (1, .d (.sl (L bs))) :: (5, .d (.int .i64 i)) :: e, []⟩)) =
      some (if as.drop i = bs.drop i then (.exit 0, ⟨[], []⟩) else (.ret, ⟨[(4, .d (.bool false))], []⟩)) := by
  intro d
  induction d with
  | zero =>
    intro i e hd
    rw [codeX_loop (l := a_rafterlaw00_SameLimbs_l0) rfl]
    have h1 : as.drop i = [] := List.drop_eq_nil_of_le (by omega)
    have h2 : bs.drop i = [] := List.drop_eq_nil_of_le (by omega)
    rw [h1, h2]
    simp -implicitDefEqProofs (disch := omega) [a_rafterlaw00_SameLimbs_b0]
    done
  | succ d ih =>
    intro i e hd
    rw [codeX_loop (l := a_rafterlaw00_SameLimbs_l0) rfl]
    have s1 := fun e => ih (i + 1) e (by omega)
    rw [drop_nth (xs := as) (i := i) (by omega), drop_nth (xs := bs) (i := i) (by omega)]
    simp only [Int.natCast_add, Int.cast_ofNat_Int, List.cons.injEq] at s1 ⊢
    by_cases hc : nth as i = nth bs i
    · simp only [hc, true_and]
      simp -implicitDefEqProofs (disch := omega) [a_rafterlaw00_SameLimbs_b0, s1, hc]
      done
    · simp only [hc, false_and, if_false]
      simp -implicitDefEqProofs (disch := omega) [a_rafterlaw00_SameLimbs_b0, hc]
      done
theorem sameL_spec {as bs : List Int} (ha : as.length ≤ 1099511627) (hb : bs.length ≤ 1099511627) : callE T0 X0 f_rafterlaw00_SameLimbs [.d (.sl (L as)), .d (.sl (L bs))] [] = some (.ret [.d (.bool (decide (as = bs)))] []) := by
  rw [callX_fun (af := a_rafterlaw00_SameLimbs) rfl rfl rfl]
  by_cases hl : as.length = bs.length
  · have lp := fun e => sameL_loop as bs hl ha as.length 0 e rfl
    simp only [Int.cast_ofNat_Int, List.drop_zero] at lp
    by_cases hc : as = bs
    · subst hc
      simp only [if_true] at lp
      simp -implicitDefEqProofs (disch := omega) [a_rafterlaw00_SameLimbs, lp]
      done
    · simp only [if_neg hc] at lp
      simp -implicitDefEqProofs (disch := omega) [a_rafterlaw00_SameLimbs, lp, hl, hc]
      done
  · have hc : ¬ as = bs := fun h => hl (by rw [h])
    simp -implicitDefEqProofs (disch := omega) [a_rafterlaw00_SameLimbs, hl, hc]
    done
theorem sameW_raw {p q : Bool} {as bs : List Int} (ha : as.length ≤ 1099511627) (hb : bs.length ≤ 1099511627) : callE T0 X0 f_rafterlaw00_SameWhole [.d (.agg [.bool p, .sl (L as)]), .d (.agg [.bool q, .sl (L bs)])] [] = some (.ret [.d (.bool (p == q && decide (as = bs)))] []) := by
  have s1 := sameL_spec ha hb
  rw [callX_fun (af := a_rafterlaw00_SameWhole) rfl rfl rfl]
  cases p <;> cases q <;> simp -implicitDefEqProofs (disch := omega) [a_rafterlaw00_SameWhole, s1]
  done
theorem sameW_W {m n : Int} (hm : nl m ≤ 1073741824) (hn : nl n ≤ 1073741824) : callE T0 X0 f_rafterlaw00_SameWhole [.d (Wd m), .d (Wd n)] [] = some (.ret [.d (.bool (decide (m = n)))] []) := by
  have s1 := sameW_raw (p := decide (m < 0)) (q := decide (n < 0)) (as := limbs m.natAbs) (bs := limbs n.natAbs) (by unfold nl at hm; omega) (by unfold nl at hn; omega)
  have e : (decide (m < 0) == decide (n < 0) && decide (limbs m.natAbs = limbs n.natAbs)) = decide (m = n) := by
    by_cases h : m = n
    · subst h; simp
    · have : decide (m = n) = false := decide_eq_false h
      rw [this]
      by_cases h1 : limbs m.natAbs = limbs n.natAbs
      · have h2 := congrArg nv h1
        rw [nv_abs, nv_abs] at h2
        by_cases h3 : m < 0 <;> by_cases h4 : n < 0 <;> simp [h1, h3, h4] <;> omega
      · simp [h1]
  rw [e] at s1
  exact s1
theorem sameWs_loop (f g : List Int) (hl : f.length = g.length) (hs : f.length ≤ 1000) (hf : ∀ i, nl (nth f i) ≤ 1073741824) (hg : ∀ i, nl (nth g i) ≤ 1073741824) : ∀ d i (e : List (Nat × V)), d + i = f.length →
    codeX T0 X0 0 a_rafterlaw00_SameWholes_l0 (some (.nrm, ⟨(0, .d (.sl (WL f))) :: (1, .d (.sl (WL g))) :: (5, .d (.int .i64 i)) :: e, []⟩)) =
      some (if f.drop i = g.drop i then (.exit 0, ⟨[], []⟩) else (.ret, ⟨[(4, .d (.bool false))], []⟩)) := by
  intro d
  induction d with
  | zero =>
    intro i e hd
    rw [codeX_loop (l := a_rafterlaw00_SameWholes_l0) rfl]
    have h1 : f.drop i = [] := List.drop_eq_nil_of_le (by omega)
    have h2 : g.drop i = [] := List.drop_eq_nil_of_le (by omega)
    rw [h1, h2]
    simp -implicitDefEqProofs (disch := omega) [a_rafterlaw00_SameWholes_b0]
    done
  | succ d ih =>
    intro i e hd
    rw [codeX_loop (l := a_rafterlaw00_SameWholes_l0) rfl]
    have s1 := fun e => ih (i + 1) e (by omega)
    have hfi := hf i
    have hgi := hg i
    have s2 := sameW_W hfi hgi
    rw [drop_nth (xs := f) (i := i) (by omega), drop_nth (xs := g) (i := i) (by omega)]
    simp only [Int.natCast_add, Int.cast_ofNat_Int, List.cons.injEq] at s1 ⊢
    by_cases hc : nth f i = nth g i
    · rw [decide_eq_true hc] at s2
      simp only [hc, true_and]
      rw [hc] at s2
      simp -implicitDefEqProofs (disch := omega) [a_rafterlaw00_SameWholes_b0, s1, s2, hc]
      done
    · rw [decide_eq_false hc] at s2
      simp only [hc, false_and, if_false]
      simp -implicitDefEqProofs (disch := omega) [a_rafterlaw00_SameWholes_b0, s2, hc]
      done
theorem sameWs_spec {f g : List Int} (h1 : f.length ≤ 1000) (h2 : g.length ≤ 1000) (hf : ∀ i, nl (nth f i) ≤ 1073741824) (hg : ∀ i, nl (nth g i) ≤ 1073741824) : callE T0 X0 f_rafterlaw00_SameWholes [.d (.sl (WL f)), .d (.sl (WL g))] [] = some (.ret [.d (.bool (decide (f = g)))] []) := by
  rw [callX_fun (af := a_rafterlaw00_SameWholes) rfl rfl rfl]
  by_cases hl : f.length = g.length
  · have lp := fun e => sameWs_loop f g hl h1 hf hg f.length 0 e rfl
    simp only [Int.cast_ofNat_Int, List.drop_zero] at lp
    by_cases hc : f = g
    · subst hc
      simp only [if_true] at lp
      simp -implicitDefEqProofs (disch := omega) [a_rafterlaw00_SameWholes, lp]
      done
    · simp only [if_neg hc] at lp
      simp -implicitDefEqProofs (disch := omega) [a_rafterlaw00_SameWholes, lp, hl, hc]
      done
  · have hc : ¬ f = g := fun h => hl (by rw [h])
    simp -implicitDefEqProofs (disch := omega) [a_rafterlaw00_SameWholes, hl, hc]
    done

/-- How long a state is. -/
def lenW (ws : List RWh) : Nat → Nat
  | 0 => 0
  | i + 1 => lenW ws i + (1 + (rth ws i).2.length)
theorem lenW_le (ws : List RWh) (h : ∀ i, (rth ws i).2.length ≤ 1100000) : ∀ i, lenW ws i ≤ i * 1100001
  | 0 => Nat.le_refl _
  | i + 1 => by
    unfold lenW
    have := lenW_le ws h i
    have := h i
    omega
theorem lenw_spec {w : RWh} (h : w.2.length ≤ 1100000) : callE T0 X0 f_rafterlaw00_LenWhole [.d (Rw w)] [] = some (.ret [.d (.int .i64 (1 + (w.2.length : Int)))] []) := by
  rw [callX_fun (af := a_rafterlaw00_LenWhole) rfl rfl rfl]
  simp only [Rw]
  simp -implicitDefEqProofs (disch := omega) [a_rafterlaw00_LenWhole]
  done
theorem lenws_loop (ws : List RWh) (hn : ws.length ≤ 1100000) (h : ∀ i, (rth ws i).2.length ≤ 1100000) : ∀ d i (e : List (Nat × V)), d + i = ws.length →
    codeX T0 X0 0 a_rafterlaw00_LenWholes_l0 (some (.nrm, ⟨(0, .d (.sl (RL ws))) :: (3, .d (.int .i64 (lenW ws i))) :: (4, .d (.int .i64 i)) :: e, []⟩)) =
      some (.exit 0, ⟨[(3, .d (.int .i64 (lenW ws ws.length)))], []⟩) := by
  intro d
  induction d with
  | zero =>
    intro i e hd
    rw [codeX_loop (l := a_rafterlaw00_LenWholes_l0) rfl]
    have h2 : i = ws.length := by omega
    subst h2
    simp -implicitDefEqProofs (disch := omega) [a_rafterlaw00_LenWholes_b0]
    done
  | succ d ih =>
    intro i e hd
    rw [codeX_loop (l := a_rafterlaw00_LenWholes_l0) rfl]
    have hi := h i
    have hle := lenW_le ws h i
    have s1 := lenw_spec hi
    have s2 := fun e => ih (i + 1) e (by omega)
    simp only [lenW, Int.natCast_add, Int.cast_ofNat_Int] at s2
    simp -implicitDefEqProofs (disch := omega) [a_rafterlaw00_LenWholes_b0, s1, s2]
    done
theorem lenws_spec {ws : List RWh} (hn : ws.length ≤ 1100000) (h : ∀ i, (rth ws i).2.length ≤ 1100000) : callE T0 X0 f_rafterlaw00_LenWholes [.d (.sl (RL ws))] [] = some (.ret [.d (.int .i64 (lenW ws ws.length))] []) := by
  have lp := fun e => lenws_loop ws hn h ws.length 0 e rfl
  simp only [lenW, Int.cast_ofNat_Int] at lp
  rw [callX_fun (af := a_rafterlaw00_LenWholes) rfl rfl rfl]
  simp -implicitDefEqProofs (disch := omega) [a_rafterlaw00_LenWholes, lp]
  done
theorem lenW_ge (ws : List RWh) : ∀ n i, i < n → (rth ws i).2.length + 1 ≤ lenW ws n
  | n + 1, i, h => by
    unfold lenW
    by_cases e : i = n
    · subst e; omega
    · have := lenW_ge ws n i (by omega)
      omega
theorem lenW_n (ws : List RWh) : ∀ n, n ≤ lenW ws n
  | 0 => Nat.le_refl _
  | n + 1 => by
    unfold lenW
    have := lenW_n ws n
    omega
end Go.Rf

/- The plain law: an expression's value is its form's. -/
namespace Go.Rf

def fval (f : List Int) (st : Nat → Int) (n : Nat) : Int := sumN f st n + nth f n
theorem sum_zero {f : List Int} {st : Nat → Int} : ∀ n, (∀ i, i < n → nth f i = 0) → sumN f st n = 0
  | 0, _ => rfl
  | n + 1, h => by
    unfold sumN
    rw [sum_zero n (fun i hi => h i (by omega)), h n (by omega)]
    simp
theorem sum_one {f : List Int} {st : Nat → Int} {v : Nat} : ∀ n, (∀ i, i < n → nth f i = if i = v then 1 else 0) → sumN f st n = if v < n then st v else 0
  | 0, _ => rfl
  | n + 1, h => by
    unfold sumN
    rw [sum_one n (fun i hi => h i (by omega)), h n (by omega)]
    by_cases e : n = v
    · subst e; simp
    · by_cases e2 : v < n
      · simp [e, e2, show v < n + 1 by omega]
      · simp [e, e2, show ¬ v < n + 1 by omega]
theorem sum_lin {f g h : List Int} {st : Nat → Int} (a b : Int) : ∀ n, (∀ i, i < n → nth h i = nth f i * a + nth g i * b) → sumN h st n = sumN f st n * a + sumN g st n * b
  | 0, _ => by simp [sumN]
  | n + 1, hh => by
    unfold sumN
    rw [sum_lin a b n (fun i hi => hh i (by omega)), hh n (by omega), Int.add_mul, Int.add_mul, Int.add_mul, Int.mul_right_comm _ a, Int.mul_right_comm _ b]
    omega
theorem fval_lin {f g h : List Int} {st : Nat → Int} (a b : Int) {n : Nat} (hh : ∀ i, i < n + 1 → nth h i = nth f i * a + nth g i * b) : fval h st n = fval f st n * a + fval g st n * b := by
  unfold fval
  rw [sum_lin a b n (fun i hi => hh i (by omega)), hh n (by omega), Int.add_mul, Int.add_mul]
  omega
theorem fval_const {f : List Int} {st : Nat → Int} {n : Nat} (hl : f.length = n + 1) (h : (constV f).2 = true) : fval f st n = (constV f).1 := by
  unfold constV at h ⊢
  split at h
  · rename_i c
    rw [if_pos c]
    rw [hl, Nat.add_sub_cancel] at c ⊢
    have : ∀ i, i < n → nth f i = 0 := fun i hi => by
      have e : nth (f.take n) i = nth f i := by simp [nth, hi]
      rw [← e, c]
      exact nth_rep ..
    unfold fval
    rw [sum_zero n this]
    simp
  · cases h

theorem both_val {st : Nat → Int} {n : Nat} {op : Int} {f g : List Int} (ho : op = 43 ∨ op = 45 ∨ op = 42 ∨ op = 47 ∨ op = 37) (hf : f.length = n + 1) (hg : g.length = n + 1) (h : (bothV op f g).2 = true) :
    opV op (fval f st n) (fval g st n) = (fval (bothV op f g).1 st n, 0) := by
  unfold bothV at h ⊢
  unfold opV
  split at h
  · rename_i o
    rw [if_pos o, if_pos o]
    rw [fval_lin (h := List.zipWith (· + ·) f g) (f := f) (g := g) 1 1 (fun i hi => by simp [nth, hf, hg, hi])]
    simp
  rename_i o1
  rw [if_neg o1, if_neg o1]
  split at h
  · rename_i o
    rw [if_pos o, if_pos o]
    rw [fval_lin (h := List.zipWith (· + ·) f (g.map (· * -1))) (f := f) (g := g) 1 (-1) (fun i hi => by simp [nth, hf, hg, hi])]
    simp
    omega
  rename_i o2
  rw [if_neg o2, if_neg o2]
  split at h
  · rename_i o
    rw [if_pos o, if_pos o]
    split at h
    · rename_i c
      rw [if_pos c]
      rw [fval_lin (h := g.map (· * (constV f).1)) (f := g) (g := g) (constV f).1 0 (fun i hi => by rw [nth_map _ (by omega)]; simp), fval_const hf c]
      simp [Int.mul_comm]
    · rename_i c
      rw [if_neg c]
      rw [fval_lin (h := f.map (· * (constV g).1)) (f := f) (g := f) (constV g).1 0 (fun i hi => by rw [nth_map _ (by omega)]; simp), fval_const hg h]
      simp
  rename_i o3
  rw [if_neg o3, if_neg o3]
  split at h
  · rename_i c
    rw [if_pos c]
    have e : ∀ v : Int, fval ((List.replicate f.length 0).set (f.length - 1) v) st n = v := fun v => by
      unfold fval
      rw [sum_zero n (fun i hi => by rw [nth_rep_set (by omega), if_neg (by omega)]), nth_rep_set (by omega), if_pos (by omega)]
      simp
    rw [fval_const hf c.1, fval_const hg c.2.1, if_neg c.2.2]
    by_cases o4 : op = 37
    · rw [if_pos o4]
      rw [if_neg (by omega)]
      rw [e]
    · rw [if_neg o4]
      rw [if_pos (by omega)]
      rw [e]
  · cases h

theorem join_form (st : Nat → Int) (n : Nat) : ∀ x : Nd, x.fine n → (formV n x).2 = true → ((joinV st x).2 = 0 ∧ (joinV st x).1 = fval (formV n x).1 st n) ∨ (joinV st x).2 = 2 := by
  have wd : ∀ (x : Nd) (v : Int), ((joinV st x).2 = 0 ∧ (joinV st x).1 = v) ∨ (joinV st x).2 = 2 → wide (joinV st x) = (v, 0) ∨ (wide (joinV st x)).2 = 2 := by
    intro x v h
    unfold wide
    rcases h with ⟨h1, h2⟩ | h
    · rw [if_pos h1]
      split
      · exact .inr rfl
      · exact .inl (by rw [← h1, ← h2])
    · rw [if_neg (by omega)]
      exact .inr h
  intro x
  induction x with
  | num k =>
    intro _ _
    refine .inl ⟨rfl, ?_⟩
    show k = fval ((List.replicate (n + 1) 0).set n k) st n
    unfold fval
    rw [sum_zero n (fun i hi => by rw [nth_rep_set (by omega), if_neg (by omega)]), nth_rep_set (by omega), if_pos rfl]
    simp
  | name v s =>
    intro h _
    refine .inl ⟨rfl, ?_⟩
    have h1 := h.1
    have h2 := h.2.1
    show st v.toNat = fval ((List.replicate (n + 1) 0).set v.toNat 1) st n
    unfold fval
    rw [sum_one (v := v.toNat) n (fun i hi => by rw [nth_rep_set (by omega)]), nth_rep_set (by omega), if_pos (by omega), if_neg (by omega)]
    simp
  | minus x ih =>
    intro h ho
    rcases wd x _ (ih h ho) with e | e
    · refine .inl ?_
      unfold joinV formV
      rw [e]
      refine ⟨rfl, ?_⟩
      rcases form_sh n x h with ⟨_, f⟩ | sh
      · have ho : (formV n x).2 = true := ho
        rw [f] at ho; cases ho
      · have := sh.l
        rw [fval_lin (h := (formV n x).1.map (· * -1)) (f := (formV n x).1) (g := (formV n x).1) (-1) 0 (fun i hi => by rw [nth_map _ (by omega)]; simp)]
        show -fval _ st n = _
        simp
    · refine .inr ?_
      unfold joinV
      exact e
  | two op x y ih1 ih2 =>
    intro h ho
    have hc : (formV n x).2 = true ∧ (formV n y).2 = true := by
      unfold formV at ho
      split at ho
      · assumption
      · cases ho
    have ef : formV n (.two op x y) = bothV op (formV n x).1 (formV n y).1 := by
      rw [formV, if_pos hc]
    rw [ef] at ho ⊢
    rcases wd x _ (ih1 h.2.1 hc.1) with e1 | e1
    · rcases wd y _ (ih2 h.2.2 hc.2) with e2 | e2
      · refine .inl ?_
        have s1 : Sh n x.w (formV n x).1 := by
          rcases form_sh n x h.2.1 with ⟨_, f⟩ | sh
          · rw [f] at hc; cases hc.1
          · exact sh
        have s2 : Sh n y.w (formV n y).1 := by
          rcases form_sh n y h.2.2 with ⟨_, f⟩ | sh
          · rw [f] at hc; cases hc.2
          · exact sh
        have b := both_val (st := st) h.1 s1.l s2.l ho
        unfold joinV
        rw [e1, e2]
        simp only [ne_eq, not_true_eq_false, if_false]
        unfold opV at b
        rw [b]
        exact ⟨rfl, rfl⟩
      · refine .inr ?_
        unfold joinV
        rw [e1, if_neg (by simp), if_pos (by omega)]
        exact e2
    · refine .inr ?_
      unfold joinV
      rw [if_pos (by omega)]
      exact e1
theorem value_form {s : List UInt8} {vs : List (List UInt8)} {ws : List RWh} (hb : ∀ k, (tx vs k).length ≤ 1100000) (he : (affineV s vs).2.2.1 = 0) (ho : (affineV s vs).2.1 = true) (hl : ws.length = vs.length) :
    valueV s vs ws = (fval (affineV s vs).1 (stV ws) ws.length, 0) ∨ (valueV s vs ws).2 = 2 := by
  unfold affineV valueV at *
  cases hx : exprV s vs with
  | mk o ep =>
    obtain ⟨e, p⟩ := ep
    rw [hx] at he ho
    cases o with
    | none => cases ho
    | some x =>
      obtain ⟨rfl, rfl, hf, hw, hv16⟩ := expr_ok hb hx
      simp only [] at he ho ⊢
      rw [if_neg (by omega)]
      by_cases hc : (formV vs.length x).2 = true
      · simp only [if_pos hc]
        have := join_form (stV ws) vs.length x hf hc
        unfold wide
        rcases this with ⟨h1, h2⟩ | h
        · rw [if_pos h1]
          split
          · exact .inr rfl
          · exact .inl (by rw [hl, ← h1, ← h2])
        · rw [if_neg (by omega)]
          exact .inr h
      · simp only [if_neg hc] at ho
        cases ho
end Go.Rf

/- awake. -/
namespace Go.Rf

def awakeT : List UInt8 := [50, 42, 40, 120, 43, 51, 42, 121, 41, 45, 120]
def awakeU : List UInt8 := [120, 42, 121]
def xy : List (List UInt8) := [[120], [121]]
theorem awake_t : (affineV awakeT xy).1 = [1, 6, 0] ∧ (affineV awakeT xy).2.1 = true ∧ (affineV awakeT xy).2.2.1 = 0 := by decide +kernel
theorem awake_u : (affineV awakeU xy).2.1 = false ∧ (affineV awakeU xy).2.2.1 = 0 := by decide +kernel
theorem xy_tx (k : Nat) : (tx xy k).length ≤ 1100000 := by
  match k with
  | 0 => decide
  | 1 => decide
  | k + 2 => simp [tx, xy]
theorem awake_spec : callE T0 X0 f_rafterlaw09_awake [] [] = some (.ret [.d (.bool true)] []) := by
  have s1 := affine_spec (s := awakeT) (vs := xy) (by decide) (by decide) xy_tx
  have s2 := affine_spec (s := awakeU) (vs := xy) (by decide) (by decide) xy_tx
  rw [awake_t.1, awake_t.2.1, awake_t.2.2] at s1
  rw [awake_u.1, awake_u.2] at s2
  have s3 := row_spec (ns := [1, 6, 0]) (by decide) (fun i => by
    match i with
    | 0 => decide
    | 1 => decide
    | 2 => decide
    | i + 3 => simp [nth])
  have hn : ∀ i, nl (nth [1, 6, 0] i) ≤ 1073741824 := fun i => by
    match i with
    | 0 => decide
    | 1 => decide
    | 2 => decide
    | i + 3 => simp [nth]
  have s4 := sameWs_spec (f := [1, 6, 0]) (g := [1, 6, 0]) (by decide) (by decide) hn hn
  have hw1 : wl [D.str [120], D.str [121]] = 16 := rfl
  have hw2 : wl [D.int .i64 1, D.int .i64 6, D.int .i64 0] = 8 := rfl
  have hlot : ∀ n, n ≤ 1000 → (n ≤ lots) = True := fun n h => eq_true (by unfold lots; omega)
  rw [callX_fun (af := a_rafterlaw09_awake) rfl rfl rfl]
  simp only [awakeT, awakeU, xy, SL, IL, List.map, Pl.cs, decide_true] at s1 s2 s3 s4
  generalize hz : (affineV [120, 42, 121] [[120], [121]]).1 = z at *
  simp -implicitDefEqProofs (disch := omega) [a_rafterlaw09_awake, s1, s2, s3, s4, hw1, hw2, hlot]
  done
theorem affine_sh {s vs} (hb : ∀ k, (tx vs k).length ≤ 1100000) (ho : (affineV s vs).2.1 = true) : vs.length ≤ 16 ∧ Sh vs.length 4000000 (affineV s vs).1 := by
  unfold affineV at *
  cases hx : exprV s vs with
  | mk o ep =>
    obtain ⟨e, p⟩ := ep
    rw [hx] at ho
    cases o with
    | none => cases ho
    | some x =>
      obtain ⟨rfl, rfl, hf, hw, hv16⟩ := expr_ok hb hx
      simp only [] at ho ⊢
      by_cases hc : (formV vs.length x).2 = true
      · simp only [if_pos hc]
        rcases form_sh vs.length x hf with ⟨_, f⟩ | sh
        · rw [f] at hc; cases hc
        · exact ⟨hv16, sh.l, fun i hi => Nat.le_trans (sh.b i hi) hw⟩
      · simp only [if_neg hc] at ho
        cases ho
theorem affine_nil {s vs} (ho : (affineV s vs).2.1 = false) : (affineV s vs).1 = [] := by
  unfold affineV at *
  split
  · rfl
  · rename_i x e p hx
    rw [hx] at ho
    simp only [] at ho
    split
    · rename_i c
      rw [if_pos c] at ho
      cases ho
    · rfl
end Go.Rf

/- Scanning what stands in front, whatever stands behind it. -/
namespace Go.Rf

theorem dec_app {w t : List UInt8} {r n : Nat} (h : w ≠ []) (e : dec w 0 = (r, n)) (hb : ¬ (r = 65533 ∧ n = 1)) : dec (w ++ t) 0 = (r, n) := by
  unfold dec Utf8.decode at *
  have hsz : (ByteArray.mk w.toArray).size = w.length := by simp [ByteArray.size]
  have hsz2 : (ByteArray.mk (w ++ t).toArray).size = w.length + t.length := by simp [ByteArray.size]
  have hl : 0 < w.length := List.length_pos_iff.2 h
  have g : ∀ k, k < w.length → (ByteArray.mk (w ++ t).toArray).get! (0 + k) = (ByteArray.mk w.toArray).get! (0 + k) := by
    intro k hk
    simp only [ByteArray.get!, Nat.zero_add]
    simp [hk, List.getElem?_append_left]
  extract_lets a1 c1 b1 x1 x2 x3 at e
  extract_lets a2 c2 b2 y1 y2 y3
  have ha : ∀ k, k < w.length → a2 k = a1 k := fun k hk => congrArg UInt8.toNat (g k hk)
  have hc : ∀ k, c1 k = true → c2 k = true ∧ k < w.length := by
    intro k hk
    simp only [c1, Bool.and_eq_true, decide_eq_true_eq, hsz] at hk
    have hk1 : k < w.length := by omega
    refine ⟨?_, hk1⟩
    simp only [c2, Bool.and_eq_true, decide_eq_true_eq, hsz2]
    refine ⟨by omega, ?_⟩
    rw [ha k hk1]
    exact hk.2
  have hc' : ∀ k, k < w.length → c2 k = true → c1 k = true := by
    intro k hk hk2
    simp only [c2, Bool.and_eq_true, decide_eq_true_eq] at hk2
    simp only [c1, Bool.and_eq_true, decide_eq_true_eq, hsz]
    refine ⟨by omega, ?_⟩
    rw [← ha k hk]
    exact hk2.2
  have hb0 : b2 = b1 := ha 0 hl
  have hx1 : c1 1 = true → y1 = x1 := fun h => by simp only [y1, x1, hb0, ha 1 (hc 1 h).2]
  have hx2 : c1 1 = true → c1 2 = true → y2 = x2 := fun h h2 => by simp only [y2, x2, hb0, ha 1 (hc 1 h).2, ha 2 (hc 2 h2).2]
  have hx3 : c1 1 = true → c1 2 = true → c1 3 = true → y3 = x3 := fun h h2 h3 => by simp only [y3, x3, hb0, ha 1 (hc 1 h).2, ha 2 (hc 2 h2).2, ha 3 (hc 3 h3).2]
  clear_value y1 y2 y3 x1 x2 x3
  clear_value c1 c2
  clear_value b1 b2
  subst hb0
  by_cases k0 : b2 < 128
  · rw [if_pos k0] at e ⊢
    exact e
  rw [if_neg k0] at e ⊢
  by_cases k1 : (b2 / 32 == 6 && c1 1) = true
  · rw [if_pos k1] at e
    simp only [Bool.and_eq_true] at k1
    rw [if_pos (by simp [k1.1, (hc 1 k1.2).1]), hx1 k1.2]
    exact e
  rw [if_neg k1] at e
  by_cases k2 : (b2 / 16 == 14 && c1 1 && c1 2) = true
  · rw [if_pos k2] at e
    simp only [Bool.and_eq_true, beq_iff_eq] at k2
    rw [if_neg (by simp; omega), if_pos (by simp [k2.1.1, (hc 1 k2.1.2).1, (hc 2 k2.2).1]), hx2 k2.1.2 k2.2]
    exact e
  rw [if_neg k2] at e
  by_cases k3 : (b2 / 8 == 30 && c1 1 && c1 2 && c1 3) = true
  · rw [if_pos k3] at e
    simp only [Bool.and_eq_true, beq_iff_eq] at k3
    rw [if_neg (by simp; omega), if_neg (by simp; omega), if_pos (by simp [k3.1.1.1, (hc 1 k3.1.1.2).1, (hc 2 k3.1.2).1, (hc 3 k3.2).1]), hx3 k3.1.1.2 k3.1.2 k3.2]
    exact e
  rw [if_neg k3] at e
  cases e
  exact absurd ⟨rfl, rfl⟩ hb

/-- A text that is wholly of glyphs of some classes. -/
def runs (p : Int → Bool) : Nat → List UInt8 → Bool
  | _, [] => true
  | 0, _ => false
  | f + 1, w => !broken w (dec w 0).1 && p (cls (dec w 0).1) && runs p f (w.drop (dec w 0).2)
/-- No glyph of these classes stands at a text's front. -/
def Stops (p : Int → Bool) : List UInt8 → Prop
  | [] => True
  | b :: _ => b.toNat < 128 ∧ p (cls b.toNat) = false
end Go.Rf
