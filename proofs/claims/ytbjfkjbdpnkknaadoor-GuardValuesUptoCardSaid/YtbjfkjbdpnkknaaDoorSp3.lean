/- Parts of the proof: RfTac, RfNum, SpX, SpG1, SpG2, SpL1. -/
import Derived.Test.YtbjfkjbdpnkknaaDoorSp2

/- Small rules for runs: numbers, lists of limbs, tests that 'omega' decides. -/
namespace Go.Rf

theorem dec_true {p : Prop} [Decidable p] (h : p) : decide p = true := decide_eq_true h
theorem dec_false {p : Prop} [Decidable p] (h : ¬ p) : decide p = false := decide_eq_false h
theorem beq_int (a b : Int) : (a == b) = decide (a = b) := rfl
theorem bne_int (a b : Int) : (a != b) = decide (a ≠ b) := by
  show (!(a == b)) = _
  rw [beq_int]
  by_cases h : a = b <;> simp [h]

theorem wrap_i64 {n : Int} (h : -9223372036854775808 ≤ n ∧ n ≤ 9223372036854775807) : IntKind.wrap .i64 n = n := by
  simp only [IntKind.wrap, IntKind.bits, IntKind.signed, Bool.true_and, decide_eq_true_eq, ge_iff_le]
  split <;> omega
theorem wrap_i32 {n : Int} (h : -2147483648 ≤ n ∧ n ≤ 2147483647) : IntKind.wrap .i32 n = n := by
  simp only [IntKind.wrap, IntKind.bits, IntKind.signed, Bool.true_and, decide_eq_true_eq, ge_iff_le]
  split <;> omega
theorem wrap_u64 {n : Int} (h : 0 ≤ n ∧ n < 18446744073709551616) : IntKind.wrap .u64 n = n := by
  simp only [IntKind.wrap, IntKind.bits, IntKind.signed, Bool.false_and, Bool.false_eq_true, if_false]
  omega
theorem wrap_u32 {n : Int} (h : 0 ≤ n ∧ n < 4294967296) : IntKind.wrap .u32 n = n := by
  simp only [IntKind.wrap, IntKind.bits, IntKind.signed, Bool.false_and, Bool.false_eq_true, if_false]
  omega
theorem wrap_u8 {n : Int} (h : 0 ≤ n ∧ n < 256) : IntKind.wrap .u8 n = n := by
  simp only [IntKind.wrap, IntKind.bits, IntKind.signed, Bool.false_and, Bool.false_eq_true, if_false]
  omega
/-- What is cut off above. -/
theorem wrap_u32_mod (n : Int) : IntKind.wrap .u32 n = n % 4294967296 := by
  simp only [IntKind.wrap, IntKind.bits, IntKind.signed, Bool.false_and, Bool.false_eq_true, if_false]
  rfl
theorem wrap_u64_mod (n : Int) : IntKind.wrap .u64 n = n % 18446744073709551616 := by
  simp only [IntKind.wrap, IntKind.bits, IntKind.signed, Bool.false_and, Bool.false_eq_true, if_false]
  rfl
theorem wrap_u8_mod (n : Int) : IntKind.wrap .u8 n = n % 256 := by
  simp only [IntKind.wrap, IntKind.bits, IntKind.signed, Bool.false_and, Bool.false_eq_true, if_false]
  rfl

/-- An element of a list of numbers; 0 behind its end. -/
def nth (xs : List Int) (i : Nat) : Int := xs.getD i 0

/-- Limbs. -/
def L (xs : List Int) : List D := xs.map fun n => .int .u32 n
@[simp] theorem L_len (xs : List Int) : (L xs).length = xs.length := by simp [L]
@[simp] theorem L_take (xs : List Int) (i : Nat) : (L xs).take i = L (xs.take i) := by simp [L, List.map_take]
@[simp] theorem L_drop (xs : List Int) (i : Nat) : (L xs).drop i = L (xs.drop i) := by simp [L, List.map_drop]
@[simp] theorem L_nil : L [] = [] := rfl
@[simp] theorem L_cons (x : Int) (xs : List Int) : L (x :: xs) = .int .u32 x :: L xs := rfl
theorem L_app (xs ys : List Int) : L xs ++ L ys = L (xs ++ ys) := by simp [L]
theorem L_get {xs : List Int} {i : Nat} (h : i < xs.length) : (L xs)[i]? = some (.int .u32 (nth xs i)) := by
  simp [L, nth, h]
/-- The same as values. -/
def LV (xs : List Int) : List V := xs.map fun n => .d (.int .u32 n)
@[simp] theorem LV_len (xs : List Int) : (LV xs).length = xs.length := by simp [LV]
@[simp] theorem LV_take (xs : List Int) (i : Nat) : (LV xs).take i = LV (xs.take i) := by simp [LV, List.map_take]
@[simp] theorem LV_drop (xs : List Int) (i : Nat) : (LV xs).drop i = LV (xs.drop i) := by simp [LV, List.map_drop]
@[simp] theorem LV_nil : LV [] = [] := rfl
@[simp] theorem LV_app (xs ys : List Int) : LV xs ++ LV ys = LV (xs ++ ys) := by simp [LV]
@[simp] theorem LV_app1 (xs : List Int) (y : Int) : LV xs ++ [.d (.int .u32 y)] = LV (xs ++ [y]) := by simp [LV]
theorem LV_get {xs : List Int} {i : Nat} (h : i < xs.length) : (LV xs)[i]? = some (.d (.int .u32 (nth xs i))) := by
  simp [LV, nth, h]
@[simp] theorem LV_set (xs : List Int) (i : Nat) (y : Int) : (LV xs).set i (.d (.int .u32 y)) = LV (xs.set i y) := by simp [LV, List.map_set]
@[simp] theorem L_map (xs : List Int) : (L xs).map V.d = LV xs := by simp [L, LV, Function.comp_def]

@[simp] theorem allD_LV (xs : List Int) : allD (LV xs) = some (L xs) := by
  induction xs with
  | nil => rfl
  | cons x xs ih =>
    show allD (.d _ :: LV xs) = _
    simp only [allD, ih]
    rfl

@[simp] theorem rens_LV (al : Loc → Bool) (xs : List Int) (m : List Loc) : rens al (LV xs) m = (LV xs, m) := by
  rw [← L_map]; exact rens_map ..
@[simp] theorem mapLs_LV (f : Loc → Loc) (xs : List Int) : mapLs f (LV xs) = LV xs := by
  induction xs with
  | nil => rfl
  | cons x xs ih =>
    show V.mapL f (.d _) :: mapLs f (LV xs) = _
    rw [ih]
    rfl
@[simp] theorem frzL_LV (h : Loc → Option Obj) (k : Nat) (xs : List Int) : frzL (frz h (k + 1)) (LV xs) = some (L xs, []) := by
  induction xs with
  | nil => rfl
  | cons x xs ih =>
    show frzL (frz h (k + 1)) (.d _ :: LV xs) = _
    simp only [frzL, ih]
    rfl
@[simp] theorem LV_rep (n : Nat) (y : Int) : List.replicate n (V.d (D.int .u32 y)) = LV (List.replicate n y) := by simp [LV]
@[simp] theorem L_rep (n : Nat) (y : Int) : List.replicate n (D.int .u32 y) = L (List.replicate n y) := by simp [L]
theorem wl_L (xs : List Int) : wl (L xs) ≤ 4 := by
  induction xs with
  | nil => simp [wl]
  | cons x xs ih => simp only [L_cons, wl, wt, IntKind.bits]; omega
@[simp] theorem wl_L4 (xs : List Int) : (wl (L xs) ≤ 4) = True := eq_true (wl_L xs)
theorem fit_L {xs : List Int} (h : xs.length ≤ 1099511627776) : xs.length * wl (L xs) ≤ lots :=
  Nat.le_trans (Nat.mul_le_mul h (wl_L xs)) (by unfold lots; omega)
theorem fitC_L {xs : List Int} (h : xs.length ≤ 1099511627776) : fitC (.sl (L xs)) = true := by
  simp only [fitC, L_len, decide_eq_true_eq]
  exact fit_L h
theorem cells_LV (xs : List Int) : (LV xs).all (fun v => v.cells.length == 1) = true := by
  simp [LV, V.cells]
theorem pickC_dec {T : Tab} {X : Exts} {pin : Nat} (a b : ACode) (st : St) (p : Prop) [Decidable p] (h : p) : pickC T X pin a b st (some (.d (.bool (decide p)))) = codeX T X pin a (some (.nrm, st)) := by
  rw [decide_eq_true h]; simp
@[simp] theorem fit_L' {n : Nat} {xs : List Int} (h : n ≤ 1099511627776) : (n * wl (L xs) ≤ lots) = True := eq_true (Nat.le_trans (Nat.mul_le_mul h (wl_L xs)) (by unfold lots; omega))
@[simp] theorem le_lots {n : Nat} (h : n ≤ 1099511627776 * 64) : (n ≤ lots) = True := eq_true (by unfold lots; omega)
attribute [simp] beq_int bne_int
attribute [simp] dec_true dec_false wrap_i64 wrap_i32 wrap_u64 wrap_u32 wrap_u8 L_get LV_get cells_LV
attribute [simp] sel_true sel_false
@[simp] theorem lget0 {α : Type} (a : α) (l : List α) : (a :: l)[0]? = some a := rfl
@[simp] theorem lget1 {α : Type} (a b : α) (l : List α) : (a :: b :: l)[1]? = some b := rfl
@[simp] theorem lget2 {α : Type} (a b c : α) (l : List α) : (a :: b :: c :: l)[2]? = some c := rfl
@[simp] theorem lget3 {α : Type} (a b c d : α) (l : List α) : (a :: b :: c :: d :: l)[3]? = some d := rfl
@[simp] theorem lget4 {α : Type} (a b c d e : α) (l : List α) : (a :: b :: c :: d :: e :: l)[4]? = some e := rfl
@[simp] theorem lget_nil {α : Type} (n : Nat) : ([] : List α)[n]? = none := by simp
@[simp] theorem lget1' {α : Type} (a : α) : [a][1]? = none := rfl
@[simp] theorem lget2' {α : Type} (a b : α) : [a, b][2]? = none := rfl
@[simp] theorem lget3' {α : Type} (a b c : α) : [a, b, c][3]? = none := rfl
@[simp] theorem lget4' {α : Type} (a b c d : α) : [a, b, c, d][4]? = none := rfl
@[simp] theorem lget21 {α : Type} (a : α) : [a][2]? = none := rfl
@[simp] theorem L_cells (xs : List Int) : (∀ x ∈ L xs, x.cells.length = 1) = True := eq_true (by
  intro x hx
  obtain ⟨n, _, rfl⟩ := List.mem_map.1 hx
  rfl)
@[simp] theorem LV_cells (xs : List Int) : (∀ x ∈ LV xs, x.cells.length = 1) = True := eq_true (by
  intro x hx
  obtain ⟨n, _, rfl⟩ := List.mem_map.1 hx
  rfl)
theorem ite_pos' {α : Type} {c : Prop} [Decidable c] {a b : α} (h : c) : (if c then a else b) = a := if_pos h
theorem ite_neg' {α : Type} {c : Prop} [Decidable c] {a b : α} (h : ¬ c) : (if c then a else b) = b := if_neg h
attribute [simp] ite_pos' ite_neg' wrap_u32_mod
@[simp] theorem fdiv32 (a : Int) : a.fdiv 4294967296 = a / 4294967296 := Int.fdiv_eq_ediv_of_nonneg a (by decide)
@[simp] theorem range0 : List.range 0 = [] := rfl
@[simp] theorem range1 : List.range 1 = [0] := rfl
@[simp] theorem range2 : List.range 2 = [0, 1] := rfl
@[simp] theorem range3 : List.range 3 = [0, 1, 2] := rfl
@[simp] theorem range4 : List.range 4 = [0, 1, 2, 3] := rfl
@[simp] theorem range5 : List.range 5 = [0, 1, 2, 3, 4] := rfl
@[simp] theorem range6 : List.range 6 = [0, 1, 2, 3, 4, 5] := rfl
@[simp] theorem bits_u64 : IntKind.bits .u64 = 64 := rfl
@[simp] theorem bits_u32 : IntKind.bits .u32 = 32 := rfl
@[simp] theorem bits_u8 : IntKind.bits .u8 = 8 := rfl
@[simp] theorem bits_i64 : IntKind.bits .i64 = 64 := rfl
@[simp] theorem bits_i32 : IntKind.bits .i32 = 32 := rfl
theorem fdiv_pos {a b : Int} (h : 0 ≤ b) : a.fdiv b = a / b := Int.fdiv_eq_ediv_of_nonneg a h
attribute [simp] fdiv_pos
@[simp] theorem min1 : min 32 64 = 32 := rfl
@[simp] theorem min2 : min 63 64 = 63 := rfl
@[simp] theorem min3 : min 16 64 = 16 := rfl
@[simp] theorem min4 : min 8 64 = 8 := rfl
@[simp] theorem p32 : (2 : Int) ^ (32 : Nat) = 4294967296 := rfl
@[simp] theorem p63 : (2 : Int) ^ (63 : Nat) = 9223372036854775808 := rfl
@[simp] theorem p16 : (2 : Int) ^ (16 : Nat) = 65536 := rfl
@[simp] theorem p8 : (2 : Int) ^ (8 : Nat) = 256 := rfl
@[simp] theorem take_snoc {α : Type} (xs : List α) (y : α) : (xs ++ [y]).take (xs.length + 1) = xs ++ [y] := List.take_of_length_le (by simp)
@[simp] theorem setPart_int (k k' x y) : setPart (.d (.int k x)) 0 (.d (.int k' y)) = some (.d (.int k' y)) := rfl
@[simp] theorem setPart_bool (x y) : setPart (.d (.bool x)) 0 (.d (.bool y)) = some (.d (.bool y)) := rfl
@[simp] theorem setPart_str (x y) : setPart (.d (.str x)) 0 (.d (.str y)) = some (.d (.str y)) := rfl
@[simp] theorem setPart_sl (x y) : setPart (.d (.sl x)) 0 (.d (.sl y)) = some (.d (.sl y)) := rfl
@[simp] theorem toNat_ab (a b : Nat) : ((a : Int) + (b : Int)).toNat = a + b := by omega
@[simp] theorem toNat_abc (a b c : Nat) : ((a : Int) + (b : Int) + (c : Int)).toNat = a + b + c := by omega
@[simp] theorem toNat_ab1 (a b : Nat) : ((a : Int) + (b : Int) - 1).toNat = a + b - 1 := by omega
@[simp] theorem toNat_ab2 (a b : Nat) : ((a : Int) + (b : Int) - 2).toNat = a + b - 2 := by omega
@[simp] theorem toNat_ab1' (a b : Nat) : ((a : Int) + (b : Int) + 1).toNat = a + b + 1 := by omega
@[simp] theorem toNat_a1 (a : Nat) : ((a : Int) + 1).toNat = a + 1 := by omega
@[simp] theorem toNat_a1' (a : Nat) : ((a : Int) - 1).toNat = a - 1 := by omega
@[simp] theorem toNat_a2' (a : Nat) : ((a : Int) - 2).toNat = a - 2 := by omega
@[simp] theorem toNat_asb (a b : Nat) : ((a : Int) - (b : Int)).toNat = a - b := by omega
@[simp] theorem setPart_dagg (cs off x) : setPart (.d (.agg cs)) off x = if off + x.cells.length ≤ (V.cells (.d (.agg cs))).length then some (mkAgg (putCells (V.cells (.d (.agg cs))) off x.cells)) else none := rfl
@[simp] theorem setPart_agg (cs off x) : setPart (.agg cs) off x = if off + x.cells.length ≤ (V.cells (.agg cs)).length then some (mkAgg (putCells (V.cells (.agg cs)) off x.cells)) else none := rfl
@[simp] theorem onO_some' {α β : Type} (x : α) (d : β) (f : α → β) : onO (some x) d f = f x := rfl
@[simp] theorem onO_none' {α β : Type} (d : β) (f : α → β) : onO none d f = d := rfl
theorem tdiv_pos {a b : Int} (h : 0 ≤ a) : a.tdiv b = a / b := Int.tdiv_eq_ediv_of_nonneg h
theorem tmod_pos {a b : Int} (h : 0 ≤ a) : a.tmod b = a % b := Int.tmod_eq_emod_of_nonneg h
attribute [simp] tdiv_pos tmod_pos
@[simp] theorem le_long {n : Nat} (h : n ≤ 1099511627776) : (n ≤ long) = True := eq_true (Nat.le_trans h (by unfold long; omega))
def panB (x : D) (o : Option (List V × List Obj × List Loc)) : Option (Ex × St) := bnd o fun b => some (.pan (.d x), { env := [], heap := b.2.1 })
@[simp] theorem panB_some (x vs os m) : panB x (some (vs, os, m)) = some (.pan (.d x), { env := [], heap := os }) := rfl
@[simp] theorem endP_d (pin x h) : endP pin (.d x) h = panB x (norm (pins pin) [] (without h [])) := rfl
end Go.Rf

/- Limbs and their values: plain facts. -/
namespace Go.Rf

/-- The value of limbs. -/
def nv : List Int → Int
  | [] => 0
  | x :: xs => x + 4294967296 * nv xs
def Good (xs : List Int) : Prop := ∀ x ∈ xs, 0 ≤ x ∧ x < 4294967296
def pw : Nat → Int
  | 0 => 1
  | n + 1 => 4294967296 * pw n

theorem pw_pos : ∀ n, 0 < pw n
  | 0 => by decide
  | n + 1 => by have := pw_pos n; simp only [pw]; omega
theorem pw_add (m : Nat) : ∀ n, pw (n + m) = pw n * pw m
  | 0 => by simp [pw]
  | n + 1 => by rw [Nat.add_right_comm]; simp only [pw, pw_add m n, Int.mul_assoc]
theorem pw_le {m n : Nat} (h : m ≤ n) : pw m ≤ pw n := by
  induction h with
  | refl => exact Int.le_refl _
  | step _ ih => have := pw_pos ‹_›; simp only [Nat.succ_eq_add_one, pw]; omega

theorem Good.nil : Good [] := fun x h => by cases h
theorem good_cons {x : Int} {xs : List Int} : Good (x :: xs) ↔ (0 ≤ x ∧ x < 4294967296) ∧ Good xs := by simp [Good]
theorem good_app {xs ys : List Int} : Good (xs ++ ys) ↔ Good xs ∧ Good ys := by
  simp only [Good, List.mem_append]
  exact ⟨fun h => ⟨fun x hx => h x (.inl hx), fun x hx => h x (.inr hx)⟩, fun h x hx => hx.elim (h.1 x) (h.2 x)⟩
theorem Good.take {xs : List Int} (h : Good xs) (n : Nat) : Good (xs.take n) := fun x hx => h x (List.mem_of_mem_take hx)
theorem Good.drop {xs : List Int} (h : Good xs) (n : Nat) : Good (xs.drop n) := fun x hx => h x (List.mem_of_mem_drop hx)
theorem Good.nth {xs : List Int} (h : Good xs) (i : Nat) : 0 ≤ nth xs i ∧ nth xs i < 4294967296 := by
  unfold Rf.nth
  by_cases hi : i < xs.length
  · rw [List.getD_eq_getElem?_getD, List.getElem?_eq_getElem hi]
    exact h _ (List.getElem_mem hi)
  · rw [List.getD_eq_getElem?_getD, List.getElem?_eq_none (by omega)]
    simp

theorem nv_app : ∀ xs ys : List Int, nv (xs ++ ys) = nv xs + pw xs.length * nv ys
  | [], ys => by simp [nv, pw]
  | x :: xs, ys => by
    simp only [List.cons_append, nv, nv_app xs ys, List.length_cons, pw, Int.mul_add, Int.mul_assoc]
    omega
theorem nv_bounds : ∀ {xs : List Int}, Good xs → 0 ≤ nv xs ∧ nv xs < pw xs.length
  | [], _ => by decide
  | x :: xs, h => by
    obtain ⟨h1, h2⟩ := good_cons.1 h
    obtain ⟨k1, k2⟩ := nv_bounds h2
    simp only [nv, List.length_cons, pw]
    omega

/-- The limbs of a number: none 0 on top. -/
def limbsF : Nat → Nat → List Int
  | 0, _ => []
  | f + 1, n => if n = 0 then [] else ((n % 4294967296 : Nat) : Int) :: limbsF f (n / 4294967296)
def limbs (n : Int) : List Int := limbsF n.toNat n.toNat

theorem limbsF_good : ∀ f n, Good (limbsF f n)
  | 0, _ => Good.nil
  | f + 1, n => by
    unfold limbsF
    split
    · exact Good.nil
    · refine good_cons.2 ⟨?_, limbsF_good f _⟩
      have := Nat.mod_lt n (show 0 < 4294967296 by decide)
      omega
theorem limbsF_nv : ∀ f n, n ≤ f → nv (limbsF f n) = n
  | 0, n, h => by
    have : n = 0 := by omega
    subst this
    rfl
  | f + 1, n, h => by
    unfold limbsF
    split
    · rename_i h0; subst h0; rfl
    · have : n / 4294967296 ≤ f := by omega
      simp only [nv, limbsF_nv f _ this]
      omega
theorem limbs_good (n : Int) : Good (limbs n) := limbsF_good _ _
theorem limbs_nv {n : Int} (h : 0 ≤ n) : nv (limbs n) = n := by
  unfold limbs
  rw [limbsF_nv _ _ (Nat.le_refl _)]
  omega

/-- Canonical: nothing, or not less than its top limb's place. -/
def Can (xs : List Int) : Prop := xs = [] ∨ pw (xs.length - 1) ≤ nv xs

theorem limbsF_can : ∀ f n, n ≤ f → Can (limbsF f n)
  | 0, _, _ => .inl rfl
  | f + 1, n, h => by
    unfold limbsF
    split
    · exact .inl rfl
    · rename_i h0
      right
      have hb : n / 4294967296 ≤ f := by omega
      have hv := limbsF_nv f _ hb
      rcases limbsF_can f (n / 4294967296) hb with hc | hc
      · rw [hc] at hv ⊢
        simp only [nv] at hv ⊢
        simp only [List.length_singleton, Nat.sub_self, pw]
        omega
      · simp only [List.length_cons, Nat.add_sub_cancel, nv]
        cases hl : (limbsF f (n / 4294967296)).length with
        | zero =>
          have hnil := List.eq_nil_of_length_eq_zero hl
          rw [hnil] at hv ⊢
          simp only [nv] at hv ⊢
          simp only [pw]
          omega
        | succ k =>
          rw [hl] at hc
          simp only [Nat.add_sub_cancel] at hc
          simp only [pw]
          omega
theorem limbs_can (n : Int) : Can (limbs n) := limbsF_can _ _ (Nat.le_refl _)

theorem can_unique : ∀ {xs ys : List Int}, Good xs → Good ys → Can xs → Can ys → nv xs = nv ys → xs = ys
  | [], [], _, _, _, _, _ => rfl
  | [], y :: ys, _, hg, _, hc, h => by
    exfalso
    rcases hc with hc | hc
    · cases hc
    · have := pw_pos ((y :: ys).length - 1)
      simp only [nv] at h hc
      omega
  | x :: xs, [], hg, _, hc, _, h => by
    exfalso
    rcases hc with hc | hc
    · cases hc
    · have := pw_pos ((x :: xs).length - 1)
      simp only [nv] at h hc
      omega
  | x :: xs, y :: ys, hg, hg', hc, hc', h => by
    obtain ⟨h1, h2⟩ := good_cons.1 hg
    obtain ⟨h3, h4⟩ := good_cons.1 hg'
    simp only [nv] at h
    have hxy : x = y := by omega
    subst hxy
    have hn : nv xs = nv ys := by omega
    have low : ∀ {x : Int} {xs : List Int}, (0 ≤ x ∧ x < 4294967296) → Good xs → Can (x :: xs) → Can xs := by
      intro x xs hx hg hc
      rcases hc with hc | hc
      · cases hc
      · cases xs with
        | nil => exact .inl rfl
        | cons z zs =>
          right
          simp only [List.length_cons, Nat.add_sub_cancel] at hc ⊢
          simp only [pw] at hc
          rw [nv] at hc
          have := (nv_bounds hg).1
          omega
    rw [can_unique h2 h4 (low h1 h2 hc) (low h1 h4 hc') hn]

theorem limbs_of {xs : List Int} (hg : Good xs) (hc : Can xs) : xs = limbs (nv xs) :=
  can_unique hg (limbs_good _) hc (limbs_can _) (limbs_nv (nv_bounds hg).1).symm

theorem can_le {xs : List Int} (hg : Good xs) (hc : Can xs) {k : Nat} (h : nv xs < pw k) : xs.length ≤ k := by
  rcases hc with hc | hc
  · rw [hc]; exact Nat.zero_le _
  · by_cases hk : xs.length ≤ k
    · exact hk
    · exfalso
      have := pw_le (show k ≤ xs.length - 1 by omega)
      omega
theorem limbs_len {n : Int} (h0 : 0 ≤ n) {k : Nat} (h : n < pw k) : (limbs n).length ≤ k := can_le (limbs_good n) (limbs_can n) (by rw [limbs_nv h0]; exact h)
@[simp] theorem limbs_zero : limbs 0 = [] := rfl
theorem limbs_nil {n : Int} (h : 0 ≤ n) : limbs n = [] ↔ n = 0 := ⟨fun e => by have := limbs_nv h; rw [e] at this; simpa [nv] using this.symm, fun e => by rw [e]; rfl⟩

theorem nth_cons_zero (x : Int) (xs : List Int) : nth (x :: xs) 0 = x := rfl
theorem nth_cons_succ (x : Int) (xs : List Int) (i : Nat) : nth (x :: xs) (i + 1) = nth xs i := by simp [nth]
theorem take_succ_nth {xs : List Int} {i : Nat} (h : i < xs.length) : xs.take (i + 1) = xs.take i ++ [nth xs i] := by
  rw [List.take_add_one, List.getElem?_eq_getElem h]
  simp [nth, h]
theorem nv_take_succ {xs : List Int} {i : Nat} (h : i < xs.length) : nv (xs.take (i + 1)) = nv (xs.take i) + pw i * nth xs i := by
  rw [take_succ_nth h, nv_app, List.length_take, Nat.min_eq_left (by omega)]
  simp [nv]
theorem nv_snoc (xs : List Int) (x : Int) : nv (xs ++ [x]) = nv xs + pw xs.length * x := by rw [nv_app]; simp [nv]
end Go.Rf

/- The externals; the first limbs. -/
namespace Go.Rf

def X0 : Exts where
  run f := if f = f_utf8_decodeRuneInStringSlow then some decX else none
instance : X0.Mono where
  le f e h c c' _ vs hp r k := by
    unfold X0 at h
    dsimp only at h
    split at h
    · cases h; exact k
    · cases h



/-! ### short -/
def tlen (xs : List Int) : Nat → Nat
  | 0 => 0
  | n + 1 => if nth xs n = 0 then tlen xs n else n + 1
theorem tlen_le (xs : List Int) : ∀ n, tlen xs n ≤ n
  | 0 => Nat.le_refl _
  | n + 1 => by
    unfold tlen
    split
    · exact Nat.le_succ_of_le (tlen_le xs n)
    · exact Nat.le_refl _
theorem tlen_nv (xs : List Int) : ∀ n, n ≤ xs.length → nv (xs.take (tlen xs n)) = nv (xs.take n)
  | 0, _ => rfl
  | n + 1, h => by
    unfold tlen
    split
    · rename_i h0
      rw [tlen_nv xs n (by omega), nv_take_succ (by omega), h0]
      simp
    · rfl
theorem tlen_can {xs : List Int} (hg : Good xs) : ∀ n, n ≤ xs.length → Can (xs.take (tlen xs n))
  | 0, _ => .inl rfl
  | n + 1, h => by
    unfold tlen
    split
    · exact tlen_can hg n (by omega)
    · rename_i h0
      right
      rw [List.length_take, Nat.min_eq_left h, nv_take_succ (by omega), Nat.add_sub_cancel]
      have h1 := (nv_bounds (hg.take n)).1
      have h2 := hg.nth n
      have h3 := pw_pos n
      have h4 : pw n * 1 ≤ pw n * nth xs n := Int.mul_le_mul_of_nonneg_left (by omega) (by omega)
      omega
theorem take_tlen {xs : List Int} (hg : Good xs) : xs.take (tlen xs xs.length) = limbs (nv xs) := by
  rw [limbs_of (hg.take _) (tlen_can hg _ (Nat.le_refl _)), tlen_nv xs _ (Nat.le_refl _), List.take_length]

theorem short_loop (xs : List Int) (hs : xs.length ≤ 1099511627776) : ∀ n, n ≤ xs.length → codeX T0 X0 0 a_limbs_short_l0 (some (.nrm, ⟨[(0, .d (.sl (L xs))), (3, .d (.int .i64 n))], []⟩)) = some (.exit 0, ⟨[(0, .d (.sl (L xs))), (3, .d (.int .i64 (tlen xs n)))], []⟩) := by
  intro n
  induction n with
  | zero => intro h; rw [codeX_loop (l := a_limbs_short_l0) rfl]; simp [a_limbs_short_b0, tlen]
  | succ n ih =>
    intro h
    rw [codeX_loop (l := a_limbs_short_l0) rfl]
    by_cases hz : nth xs n = 0
    · simp -implicitDefEqProofs (disch := omega) [a_limbs_short_b0, tlen, ih, hz]
    · simp -implicitDefEqProofs (disch := omega) [a_limbs_short_b0, tlen, hz]

theorem short_spec {xs : List Int} (hg : Good xs) (hs : xs.length ≤ 1099511627776) : callE T0 X0 f_limbs_short [.d (.sl (L xs))] [] = some (.ret [.d (.sl (L (limbs (nv xs))))] []) := by
  rw [callX_fun (af := a_limbs_short) rfl rfl rfl]
  have hl := tlen_le xs xs.length
  simp -implicitDefEqProofs (disch := omega) [a_limbs_short, short_loop xs hs xs.length (Nat.le_refl _), hl, take_tlen hg]

theorem trim_spec {xs : List Int} (hg : Good xs) (hs : xs.length ≤ 1099511627776) : callE T0 X0 f_limbs_Trim [.d (.sl (L xs))] [] = some (.ret [.d (.sl (L (limbs (nv xs))))] []) := by
  rw [callX_fun (af := a_limbs_Trim) rfl rfl rfl]
  have hl : (limbs (nv xs)).length ≤ xs.length := limbs_len (nv_bounds hg).1 (nv_bounds hg).2
  simp -implicitDefEqProofs (disch := omega) [a_limbs_Trim, short_spec hg hs, hl]
end Go.Rf

/- glyph: classes, places, runes. -/
namespace Go.Rf

def isLetter (c : Int) : Bool := (65 ≤ c && c ≤ 90) || (97 ≤ c && c ≤ 122) || (913 ≤ c && c ≤ 929) || (931 ≤ c && c ≤ 937) || (945 ≤ c && c ≤ 969) || (1040 ≤ c && c ≤ 1103)
def isSign (c : Int) : Bool := [43, 45, 42, 47, 37, 40, 41, 123, 125, 44, 59, 58, 61, 33, 63, 64, 183, 215, 247, 8722, 8788, 8800].contains c
def isBlank (c : Int) : Bool := c == 9 || c == 10 || c == 13 || c == 32 || c == 160 || c == 12288
def isMark (c : Int) : Bool := c == 95 || c == 176 || c == 8242 || (8320 ≤ c && c ≤ 8329)
def cls (c : Int) : Int := if isBlank c then 1 else if isLetter c then 2 else if 48 ≤ c ∧ c ≤ 57 then 3 else if isMark c then 4 else if c = 35 then 6 else if isSign c then 5 else 0
def fold (c : Int) : Int := if c = 183 ∨ c = 215 then 42 else if c = 247 then 47 else if c = 8722 then 45 else c

theorem letter_spec (c : Int) : callE T0 X0 f_glyph_letter [.d (.int .i64 c)] [] = some (.ret [.d (.bool (isLetter c))] []) := by
  rw [callX_fun (af := a_glyph_letter) rfl rfl rfl]
  have cases : c < 65 ∨ (65 ≤ c ∧ c ≤ 90) ∨ (90 < c ∧ c < 97) ∨ (97 ≤ c ∧ c ≤ 122) ∨ (122 < c ∧ c < 913) ∨ (913 ≤ c ∧ c ≤ 929) ∨ c = 930 ∨ (931 ≤ c ∧ c ≤ 937) ∨ (937 < c ∧ c < 945) ∨ (945 ≤ c ∧ c ≤ 969) ∨ (969 < c ∧ c < 1040) ∨ (1040 ≤ c ∧ c ≤ 1103) ∨ 1103 < c := by omega
  rcases cases with h | h | h | h | h | h | h | h | h | h | h | h | h <;>
    simp -implicitDefEqProofs (disch := omega) [a_glyph_letter, isLetter]

theorem sign_spec (c : Int) : callE T0 X0 f_glyph_sign [.d (.int .i64 c)] [] = some (.ret [.d (.bool (isSign c))] []) := by
  rw [callX_fun (af := a_glyph_sign) rfl rfl rfl]
  by_cases h : c = 43 ∨ c = 45 ∨ c = 42 ∨ c = 47 ∨ c = 37 ∨ c = 40 ∨ c = 41 ∨ c = 123 ∨ c = 125 ∨ c = 44 ∨ c = 59 ∨ c = 58 ∨ c = 61 ∨ c = 33 ∨ c = 63 ∨ c = 64 ∨ c = 183 ∨ c = 215 ∨ c = 247 ∨ c = 8722 ∨ c = 8788 ∨ c = 8800
  · rcases h with rfl | rfl | rfl | rfl | rfl | rfl | rfl | rfl | rfl | rfl | rfl | rfl | rfl | rfl | rfl | rfl | rfl | rfl | rfl | rfl | rfl | rfl <;>
      simp -implicitDefEqProofs (disch := omega) [a_glyph_sign, isSign]
  · have e : isSign c = false := by
      unfold isSign
      simp only [List.contains_eq_mem, List.mem_cons, List.not_mem_nil, or_false, decide_eq_false_iff_not]
      exact h
    rw [e]
    simp -implicitDefEqProofs (disch := omega) [a_glyph_sign]

theorem fold_spec (c : Int) : callE T0 X0 f_glyph_Fold [.d (.int .i64 c)] [] = some (.ret [.d (.int .i64 (fold c))] []) := by
  rw [callX_fun (af := a_glyph_Fold) rfl rfl rfl]
  by_cases h : c = 183 ∨ c = 215 ∨ c = 247 ∨ c = 8722
  · rcases h with rfl | rfl | rfl | rfl <;> simp -implicitDefEqProofs (disch := omega) [a_glyph_Fold, fold]
  · simp -implicitDefEqProofs (disch := omega) [a_glyph_Fold, fold]
end Go.Rf

/- glyph: runes, places. -/
namespace Go.Rf

theorem decode_ok (b : ByteArray) (i : Nat) (hi : i < b.size) (r : Nat × Nat) (h : Utf8.decode b i = r) : 1 ≤ r.2 ∧ i + r.2 ≤ b.size ∧ r.2 ≤ 4 ∧ r.1 ≤ 1114111 ∧ (r.1 < 55296 ∨ 57343 < r.1) := by
  have v : ∀ c : Nat, Utf8.valid (c : Int) = true → c ≤ 1114111 ∧ (c < 55296 ∨ 57343 < c) := by
    intro c hc
    unfold Utf8.valid at hc
    simp at hc
    omega
  unfold Utf8.decode at h
  extract_lets at' cont b0 c2 c3 c4 at h
  have hc : ∀ k, cont k = true → i + k < b.size := by
    intro k hk
    simp only [cont, Bool.and_eq_true, decide_eq_true_eq] at hk
    exact hk.1
  clear_value cont
  clear_value b0
  clear_value at'
  split at h
  · subst h; simp only []; omega
  · split at h
    · rename_i h1
      simp only [Bool.and_eq_true] at h1
      have c1 := hc 1 h1.2
      split at h <;> subst h <;> simp only [Utf8.runeError, c2] <;> omega
    · split at h
      · rename_i h1
        simp only [Bool.and_eq_true] at h1
        have c1 := hc 2 h1.2
        split at h
        · rename_i hv
          simp only [Bool.and_eq_true] at hv
          have := v _ hv.2
          subst h; simp only []; omega
        · subst h; simp only [Utf8.runeError]; omega
      · split at h
        · rename_i h1
          simp only [Bool.and_eq_true] at h1
          have c1 := hc 3 h1.2
          split at h
          · rename_i hv
            simp only [Bool.and_eq_true] at hv
            have := v _ hv.2
            subst h; simp only []; omega
          · subst h; simp only [Utf8.runeError]; omega
        · subst h; simp only [Utf8.runeError]; omega
theorem dec_ok (s : List UInt8) (h : s ≠ []) : 1 ≤ (dec s 0).2 ∧ (dec s 0).2 ≤ s.length ∧ (dec s 0).2 ≤ 4 ∧ (dec s 0).1 ≤ 1114111 ∧ ((dec s 0).1 < 55296 ∨ 57343 < (dec s 0).1) := by
  have hl : 0 < s.length := List.length_pos_iff.2 h
  have hsz : (ByteArray.mk s.toArray).size = s.length := by simp [ByteArray.size]
  have := decode_ok ⟨s.toArray⟩ 0 (by omega) _ rfl
  rw [hsz, Nat.zero_add] at this
  exact this
theorem dec_ascii {b : UInt8} {s : List UInt8} (h : b.toNat < 128) : dec (b :: s) 0 = (b.toNat, 1) := by
  unfold dec Utf8.decode
  have e : ((ByteArray.mk (b :: s).toArray).get! (0 + 0)) = b := rfl
  simp only [e]
  rw [if_pos h]

def rlen (r : Int) : Int := if r < 0 then -1 else if r ≤ 127 then 1 else if r ≤ 2047 then 2 else if 55296 ≤ r ∧ r ≤ 57343 then -1 else if r ≤ 65535 then 3 else if r ≤ 1114111 then 4 else -1
theorem rlen_spec {r : Int} : callE T0 X0 f_utf8_RuneLen [.d (.int .i32 r)] [] = some (.ret [.d (.int .i64 (rlen r))] []) := by
  rw [callX_fun (af := a_utf8_RuneLen) rfl rfl rfl]
  have cases : r < 0 ∨ (0 ≤ r ∧ r ≤ 127) ∨ (127 < r ∧ r ≤ 2047) ∨ (2047 < r ∧ r < 55296) ∨ (55296 ≤ r ∧ r ≤ 57343) ∨ (57343 < r ∧ r ≤ 65535) ∨ (65535 < r ∧ r ≤ 1114111) ∨ 1114111 < r := by omega
  rcases cases with h | h | h | h | h | h | h | h <;>
    simp -implicitDefEqProofs (disch := omega) [a_utf8_RuneLen, rlen]

theorem decode_spec (s : List UInt8) (hs : s.length ≤ 1100000) : callE T0 X0 f_utf8_DecodeRuneInString [.d (.str s)] [] = some (.ret [.d (.int .i32 (decGo s).1), .d (.int .i64 (decGo s).2)] []) := by
  rw [callX_fun (af := a_utf8_DecodeRuneInString) rfl rfl rfl]
  have sx : ∀ s, callE T0 X0 f_utf8_decodeRuneInStringSlow [.d (.str s)] [] = some (.ret [.d (.int .i32 (decGo s).1), .d (.int .i64 (decGo s).2)] []) := fun s => callE_of (n := 1) rfl
  cases s with
  | nil => simp -implicitDefEqProofs (disch := omega) [a_utf8_DecodeRuneInString, sx]
  | cons b s =>
    by_cases h : b.toNat < 128
    · have e : decGo (b :: s) = (b.toNat, 1) := by unfold decGo; rw [if_neg (by simp), dec_ascii h]
      rw [e]
      simp at hs
      simp -implicitDefEqProofs (disch := omega) [a_utf8_DecodeRuneInString]
    · have hb := UInt8.toNat_lt b
      simp at hs
      simp -implicitDefEqProofs (disch := omega) [a_utf8_DecodeRuneInString, sx]

/-! ### Places -/
structure Pl where
  b : Int
  g : Int
  l : Int
  c : Int
  deriving DecidableEq
/-- The cells of a place. -/
def Pl.cs (p : Pl) : List D := [.int .i64 p.b, .int .i64 p.g, .int .i64 p.l, .int .i64 p.c]
def start : Pl := ⟨0, 0, 1, 1⟩
def behind (p : Pl) (r : Int) : Pl := if r = 10 then ⟨p.b + rlen r, p.g + 1, p.l + 1, 1⟩ else ⟨p.b + rlen r, p.g + 1, p.l, p.c + 1⟩
/-- Small enough for so many more glyphs. -/
def Pl.small (p : Pl) (n : Nat) : Prop := -4294967296 ≤ p.b - 4 * n ∧ p.b + 4 * n ≤ 4294967296 ∧ 0 ≤ p.g ∧ p.g + n ≤ 4294967296 ∧ 0 ≤ p.l ∧ p.l + n ≤ 4294967296 ∧ 0 ≤ p.c ∧ p.c + n ≤ 4294967296
theorem rlen_le (r : Int) : -1 ≤ rlen r ∧ rlen r ≤ 4 := by
  unfold rlen
  split
  · omega
  split
  · omega
  split
  · omega
  split
  · omega
  split
  · omega
  split <;> omega
theorem small_behind {p : Pl} {n : Nat} (r : Int) (h : p.small (n + 1)) : (behind p r).small n := by
  have := rlen_le r
  unfold behind Pl.small at *
  split <;> simp only [] <;> omega
theorem start_spec : callE T0 X0 f_glyph_start [] [] = some (.ret [.d (.agg start.cs)] []) := by
  rw [callX_fun (af := a_glyph_start) rfl rfl rfl]
  simp -implicitDefEqProofs (disch := omega) [a_glyph_start, start, Pl.cs]
theorem behind_spec {p : Pl} {n : Nat} (r : Int) (h : p.small (n + 1)) : callE T0 X0 f_glyph_behind [.d (.agg p.cs), .d (.int .i32 r)] [] = some (.ret [.d (.agg (behind p r).cs)] []) := by
  rw [callX_fun (af := a_glyph_behind) rfl rfl rfl]
  have h1 := rlen_le r
  unfold Pl.small at h
  by_cases hr : r = 10
  · subst hr
    simp -implicitDefEqProofs (disch := omega) [a_glyph_behind, rlen_spec, behind, Pl.cs]
  · simp -implicitDefEqProofs (disch := omega) [a_glyph_behind, rlen_spec, behind, Pl.cs, hr]
def broken (s : List UInt8) (r : Int) : Bool := r == 65533 && decide (((decGo s).2 : Int) = 1)
theorem broken_spec {s : List UInt8} {r : Int} (hs : s.length ≤ 1100000) : callE T0 X0 f_glyph_broken [.d (.str s), .d (.int .i32 r)] [] = some (.ret [.d (.bool (broken s r))] []) := by
  rw [callX_fun (af := a_glyph_broken) rfl rfl rfl]
  have s1 := decode_spec s hs
  unfold broken
  by_cases hr : r = 65533
  · subst hr
    simp -implicitDefEqProofs (disch := omega) [a_glyph_broken, s1]
    done
  · have e : (r == 65533) = false := by simp [hr]
    rw [e, Bool.false_and]
    simp -implicitDefEqProofs (disch := omega) [a_glyph_broken]
end Go.Rf

/- limbs: comparing, adding, taking away, small ones. -/
namespace Go.Rf

/-- -1, 0, 1. -/
def cmp (a b : Int) : Int := if a < b then -1 else if b < a then 1 else 0

theorem cmp_loop (xs ys : List Int) (hs : xs.length ≤ 1099511627776) (hl : ys.length = xs.length) (hx : Good xs) (hy : Good ys) : ∀ k, k ≤ xs.length →
    codeX T0 X0 0 a_limbs_Cmp_l0 (some (.nrm, ⟨[(0, .d (.sl (L xs))), (1, .d (.sl (L ys))), (5, .d (.int .i64 ((k : Int) - 1)))], []⟩)) =
      if nv (xs.take k) < nv (ys.take k) then some (.ret, ⟨[(4, .d (.int .i64 (-1)))], []⟩) else if nv (ys.take k) < nv (xs.take k) then some (.ret, ⟨[(4, .d (.int .i64 1))], []⟩) else some (.exit 0, ⟨[], []⟩) := by
  intro k
  induction k with
  | zero =>
    intro h
    rw [codeX_loop (l := a_limbs_Cmp_l0) rfl]
    simp -implicitDefEqProofs (disch := omega) [a_limbs_Cmp_b0, nv]
  | succ k ih =>
    intro h
    rw [codeX_loop (l := a_limbs_Cmp_l0) rfl]
    rw [nv_take_succ (xs := xs) (by omega), nv_take_succ (xs := ys) (by omega)]
    obtain ⟨b1, b2⟩ := nv_bounds (hx.take k)
    obtain ⟨b3, b4⟩ := nv_bounds (hy.take k)
    rw [List.length_take, Nat.min_eq_left (by omega)] at b2 b4
    have hp := pw_pos k
    have c1 := hx.nth k
    have c2 := hy.nth k
    rcases Int.lt_trichotomy (nth xs k) (nth ys k) with hlt | heq | hgt
    · have m : pw k * (nth xs k + 1) ≤ pw k * nth ys k := Int.mul_le_mul_of_nonneg_left (by omega) (by omega)
      rw [Int.mul_add, Int.mul_one] at m
      rw [if_pos (by omega)]
      simp -implicitDefEqProofs (disch := omega) [a_limbs_Cmp_b0]
    · rw [heq]
      have e1 : (nv (xs.take k) + pw k * nth ys k < nv (ys.take k) + pw k * nth ys k) = (nv (xs.take k) < nv (ys.take k)) := by apply propext; omega
      have e2 : (nv (ys.take k) + pw k * nth ys k < nv (xs.take k) + pw k * nth ys k) = (nv (ys.take k) < nv (xs.take k)) := by apply propext; omega
      simp only [e1, e2]
      rw [← ih (by omega)]
      simp -implicitDefEqProofs (disch := omega) [a_limbs_Cmp_b0, heq]
    · have m : pw k * (nth ys k + 1) ≤ pw k * nth xs k := Int.mul_le_mul_of_nonneg_left (by omega) (by omega)
      rw [Int.mul_add, Int.mul_one] at m
      rw [if_neg (by omega), if_pos (by omega)]
      simp -implicitDefEqProofs (disch := omega) [a_limbs_Cmp_b0]

theorem len_lt_nv {xs ys : List Int} (hy : Good ys) (hc : Can xs) (h : ys.length < xs.length) : nv ys < nv xs := by
  have h1 := (nv_bounds hy).2
  rcases hc with hc | hc
  · rw [hc] at h; simp at h
  · have := pw_le (show ys.length ≤ xs.length - 1 by omega)
    omega

theorem cmp_spec {xs ys : List Int} (hx : Good xs) (hy : Good ys) (hs : xs.length ≤ 1099511627776) (hs' : ys.length ≤ 1099511627776) :
    callE T0 X0 f_limbs_Cmp [.d (.sl (L xs)), .d (.sl (L ys))] [] = some (.ret [.d (.int .i64 (cmp (nv xs) (nv ys)))] []) := by
  rw [callX_fun (af := a_limbs_Cmp) rfl rfl rfl]
  have h1 := limbs_nv (nv_bounds hx).1
  have h2 := limbs_nv (nv_bounds hy).1
  have l1 : (limbs (nv xs)).length ≤ xs.length := limbs_len (nv_bounds hx).1 (nv_bounds hx).2
  have l2 : (limbs (nv ys)).length ≤ ys.length := limbs_len (nv_bounds hy).1 (nv_bounds hy).2
  have g1 := limbs_good (nv xs)
  have g2 := limbs_good (nv ys)
  have c1 := limbs_can (nv xs)
  have c2 := limbs_can (nv ys)
  generalize ha : limbs (nv xs) = as at *
  generalize hb : limbs (nv ys) = bs at *
  rw [← h1, ← h2]
  rcases Nat.lt_trichotomy as.length bs.length with h | h | h
  · have := len_lt_nv g1 c2 h
    simp -implicitDefEqProofs (disch := omega) [a_limbs_Cmp, short_spec hx hs, short_spec hy hs', ha, hb, cmp]
  · have hloop := cmp_loop as bs (by omega) h.symm g1 g2 as.length (Nat.le_refl _)
    rw [List.take_length, h, List.take_length] at hloop
    unfold cmp
    split at hloop
    · rename_i hc
      rw [if_pos hc]
      simp -implicitDefEqProofs (disch := omega) [a_limbs_Cmp, short_spec hx hs, short_spec hy hs', ha, hb, h, hloop]
    · rename_i hc
      rw [if_neg hc]
      split at hloop
      · rename_i hc2
        rw [if_pos hc2]
        simp -implicitDefEqProofs (disch := omega) [a_limbs_Cmp, short_spec hx hs, short_spec hy hs', ha, hb, h, hloop]
      · rename_i hc2
        rw [if_neg hc2]
        simp -implicitDefEqProofs (disch := omega) [a_limbs_Cmp, short_spec hx hs, short_spec hy hs', ha, hb, h, hloop]
  · have := len_lt_nv g2 c1 h
    simp -implicitDefEqProofs (disch := omega) [a_limbs_Cmp, short_spec hx hs, short_spec hy hs', ha, hb, cmp]
end Go.Rf
