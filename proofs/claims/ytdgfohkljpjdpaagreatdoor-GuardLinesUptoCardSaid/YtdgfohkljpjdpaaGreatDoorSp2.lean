/- Parts of the proof: RfNum. -/
import Derived.Test.YtdgfohkljpjdpaaGreatDoorSp1

set_option linter.unusedSimpArgs false
set_option linter.unusedVariables false
set_option linter.unnecessarySimpa false
namespace Go.Rf
def nv : List Int → Int
  | [] => 0
  | x :: xs => x + 4294967296 * nv xs
def Good (xs : List Int) : Prop := ∀ x ∈ xs, 0 ≤ x ∧ x < 4294967296
def pw : Nat → Int
  | 0 => 1
  | n + 1 => 4294967296 * pw n
theorem qib : ∀ n, 0 < pw n
  | 0 => by decide
  | n + 1 => by have := qib n; simp only [pw]; omega
theorem qrs (m : Nat) : ∀ n, pw (n + m) = pw n * pw m
  | 0 => by simp [pw]
  | n + 1 => by rw [Nat.add_right_comm]; simp only [pw, qrs m n, Int.mul_assoc]
theorem pw_le {m n : Nat} (h : m ≤ n) : pw m ≤ pw n := by
  induction h with
  | refl => exact Int.le_refl _
  | step _ ih => have := qib ‹_›; simp only [Nat.succ_eq_add_one, pw]; omega
theorem Good.nil : Good [] := fun x h => by cases h
theorem qf9 {x : Int} {xs : List Int} : Good (x :: xs) ↔ (0 ≤ x ∧ x < 4294967296) ∧ Good xs := by simp [Good]
theorem qun {xs ys : List Int} : Good (xs ++ ys) ↔ Good xs ∧ Good ys := by
  simp only [Good, List.mem_append]
  exact ⟨fun h => ⟨fun x hx => h x (.inl hx), fun x hx => h x (.inr hx)⟩, fun h x hx => hx.elim (h.1 x) (h.2 x)⟩
theorem Good.take {xs : List Int} (h : Good xs) (n : Nat) : Good (xs.take n) := fun x hx => h x (List.mem_of_mem_take hx)
theorem Good.drop {xs : List Int} (h : Good xs) (n : Nat) : Good (xs.drop n) := fun x hx => h x (List.mem_of_mem_drop hx)
theorem Good.nth {xs : List Int} (h : Good xs) (i : Nat) : 0 ≤ nth xs i ∧ nth xs i < 4294967296 := by
  unfold Rf.nth
  by_cases hi : i < xs.length
  · rw [List.getD_eq_getElem?_getD, List.getElem?_eq_getElem hi]
    exact h _ (List.getElem_mem hi)
  · rw [List.getD_eq_getElem?_getD, List.getElem?_eq_none (by omega)]
    simp
theorem q5n : ∀ xs ys : List Int, nv (xs ++ ys) = nv xs + pw xs.length * nv ys
  | [], ys => by simp [nv, pw]
  | x :: xs, ys => by
    simp only [List.cons_append, nv, q5n xs ys, List.length_cons, pw, Int.mul_add, Int.mul_assoc]
    omega
theorem qae : ∀ {xs : List Int}, Good xs → 0 ≤ nv xs ∧ nv xs < pw xs.length
  | [], _ => by decide
  | x :: xs, h => by
    obtain ⟨h1, h2⟩ := qf9.1 h
    obtain ⟨k1, k2⟩ := qae h2
    simp only [nv, List.length_cons, pw]
    omega
def qr9 : Nat → Nat → List Int
  | 0, _ => []
  | f + 1, n => if n = 0 then [] else ((n % 4294967296 : Nat) : Int) :: qr9 f (n / 4294967296)
def limbs (n : Int) : List Int := qr9 n.toNat n.toNat
theorem qvy : ∀ f n, Good (qr9 f n)
  | 0, _ => Good.nil
  | f + 1, n => by
    unfold qr9
    split
    · exact Good.nil
    · refine qf9.2 ⟨?_, qvy f _⟩
      have := Nat.mod_lt n (show 0 < 4294967296 by decide)
      omega
theorem qvx : ∀ f n, n ≤ f → nv (qr9 f n) = n
  | 0, n, h => by
    have : n = 0 := by omega
    subst this
    rfl
  | f + 1, n, h => by
    unfold qr9
    split
    · rename_i h0; subst h0; rfl
    · have : n / 4294967296 ≤ f := by omega
      simp only [nv, qvx f _ this]
      omega
theorem qaq (n : Int) : Good (limbs n) := qvy _ _
theorem qbu {n : Int} (h : 0 ≤ n) : nv (limbs n) = n := by
  unfold limbs
  rw [qvx _ _ (Nat.le_refl _)]
  omega
def Can (xs : List Int) : Prop := xs = [] ∨ pw (xs.length - 1) ≤ nv xs
theorem qxx : ∀ f n, n ≤ f → Can (qr9 f n)
  | 0, _, _ => .inl rfl
  | f + 1, n, h => by
    unfold qr9
    split
    · exact .inl rfl
    · rename_i h0
      right
      have hb : n / 4294967296 ≤ f := by omega
      have hv := qvx f _ hb
      rcases qxx f (n / 4294967296) hb with hc | hc
      · rw [hc] at hv ⊢
        simp only [nv] at hv ⊢
        simp only [List.length_singleton, Nat.sub_self, pw]
        omega
      · simp only [List.length_cons, Nat.add_sub_cancel, nv]
        cases hl : (qr9 f (n / 4294967296)).length with
        | zero =>
          have hnil := List.eq_nil_of_length_eq_zero hl
          rw [hnil] at hv ⊢
          simp only [nv] at hv ⊢
          simp only [pw]
          omega
        | succ k =>
          rw [hl] at hc
          simp only [Nat.add_sub_cancel] at hc
          simp only [pw]
          omega
theorem qf8 (n : Int) : Can (limbs n) := qxx _ _ (Nat.le_refl _)
theorem qx3 : ∀ {xs ys : List Int}, Good xs → Good ys → Can xs → Can ys → nv xs = nv ys → xs = ys
  | [], [], _, _, _, _, _ => rfl
  | [], y :: ys, _, hg, _, hc, h => by
    exfalso
    rcases hc with hc | hc
    · cases hc
    · have := qib ((y :: ys).length - 1)
      simp only [nv] at h hc
      omega
  | x :: xs, [], hg, _, hc, _, h => by
    exfalso
    rcases hc with hc | hc
    · cases hc
    · have := qib ((x :: xs).length - 1)
      simp only [nv] at h hc
      omega
  | x :: xs, y :: ys, hg, hg', hc, hc', h => by
    obtain ⟨h1, h2⟩ := qf9.1 hg
    obtain ⟨h3, h4⟩ := qf9.1 hg'
    simp only [nv] at h
    have hxy : x = y := by omega
    subst hxy
    have hn : nv xs = nv ys := by omega
    have low : ∀ {x : Int} {xs : List Int}, (0 ≤ x ∧ x < 4294967296) → Good xs → Can (x :: xs) → Can xs := by
      intro x xs hx hg hc
      rcases hc with hc | hc
      · cases hc
      · cases xs with
        | nil => exact .inl rfl
        | cons z zs =>
          right
          simp only [List.length_cons, Nat.add_sub_cancel] at hc ⊢
          simp only [pw] at hc
          rw [nv] at hc
          have := (qae hg).1
          omega
    rw [qx3 h2 h4 (low h1 h2 hc) (low h1 h4 hc') hn]
theorem quk {xs : List Int} (hg : Good xs) (hc : Can xs) : xs = limbs (nv xs) :=
  qx3 hg (qaq _) hc (qf8 _) (qbu (qae hg).1).symm
theorem can_le {xs : List Int} (hg : Good xs) (hc : Can xs) {k : Nat} (h : nv xs < pw k) : xs.length ≤ k := by
  rcases hc with hc | hc
  · rw [hc]; exact Nat.zero_le _
  · by_cases hk : xs.length ≤ k
    · exact hk
    · exfalso
      have := pw_le (show k ≤ xs.length - 1 by omega)
      omega
theorem qa7 {n : Int} (h0 : 0 ≤ n) {k : Nat} (h : n < pw k) : (limbs n).length ≤ k := can_le (qaq n) (qf8 n) (by rw [qbu h0]; exact h)
@[simp] theorem qxw : limbs 0 = [] := rfl
theorem qni {n : Int} (h : 0 ≤ n) : limbs n = [] ↔ n = 0 := ⟨fun e => by have := qbu h; rw [e] at this; simpa [nv] using this.symm, fun e => by rw [e]; rfl⟩
theorem qn2 (x : Int) (xs : List Int) : nth (x :: xs) 0 = x := rfl
theorem qn3 (x : Int) (xs : List Int) (i : Nat) : nth (x :: xs) (i + 1) = nth xs i := by simp [nth]
theorem qri {xs : List Int} {i : Nat} (h : i < xs.length) : xs.take (i + 1) = xs.take i ++ [nth xs i] := by
  rw [List.take_add_one, List.getElem?_eq_getElem h]
  simp [nth, h]
theorem qic {xs : List Int} {i : Nat} (h : i < xs.length) : nv (xs.take (i + 1)) = nv (xs.take i) + pw i * nth xs i := by
  rw [qri h, q5n, List.length_take, Nat.min_eq_left (by omega)]
  simp [nv]
theorem qzw (xs : List Int) (x : Int) : nv (xs ++ [x]) = nv xs + pw xs.length * x := by rw [q5n]; simp [nv]
end Go.Rf
