/- Parts of the proof: SpX, SpG1, SpG2, SpG3, SpG4, SpG5, SpL1, SpL2, SpL3, SpP, SpT, SpG6, SpG7. -/
import Derived.Test.YtdgfohkljpjdpaaGreatDoorSp3

set_option linter.unusedSimpArgs false
set_option linter.unusedVariables false
set_option linter.unnecessarySimpa false
namespace Go.Rf
def X0 : Exts where
  run f := if f = qd0 then some decX else if f = qby then some (ccX 1000120) else if f = qds then some (bsX 1000120 1000005) else none
instance : X0.Mono where
  le f e h c c' _ vs hp r k := by
    unfold X0 at h
    dsimp only at h
    split at h
    · cases h; exact k
    · split at h
      · cases h; exact k
      · split at h
        · cases h; exact k
        · cases h
def tlen (xs : List Int) : Nat → Nat
  | 0 => 0
  | n + 1 => if nth xs n = 0 then tlen xs n else n + 1
theorem q8v (xs : List Int) : ∀ n, tlen xs n ≤ n
  | 0 => Nat.le_refl _
  | n + 1 => by
    unfold tlen
    split
    · exact Nat.le_succ_of_le (q8v xs n)
    · exact Nat.le_refl _
theorem q8u (xs : List Int) : ∀ n, n ≤ xs.length → nv (xs.take (tlen xs n)) = nv (xs.take n)
  | 0, _ => rfl
  | n + 1, h => by
    unfold tlen
    split
    · rename_i h0
      rw [q8u xs n (by omega), qic (by omega), h0]
      simp
    · rfl
theorem q48 {xs : List Int} (hg : Good xs) : ∀ n, n ≤ xs.length → Can (xs.take (tlen xs n))
  | 0, _ => .inl rfl
  | n + 1, h => by
    unfold tlen
    split
    · exact q48 hg n (by omega)
    · rename_i h0
      right
      rw [List.length_take, Nat.min_eq_left h, qic (by omega), Nat.add_sub_cancel]
      have h1 := (qae (hg.take n)).1
      have h2 := hg.nth n
      have h3 := qib n
      have h4 : pw n * 1 ≤ pw n * nth xs n := Int.mul_le_mul_of_nonneg_left (by omega) (by omega)
      omega
theorem q8x {xs : List Int} (hg : Good xs) : xs.take (tlen xs xs.length) = limbs (nv xs) := by
  rw [quk (hg.take _) (q48 hg _ (Nat.le_refl _)), q8u xs _ (Nat.le_refl _), List.take_length]
theorem q67 (xs : List Int) (hs : xs.length ≤ 1099511627776) : ∀ n, n ≤ xs.length → codeX T0 X0 0 qhq (some (.nrm, ⟨[(0, .d (.sl (L xs))), (3, .d (.int .i64 n))], []⟩)) = some (.exit 0, ⟨[(0, .d (.sl (L xs))), (3, .d (.int .i64 (tlen xs n)))], []⟩) := by
  intro n
  induction n with
  | zero => intro h; rw [qac (l := qhq) rfl]; simp [qhr, tlen]
  | succ n ih =>
    intro h
    rw [qac (l := qhq) rfl]
    by_cases hz : nth xs n = 0
    · simp -implicitDefEqProofs (disch := omega) [qhr, tlen, ih, hz]
    · simp -implicitDefEqProofs (disch := omega) [qhr, tlen, hz]
theorem qa2 {xs : List Int} (hg : Good xs) (hs : xs.length ≤ 1099511627776) : callE T0 X0 qav [.d (.sl (L xs))] [] = some (.ret [.d (.sl (L (limbs (nv xs))))] []) := by
  rw [qab (af := qld) rfl rfl rfl]
  have hl := q8v xs xs.length
  simp -implicitDefEqProofs (disch := omega) [qld, q67 xs hs xs.length (Nat.le_refl _), hl, q8x hg]
theorem quw {xs : List Int} (hg : Good xs) (hs : xs.length ≤ 1099511627776) : callE T0 X0 qmj [.d (.sl (L xs))] [] = some (.ret [.d (.sl (L (limbs (nv xs))))] []) := by
  rw [qab (af := qmp) rfl rfl rfl]
  have hl : (limbs (nv xs)).length ≤ xs.length := qa7 (qae hg).1 (qae hg).2
  simp -implicitDefEqProofs (disch := omega) [qmp, qa2 hg hs, hl]
end Go.Rf

namespace Go.Rf
def qul (c : Int) : Bool := (65 ≤ c && c ≤ 90) || (97 ≤ c && c ≤ 122) || (913 ≤ c && c ≤ 929) || (931 ≤ c && c ≤ 937) || (945 ≤ c && c ≤ 969) || (1040 ≤ c && c ≤ 1103)
def qxz (c : Int) : Bool := [43, 45, 42, 47, 37, 40, 41, 123, 125, 44, 59, 58, 61, 33, 63, 64, 183, 215, 247, 8722, 8788, 8800].contains c
def qz2 (c : Int) : Bool := c == 9 || c == 10 || c == 13 || c == 32 || c == 160 || c == 12288
def q2e (c : Int) : Bool := c == 95 || c == 176 || c == 8242 || (8320 ≤ c && c ≤ 8329)
def cls (c : Int) : Int := if qz2 c then 1 else if qul c then 2 else if 48 ≤ c ∧ c ≤ 57 then 3 else if q2e c then 4 else if c = 35 then 6 else if qxz c then 5 else 0
def fold (c : Int) : Int := if c = 183 ∨ c = 215 then 42 else if c = 247 then 47 else if c = 8722 then 45 else c
theorem q4f (c : Int) : callE T0 X0 qp9 [.d (.int .i64 c)] [] = some (.ret [.d (.bool (qul c))] []) := by
  rw [qab (af := qkb) rfl rfl rfl]
  have cases : c < 65 ∨ (65 ≤ c ∧ c ≤ 90) ∨ (90 < c ∧ c < 97) ∨ (97 ≤ c ∧ c ≤ 122) ∨ (122 < c ∧ c < 913) ∨ (913 ≤ c ∧ c ≤ 929) ∨ c = 930 ∨ (931 ≤ c ∧ c ≤ 937) ∨ (937 < c ∧ c < 945) ∨ (945 ≤ c ∧ c ≤ 969) ∨ (969 < c ∧ c < 1040) ∨ (1040 ≤ c ∧ c ≤ 1103) ∨ 1103 < c := by omega
  rcases cases with h | h | h | h | h | h | h | h | h | h | h | h | h <;>
    simp -implicitDefEqProofs (disch := omega) [qkb, qul]
theorem q87 (c : Int) : callE T0 X0 qt3 [.d (.int .i64 c)] [] = some (.ret [.d (.bool (qxz c))] []) := by
  rw [qab (af := qkr) rfl rfl rfl]
  by_cases h : c = 43 ∨ c = 45 ∨ c = 42 ∨ c = 47 ∨ c = 37 ∨ c = 40 ∨ c = 41 ∨ c = 123 ∨ c = 125 ∨ c = 44 ∨ c = 59 ∨ c = 58 ∨ c = 61 ∨ c = 33 ∨ c = 63 ∨ c = 64 ∨ c = 183 ∨ c = 215 ∨ c = 247 ∨ c = 8722 ∨ c = 8788 ∨ c = 8800
  · rcases h with rfl | rfl | rfl | rfl | rfl | rfl | rfl | rfl | rfl | rfl | rfl | rfl | rfl | rfl | rfl | rfl | rfl | rfl | rfl | rfl | rfl | rfl <;>
      simp -implicitDefEqProofs (disch := omega) [qkr, qxz]
  · have e : qxz c = false := by
      unfold qxz
      simp only [List.contains_eq_mem, List.mem_cons, List.not_mem_nil, or_false, decide_eq_false_iff_not]
      exact h
    rw [e]
    simp -implicitDefEqProofs (disch := omega) [qkr]
theorem zan (c : Int) : callE T0 X0 qt5 [.d (.int .i64 c)] [] = some (.ret [.d (.int .i64 (fold c))] []) := by
  rw [qab (af := qks) rfl rfl rfl]
  by_cases h : c = 183 ∨ c = 215 ∨ c = 247 ∨ c = 8722
  · rcases h with rfl | rfl | rfl | rfl <;> simp -implicitDefEqProofs (disch := omega) [qks, fold]
  · simp -implicitDefEqProofs (disch := omega) [qks, fold]
end Go.Rf

namespace Go.Rf
theorem q2u (b : ByteArray) (i : Nat) (hi : i < b.size) (r : Nat × Nat) (h : Utf8.decode b i = r) : 1 ≤ r.2 ∧ i + r.2 ≤ b.size ∧ r.2 ≤ 4 ∧ r.1 ≤ 1114111 ∧ (r.1 < 55296 ∨ 57343 < r.1) := by
  have v : ∀ c : Nat, Utf8.valid (c : Int) = true → c ≤ 1114111 ∧ (c < 55296 ∨ 57343 < c) := by
    intro c hc
    unfold Utf8.valid at hc
    simp at hc
    omega
  unfold Utf8.decode at h
  extract_lets at' cont b0 c2 c3 c4 at h
  have hc : ∀ k, cont k = true → i + k < b.size := by
    intro k hk
    simp only [cont, Bool.and_eq_true, decide_eq_true_eq] at hk
    exact hk.1
  clear_value cont
  clear_value b0
  clear_value at'
  split at h
  · subst h; simp only []; omega
  · split at h
    · rename_i h1
      simp only [Bool.and_eq_true] at h1
      have c1 := hc 1 h1.2
      split at h <;> subst h <;> simp only [Utf8.runeError, c2] <;> omega
    · split at h
      · rename_i h1
        simp only [Bool.and_eq_true] at h1
        have c1 := hc 2 h1.2
        split at h
        · rename_i hv
          simp only [Bool.and_eq_true] at hv
          have := v _ hv.2
          subst h; simp only []; omega
        · subst h; simp only [Utf8.runeError]; omega
      · split at h
        · rename_i h1
          simp only [Bool.and_eq_true] at h1
          have c1 := hc 3 h1.2
          split at h
          · rename_i hv
            simp only [Bool.and_eq_true] at hv
            have := v _ hv.2
            subst h; simp only []; omega
          · subst h; simp only [Utf8.runeError]; omega
        · subst h; simp only [Utf8.runeError]; omega
theorem qsg (s : List UInt8) (h : s ≠ []) : 1 ≤ (dec s 0).2 ∧ (dec s 0).2 ≤ s.length ∧ (dec s 0).2 ≤ 4 ∧ (dec s 0).1 ≤ 1114111 ∧ ((dec s 0).1 < 55296 ∨ 57343 < (dec s 0).1) := by
  have hl : 0 < s.length := List.length_pos_iff.2 h
  have hsz : (ByteArray.mk s.toArray).size = s.length := by simp [ByteArray.size]
  have := q2u ⟨s.toArray⟩ 0 (by omega) _ rfl
  rw [hsz, Nat.zero_add] at this
  exact this
theorem qlz {b : UInt8} {s : List UInt8} (h : b.toNat < 128) : dec (b :: s) 0 = (b.toNat, 1) := by
  unfold dec Utf8.decode
  have e : ((ByteArray.mk (b :: s).toArray).get! (0 + 0)) = b := rfl
  simp only [e]
  rw [if_pos h]
def rlen (r : Int) : Int := if r < 0 then -1 else if r ≤ 127 then 1 else if r ≤ 2047 then 2 else if 55296 ≤ r ∧ r ≤ 57343 then -1 else if r ≤ 65535 then 3 else if r ≤ 1114111 then 4 else -1
theorem q1c {r : Int} : callE T0 X0 qmw [.d (.int .i32 r)] [] = some (.ret [.d (.int .i64 (rlen r))] []) := by
  rw [qab (af := qj0) rfl rfl rfl]
  have cases : r < 0 ∨ (0 ≤ r ∧ r ≤ 127) ∨ (127 < r ∧ r ≤ 2047) ∨ (2047 < r ∧ r < 55296) ∨ (55296 ≤ r ∧ r ≤ 57343) ∨ (57343 < r ∧ r ≤ 65535) ∨ (65535 < r ∧ r ≤ 1114111) ∨ 1114111 < r := by omega
  rcases cases with h | h | h | h | h | h | h | h <;>
    simp -implicitDefEqProofs (disch := omega) [qj0, rlen]
theorem qwa (s : List UInt8) (hs : s.length ≤ 1100000) : callE T0 X0 qe6 [.d (.str s)] [] = some (.ret [.d (.int .i32 (decGo s).1), .d (.int .i64 (decGo s).2)] []) := by
  rw [qab (af := qbp) rfl rfl rfl]
  have sx : ∀ s, callE T0 X0 qd0 [.d (.str s)] [] = some (.ret [.d (.int .i32 (decGo s).1), .d (.int .i64 (decGo s).2)] []) := fun s => qlb (n := 1) rfl
  cases s with
  | nil => simp -implicitDefEqProofs (disch := omega) [qbp, sx]
  | cons b s =>
    by_cases h : b.toNat < 128
    · have e : decGo (b :: s) = (b.toNat, 1) := by unfold decGo; rw [if_neg (by simp), qlz h]
      rw [e]
      simp at hs
      simp -implicitDefEqProofs (disch := omega) [qbp]
    · have hb := UInt8.toNat_lt b
      simp at hs
      simp -implicitDefEqProofs (disch := omega) [qbp, sx]
structure Pl where
  b : Int
  g : Int
  l : Int
  c : Int
  deriving DecidableEq
def Pl.cs (p : Pl) : List D := [.int .i64 p.b, .int .i64 p.g, .int .i64 p.l, .int .i64 p.c]
def start : Pl := ⟨0, 0, 1, 1⟩
def qx7 (p : Pl) (r : Int) : Pl := if r = 10 then ⟨p.b + rlen r, p.g + 1, p.l + 1, 1⟩ else ⟨p.b + rlen r, p.g + 1, p.l, p.c + 1⟩
def Pl.small (p : Pl) (n : Nat) : Prop := -4294967296 ≤ p.b - 4 * n ∧ p.b + 4 * n ≤ 4294967296 ∧ 0 ≤ p.g ∧ p.g + n ≤ 4294967296 ∧ 0 ≤ p.l ∧ p.l + n ≤ 4294967296 ∧ 0 ≤ p.c ∧ p.c + n ≤ 4294967296
theorem q9f (r : Int) : -1 ≤ rlen r ∧ rlen r ≤ 4 := by
  unfold rlen
  split
  · omega
  split
  · omega
  split
  · omega
  split
  · omega
  split
  · omega
  split <;> omega
theorem q01 {p : Pl} {n : Nat} (r : Int) (h : p.small (n + 1)) : (qx7 p r).small n := by
  have := q9f r
  unfold qx7 Pl.small at *
  split <;> simp only [] <;> omega
theorem q65 : callE T0 X0 qse [] [] = some (.ret [.d (.agg start.cs)] []) := by
  rw [qab (af := qli) rfl rfl rfl]
  simp -implicitDefEqProofs (disch := omega) [qli, start, Pl.cs]
theorem q4y {p : Pl} {n : Nat} (r : Int) (h : p.small (n + 1)) : callE T0 X0 qqb [.d (.agg p.cs), .d (.int .i32 r)] [] = some (.ret [.d (.agg (qx7 p r).cs)] []) := by
  rw [qab (af := qhp) rfl rfl rfl]
  have h1 := q9f r
  unfold Pl.small at h
  by_cases hr : r = 10
  · subst hr
    simp -implicitDefEqProofs (disch := omega) [qhp, q1c, qx7, Pl.cs]
  · simp -implicitDefEqProofs (disch := omega) [qhp, q1c, qx7, Pl.cs, hr]
def qfb (s : List UInt8) (r : Int) : Bool := r == 65533 && decide (((decGo s).2 : Int) = 1)
theorem q4r {s : List UInt8} {r : Int} (hs : s.length ≤ 1100000) : callE T0 X0 qqa [.d (.str s), .d (.int .i32 r)] [] = some (.ret [.d (.bool (qfb s r))] []) := by
  rw [qab (af := qho) rfl rfl rfl]
  have s1 := qwa s hs
  unfold qfb
  by_cases hr : r = 65533
  · subst hr
    simp -implicitDefEqProofs (disch := omega) [qho, s1]
  · have e : (r == 65533) = false := by simp [hr]
    rw [e, Bool.false_and]
    simp -implicitDefEqProofs (disch := omega) [qho]
end Go.Rf

namespace Go.Rf
structure Sc where
  rest : List UInt8
  pos : Pl
  code : Int
  bad : Pl
def Sc.cs (s : Sc) : List D := [.str s.rest, .int .i64 s.pos.b, .int .i64 s.pos.g, .int .i64 s.pos.l, .int .i64 s.pos.c, .int .i64 s.code, .int .i64 s.bad.b, .int .i64 s.bad.g, .int .i64 s.bad.l, .int .i64 s.bad.c]
def Sc.obj (s : Sc) : Obj := .arr [.d (.agg s.cs)] ⟨10, 0⟩
def Sc.ok (s : Sc) : Prop := s.rest.length ≤ 4096 ∧ s.pos.small s.rest.length
def Sc.fail (s : Sc) (e : Int) (p : Pl) : Sc := if s.code = 0 then { s with code := e, bad := p } else s
def Sc.early (s : Sc) (e : Int) (p : Pl) : Sc := { s with code := e, bad := p }
def Sc.next (s : Sc) : Int × Sc :=
  if s.rest = [] then (-1, s) else if qfb s.rest (dec s.rest 0).1 then (-1, s.fail 40 s.pos) else ((dec s.rest 0).1, s)
def Sc.cls (s : Sc) : Int × Sc := if s.next.1 < 0 then (-1, s.next.2) else (Rf.cls s.next.1, s.next.2)
def Sc.pass (s : Sc) : Sc := { s with pos := qx7 s.pos (decGo s.rest).1, rest := s.rest.drop (decGo s.rest).2 }
theorem q2n (s : Sc) (e : Int) (p : Pl) : callE T0 X0 qhj [.ptr (.b 0) 0 0, .d (.int .i64 e), .d (.agg p.cs)] [s.obj] = some (.ret [] [(s.fail e p).obj]) := by
  rw [qab (af := qd7) rfl rfl rfl]
  by_cases h : s.code = 0
  · simp -implicitDefEqProofs (disch := omega) [qd7, Sc.obj, Sc.cs, Pl.cs, Sc.fail, h]
  · simp -implicitDefEqProofs (disch := omega) [qd7, Sc.obj, Sc.cs, Pl.cs, Sc.fail, h]
theorem qtd (s : Sc) (e : Int) (p : Pl) : callE T0 X0 qew [.ptr (.b 0) 0 0, .d (.int .i64 e), .d (.agg p.cs)] [s.obj] = some (.ret [] [(s.early e p).obj]) := by
  rw [qab (af := qe2) rfl rfl rfl]
  simp -implicitDefEqProofs (disch := omega) [qe2, Sc.obj, Sc.cs, Pl.cs, Sc.early]
theorem qo6 {s : Sc} (h : s.ok) : callE T0 X0 qc0 [.ptr (.b 0) 0 0] [s.obj] = some (.ret [.d (.int .i64 s.next.1)] [s.next.2.obj]) := by
  rw [qab (af := qd6) rfl rfl rfl]
  have hl := h.1
  unfold Sc.next
  by_cases he : s.rest = []
  · rw [if_pos he]
    simp -implicitDefEqProofs (disch := omega) [qd6, Sc.obj, Sc.cs, he]
    rw [qac (l := qf7) rfl]
    simp -implicitDefEqProofs (disch := omega) [qed]
  · rw [if_neg he]
    have hp : 0 < s.rest.length := List.length_pos_iff.2 he
    have d1 := qsg s.rest he
    have s1 := q4r (s := s.rest) (r := (dec s.rest 0).1) (by omega)
    simp -implicitDefEqProofs (disch := omega) [qd6, Sc.obj, Sc.cs]
    rw [qac (l := qf7) rfl]
    cases hb : qfb s.rest (dec s.rest 0).1
    · rw [hb] at s1
      simp -implicitDefEqProofs (disch := omega) [qed, s1]
    · rw [hb] at s1
      have s2 := q2n s 40 s.pos
      simp only [Sc.obj, Sc.cs, Pl.cs] at s2
      simp -implicitDefEqProofs (disch := omega) [qed, s1, s2]
end Go.Rf

namespace Go.Rf
theorem zdt (c : Int) : callE T0 X0 qsf [.d (.int .i64 c)] [] = some (.ret [.d (.int .i64 (cls c))] []) := by
  rw [qab (af := qee) rfl rfl rfl]
  have s1 := q4f c
  have s2 := q87 c
  unfold cls
  by_cases h1 : c = 9 ∨ c = 10 ∨ c = 13 ∨ c = 32 ∨ c = 160 ∨ c = 12288
  · rcases h1 with rfl | rfl | rfl | rfl | rfl | rfl <;> simp -implicitDefEqProofs (disch := omega) [qee, qz2]
  have e1 : qz2 c = false := by
    unfold qz2
    simp
    omega
  rw [e1]
  cases e2 : qul c
  · rw [e2] at s1
    by_cases h3 : 48 ≤ c ∧ c ≤ 57
    · simp -implicitDefEqProofs (disch := omega) [qee, s1]
    have h3' : c < 48 ∨ 57 < c := by omega
    by_cases h4 : c = 95 ∨ c = 176 ∨ c = 8242 ∨ (8320 ≤ c ∧ c ≤ 8329)
    · have e4 : q2e c = true := by
        unfold q2e
        simp
        omega
      rw [e4]
      rcases h3' with h3' | h3'
      · omega
      rcases h4 with rfl | rfl | rfl | h4 <;> simp -implicitDefEqProofs (disch := omega) [qee, s1, h3]
    have e4 : q2e c = false := by
      unfold q2e
      simp
      omega
    rw [e4]
    have h4' : c < 48 ∨ (57 < c ∧ c < 8320) ∨ 8329 < c := by omega
    by_cases h5 : c = 35
    · subst h5
      simp -implicitDefEqProofs (disch := omega) [qee, s1]
    cases e6 : qxz c <;> rw [e6] at s2 <;> rcases h4' with h4' | h4' | h4' <;>
      simp -implicitDefEqProofs (disch := omega) [qee, s1, s2, h3, h5]
  · rw [e2] at s1
    simp -implicitDefEqProofs (disch := omega) [qee, s1]
theorem Sc.fail_rest (s : Sc) (e p) : (s.fail e p).rest = s.rest ∧ (s.fail e p).pos = s.pos := by unfold Sc.fail; split <;> exact ⟨rfl, rfl⟩
theorem Sc.next_rest (s : Sc) : s.next.2.rest = s.rest ∧ s.next.2.pos = s.pos := by
  unfold Sc.next
  split
  · exact ⟨rfl, rfl⟩
  · split
    · exact s.fail_rest _ _
    · exact ⟨rfl, rfl⟩
theorem Sc.next_same (s : Sc) (h : 0 ≤ s.next.1) : s.next.2 = s ∧ s.rest ≠ [] := by
  unfold Sc.next at *
  split
  · rename_i h0; rw [if_pos h0] at h; exact absurd h (by simp)
  · rename_i h0
    split
    · rename_i h1; rw [if_neg h0, if_pos h1] at h; exact absurd h (by simp)
    · exact ⟨rfl, h0⟩
theorem Sc.next_ok {s : Sc} (h : s.ok) : s.next.2.ok := by
  have := s.next_rest
  unfold Sc.ok at *
  rw [this.1, this.2]
  exact h
theorem Sc.next_le (s : Sc) : -1 ≤ s.next.1 ∧ s.next.1 ≤ 1114111 := by
  unfold Sc.next
  split
  · simp
  · rename_i h0
    have := qsg s.rest h0
    split <;> simp only [] <;> omega
theorem cls_le (c : Int) : 0 ≤ Rf.cls c ∧ Rf.cls c ≤ 6 := by
  unfold Rf.cls
  (repeat' split) <;> omega
theorem Sc.cls_le (s : Sc) : -1 ≤ s.cls.1 ∧ s.cls.1 ≤ 6 := by
  have := Rf.cls_le s.next.1
  unfold Sc.cls
  split <;> simp only [] <;> omega
theorem Sc.cls_ok {s : Sc} (h : s.ok) : s.cls.2.ok := by
  unfold Sc.cls
  split <;> exact Sc.next_ok h
theorem Sc.cls_rest (s : Sc) : s.cls.2.rest = s.rest ∧ s.cls.2.pos = s.pos := by
  unfold Sc.cls
  split <;> exact s.next_rest
theorem Sc.cls_same (s : Sc) (h : 0 ≤ s.cls.1) : s.cls.2 = s ∧ s.rest ≠ [] := by
  unfold Sc.cls at *
  by_cases h0 : s.next.1 < 0
  · rw [if_pos h0] at h; exact absurd h (by simp)
  · rw [if_neg h0]; exact s.next_same (by omega)
theorem qgo {s : List UInt8} (h : s ≠ []) : decGo s = dec s 0 := by
  unfold decGo
  rw [if_neg]
  intro e
  exact h (List.eq_nil_of_length_eq_zero e)
theorem Sc.pass_len {s : Sc} (h : s.rest ≠ []) : s.pass.rest.length < s.rest.length := by
  have := qsg s.rest h
  unfold Sc.pass
  simp only [qgo h, List.length_drop]
  omega
theorem Pl.small_le {p : Pl} {m n : Nat} (h : p.small n) (hm : m ≤ n) : p.small m := by unfold Pl.small at *; omega
theorem Sc.pass_ok {s : Sc} (h : s.ok) (hr : s.rest ≠ []) : s.pass.ok := by
  have hl := Sc.pass_len hr
  refine ⟨by have := h.1; omega, ?_⟩
  obtain ⟨n, hn⟩ : ∃ n, s.rest.length = n + 1 := ⟨s.rest.length - 1, by omega⟩
  have h2 := h.2
  rw [hn] at h2
  exact Pl.small_le (q01 _ h2) (by omega)
theorem Sc.fail_ok {s : Sc} (h : s.ok) (e p) : (s.fail e p).ok := by
  have := s.fail_rest e p
  unfold Sc.ok at *
  rw [this.1, this.2]
  exact h
theorem Sc.early_ok {s : Sc} (h : s.ok) (e p) : (s.early e p).ok := h
theorem qpw {s : Sc} (h : s.ok) : callE T0 X0 qdn [.ptr (.b 0) 0 0] [s.obj] = some (.ret [.d (.int .i64 s.cls.1)] [s.cls.2.obj]) := by
  rw [qab (af := qdq) rfl rfl rfl]
  have s1 := qo6 h
  have h1 := s.next_le
  unfold Sc.cls
  simp only [Sc.obj, Sc.cs] at s1 ⊢
  by_cases h0 : s.next.1 < 0
  · simp -implicitDefEqProofs (disch := omega) [qdq, s1]
  · simp -implicitDefEqProofs (disch := omega) [qdq, s1, zdt]
theorem qoy {s : Sc} (h : s.ok) (hr : s.rest ≠ []) : callE T0 X0 qcz [.ptr (.b 0) 0 0] [s.obj] = some (.ret [] [s.pass.obj]) := by
  rw [qab (af := qff) rfl rfl rfl]
  have h1 := h.1
  have h2 := h.2
  have hp : 0 < s.rest.length := List.length_pos_iff.2 hr
  have d1 := qsg s.rest hr
  have s1 := qwa s.rest (by omega)
  rw [qgo hr] at s1
  have s2 := q4y (p := s.pos) (n := 0) (dec s.rest 0).1 (Pl.small_le h2 hp)
  simp only [Sc.obj, Sc.cs, Sc.pass, qgo hr, Pl.cs] at *
  simp -implicitDefEqProofs (disch := omega) [qff, s1, s2]
  rw [List.take_of_length_le (by simp)]
end Go.Rf

namespace Go.Rf
def lineF : Nat → Sc → Sc
  | 0, s => s
  | f + 1, s => if 0 ≤ s.next.1 ∧ s.next.1 ≠ 10 then lineF f s.pass else s.next.2
theorem quj : ∀ f {s : Sc}, s.ok → (lineF f s).ok ∧ (lineF f s).rest.length ≤ s.rest.length
  | 0, s, h => ⟨h, Nat.le_refl _⟩
  | f + 1, s, h => by
    unfold lineF
    split
    · rename_i hc
      have hr := (s.next_same hc.1).2
      have hp := Sc.pass_len hr
      have := quj f (Sc.pass_ok h hr)
      exact ⟨this.1, by omega⟩
    · exact ⟨Sc.next_ok h, by rw [s.next_rest.1]; exact Nat.le_refl _⟩
theorem q99 : ∀ f {s : Sc}, s.ok → s.rest.length < f →
    codeX T0 X0 1 qfa (some (.nrm, ⟨[(0, .ptr (.b 0) 0 0), (2, .d (.int .i64 s.next.1))], [s.next.2.obj]⟩)) = some (.exit 3, ⟨[(0, .ptr (.b 0) 0 0)], [(lineF f s).obj]⟩) := by
  intro f
  induction f with
  | zero => intro s _ h; omega
  | succ f ih =>
    intro s h hf
    rw [qac (l := qfa) rfl]
    have hl := s.next_le
    unfold lineF
    by_cases hc : 0 ≤ s.next.1 ∧ s.next.1 ≠ 10
    · rw [if_pos hc]
      obtain ⟨e, hr⟩ := s.next_same hc.1
      have hp := Sc.pass_len hr
      have s1 := qoy h hr
      have s2 := qo6 (Sc.pass_ok h hr)
      have s3 := ih (s := s.pass) (Sc.pass_ok h hr) (by omega)
      rw [e]
      simp only [Sc.obj, Sc.cs] at s1 s2 s3 ⊢
      simp -implicitDefEqProofs (disch := omega) [qdi, s1, s2, s3]
    · rw [if_neg hc]
      simp only [Sc.obj, Sc.cs]
      by_cases h0 : s.next.1 < 0
      · simp -implicitDefEqProofs (disch := omega) [qdi]
      · simp -implicitDefEqProofs (disch := omega) [qdi]
def qiy : Nat → Sc → Sc
  | 0, s => s
  | f + 1, s => if s.cls.1 = 1 then qiy f s.pass else if s.cls.1 = 6 then qiy f (lineF (s.rest.length + 1) s) else s.cls.2
theorem zdd {s : Sc} (h : s.ok) (hc : s.cls.1 = 6) : (lineF (s.rest.length + 1) s).rest.length < s.rest.length := by
  unfold Sc.cls at hc
  have h0 : ¬ s.next.1 < 0 := by intro h0; rw [if_pos h0] at hc; exact absurd hc (by simp)
  rw [if_neg h0] at hc
  simp only [] at hc
  have h10 : s.next.1 ≠ 10 := by
    intro e
    rw [e] at hc
    exact absurd hc (by decide)
  obtain ⟨_, hr⟩ := s.next_same (by omega)
  unfold lineF
  rw [if_pos ⟨by omega, h10⟩]
  have := (quj s.rest.length (Sc.pass_ok h hr)).2
  have := Sc.pass_len hr
  omega
theorem qih : ∀ f {s : Sc}, s.ok → (qiy f s).ok ∧ (qiy f s).rest.length ≤ s.rest.length
  | 0, s, h => ⟨h, Nat.le_refl _⟩
  | f + 1, s, h => by
    unfold qiy
    split
    · rename_i hc
      have hr := (s.cls_same (by omega)).2
      have hp := Sc.pass_len hr
      have := qih f (Sc.pass_ok h hr)
      exact ⟨this.1, by omega⟩
    · split
      · rename_i hc
        have h1 := quj (s.rest.length + 1) h
        have h2 := qih f h1.1
        exact ⟨h2.1, by omega⟩
      · exact ⟨Sc.cls_ok h, by rw [s.cls_rest.1]; exact Nat.le_refl _⟩
theorem q4v : ∀ f {s : Sc}, s.ok → s.rest.length < f →
    codeX T0 X0 1 qe9 (some (.nrm, ⟨[(0, .ptr (.b 0) 0 0)], [s.obj]⟩)) = some (.ret, ⟨[(0, .ptr (.b 0) 0 0), (9, .d (.bool false))], [(qiy f s).obj]⟩) := by
  intro f
  induction f with
  | zero => intro s _ h; omega
  | succ f ih =>
    intro s h hf
    rw [qac (l := qe9) rfl]
    have hl := s.cls_le
    have s0 := qpw h
    unfold qiy
    by_cases hc : s.cls.1 = 1
    · rw [if_pos hc]
      obtain ⟨e, hr⟩ := s.cls_same (by omega)
      have hp := Sc.pass_len hr
      have s1 := qoy h hr
      have s3 := ih (s := s.pass) (Sc.pass_ok h hr) (by omega)
      rw [e] at s0
      simp only [Sc.obj, Sc.cs] at s0 s1 s3 ⊢
      simp -implicitDefEqProofs (disch := omega) [qdh, s0, s1, s3]
    · rw [if_neg hc]
      by_cases hc : s.cls.1 = 6
      · rw [if_pos hc]
        obtain ⟨e, hr⟩ := s.cls_same (by omega)
        have hp := zdd h hc
        have s1 := qo6 h
        have s2 := q99 (s.rest.length + 1) h (by omega)
        have s3 := ih (quj (s.rest.length + 1) h).1 (by omega)
        rw [e] at s0
        simp only [Sc.obj, Sc.cs] at s0 s1 s2 s3 ⊢
        simp -implicitDefEqProofs (disch := omega) [qdh, s0, s1, s2, s3]
      · rw [if_neg hc]
        simp only [Sc.obj, Sc.cs] at s0 ⊢
        simp -implicitDefEqProofs (disch := omega) [qdh, s0]
def Sc.blanks (s : Sc) : Sc := qiy (s.rest.length + 1) s
theorem q4u {s : Sc} (h : s.ok) : callE T0 X0 qji [.ptr (.b 0) 0 0] [s.obj] = some (.ret [] [s.blanks.obj]) := by
  rw [qab (af := qeq) rfl rfl rfl]
  have s1 := q4v (s.rest.length + 1) h (by omega)
  simp only [Sc.obj, Sc.cs, Sc.blanks] at s1 ⊢
  simp -implicitDefEqProofs (disch := omega) [qeq, s1]
def qbr (c : Int) : Bool := c == 2 || c == 3 || c == 4
def qb3 (c : Int) : Bool := c == 3
theorem q0u (c : Int) : callE T0 X0 qiw [.d (.int .i64 c)] [] = some (.ret [.d (.bool (qbr c))] []) := by
  rw [qab (af := qcy) rfl rfl rfl]
  by_cases h : c = 2 ∨ c = 3 ∨ c = 4
  · rcases h with rfl | rfl | rfl <;> simp -implicitDefEqProofs (disch := omega) [qcy, qbr]
  · simp -implicitDefEqProofs (disch := omega) [qcy, qbr]
theorem q0t (c : Int) : callE T0 X0 qiv [.d (.int .i64 c)] [] = some (.ret [.d (.bool (qb3 c))] []) := by
  rw [qab (af := qec) rfl rfl rfl]
  simp -implicitDefEqProofs (disch := omega) [qec, qb3]
def qfg (p : Int → Bool) : Nat → Sc → Sc
  | 0, s => s
  | f + 1, s => if 0 ≤ s.cls.1 ∧ p s.cls.1 = true then qfg p f s.pass else s.cls.2
theorem qm3 (p : Int → Bool) : ∀ f {s : Sc}, s.ok → (qfg p f s).ok ∧ (qfg p f s).rest.length ≤ s.rest.length
  | 0, s, h => ⟨h, Nat.le_refl _⟩
  | f + 1, s, h => by
    unfold qfg
    split
    · rename_i hc
      have hr := (s.cls_same (by omega)).2
      have hp := Sc.pass_len hr
      have := qm3 p f (Sc.pass_ok h hr)
      exact ⟨this.1, by omega⟩
    · exact ⟨Sc.cls_ok h, by rw [s.cls_rest.1]; exact Nat.le_refl _⟩
section
variable {p : Int → Bool} {g : FuncId} (hg : ∀ c, callE T0 X0 g [.d (.int .i64 c)] [] = some (.ret [.d (.bool (p c))] []))
include hg
theorem q6t (from_ : List UInt8) (hf : from_.length ≤ 4096) : ∀ f {s : Sc}, s.ok → s.rest.length < f →
    codeX T0 X0 1 qfo (some (.nrm, ⟨[(0, .ptr (.b 0) 0 0), (1, .d (.fn g [])), (5, .d (.str from_)), (6, .d (.int .i64 s.cls.1))], [s.cls.2.obj]⟩)) = some (.exit 0, ⟨[(0, .ptr (.b 0) 0 0), (5, .d (.str from_))], [(qfg p f s).obj]⟩) := by
  intro f
  induction f with
  | zero => intro s _ h; omega
  | succ f ih =>
    intro s h hf
    rw [qac (l := qfo) rfl]
    have hl := s.cls_le
    unfold qfg
    by_cases h0 : 0 ≤ s.cls.1
    · obtain ⟨e, hr⟩ := s.cls_same h0
      have hg1 := hg s.cls.1
      cases hp : p s.cls.1
      · rw [if_neg (by simp)]
        rw [hp] at hg1
        simp only [Sc.obj, Sc.cs]
        simp -implicitDefEqProofs (disch := omega) [qdz, hg1]
      · rw [if_pos ⟨h0, rfl⟩]
        rw [hp] at hg1
        have hp := Sc.pass_len hr
        have s1 := qoy h hr
        have s2 := qpw (Sc.pass_ok h hr)
        have s3 := ih (s := s.pass) (Sc.pass_ok h hr) (by omega)
        rw [e]
        simp only [Sc.obj, Sc.cs] at s1 s2 s3 ⊢
        simp -implicitDefEqProofs (disch := omega) [qdz, hg1, s1, s2, s3]
    · rw [if_neg (fun x => h0 x.1)]
      simp only [Sc.obj, Sc.cs]
      simp -implicitDefEqProofs (disch := omega) [qdz]
theorem qxa {s : Sc} (h : s.ok) : callE T0 X0 qdm [.ptr (.b 0) 0 0, .d (.fn g [])] [s.obj] =
    some (.ret [.d (.str (s.rest.take (s.rest.length - (qfg p (s.rest.length + 1) s).rest.length)))] [(qfg p (s.rest.length + 1) s).obj]) := by
  rw [qab (af := qe1) rfl rfl rfl]
  have h1 := h.1
  have s1 := q6t hg s.rest h.1 (s.rest.length + 1) h (by omega)
  have s2 := qpw h
  have hw := (qm3 p (s.rest.length + 1) h).2
  have hr := s.cls_rest.1
  simp only [Sc.obj, Sc.cs] at s1 s2 ⊢
  simp -implicitDefEqProofs (disch := omega) [qe1, s1, s2]
end
end Go.Rf

namespace Go.Rf
def cmp (a b : Int) : Int := if a < b then -1 else if b < a then 1 else 0
theorem zds (xs ys : List Int) (hs : xs.length ≤ 1099511627776) (hl : ys.length = xs.length) (hx : Good xs) (hy : Good ys) : ∀ k, k ≤ xs.length →
    codeX T0 X0 0 qj6 (some (.nrm, ⟨[(0, .d (.sl (L xs))), (1, .d (.sl (L ys))), (5, .d (.int .i64 ((k : Int) - 1)))], []⟩)) =
      if nv (xs.take k) < nv (ys.take k) then some (.ret, ⟨[(4, .d (.int .i64 (-1)))], []⟩) else if nv (ys.take k) < nv (xs.take k) then some (.ret, ⟨[(4, .d (.int .i64 1))], []⟩) else some (.exit 0, ⟨[], []⟩) := by
  intro k
  induction k with
  | zero =>
    intro h
    rw [qac (l := qj6) rfl]
    simp -implicitDefEqProofs (disch := omega) [qhn, nv]
  | succ k ih =>
    intro h
    rw [qac (l := qj6) rfl]
    rw [qic (xs := xs) (by omega), qic (xs := ys) (by omega)]
    obtain ⟨b1, b2⟩ := qae (hx.take k)
    obtain ⟨b3, b4⟩ := qae (hy.take k)
    rw [List.length_take, Nat.min_eq_left (by omega)] at b2 b4
    have hp := qib k
    have c1 := hx.nth k
    have c2 := hy.nth k
    rcases Int.lt_trichotomy (nth xs k) (nth ys k) with hlt | heq | hgt
    · have m : pw k * (nth xs k + 1) ≤ pw k * nth ys k := Int.mul_le_mul_of_nonneg_left (by omega) (by omega)
      rw [Int.mul_add, Int.mul_one] at m
      rw [if_pos (by omega)]
      simp -implicitDefEqProofs (disch := omega) [qhn]
    · rw [heq]
      have e1 : (nv (xs.take k) + pw k * nth ys k < nv (ys.take k) + pw k * nth ys k) = (nv (xs.take k) < nv (ys.take k)) := by apply propext; omega
      have e2 : (nv (ys.take k) + pw k * nth ys k < nv (xs.take k) + pw k * nth ys k) = (nv (ys.take k) < nv (xs.take k)) := by apply propext; omega
      simp only [e1, e2]
      rw [← ih (by omega)]
      simp -implicitDefEqProofs (disch := omega) [qhn, heq]
    · have m : pw k * (nth ys k + 1) ≤ pw k * nth xs k := Int.mul_le_mul_of_nonneg_left (by omega) (by omega)
      rw [Int.mul_add, Int.mul_one] at m
      rw [if_neg (by omega), if_pos (by omega)]
      simp -implicitDefEqProofs (disch := omega) [qhn]
theorem qsa {xs ys : List Int} (hy : Good ys) (hc : Can xs) (h : ys.length < xs.length) : nv ys < nv xs := by
  have h1 := (qae hy).2
  rcases hc with hc | hc
  · rw [hc] at h; simp at h
  · have := pw_le (show ys.length ≤ xs.length - 1 by omega)
    omega
theorem q6b {xs ys : List Int} (hx : Good xs) (hy : Good ys) (hs : xs.length ≤ 1099511627776) (hs' : ys.length ≤ 1099511627776) :
    callE T0 X0 qq7 [.d (.sl (L xs)), .d (.sl (L ys))] [] = some (.ret [.d (.int .i64 (cmp (nv xs) (nv ys)))] []) := by
  rw [qab (af := qg1) rfl rfl rfl]
  have h1 := qbu (qae hx).1
  have h2 := qbu (qae hy).1
  have l1 : (limbs (nv xs)).length ≤ xs.length := qa7 (qae hx).1 (qae hx).2
  have l2 : (limbs (nv ys)).length ≤ ys.length := qa7 (qae hy).1 (qae hy).2
  have g1 := qaq (nv xs)
  have g2 := qaq (nv ys)
  have c1 := qf8 (nv xs)
  have c2 := qf8 (nv ys)
  generalize ha : limbs (nv xs) = as at *
  generalize hb : limbs (nv ys) = bs at *
  rw [← h1, ← h2]
  rcases Nat.lt_trichotomy as.length bs.length with h | h | h
  · have := qsa g1 c2 h
    simp -implicitDefEqProofs (disch := omega) [qg1, qa2 hx hs, qa2 hy hs', ha, hb, cmp]
  · have hloop := zds as bs (by omega) h.symm g1 g2 as.length (Nat.le_refl _)
    rw [List.take_length, h, List.take_length] at hloop
    unfold cmp
    split at hloop
    · rename_i hc
      rw [if_pos hc]
      simp -implicitDefEqProofs (disch := omega) [qg1, qa2 hx hs, qa2 hy hs', ha, hb, h, hloop]
    · rename_i hc
      rw [if_neg hc]
      split at hloop
      · rename_i hc2
        rw [if_pos hc2]
        simp -implicitDefEqProofs (disch := omega) [qg1, qa2 hx hs, qa2 hy hs', ha, hb, h, hloop]
      · rename_i hc2
        rw [if_neg hc2]
        simp -implicitDefEqProofs (disch := omega) [qg1, qa2 hx hs, qa2 hy hs', ha, hb, h, hloop]
  · have := qsa g2 c1 h
    simp -implicitDefEqProofs (disch := omega) [qg1, qa2 hx hs, qa2 hy hs', ha, hb, cmp]
end Go.Rf

namespace Go.Rf
theorem qn1 {xs : List Int} {i : Nat} (h : xs.length ≤ i) : nth xs i = 0 := by simp [nth, List.getD_eq_getElem?_getD, List.getElem?_eq_none h]
theorem qcq (xs : List Int) (i : Nat) : nv (xs.take (i + 1)) = nv (xs.take i) + pw i * nth xs i := by
  by_cases h : i < xs.length
  · exact qic h
  · rw [List.take_of_length_le (by omega), List.take_of_length_le (by omega), qn1 (by omega)]; simp
theorem qk6 (i : Nat) (c : Int) : pw i * (c % 4294967296) + pw (i + 1) * (c / 4294967296) = pw i * c := by
  have h : c = c % 4294967296 + 4294967296 * (c / 4294967296) := by omega
  have e : pw i * c = pw i * (c % 4294967296 + 4294967296 * (c / 4294967296)) := by rw [← h]
  rw [e, Int.mul_add, pw]
  congr 1
  rw [Int.mul_comm 4294967296 (pw i), Int.mul_assoc]
theorem qjm {xs : List Int} {k : Nat} (h : k < xs.length) (y : Int) (j : Nat) : nth (xs.set k y) j = if j = k then y else nth xs j := by
  unfold nth
  simp only [List.getD_eq_getElem?_getD, List.getElem?_set]
  by_cases e : k = j
  · subst e; simp [h]
  · rw [if_neg e, if_neg (Ne.symm e)]
theorem qr4 : ∀ {xs : List Int} {k : Nat}, k < xs.length → ∀ y, nv (xs.set k y) = nv xs + pw k * (y - nth xs k)
  | x :: xs, 0, _, y => by simp only [List.set_cons_zero, nv, qn2, pw]; omega
  | x :: xs, k + 1, h, y => by
    simp only [List.set_cons_succ, nv, qn3, pw, qr4 (Nat.lt_of_succ_lt_succ h) y, Int.mul_add, Int.mul_assoc]
    omega
theorem qg7 {xs : List Int} (hg : Good xs) (k : Nat) {y : Int} (h : 0 ≤ y ∧ y < 4294967296) : Good (xs.set k y) := by
  intro x hx
  rcases List.mem_or_eq_of_mem_set hx with hx | hx
  · exact hg x hx
  · subst hx; exact h
theorem qpu (n : Nat) : Good (List.replicate n 0) := by
  intro x hx
  rw [(List.mem_replicate.1 hx).2]
  decide
theorem nv_rep (n : Nat) : nv (List.replicate n 0) = 0 := by
  induction n with
  | zero => rfl
  | succ n ih => simp only [List.replicate_succ, nv, ih]; rfl
theorem qn0 {xs : List Int} {i : Nat} (h : i < xs.length) (y : Int) : nv ((xs.set i y).take (i + 1)) = nv (xs.take i) + pw i * y := by
  rw [qic (by simpa using h), List.take_set_of_le (Nat.le_refl _), qjm h, if_pos rfl]
theorem q19 {x y : Int} (hx : 0 ≤ x ∧ x < 4294967296) (hy : 0 ≤ y ∧ y < 4294967296) : 0 ≤ x * y ∧ x * y ≤ 18446744065119617025 := by
  refine ⟨Int.mul_nonneg hx.1 hy.1, ?_⟩
  have h1 : x * y ≤ 4294967295 * y := Int.mul_le_mul_of_nonneg_right (by omega) hy.1
  omega
theorem q6o (as bs : List Int) (hs : as.length ≤ 1099511627776) (hs' : bs.length ≤ as.length) (ha : Good as) (hb : Good bs) : ∀ d i (out : List Int) (c : Int), d + i = as.length → out.length = i → Good out → 0 ≤ c → c ≤ 1 →
    nv out + pw i * c = nv (as.take i) + nv (bs.take i) →
    ∃ out' c', codeX T0 X0 0 qj7 (some (.nrm, ⟨[(0, .d (.sl (L as))), (1, .d (.sl (L bs))), (5, .ref (.b 0) ⟨1, 4⟩ 0 out.length), (6, .d (.int .u64 c)), (24, .d (.int .i64 as.length)), (25, .d (.int .i64 i))], [.arr (LV out) ⟨1, 4⟩]⟩)) = some (.exit 0, ⟨[(5, .ref (.b 0) ⟨1, 4⟩ 0 out'.length), (6, .d (.int .u64 c'))], [.arr (LV out') ⟨1, 4⟩]⟩) ∧
      out'.length = as.length ∧ Good out' ∧ 0 ≤ c' ∧ c' ≤ 1 ∧ nv out' + pw as.length * c' = nv as + nv (bs.take as.length) := by
  intro d
  induction d with
  | zero =>
    intro i out c hi ho hg hc hc1 hv
    have : i = as.length := by omega
    subst this
    refine ⟨out, c, ?_, ho, hg, hc, hc1, by rw [hv, List.take_length]⟩
    rw [qac (l := qj7) rfl]
    simp -implicitDefEqProofs (disch := omega) [qj8]
  | succ d ih =>
    intro i out c hi ho hg hc hc1 hv
    have n1 := ha.nth i
    have n2 := hb.nth i
    rw [qac (l := qj7) rfl]
    have step := ih (i + 1) (out ++ [(c + nth as i + nth bs i) % 4294967296]) ((c + nth as i + nth bs i) / 4294967296) (by omega) (by simp [ho]) (qun.2 ⟨hg, qf9.2 ⟨by omega, Good.nil⟩⟩) (by omega) (by omega) (by
      rw [qcq, qcq, qzw, ho]
      have := qk6 i (c + nth as i + nth bs i)
      simp only [Int.mul_add] at this ⊢
      omega)
    obtain ⟨out', c', h1, h2⟩ := step
    refine ⟨out', c', ?_, h2⟩
    rw [← h1]
    by_cases hb' : i < bs.length
    · simp -implicitDefEqProofs (disch := omega) [qj8]
    · have e := qn1 (xs := bs) (i := i) (by omega)
      simp -implicitDefEqProofs (disch := omega) [qj8, e]
theorem zbp {as bs out : List Int} {c : Int} (c1 : Can as) (hbn : 0 ≤ nv bs) (ho : out.length = as.length) (hg : Good out) (hc : c = 0 ∨ c = 1)
    (hv : nv out + pw as.length * c = nv as + nv bs) : limbs (nv as + nv bs) = if c = 0 then out else out ++ [1] := by
  have hbd := qae hg
  rcases hc with rfl | rfl
  · have hv' : nv as + nv bs = nv out := by omega
    rw [hv', if_pos rfl, ← quk hg]
    rcases c1 with c1 | c1
    · left; rw [c1] at ho; exact List.eq_nil_of_length_eq_zero ho
    · right; rw [ho]; omega
  · have hv' : nv as + nv bs = nv (out ++ [1]) := by rw [qzw, ho]; omega
    rw [hv', if_neg (by decide), ← quk (qun.2 ⟨hg, qf9.2 ⟨by decide, Good.nil⟩⟩)]
    right
    rw [qzw, List.length_append, List.length_singleton, Nat.add_sub_cancel]
    omega
theorem zd2 {xs ys : List Int} (hx : Good xs) (hy : Good ys) (hs : xs.length < 1099511627776) (hs' : ys.length < 1099511627776) :
    callE T0 X0 qv5 [.d (.sl (L xs)), .d (.sl (L ys))] [] = some (.ret [.d (.sl (L (limbs (nv xs + nv ys))))] []) := by
  rw [qab (af := qh8) rfl rfl rfl]
  have h1 := qbu (qae hx).1
  have h2 := qbu (qae hy).1
  have l1 : (limbs (nv xs)).length ≤ xs.length := qa7 (qae hx).1 (qae hx).2
  have l2 : (limbs (nv ys)).length ≤ ys.length := qa7 (qae hy).1 (qae hy).2
  have g1 := qaq (nv xs)
  have g2 := qaq (nv ys)
  have c1 := qf8 (nv xs)
  have c2 := qf8 (nv ys)
  have s1 := qa2 hx (by omega)
  have s2 := qa2 hy (by omega)
  generalize ha : limbs (nv xs) = as at *
  generalize hb : limbs (nv ys) = bs at *
  rw [← h1, ← h2]
  have hn1 := (qae g1).1
  have hn2 := (qae g2).1
  by_cases hle : as.length < bs.length
  · obtain ⟨out, c, hl, ho, hg, hc0, hc1, hv⟩ := q6o bs as (by omega) (by omega) g2 g1 bs.length 0 [] 0 (by omega) rfl Good.nil (by omega) (by omega) rfl
    rw [List.take_of_length_le (by omega)] at hv
    rw [Int.add_comm, zbp c2 hn1 ho hg (by omega) hv]
    simp only [List.length_nil, q6q, Int.cast_ofNat_Int] at hl
    by_cases hc : c = 0
    · subst hc
      simp -implicitDefEqProofs (disch := omega) [qh8, s1, s2, hl]
    · have hc : c = 1 := by omega
      subst hc
      simp -implicitDefEqProofs (disch := omega) [qh8, s1, s2, hl]
  · obtain ⟨out, c, hl, ho, hg, hc0, hc1, hv⟩ := q6o as bs (by omega) (by omega) g1 g2 as.length 0 [] 0 (by omega) rfl Good.nil (by omega) (by omega) rfl
    rw [List.take_of_length_le (by omega)] at hv
    rw [zbp c1 hn2 ho hg (by omega) hv]
    simp only [List.length_nil, q6q, Int.cast_ofNat_Int] at hl
    by_cases hc : c = 0
    · subst hc
      simp -implicitDefEqProofs (disch := omega) [qh8, s1, s2, hl]
    · have hc : c = 1 := by omega
      subst hc
      simp -implicitDefEqProofs (disch := omega) [qh8, s1, s2, hl]
theorem zca (as bs : List Int) (hs : as.length ≤ 1099511627776) (hs' : bs.length ≤ as.length) (ha : Good as) (hb : Good bs) : ∀ d i (out : List Int) (c : Int), d + i = as.length → out.length = as.length → Good out → 0 ≤ c → c ≤ 1 →
    nv (out.take i) - pw i * c = nv (as.take i) - nv (bs.take i) →
    ∃ out' c', codeX T0 X0 0 qj2 (some (.nrm, ⟨[(0, .d (.sl (L as))), (1, .d (.sl (L bs))), (6, .ref (.b 0) ⟨1, 4⟩ 0 as.length), (7, .d (.int .u64 c)), (22, .d (.int .i64 as.length)), (23, .d (.int .i64 i))], [.arr (LV out) ⟨1, 4⟩]⟩)) = some (.exit 0, ⟨[(6, .ref (.b 0) ⟨1, 4⟩ 0 as.length)], [.arr (LV out') ⟨1, 4⟩]⟩) ∧
      out'.length = as.length ∧ Good out' ∧ 0 ≤ c' ∧ c' ≤ 1 ∧ nv out' - pw as.length * c' = nv as - nv (bs.take as.length) := by
  intro d
  induction d with
  | zero =>
    intro i out c hi ho hg hc hc1 hv
    have : i = as.length := by omega
    subst this
    refine ⟨out, c, ?_, ho, hg, hc, hc1, by rw [← ho, List.take_length] at hv; rw [ho] at hv; rw [hv, List.take_length]⟩
    rw [qac (l := qj2) rfl]
    simp -implicitDefEqProofs (disch := omega) [qj3]
  | succ d ih =>
    intro i out c hi ho hg hc hc1 hv
    have n1 := ha.nth i
    have n2 := hb.nth i
    rw [qac (l := qj2) rfl]
    have step := ih (i + 1) (out.set i ((nth as i - c - nth bs i) % 4294967296)) (-((nth as i - c - nth bs i) / 4294967296)) (by omega) (by simp [ho]) (qg7 hg _ (by omega)) (by omega) (by omega) (by
      rw [qn0 (by omega), qcq, qcq]
      have := qk6 i (nth as i - c - nth bs i)
      simp only [Int.mul_sub, Int.mul_neg] at this ⊢
      omega)
    obtain ⟨out', c', h1, h2⟩ := step
    refine ⟨out', c', ?_, h2⟩
    rw [← h1]
    by_cases hb' : i < bs.length
    · have e2 : (nth as i - c - nth bs i) % 18446744073709551616 / 9223372036854775808 = -((nth as i - c - nth bs i) / 4294967296) := by omega
      simp -implicitDefEqProofs (disch := omega) [qj3, qfq, e2]
    · have e := qn1 (xs := bs) (i := i) (by omega)
      have e2 : (nth as i - c) % 18446744073709551616 / 9223372036854775808 = -((nth as i - c) / 4294967296) := by omega
      simp -implicitDefEqProofs (disch := omega) [qj3, e, qfq, e2]
theorem q5a {xs ys : List Int} (hx : Good xs) (hy : Good ys) (hs : xs.length < 1099511627776) (hs' : ys.length < 1099511627776) :
    callE T0 X0 qq6 [.d (.sl (L xs)), .d (.sl (L ys))] [] = some (.ret (if nv xs < nv ys then [.d (.sl []), .d (.bool false)] else [.d (.sl (L (limbs (nv xs - nv ys)))), .d (.bool true)]) []) := by
  rw [qab (af := ql6) rfl rfl rfl]
  have h1 := qbu (qae hx).1
  have h2 := qbu (qae hy).1
  have l1 : (limbs (nv xs)).length ≤ xs.length := qa7 (qae hx).1 (qae hx).2
  have l2 : (limbs (nv ys)).length ≤ ys.length := qa7 (qae hy).1 (qae hy).2
  have g1 := qaq (nv xs)
  have g2 := qaq (nv ys)
  have c1 := qf8 (nv xs)
  have c2 := qf8 (nv ys)
  have s1 := qa2 hx (by omega)
  have s2 := qa2 hy (by omega)
  generalize ha : limbs (nv xs) = as at *
  generalize hb : limbs (nv ys) = bs at *
  rw [← h1, ← h2]
  have s3 := q6b g1 g2 (by omega) (by omega)
  by_cases hlt : nv as < nv bs
  · rw [cmp, if_pos hlt] at s3
    simp -implicitDefEqProofs (disch := omega) [ql6, s1, s2, s3]
  · have hle : bs.length ≤ as.length := by
      by_cases h : bs.length ≤ as.length
      · exact h
      · have := qsa g1 c2 (show as.length < bs.length by omega)
        omega
    have h3 : ¬ cmp (nv as) (nv bs) < 0 := by
      unfold cmp
      rw [if_neg hlt]
      split <;> omega
    obtain ⟨out, c, hl, ho, hg, hc0, hc1, hv⟩ := zca as bs (by omega) (by omega) g1 g2 as.length 0 (List.replicate as.length 0) 0 (by omega) (by simp) (qpu _) (by omega) (by omega) (by simp [nv])
    rw [List.take_of_length_le (by omega)] at hv
    have hb1 := qae hg
    rw [ho] at hb1
    have hc : c = 0 := by
      rcases (show c = 0 ∨ c = 1 by omega) with h | h
      · exact h
      · subst h; omega
    subst hc
    have s4 := qa2 hg (by omega)
    have hv' : nv out = nv as - nv bs := by omega
    rw [hv'] at s4
    simp only [Int.cast_ofNat_Int] at hl
    have ht : out.take as.length = out := List.take_of_length_le (by omega)
    simp -implicitDefEqProofs (disch := omega) [ql6, s1, s2, s3, s4, hl, ht]
theorem mul_in (as out0 bs : List Int) (i : Nat) (x : Int) (hs : out0.length ≤ 1099511627776) (hi : i + bs.length < out0.length) (hx : 0 ≤ x ∧ x < 4294967296) (hb : Good bs) : ∀ d j (out : List Int) (c : Int), d + j = bs.length → out.length = out0.length → Good out → 0 ≤ c → c < 4294967296 →
    (∀ k, i + bs.length ≤ k → nth out k = nth out0 k) →
    nv out + pw (i + j) * c = nv out0 + pw i * (x * nv (bs.take j)) →
    ∃ out' c', codeX T0 X0 0 qj5 (some (.nrm, ⟨[(1, .d (.sl (L bs))), (5, .ref (.b 0) ⟨1, 4⟩ 0 out0.length), (6, .d (.int .i64 i)), (7, .d (.int .u32 x)), (8, .d (.int .u64 c)), (29, .d (.sl (L as))), (30, .d (.int .i64 as.length)), (31, .d (.int .i64 i)), (36, .d (.sl (L bs))), (37, .d (.int .i64 bs.length)), (38, .d (.int .i64 j))], [.arr (LV out) ⟨1, 4⟩]⟩)) =
        some (.exit 2, ⟨[(1, .d (.sl (L bs))), (5, .ref (.b 0) ⟨1, 4⟩ 0 out0.length), (6, .d (.int .i64 i)), (8, .d (.int .u64 c')), (29, .d (.sl (L as))), (30, .d (.int .i64 as.length)), (31, .d (.int .i64 i))], [.arr (LV out') ⟨1, 4⟩]⟩) ∧
      out'.length = out0.length ∧ Good out' ∧ 0 ≤ c' ∧ c' < 4294967296 ∧ (∀ k, i + bs.length ≤ k → nth out' k = nth out0 k) ∧ nv out' + pw (i + bs.length) * c' = nv out0 + pw i * (x * nv bs) := by
  intro d
  induction d with
  | zero =>
    intro j out c hd ho hg hc hc1 hk hv
    have : j = bs.length := by omega
    subst this
    refine ⟨out, c, ?_, ho, hg, hc, hc1, hk, by rw [hv, List.take_length]⟩
    rw [qac (l := qj5) rfl]
    simp -implicitDefEqProofs (disch := omega) [qm2]
  | succ d ih =>
    intro j out c hd ho hg hc hc1 hk hv
    have n1 := hb.nth j
    have n2 := hg.nth (i + j)
    have n3 := q19 hx n1
    have hm : 0 ≤ c + (x * nth bs j + nth out (i + j)) ∧ c + (x * nth bs j + nth out (i + j)) ≤ 18446744073709551615 := by omega
    rw [qac (l := qj5) rfl]
    have step := ih (j + 1) (out.set (i + j) ((c + (x * nth bs j + nth out (i + j))) % 4294967296)) ((c + (x * nth bs j + nth out (i + j))) / 4294967296) (by omega) (by simp [ho]) (qg7 hg _ (by omega)) (by omega) (by omega) (by
      intro k hk'
      rw [qjm (by omega), if_neg (by omega)]
      exact hk k hk') (by
      rw [qcq, qr4 (by omega)]
      have e1 := qk6 (i + j) (c + (x * nth bs j + nth out (i + j)))
      have e2 : pw i * (x * (nv (bs.take j) + pw j * nth bs j)) = pw i * (x * nv (bs.take j)) + pw (i + j) * (x * nth bs j) := by
        rw [qrs j i, Int.mul_add, Int.mul_add, ← Int.mul_assoc x (pw j), Int.mul_comm x (pw j)]
        simp only [Int.mul_assoc]
      rw [e2, ← Nat.add_assoc]
      simp only [Int.mul_sub, Int.mul_add] at e1 ⊢
      omega)
    obtain ⟨out', c', h1, h2⟩ := step
    refine ⟨out', c', ?_, h2⟩
    rw [← h1]
    simp -implicitDefEqProofs (disch := omega) [qm2]
theorem zg3 (as bs : List Int) (hs : as.length + bs.length ≤ 1099511627776) (ha : Good as) (hb : Good bs) : ∀ d i (out : List Int), d + i = as.length → out.length = as.length + bs.length → Good out →
    (∀ k, i + bs.length ≤ k → nth out k = 0) → nv out = nv (as.take i) * nv bs →
    ∃ out', codeX T0 X0 0 qj4 (some (.nrm, ⟨[(1, .d (.sl (L bs))), (5, .ref (.b 0) ⟨1, 4⟩ 0 out.length), (29, .d (.sl (L as))), (30, .d (.int .i64 as.length)), (31, .d (.int .i64 i))], [.arr (LV out) ⟨1, 4⟩]⟩)) =
        some (.exit 0, ⟨[(5, .ref (.b 0) ⟨1, 4⟩ 0 out'.length)], [.arr (LV out') ⟨1, 4⟩]⟩) ∧
      out'.length = as.length + bs.length ∧ Good out' ∧ nv out' = nv as * nv bs := by
  intro d
  induction d with
  | zero =>
    intro i out hd ho hg hk hv
    have : i = as.length := by omega
    subst this
    refine ⟨out, ?_, ho, hg, by rw [hv, List.take_length]⟩
    rw [qac (l := qj4) rfl]
    simp -implicitDefEqProofs (disch := omega) [qm1]
  | succ d ih =>
    intro i out hd ho hg hk hv
    have n1 := ha.nth i
    rw [qac (l := qj4) rfl]
    obtain ⟨out1, c, h1, ho1, hg1, hc0, hc1, hk1, hv1⟩ := mul_in as out bs i (nth as i) (by omega) (by omega) n1 hb bs.length 0 out 0 (by omega) rfl hg (by omega) (by omega) (fun _ _ => rfl) (by simp [nv])
    have step := ih (i + 1) (out1.set (i + bs.length) c) (by omega) (by simp [ho1, ho]) (qg7 hg1 _ (by omega)) (by
      intro k hk'
      rw [qjm (by omega), if_neg (by omega), hk1 k (by omega)]
      exact hk k (by omega)) (by
      rw [qcq, qr4 (by omega), hk1 _ (Nat.le_refl _), hk _ (Nat.le_refl _), Int.sub_zero, Int.add_mul, Int.mul_assoc, ← hv]
      omega)
    obtain ⟨out', h3, h4⟩ := step
    refine ⟨out', ?_, h4⟩
    rw [← h3]
    simp only [Int.cast_ofNat_Int] at h1
    simp -implicitDefEqProofs (disch := omega) [qm1, h1, ho1]
theorem zc8 {xs ys : List Int} (hx : Good xs) (hy : Good ys) (hs : xs.length + ys.length < 1099511627776) :
    callE T0 X0 qv4 [.d (.sl (L xs)), .d (.sl (L ys))] [] = some (.ret [.d (.sl (L (limbs (nv xs * nv ys))))] []) := by
  rw [qab (af := qjv) rfl rfl rfl]
  have h1 := qbu (qae hx).1
  have h2 := qbu (qae hy).1
  have l1 : (limbs (nv xs)).length ≤ xs.length := qa7 (qae hx).1 (qae hx).2
  have l2 : (limbs (nv ys)).length ≤ ys.length := qa7 (qae hy).1 (qae hy).2
  have g1 := qaq (nv xs)
  have g2 := qaq (nv ys)
  have s1 := qa2 hx (by omega)
  have s2 := qa2 hy (by omega)
  generalize ha : limbs (nv xs) = as at *
  generalize hb : limbs (nv ys) = bs at *
  rw [← h1, ← h2]
  by_cases za : as.length = 0
  · have za' := List.eq_nil_of_length_eq_zero za
    rw [show nv as = 0 by rw [za']; rfl, Int.zero_mul]
    simp -implicitDefEqProofs (disch := omega) [qjv, s1, s2, -List.length_eq_zero_iff]
  by_cases zb : bs.length = 0
  · have zb' := List.eq_nil_of_length_eq_zero zb
    rw [show nv bs = 0 by rw [zb']; rfl, Int.mul_zero]
    simp -implicitDefEqProofs (disch := omega) [qjv, s1, s2, -List.length_eq_zero_iff]
  obtain ⟨out, hl, ho, hg, hv⟩ := zg3 as bs (by omega) g1 g2 as.length 0 (List.replicate (as.length + bs.length) 0) (by omega) (by simp) (qpu _) (by intro k _; simp [nth, List.getD_eq_getElem?_getD, List.getElem?_replicate]; split <;> rfl) (by simp [nv, nv_rep])
  have s4 := qa2 hg (by omega)
  rw [hv] at s4
  simp only [Int.cast_ofNat_Int, List.length_replicate] at hl
  simp -implicitDefEqProofs (disch := omega) [qjv, s1, s2, s4, hl, -List.length_eq_zero_iff]
end Go.Rf

namespace Go.Rf
def blen (n : Int) : Int := if n ≤ 0 then 0 else Nat.log2 n.toNat + 1
theorem zdb {n k : Nat} (h : 2 ^ k ≤ n) : Nat.log2 n = k + Nat.log2 (n / 2 ^ k) := by
  have hp : 0 < 2 ^ k := Nat.two_pow_pos k
  have hq : n / 2 ^ k ≠ 0 := by
    have := Nat.div_pos h hp
    omega
  apply (Nat.log2_eq_iff (by omega)).2
  have h1 := (Nat.log2_eq_iff hq).1 rfl
  generalize Nat.log2 (n / 2 ^ k) = m at h1
  rw [Nat.pow_add, show k + m + 1 = k + (m + 1) from rfl, Nat.pow_add]
  refine ⟨?_, ?_⟩
  · exact Nat.le_trans (Nat.mul_le_mul_left _ h1.1) (Nat.mul_div_le n _)
  · rw [Nat.mul_comm]; exact (Nat.div_lt_iff_lt_mul hp).1 h1.2
theorem q0i {n : Int} {k : Nat} {p : Int} (hp : p = 2 ^ k) (h : p ≤ n) : blen n = k + blen (n / p) := by
  subst hp
  obtain ⟨m, rfl⟩ := Int.eq_ofNat_of_zero_le (Int.le_trans (by have := Int.pow_pos (n := 2) (m := k) (by decide); omega) h)
  have h' : 2 ^ k ≤ m := by exact_mod_cast h
  have hp : 0 < 2 ^ k := Nat.two_pow_pos k
  have hq := Nat.div_pos h' hp
  have e : ((m : Int) / 2 ^ k) = ((m / 2 ^ k : Nat) : Int) := by simp
  unfold blen
  rw [e, if_neg (by omega), if_neg (by omega), Int.toNat_natCast, Int.toNat_natCast, zdb h']
  omega
theorem len8 : ∀ i : Fin 256, ([0, 1, 2, 2, 3, 3, 3, 3, 4, 4, 4, 4, 4, 4, 4, 4] ++ List.replicate 16 5 ++ List.replicate 32 6 ++ List.replicate 64 7 ++ List.replicate 128 8 : List UInt8)[i.val]? = some (UInt8.ofNat (if i.val = 0 then 0 else Nat.log2 i.val + 1)) := by decide +kernel
theorem len8' {tab : List UInt8} (ht : tab = [0, 1, 2, 2, 3, 3, 3, 3, 4, 4, 4, 4, 4, 4, 4, 4] ++ List.replicate 16 5 ++ List.replicate 32 6 ++ List.replicate 64 7 ++ List.replicate 128 8) {n : Int} (h : 0 ≤ n ∧ n < 256) : tab[n.toNat]? = some (UInt8.ofNat (blen n).toNat) := by
  have := len8 ⟨n.toNat, by omega⟩
  rw [ht, this]
  unfold blen
  by_cases h0 : n = 0
  · subst h0; rfl
  · rw [if_neg (by show ¬ n.toNat = 0; omega), if_neg (by omega)]
    congr 1
theorem len8t {n : Int} (h : 0 ≤ n ∧ n < 256) : tab0[n.toNat]? = some (UInt8.ofNat (blen n).toNat) := len8' (by decide +kernel) h
theorem qgx (n : Int) : 0 ≤ blen n := by unfold blen; split <;> omega
theorem qwk {n : Int} {k : Nat} (h : n < 2 ^ k) : blen n ≤ k := by
  unfold blen
  split
  · omega
  · have h' : n.toNat < 2 ^ k := by
      have : (n.toNat : Int) < ((2 ^ k : Nat) : Int) := by rw [Int.toNat_of_nonneg (by omega)]; exact_mod_cast h
      exact_mod_cast this
    have := (Nat.log2_lt (by omega)).2 h'
    omega
theorem zbf {n : Int} (h : 0 < n) : (2 : Int) ^ ((blen n).toNat - 1) ≤ n ∧ n < 2 ^ (blen n).toNat := by
  unfold blen
  rw [if_neg (by omega)]
  have h1 := (Nat.log2_eq_iff (n := n.toNat) (by omega)).1 rfl
  have e : ((n.toNat.log2 : Int) + 1).toNat = n.toNat.log2 + 1 := by omega
  rw [e, Nat.add_sub_cancel]
  obtain ⟨m, rfl⟩ := Int.eq_ofNat_of_zero_le (Int.le_of_lt h)
  rw [Int.toNat_natCast] at *
  refine ⟨by exact_mod_cast h1.1, by exact_mod_cast h1.2⟩
theorem qxy {x : Int} (h : 0 ≤ x ∧ x < 4294967296) : callE T0 X0 qpi [.d (.int .u32 x)] [] = some (.ret [.d (.int .i64 (blen x))] []) := by
  rw [qab (af := qg4) rfl rfl rfl]
  have b8 : ∀ {y : Int}, 0 ≤ y → y < 256 → blen y ≤ 8 := fun _ hy => qwk (k := 8) (by omega)
  by_cases h1 : 65536 ≤ x
  · have e1 := q0i (n := x) (k := 16) (p := 65536) rfl h1
    by_cases h2 : 256 ≤ x / 65536
    · have e2 := q0i (n := x / 65536) (k := 8) (p := 256) rfl h2
      have e3 := b8 (y := x / 65536 / 256) (by omega) (by omega)
      have e4 := qgx (x / 65536 / 256)
      rw [e1, e2]
      simp -implicitDefEqProofs (disch := omega) [qg4, len8t]
      omega
    · have e3 := b8 (y := x / 65536) (by omega) (by omega)
      have e4 := qgx (x / 65536)
      rw [e1]
      simp -implicitDefEqProofs (disch := omega) [qg4, len8t]
      omega
  · by_cases h2 : 256 ≤ x
    · have e2 := q0i (n := x) (k := 8) (p := 256) rfl h2
      have e3 := b8 (y := x / 256) (by omega) (by omega)
      have e4 := qgx (x / 256)
      rw [e2]
      simp -implicitDefEqProofs (disch := omega) [qg4, len8t]
      omega
    · have e3 := b8 (y := x) (by omega) (by omega)
      have e4 := qgx x
      simp -implicitDefEqProofs (disch := omega) [qg4, len8t]
      omega
theorem zaa {x : Int} (h : 0 ≤ x ∧ x < 4294967296) : callE T0 X0 qki [.d (.int .u32 x)] [] = some (.ret [.d (.int .i64 (32 - blen x))] []) := by
  rw [qab (af := qe3) rfl rfl rfl]
  have e3 := qwk (n := x) (k := 32) (by omega)
  have e4 := qgx x
  have s1 := qxy h
  simp -implicitDefEqProofs (disch := omega) [qe3, s1]
theorem qsr {n : Int} (h : 0 ≤ n ∧ n < 18446744073709551616) : callE T0 X0 qk8 [.d (.int .u64 n)] [] = some (.ret [.d (.sl (L (limbs n)))] []) := by
  rw [qab (af := qlf) rfl rfl rfl]
  have s1 := qa2 (xs := [n % 4294967296, n / 4294967296]) (qf9.2 ⟨by omega, qf9.2 ⟨by omega, Good.nil⟩⟩) (by simp)
  have e : nv [n % 4294967296, n / 4294967296] = n := by simp only [nv]; omega
  rw [e] at s1
  simp only [q3b, L_nil] at s1
  have w := wl_L [n % 4294967296, n / 4294967296]
  simp only [q3b, L_nil] at w
  simp -implicitDefEqProofs (disch := omega) [qlf, s1, w]
def nlen (n : Int) : Int := (limbs n).length
theorem zbg {xs : List Int} (hg : Good xs) (hs : xs.length ≤ 1099511627776) : callE T0 X0 qpf [.d (.sl (L xs))] [] =
    some (.ret [.d (.int .i64 (if nv xs = 0 then 0 else 32 * (nlen (nv xs) - 1) + blen (nth (limbs (nv xs)) ((limbs (nv xs)).length - 1))))] []) := by
  rw [qab (af := qko) rfl rfl rfl]
  have s1 := qa2 hg hs
  have l1 : (limbs (nv xs)).length ≤ xs.length := qa7 (qae hg).1 (qae hg).2
  by_cases h0 : nv xs = 0
  · rw [if_pos h0]
    rw [h0, qxw] at s1
    simp -implicitDefEqProofs (disch := omega) [qko, s1]
  · rw [if_neg h0]
    have hn : (limbs (nv xs)).length ≠ 0 := by
      intro h
      exact h0 ((qni (qae hg).1).1 (List.eq_nil_of_length_eq_zero h))
    have g := (qaq (nv xs)).nth ((limbs (nv xs)).length - 1)
    have s2 := qxy g
    have e3 := qwk (n := nth (limbs (nv xs)) ((limbs (nv xs)).length - 1)) (k := 32) (by omega)
    have e4 := qgx (nth (limbs (nv xs)) ((limbs (nv xs)).length - 1))
    unfold nlen
    generalize limbs (nv xs) = as at *
    simp -implicitDefEqProofs (disch := omega) [qko, s1, s2, -List.length_eq_zero_iff]
end Go.Rf

namespace Go.Rf
theorem zag (m : Int) (hm : 0 ≤ m ∧ m < 4294967296) (k : Nat) (hk : k ≤ 1099511627776) : ∀ d i (xs : List Int) (c : Int), d + i = xs.length → xs.length = k → Good xs → 0 ≤ c → c < 4294967296 →
    ∃ xs' c', codeX T0 X0 1 qi6 (some (.nrm, ⟨[(0, .ref (.b 0) ⟨1, 4⟩ 0 k), (1, .d (.int .u32 m)), (7, .d (.int .u64 c)), (12, .d (.int .i64 k)), (13, .d (.int .i64 i))], [.arr (LV xs) ⟨1, 4⟩]⟩)) = some (.exit 0, ⟨[(0, .ref (.b 0) ⟨1, 4⟩ 0 k), (7, .d (.int .u64 c'))], [.arr (LV xs') ⟨1, 4⟩]⟩) ∧
      xs'.length = k ∧ Good xs' ∧ 0 ≤ c' ∧ c' < 4294967296 ∧ nv xs' + pw k * c' = nv (xs.take i) + pw i * (c + m * nv (xs.drop i)) := by
  intro d
  induction d with
  | zero =>
    intro i xs c hd hl hg hc hc1
    have : i = k := by omega
    subst this
    refine ⟨xs, c, ?_, hl, hg, hc, hc1, ?_⟩
    · rw [qac (l := qi6) rfl]
      simp -implicitDefEqProofs (disch := omega) [ql4]
    · rw [← hl, List.take_length, List.drop_length]
      simp [nv]
  | succ d ih =>
    intro i xs c hd hl hg hc hc1
    have n1 := hg.nth i
    have n2 := q19 n1 hm
    rw [qac (l := qi6) rfl]
    obtain ⟨xs', c', h1, h2, h3, h4, h5, h6⟩ := ih (i + 1) (xs.set i ((c + nth xs i * m) % 4294967296)) ((c + nth xs i * m) / 4294967296) (by simp; omega) (by simp [hl]) (qg7 hg _ (by omega)) (by omega) (by omega)
    refine ⟨xs', c', ?_, h2, h3, h4, h5, ?_⟩
    · rw [← h1]
      simp -implicitDefEqProofs (disch := omega) [ql4]
    · rw [h6, qn0 (by omega)]
      have e1 : xs.drop i = nth xs i :: xs.drop (i + 1) := by
        rw [List.drop_eq_getElem_cons (by omega)]
        simp [nth, show i < xs.length by omega]
      have e2 : (xs.set i ((c + nth xs i * m) % 4294967296)).drop (i + 1) = xs.drop (i + 1) := by
        rw [List.drop_set_of_lt (by omega)]
      rw [e1, e2, nv]
      have e3 := qk6 i (c + nth xs i * m)
      have e4 : pw i * (m * (4294967296 * nv (xs.drop (i + 1)))) = pw (i + 1) * (m * nv (xs.drop (i + 1))) := by
        rw [pw, Int.mul_left_comm m, ← Int.mul_assoc (pw i), Int.mul_comm (pw i)]
      have e5 : m * nth xs i = nth xs i * m := Int.mul_comm ..
      simp only [Int.mul_add, e4, e5] at e3 ⊢
      omega
theorem q2i {m n : Int} (hm : 0 ≤ m ∧ m < 4294967296) (hn : 0 ≤ n ∧ n < 4294967296) {xs : List Int} (hk : xs.length < 1099511627775) (hg : Good xs) :
    ∃ xs', Good xs' ∧ nv xs' = n + m * nv xs ∧ ((xs'.length = xs.length ∧
    callE T0 X0 qmi [.ref (.b 0) ⟨1, 4⟩ 0 xs.length, .d (.int .u32 m), .d (.int .u32 n)] [.arr (LV xs) ⟨1, 4⟩] = some (.ret [.ref (.b 0) ⟨1, 4⟩ 0 xs.length] [.arr (LV xs') ⟨1, 4⟩])) ∨
    (xs'.length = xs.length + 1 ∧ callE T0 X0 qmi [.ref (.b 0) ⟨1, 4⟩ 0 xs.length, .d (.int .u32 m), .d (.int .u32 n)] [.arr (LV xs) ⟨1, 4⟩] = some (.ret [.ref (.b 1) ⟨1, 4⟩ 0 (xs.length + 1)] [.dead, .arr (LV xs') ⟨1, 4⟩]))) := by
  rw [qab (af := qkm) rfl rfl rfl]
  obtain ⟨xs', c', h1, h2, h3, h4, h5, h6⟩ := zag m hm xs.length (by omega) xs.length 0 xs n (by omega) rfl hg hn.1 hn.2
  simp only [Int.cast_ofNat_Int, List.take_zero, List.drop_zero, nv, pw, Int.zero_add, Int.one_mul] at h1 h6
  by_cases hc : c' = 0
  · subst hc
    refine ⟨xs', h3, by omega, .inl ⟨h2, ?_⟩⟩
    simp -implicitDefEqProofs (disch := omega) [qkm, h1]
  · refine ⟨xs' ++ [c'], qun.2 ⟨h3, qf9.2 ⟨⟨h4, h5⟩, Good.nil⟩⟩, by rw [qzw, h2]; exact h6, .inr ⟨by simp [h2], ?_⟩⟩
    have ht : xs'.take xs.length = xs' := List.take_of_length_le (by omega)
    simp -implicitDefEqProofs (disch := omega) [qkm, h1, ht]
theorem qwc {s : List UInt8} {i : Nat} (h : i < s.length) : 1 ≤ (dec s i).2 ∧ i + (dec s i).2 ≤ s.length ∧ (dec s i).2 ≤ 4 ∧ (dec s i).1 ≤ 1114111 := by
  have hsz : (ByteArray.mk s.toArray).size = s.length := by simp [ByteArray.size]
  have := q2u ⟨s.toArray⟩ i (by omega) _ rfl
  rw [hsz] at this
  exact ⟨this.1, this.2.1, this.2.2.1, this.2.2.2.1⟩
def decV (s : List UInt8) : Nat → Nat → Int → Option Int
  | 0, _, v => some v
  | f + 1, i, v => if i < s.length then (if (dec s i).1 < 48 ∨ 57 < (dec s i).1 then none else decV s f (i + (dec s i).2) (10 * v + ((dec s i).1 - 48 : Int))) else some v
theorem qwd (s : List UInt8) : ∀ f i v w, 0 ≤ v → decV s f i v = some w → 0 ≤ w
  | 0, _, v, w, h, e => by cases e; exact h
  | f + 1, i, v, w, h, e => by
    unfold decV at e
    split at e
    · split at e
      · cases e
      · exact qwd s f _ _ _ (by omega) e
    · cases e; exact h
theorem q7l (s : List UInt8) (hs : s.length ≤ 5120) : ∀ f i (xs : List Int) (n m : Int) (e : List (Nat × V)), s.length - i < f → i ≤ s.length → Good xs → xs.length ≤ i →
    (m = 1 ∨ m = 10 ∨ m = 100 ∨ m = 1000 ∨ m = 10000 ∨ m = 100000 ∨ m = 1000000 ∨ m = 10000000 ∨ m = 100000000) → 0 ≤ n → n < m →
    (decV s f i (nv xs * m + n) = none ∧ codeX T0 X0 0 qhw (some (.nrm, ⟨(4, .ref (.b 0) ⟨1, 4⟩ 0 xs.length) :: (5, .d (.int .u32 n)) :: (6, .d (.int .u32 m)) :: (20, .iter (.b 1)) :: e, [.arr (LV xs) ⟨1, 4⟩, .iter s i]⟩)) = some (.ret, ⟨[(2, .d (.sl [])), (3, .d (.int .i64 10))], []⟩)) ∨
    (∃ xs' n' m', decV s f i (nv xs * m + n) = some (nv xs' * m' + n') ∧ Good xs' ∧ xs'.length ≤ s.length ∧ 0 ≤ n' ∧ n' < m' ∧ m' ≤ 100000000 ∧
      codeX T0 X0 0 qhw (some (.nrm, ⟨(4, .ref (.b 0) ⟨1, 4⟩ 0 xs.length) :: (5, .d (.int .u32 n)) :: (6, .d (.int .u32 m)) :: (20, .iter (.b 1)) :: e, [.arr (LV xs) ⟨1, 4⟩, .iter s i]⟩)) = some (.exit 0, ⟨[(4, .ref (.b 0) ⟨1, 4⟩ 0 xs'.length), (5, .d (.int .u32 n')), (6, .d (.int .u32 m'))], [.arr (LV xs') ⟨1, 4⟩]⟩)) := by
  intro f
  induction f with
  | zero => intros; omega
  | succ f ih =>
    intro i xs n m e hf hi hg hx hm hn hnm
    rw [qac (l := qhw) rfl]
    unfold decV
    by_cases hlt : i < s.length
    · rw [if_pos hlt]
      obtain ⟨d1, d2, d3, d4⟩ := qwc hlt
      by_cases hbad : (dec s i).1 < 48 ∨ 57 < (dec s i).1
      · rw [if_pos hbad]
        refine .inl ⟨rfl, ?_⟩
        rcases hbad with hbad | hbad <;> simp -implicitDefEqProofs (disch := omega) [qd1]
      · rw [if_neg hbad]
        by_cases hb : m = 100000000
        · subst hb
          obtain ⟨xs1, g1, v1, g2⟩ := q2i (m := 1000000000) (n := 10 * n + ((dec s i).1 - 48)) (by omega) (by omega) (xs := xs) (by omega) hg
          have := ih (i + (dec s i).2) xs1 0 1 [] (by omega) (by omega) g1 (by omega) (by omega) (by omega) (by omega)
          have ev : nv xs1 * 1 + 0 = 10 * (nv xs * 100000000 + n) + ((dec s i).1 - 48) := by omega
          rw [ev] at this
          rcases this with ⟨h1, h2⟩ | ⟨xs', n', m', h1, h2, h3, h4, h5, h6, h7⟩
          · refine .inl ⟨h1, ?_⟩
            rw [← h2]
            rcases g2 with ⟨g2, g3⟩ | ⟨g2, g3⟩ <;> rw [g2] <;> simp -implicitDefEqProofs (disch := omega) [qd1, g3]
          · refine .inr ⟨xs', n', m', h1, h2, h3, h4, h5, h6, ?_⟩
            rw [← h7]
            rcases g2 with ⟨g2, g3⟩ | ⟨g2, g3⟩ <;> rw [g2] <;> simp -implicitDefEqProofs (disch := omega) [qd1, g3]
        · have := ih (i + (dec s i).2) xs (10 * n + ((dec s i).1 - 48)) (10 * m) [(39, .d (.bool false))] (by omega) (by omega) hg (by omega) (by omega) (by omega) (by omega)
          have ev : nv xs * (10 * m) + (10 * n + (((dec s i).1 : Int) - 48)) = 10 * (nv xs * m + n) + ((dec s i).1 - 48) := by
            rw [Int.mul_left_comm, Int.mul_add]
            omega
          rw [ev] at this
          rcases this with ⟨h1, h2⟩ | ⟨xs', n', m', h1, h2, h3, h4, h5, h6, h7⟩
          · refine .inl ⟨h1, ?_⟩
            rw [← h2]
            simp -implicitDefEqProofs (disch := omega) [qd1]
          · refine .inr ⟨xs', n', m', h1, h2, h3, h4, h5, h6, ?_⟩
            rw [← h7]
            simp -implicitDefEqProofs (disch := omega) [qd1]
    · rw [if_neg hlt]
      refine .inr ⟨xs, n, m, rfl, hg, by omega, hn, hnm, by omega, ?_⟩
      simp -implicitDefEqProofs (disch := omega) [qd1]
def qto (s : List UInt8) : Option Int := if s = [] then none else decV s (s.length + 1) 0 0
theorem qxk {s : List UInt8} (hs : s.length ≤ 5120) : callE T0 X0 qk9 [.d (.str s)] [] =
    some (.ret (match qto s with | none => [.d (.sl []), .d (.int .i64 10)] | some v => [.d (.sl (L (limbs v))), .d (.int .i64 0)]) []) := by
  rw [qab (af := qf2) rfl rfl rfl]
  unfold qto
  by_cases h0 : s = []
  · rw [if_pos h0]
    subst h0
    simp -implicitDefEqProofs (disch := omega) [qf2]
  · rw [if_neg h0]
    have he : s.isEmpty = false := by simp [h0]
    have := q7l s hs (s.length + 1) 0 [] 0 1 [] (by omega) (by omega) Good.nil (by simp) (by omega) (by omega) (by omega)
    simp only [List.length_nil, q6q, nv] at this
    rcases this with ⟨h1, h2⟩ | ⟨xs', n', m', h1, h2, h3, h4, h5, h6, h7⟩
    · rw [show (0 : Int) * 1 + 0 = 0 from rfl] at h1
      rw [h1]
      simp -implicitDefEqProofs (disch := omega) [qf2, h2, he]
    · rw [show (0 : Int) * 1 + 0 = 0 from rfl] at h1
      rw [h1]
      obtain ⟨xs1, g1, v1, g2⟩ := q2i (m := m') (n := n') (by omega) (by omega) (xs := xs') (by omega) h2
      have s1 := qa2 g1 (by omega)
      have l1 : (limbs (nv xs1)).length ≤ xs1.length := qa7 (qae g1).1 (qae g1).2
      have ev : nv xs1 = nv xs' * m' + n' := by rw [v1, Int.mul_comm m']; omega
      rw [ev] at s1 l1
      rcases g2 with ⟨g2, g3⟩ | ⟨g2, g3⟩
      · have ht : xs1.take xs'.length = xs1 := List.take_of_length_le (by omega)
        simp -implicitDefEqProofs (disch := omega) [qf2, h7, he, g3, s1, ht]
      · have ht : xs1.take (xs'.length + 1) = xs1 := List.take_of_length_le (by omega)
        simp -implicitDefEqProofs (disch := omega) [qf2, h7, he, g3, s1, ht]
end Go.Rf

namespace Go.Rf
theorem or64 {x y : Int} (hx : 0 ≤ x) (hy : 0 ≤ y ∧ y < 4294967296) (h : x < 4294967296) : orK .u64 (x * 4294967296) y = x * 4294967296 + y := by
  obtain ⟨a, rfl⟩ := Int.eq_ofNat_of_zero_le hx
  obtain ⟨b, rfl⟩ := Int.eq_ofNat_of_zero_le hy.1
  unfold orK
  rw [BitVec.toNat_or]
  have e1 : (BitVec.ofInt IntKind.u64.bits ((a : Int) * 4294967296)).toNat = 2 ^ 32 * a := by
    rw [show ((a : Int) * 4294967296) = ((2 ^ 32 * a : Nat) : Int) by omega, BitVec.ofInt_natCast, BitVec.toNat_ofNat]
    exact Nat.mod_eq_of_lt (by show _ < 2 ^ 64; omega)
  have e2 : (BitVec.ofInt IntKind.u64.bits (b : Int)).toNat = b := by
    rw [BitVec.ofInt_natCast, BitVec.toNat_ofNat]
    exact Nat.mod_eq_of_lt (by show _ < 2 ^ 64; omega)
  rw [e1, e2, ← Nat.two_pow_add_eq_or_of_lt (by omega), qye (by omega)]
  omega
theorem qgn {xs : List Int} {i : Nat} (h : i < xs.length) : xs.drop i = nth xs i :: xs.drop (i + 1) := by
  rw [List.drop_eq_getElem_cons h]
  simp [nth, h]
theorem q0d {xs : List Int} {i : Nat} (h : i < xs.length) (y : Int) : (xs.set i y).drop i = y :: xs.drop (i + 1) := by
  rw [qgn (by simpa using h), qjm h, if_pos rfl, List.drop_set_of_lt (by omega)]
theorem q4q (as : List Int) (b : Int) (hs : as.length ≤ 1099511627776) (ha : Good as) (hb : 0 < b ∧ b < 4294967296) : ∀ k (out : List Int) (r : Int), k ≤ as.length → out.length = as.length → Good out → 0 ≤ r → r < b →
    nv (as.drop k) = b * nv (out.drop k) + r →
    ∃ out' r', codeX T0 X0 0 qha (some (.nrm, ⟨[(0, .d (.sl (L as))), (1, .d (.int .u32 b)), (6, .ref (.b 0) ⟨1, 4⟩ 0 as.length), (7, .d (.int .u64 r)), (8, .d (.int .i64 ((k : Int) - 1)))], [.arr (LV out) ⟨1, 4⟩]⟩)) = some (.exit 0, ⟨[(6, .ref (.b 0) ⟨1, 4⟩ 0 as.length), (7, .d (.int .u64 r'))], [.arr (LV out') ⟨1, 4⟩]⟩) ∧
      out'.length = as.length ∧ Good out' ∧ 0 ≤ r' ∧ r' < b ∧ nv as = b * nv out' + r' := by
  intro k
  induction k with
  | zero =>
    intro out r _ ho hg h0 h1 hv
    refine ⟨out, r, ?_, ho, hg, h0, h1, by simpa using hv⟩
    rw [qac (l := qha) rfl]
    simp -implicitDefEqProofs (disch := omega) [qju]
  | succ k ih =>
    intro out r hk ho hg h0 h1 hv
    have n1 := ha.nth k
    rw [qac (l := qha) rfl]
    have hx : 0 ≤ r * 4294967296 + nth as k := by omega
    have hq0 : 0 ≤ (r * 4294967296 + nth as k) / b := Int.ediv_nonneg hx (by omega)
    have hq : (r * 4294967296 + nth as k) / b < 4294967296 := Int.ediv_lt_of_lt_mul (by omega) (by
      have : (r + 1) * 4294967296 ≤ b * 4294967296 := Int.mul_le_mul_of_nonneg_right (by omega) (by omega)
      omega)
    have hr0 := Int.emod_nonneg (r * 4294967296 + nth as k) (show b ≠ 0 by omega)
    have hr1 := Int.emod_lt_of_pos (r * 4294967296 + nth as k) hb.1
    obtain ⟨out', r', h2, h3⟩ := ih (out.set k ((r * 4294967296 + nth as k) / b)) ((r * 4294967296 + nth as k) % b) (by omega) (by simp [ho]) (qg7 hg _ ⟨hq0, hq⟩) hr0 hr1 (by
      rw [qgn (by omega), q0d (by omega)]
      simp only [nv, hv]
      have e1 := Int.mul_ediv_add_emod (r * 4294967296 + nth as k) b
      have e2 : b * (4294967296 * nv (out.drop (k + 1))) = 4294967296 * (b * nv (out.drop (k + 1))) := Int.mul_left_comm ..
      simp only [Int.mul_add, e2]
      omega)
    refine ⟨out', r', ?_, h3⟩
    rw [← h2]
    simp -implicitDefEqProofs (disch := omega) [qju, or64, Int.emod_eq_of_lt]
theorem qwh {xs : List Int} {b : Int} (hx : Good xs) (hs : xs.length < 1099511627776) (hb : 0 < b ∧ b < 4294967296) :
    callE T0 X0 qmx [.d (.sl (L xs)), .d (.int .u32 b)] [] = some (.ret [.d (.sl (L (limbs (nv xs / b)))), .d (.int .u32 (nv xs % b))] []) := by
  rw [qab (af := qj1) rfl rfl rfl]
  obtain ⟨out, r, h1, ho, hg, h0, hr, hv⟩ := q4q xs b (by omega) hx hb xs.length (List.replicate xs.length 0) 0 (by omega) (by simp) (qpu _) (by omega) hb.1 (by simp [nv])
  have e1 : nv xs / b = nv out := by
    rw [hv, Int.add_comm, Int.add_mul_ediv_left _ _ (by omega), Int.ediv_eq_zero_of_lt h0 hr, Int.zero_add]
  have e2 : nv xs % b = r := by
    rw [hv, Int.add_comm, Int.add_mul_emod_self_left, Int.emod_eq_of_lt h0 hr]
  rw [e1, e2]
  have s1 := qa2 hg (by omega)
  have ht : out.take xs.length = out := List.take_of_length_le (by omega)
  simp -implicitDefEqProofs (disch := omega) [qj1, h1, s1, ht]
def B8 (s : List UInt8) : List V := s.map fun c => .d (.int .u8 c.toNat)
@[simp] theorem B8_len (s) : (B8 s).length = s.length := by simp [B8]
@[simp] theorem qqe : B8 [] = [] := rfl
@[simp] theorem B8_take (s n) : (B8 s).take n = B8 (s.take n) := by simp [B8, List.map_take]
@[simp] theorem B8_drop (s n) : (B8 s).drop n = B8 (s.drop n) := by simp [B8, List.map_drop]
@[simp] theorem B8_app1 (s : List UInt8) (c : UInt8) : B8 s ++ [.d (.int .u8 c.toNat)] = B8 (s ++ [c]) := by simp [B8]
@[simp] theorem B8_rep (n : Nat) : List.replicate n (V.d (.int .u8 0)) = B8 (List.replicate n 0) := by simp [B8]
theorem B8_get {s : List UInt8} {i : Nat} (h : i < s.length) : (B8 s)[i]? = some (.d (.int .u8 (s.getD i 0).toNat)) := by simp [B8, h]
@[simp] theorem B8_set (s : List UInt8) (i : Nat) (c : UInt8) : (B8 s).set i (.d (.int .u8 c.toNat)) = B8 (s.set i c) := by simp [B8, List.map_set]
@[simp] theorem B8_cells (s) : (∀ x ∈ B8 s, x.cells.length = 1) = True := eq_true (by
  intro x hx
  obtain ⟨n, _, rfl⟩ := List.mem_map.1 hx
  rfl)
@[simp] theorem rens_B8 (al : Loc → Bool) (s) (m : List Loc) : rens al (B8 s) m = (B8 s, m) := by
  have : B8 s = (s.map fun c => (D.int .u8 c.toNat)).map V.d := by simp [B8]
  rw [this]; exact qpo ..
@[simp] theorem mapLs_B8 (f : Loc → Loc) (s) : mapLs f (B8 s) = B8 s := by
  induction s with
  | nil => rfl
  | cons x xs ih =>
    show V.mapL f (.d _) :: mapLs f (B8 xs) = _
    rw [ih]
    rfl
@[simp] theorem bytesOf_B8 (s) : qjr (B8 s) = some s := by
  induction s with
  | nil => rfl
  | cons c s ih =>
    show qjr (.d (.int .u8 c.toNat) :: B8 s) = _
    simp [qjr, ih]
attribute [simp] B8_get
def dig (r : Int) : UInt8 := UInt8.ofNat (48 + (r % 10).toNat)
theorem ze4 {r : Int} (h : 0 ≤ r) : 48 + r % 10 = ((dig r).toNat : Int) := by
  unfold dig
  have : (r % 10).toNat < 10 := by omega
  rw [UInt8.toNat_ofNat', Nat.mod_eq_of_lt (by omega)]
  omega
def inF : Nat → Int → Bool → List UInt8
  | 0, _, _ => []
  | f + 1, r, more => if 0 < r ∨ more = true then dig r :: inF f (r / 10) more else []
def backF : Nat → Int → List UInt8
  | 0, _ => []
  | f + 1, n => if n ≤ 0 then [] else inF 9 (n % 1000000000) (decide (0 < n / 1000000000)) ++ backF f (n / 1000000000)
theorem qz3 : ∀ f r b, (inF f r b).length ≤ f
  | 0, _, _ => Nat.le_refl _
  | f + 1, r, b => by
    unfold inF
    split
    · have := qz3 f (r / 10) b
      simp only [List.length_cons]; omega
    · simp
theorem zfr (q : Int) (hq : 0 ≤ q) (hs : (limbs q).length ≤ 1099511627776) : ∀ f (i : Nat) (r : Int) (back : List UInt8), f + i = 9 → back.length + f ≤ 1099511627 → 0 ≤ r → r < 4294967296 →
    codeX T0 X0 0 qi9 (some (.nrm, ⟨[(0, .d (.sl (L (limbs q)))), (3, .ref (.b 0) ⟨1, 1⟩ 0 back.length), (4, .d (.int .u32 r)), (5, .d (.int .i64 i))], [.arr (B8 back) ⟨1, 1⟩]⟩)) =
      some (.exit 2, ⟨[(0, .d (.sl (L (limbs q)))), (3, .ref (.b 0) ⟨1, 1⟩ 0 (back ++ inF f r (decide (0 < q))).length)], [.arr (B8 (back ++ inF f r (decide (0 < q)))) ⟨1, 1⟩]⟩) := by
  intro f
  induction f with
  | zero =>
    intro i r back hi hb h0 h1
    rw [qac (l := qi9) rfl]
    simp -implicitDefEqProofs (disch := omega) [qg0, inF]
  | succ f ih =>
    intro i r back hi hb h0 h1
    have hn : (limbs q).length = 0 ↔ q = 0 := by rw [List.length_eq_zero_iff]; exact qni hq
    rw [qac (l := qi9) rfl]
    unfold inF
    by_cases hc : 0 < r ∨ decide (0 < q) = true
    · rw [if_pos hc]
      have e := ze4 h0
      have s1 := ih (i + 1) (r / 10) (back ++ [dig r]) (by omega) (by simp; omega) (by omega) (by omega)
      rw [List.append_assoc, List.singleton_append] at s1
      rw [← s1]
      by_cases hr : 0 < r
      · simp -implicitDefEqProofs (disch := omega) [qg0, e]
      · have hq1 : 0 < q := by simpa [hr] using hc
        have hn' : (limbs q).length ≠ 0 := fun h => by have := hn.1 h; omega
        simp -implicitDefEqProofs (disch := omega) [qg0, e, -List.length_eq_zero_iff]
    · rw [if_neg hc]
      simp at hc
      have hq0 : q = 0 := by omega
      subst hq0
      simp -implicitDefEqProofs (disch := omega) [qg0]
theorem qsi : ∀ f n, (backF f n).length ≤ 9 * f
  | 0, _ => Nat.le_refl _
  | f + 1, n => by
    unfold backF
    split
    · simp
    · have := qz3 9 (n % 1000000000) (decide (0 < n / 1000000000))
      have := qsi f (n / 1000000000)
      simp only [List.length_append]; omega
def tens : Nat → Int
  | 0 => 1
  | f + 1 => 1000000000 * tens f
theorem qnq : ∀ f, 0 < tens f ∧ tens f ≤ pw f
  | 0 => by simp [tens, pw]
  | f + 1 => by have := qnq f; simp only [tens, pw]; omega
theorem zb6 : ∀ f (n : Int) (back : List UInt8), back.length + 9 * f ≤ 1099511627 → 0 ≤ n → n < tens f →
    codeX T0 X0 0 qi8 (some (.nrm, ⟨[(0, .d (.sl (L (limbs n)))), (3, .ref (.b 0) ⟨1, 1⟩ 0 back.length)], [.arr (B8 back) ⟨1, 1⟩]⟩)) =
      some (.exit 0, ⟨[(3, .ref (.b 0) ⟨1, 1⟩ 0 (back ++ backF f n).length)], [.arr (B8 (back ++ backF f n)) ⟨1, 1⟩]⟩) := by
  intro f
  induction f with
  | zero =>
    intro n back hb h0 h1
    have : n = 0 := by simp only [tens] at h1; omega
    subst this
    rw [qac (l := qi8) rfl]
    simp -implicitDefEqProofs (disch := omega) [qja, backF]
  | succ f ih =>
    intro n back hb h0 h1
    rw [qac (l := qi8) rfl]
    unfold backF
    have hl : (limbs n).length ≤ f + 1 := qa7 h0 (by have := (qnq (f + 1)).2; omega)
    have hn : (limbs n).length = 0 ↔ n = 0 := by rw [List.length_eq_zero_iff]; exact qni h0
    by_cases hz : n ≤ 0
    · rw [if_pos hz]
      have : n = 0 := by omega
      subst this
      simp -implicitDefEqProofs (disch := omega) [qja]
    · rw [if_neg hz]
      have hn' : (limbs n).length ≠ 0 := fun h => by have := hn.1 h; omega
      have s0 := qwh (qaq n) (b := 1000000000) (by omega) (by omega)
      rw [qbu h0] at s0
      have hq : n / 1000000000 < tens f := by simp only [tens] at h1; omega
      have hl' : (limbs (n / 1000000000)).length ≤ f := qa7 (by omega) (by have := (qnq f).2; omega)
      have s1 := zfr (n / 1000000000) (by omega) (by omega) 9 0 (n % 1000000000) back rfl (by omega) (by omega) (by omega)
      have hi := qz3 9 (n % 1000000000) (decide (0 < n / 1000000000))
      have s2 := ih (n / 1000000000) (back ++ inF 9 (n % 1000000000) (decide (0 < n / 1000000000))) (by simp only [List.length_append]; omega) (by omega) hq
      rw [List.append_assoc] at s2
      rw [← s2]
      simp only [Int.cast_ofNat_Int] at s1
      simp -implicitDefEqProofs (disch := omega) [qja, s0, s1, -List.length_eq_zero_iff]
theorem q8w (back : List UInt8) (hb : back.length ≤ 1099511627) : ∀ d i (out : List UInt8), d + i = back.length → out.length = back.length → out.drop (back.length - i) = (back.take i).reverse →
    codeX T0 X0 0 qi7 (some (.nrm, ⟨[(3, .ref (.b 0) ⟨1, 1⟩ 0 back.length), (6, .ref (.b 1) ⟨1, 1⟩ 0 back.length), (47, .ref (.b 0) ⟨1, 1⟩ 0 back.length), (48, .d (.int .i64 back.length)), (49, .d (.int .i64 i))], [.arr (B8 back) ⟨1, 1⟩, .arr (B8 out) ⟨1, 1⟩]⟩)) =
      some (.exit 4, ⟨[(6, .ref (.b 0) ⟨1, 1⟩ 0 back.length)], [.arr (B8 back.reverse) ⟨1, 1⟩]⟩) := by
  intro d
  induction d with
  | zero =>
    intro i out hd ho hv
    have : i = back.length := by omega
    subst this
    simp at hv
    subst hv
    rw [qac (l := qi7) rfl]
    simp -implicitDefEqProofs (disch := omega) [ql5]
  | succ d ih =>
    intro i out hd ho hv
    rw [qac (l := qi7) rfl]
    have s1 := ih (i + 1) (out.set (back.length - 1 - i) (back.getD i 0)) (by omega) (by simp [ho]) (by
      rw [List.take_add_one, show back.length - (i + 1) = back.length - 1 - i by omega]
      have e : back[i]? = some (back.getD i 0) := by simp [show i < back.length by omega]
      rw [e]
      simp only [Option.toList_some, List.reverse_append, List.reverse_cons, List.reverse_nil, List.nil_append, List.cons_append]
      rw [← hv, List.drop_eq_getElem_cons (by simp; omega)]
      simp only [List.getElem_set_self]
      rw [List.drop_set_of_lt (by omega), show back.length - 1 - i + 1 = back.length - i by omega])
    rw [← s1]
    simp -implicitDefEqProofs (disch := omega) [ql5]
def textV (f : Nat) (n : Int) : List UInt8 := if n = 0 then [48] else (backF f n).reverse
theorem qux {xs : List Int} (hx : Good xs) (f : Nat) (hf : f ≤ 100000) (hs : xs.length ≤ 1099511627776) (h : nv xs < tens f) : callE T0 X0 qmk [.d (.sl (L xs))] [] = some (.ret [.d (.str (textV f (nv xs)))] []) := by
  rw [qab (af := qkn) rfl rfl rfl]
  have h0 := (qae hx).1
  have hl : (limbs (nv xs)).length ≤ f := qa7 h0 (by have := (qnq f).2; omega)
  have s0 := qa2 hx hs
  have hn : (limbs (nv xs)).length = 0 ↔ nv xs = 0 := by rw [List.length_eq_zero_iff]; exact qni h0
  unfold textV
  by_cases hz : nv xs = 0
  · rw [if_pos hz]
    rw [hz] at s0
    simp -implicitDefEqProofs (disch := omega) [qkn, s0]
  · rw [if_neg hz]
    have hn' : (limbs (nv xs)).length ≠ 0 := fun h => hz (hn.1 h)
    have s1 := zb6 f (nv xs) [] (by simp; omega) h0 h
    have hb := qsi f (nv xs)
    have s2 := q8w (backF f (nv xs)) (by omega) (backF f (nv xs)).length 0 (List.replicate (backF f (nv xs)).length 0) (by omega) (by simp) (by simp)
    simp only [List.length_nil, List.nil_append, qqe, Int.cast_ofNat_Int] at s1 s2
    have ht : (backF f (nv xs)).reverse.take (backF f (nv xs)).length = (backF f (nv xs)).reverse := List.take_of_length_le (by simp)
    simp -implicitDefEqProofs (disch := omega) [qkn, s0, s1, s2, ht, -List.length_eq_zero_iff]
end Go.Rf

namespace Go.Rf
def rcF (s : List UInt8) : Nat → Nat → Nat → Nat
  | 0, _, k => k
  | f + 1, i, k => if i < s.length then rcF s f (i + (dec s i).2) (k + 1) else k
theorem zgs (s : List UInt8) (hs : s.length ≤ 1100000) : ∀ f i (k : Nat), s.length - i < f → i ≤ s.length → k ≤ i →
    codeX T0 X0 0 qek (some (.nrm, ⟨[(2, .d (.int .i64 k)), (4, .iter (.b 0))], [.iter s i]⟩)) = some (.exit 0, ⟨[(2, .d (.int .i64 (rcF s f i k)))], []⟩) := by
  intro f
  induction f with
  | zero => intros; omega
  | succ f ih =>
    intro i k hf hi hk
    rw [qac (l := qek) rfl]
    unfold rcF
    by_cases h : i < s.length
    · rw [if_pos h]
      obtain ⟨d1, d2, _⟩ := qwc h
      rw [← ih (i + (dec s i).2) (k + 1) (by omega) (by omega) (by omega)]
      simp -implicitDefEqProofs (disch := omega) [qel]
    · rw [if_neg h]
      simp -implicitDefEqProofs (disch := omega) [qel]
def rc (s : List UInt8) : Nat := rcF s (s.length + 1) 0 0
theorem q9k {s : List UInt8} (hs : s.length ≤ 1100000) : callE T0 X0 qfl [.d (.str s)] [] = some (.ret [.d (.int .i64 (rc s))] []) := by
  rw [qab (af := qdv) rfl rfl rfl]
  have s1 := zgs s hs (s.length + 1) 0 0 (by omega) (by omega) (by omega)
  simp only [Int.cast_ofNat_Int] at s1
  simp -implicitDefEqProofs (disch := omega) [qdv, s1, rc]
def enc (r : Int) : List UInt8 := (Utf8.encode r).data.toList
theorem qra (r : Int) : (Utf8.encode r).data.toList = enc r := rfl
theorem q54 (r : Int) : (Utf8.encode r).size = (enc r).length := by
  rw [← qra, Array.length_toList]
  rfl
theorem zat (r : Int) : (enc r).length ≤ 4 := by
  rw [← q54]
  unfold Utf8.encode
  extract_lets c b
  split
  · exact show 1 ≤ 4 by omega
  · split
    · exact show 2 ≤ 4 by omega
    · split
      · exact show 3 ≤ 4 by omega
      · exact show 4 ≤ 4 by omega
def Sc.sign (s : Sc) : List UInt8 × Sc :=
  if s.next.1 = 8788 then ([58, 61], s.pass) else if s.next.1 = 8800 then ([33, 61], s.pass) else
  if s.next.1 = 58 ∨ s.next.1 = 33 then (if s.pass.next.1 ≠ 61 then ([], s.pass.next.2.early 41 s.pos) else (enc s.next.1 ++ [61], s.pass.pass)) else (enc (fold s.next.1), s.pass)
theorem q04 {s : Sc} (h : s.cls.1 = 5) : 0 ≤ s.next.1 := by
  unfold Sc.cls at h
  by_cases h0 : s.next.1 < 0
  · rw [if_pos h0] at h; exact absurd h (by simp)
  · omega
theorem q03 {s : Sc} (h : s.ok) (hn : 0 ≤ s.next.1) : callE T0 X0 qk4 [.ptr (.b 0) 0 0] [s.obj] = some (.ret [.d (.str s.sign.1)] [s.sign.2.obj]) := by
  rw [qab (af := qbs) rfl rfl rfl]
  have h1 := s.next_le
  obtain ⟨e, hr⟩ := s.next_same hn
  have s0 := qo6 h
  rw [e] at s0
  have s1 := qoy h hr
  unfold Sc.sign
  have hf : -1 ≤ fold s.next.1 ∧ fold s.next.1 ≤ 1114111 := by unfold fold; (repeat' split) <;> omega
  by_cases h2 : s.next.1 = 8788
  · rw [if_pos h2]
    simp only [Sc.obj, Sc.cs] at s0 s1 ⊢
    simp -implicitDefEqProofs (disch := omega) [qbs, s0, s1]
  rw [if_neg h2]
  by_cases h3 : s.next.1 = 8800
  · rw [if_pos h3]
    simp only [Sc.obj, Sc.cs] at s0 s1 ⊢
    simp -implicitDefEqProofs (disch := omega) [qbs, s0, s1]
  rw [if_neg h3]
  by_cases h4 : s.next.1 = 58 ∨ s.next.1 = 33
  · rw [if_pos h4]
    have hp := Sc.pass_ok h hr
    have s2 := qo6 hp
    by_cases h5 : s.pass.next.1 ≠ 61
    · rw [if_pos h5]
      have s3 := qtd s.pass.next.2 41 s.pos
      simp only [Sc.obj, Sc.cs, Pl.cs] at s0 s1 s2 s3 ⊢
      rcases h4 with h4 | h4 <;> simp -implicitDefEqProofs (disch := omega) [qbs, s0, s1, s2, s3]
    · rw [if_neg h5]
      have h5 : s.pass.next.1 = 61 := by omega
      obtain ⟨e2, hr2⟩ := s.pass.next_same (by omega)
      rw [e2] at s2
      have s3 := qoy hp hr2
      simp only [Sc.obj, Sc.cs, Pl.cs] at s0 s1 s2 s3 ⊢
      have he := zat s.next.1
      rcases h4 with h4 | h4 <;> simp -implicitDefEqProofs (disch := omega) [qbs, s0, s1, s2, s3, qra, q54]
  · rw [if_neg h4]
    simp only [Sc.obj, Sc.cs, Pl.cs] at s0 s1 ⊢
    have s3 := zan s.next.1
    simp -implicitDefEqProofs (disch := omega) [qbs, s0, s1, s3, qra]
end Go.Rf

namespace Go.Rf
theorem zaz (s : List UInt8) : ∀ f i v w, 0 ≤ v → decV s f i v = some w → w < (v + 1) * 10 ^ f
  | 0, _, v, w, _, e => by cases e; omega
  | f + 1, i, v, w, h, e => by
    have hp : (0 : Int) < 10 ^ f := Int.pow_pos (by decide)
    unfold decV at e
    split at e
    · split at e
      · cases e
      · rename_i hd
        have := zaz s f _ _ _ (by omega) e
        refine Int.lt_of_lt_of_le this ?_
        rw [Int.pow_succ, Int.mul_comm _ 10, ← Int.mul_assoc]
        exact Int.mul_le_mul_of_nonneg_right (by omega) (by omega)
    · cases e
      have h1 : (v + 1) * 1 ≤ (v + 1) * 10 ^ (f + 1) := Int.mul_le_mul_of_nonneg_left (by have := Int.pow_pos (n := 10) (m := f + 1) (by decide); omega) (by omega)
      omega
theorem zej {a b : Nat} (h : a ≤ b) : (10 : Int) ^ a ≤ 10 ^ b := by
  have := Nat.pow_le_pow_right (n := 10) (by decide) h
  exact_mod_cast this
theorem que : ∀ f, tens f = 10 ^ (9 * f)
  | 0 => rfl
  | f + 1 => by
    rw [tens, que f, Nat.mul_add, Int.pow_add]
    have : (10 : Int) ^ (9 * 1) = 1000000000 := by decide
    rw [this, Int.mul_comm]
def numV (s : List UInt8) : Int := (qto s).getD 0
theorem qs6 {s : List UInt8} (hs : s.length ≤ 4096) : 0 ≤ numV s ∧ numV s < tens 456 := by
  unfold numV
  have ht := (qnq 456).1
  cases h : qto s with
  | none => exact ⟨Int.le_refl _, ht⟩
  | some v =>
    show 0 ≤ v ∧ v < tens 456
    unfold qto at h
    split at h
    · cases h
    · have h1 := zaz s _ _ _ _ (by omega) h
      have h2 := qwd s _ _ _ _ (by omega) h
      refine ⟨h2, Int.lt_of_lt_of_le h1 ?_⟩
      rw [que, Int.zero_add, Int.one_mul]
      exact zej (show s.length + 1 ≤ 9 * 456 by omega)
theorem q3s {s : List UInt8} (hs : s.length ≤ 4096) : ∃ e, callE T0 X0 qk9 [.d (.str s)] [] = some (.ret [.d (.sl (L (limbs (numV s)))), .d (.int .i64 e)] []) := by
  have := qxk (s := s) (by omega)
  unfold numV
  cases h : qto s with
  | none => rw [h] at this; exact ⟨10, this⟩
  | some v => rw [h] at this; exact ⟨0, this⟩
structure Tok where
  kind : Int
  text : List UInt8
  pos : Pl
def Tok.cs (t : Tok) : List D := [.int .i64 t.kind, .str t.text, .int .i64 t.pos.b, .int .i64 t.pos.g, .int .i64 t.pos.l, .int .i64 t.pos.c]
def Sc.run (p : Int → Bool) (s : Sc) : Sc := qfg p (s.rest.length + 1) s
def Sc.ran (p : Int → Bool) (s : Sc) : List UInt8 := s.rest.take (s.rest.length - (s.run p).rest.length)
def Sc.token (s : Sc) : Tok × Sc :=
  if s.cls.1 = 2 then (⟨1, s.ran qbr, s.pos⟩, if 16 < rc (s.ran qbr) then (s.run qbr).early 42 s.pos else s.run qbr)
  else if s.cls.1 = 3 then (⟨2, textV 456 (numV (s.ran qb3)), s.pos⟩, if 32 < (limbs (numV (s.ran qb3))).length then (s.run qb3).early 2 s.pos else s.run qb3)
  else if s.cls.1 = 5 then (⟨3, s.sign.1, s.pos⟩, s.sign.2)
  else if s.cls.1 = -1 then (⟨0, [], s.pos⟩, s.cls.2)
  else (⟨0, [], s.pos⟩, s.cls.2.fail 41 s.cls.2.pos)
theorem zeg (s : List UInt8) : ∀ f i k, i ≤ s.length → k ≤ i → rcF s f i k ≤ s.length
  | 0, i, k, hi, hk => by unfold rcF; omega
  | f + 1, i, k, hi, hk => by
    unfold rcF
    split
    · rename_i h
      have := qwc h
      exact zeg s f _ _ (by omega) (by omega)
    · omega
theorem q6u {s : Sc} (h : s.ok) : callE T0 X0 qkh [.ptr (.b 0) 0 0] [s.obj] = some (.ret [.d (.agg s.token.1.cs)] [s.token.2.obj]) := by
  rw [qab (af := qa8) rfl rfl rfl]
  have hl := h.1
  have h1 := s.cls_le
  have s0 := qpw h
  unfold Sc.token
  by_cases c2 : s.cls.1 = 2
  · rw [if_pos c2]
    obtain ⟨e, hr⟩ := s.cls_same (by omega)
    rw [e] at s0
    have s1 := qxa q0u h
    have h3 : (s.ran qbr).length ≤ s.rest.length := by unfold Sc.ran; rw [List.length_take]; omega
    have s2 := q9k (s := s.ran qbr) (by omega)
    have h2 : rc (s.ran qbr) ≤ 4096 := by
      have := zeg (s.ran qbr) ((s.ran qbr).length + 1) 0 0 (by omega) (by omega)
      exact Nat.le_trans this (by omega)
    have s3 := qtd (s.run qbr) 42 s.pos
    change callE T0 X0 qdm _ _ = some (.ret [.d (.str (s.ran qbr))] [(s.run qbr).obj]) at s1
    by_cases h16 : 16 < rc (s.ran qbr)
    · rw [if_pos h16]
      simp only [Sc.obj, Sc.cs, Pl.cs, Tok.cs] at s0 s1 s2 s3 ⊢
      simp -implicitDefEqProofs (disch := omega) [qa8, s0, s1, s2, s3]
    · rw [if_neg h16]
      simp only [Sc.obj, Sc.cs, Pl.cs, Tok.cs] at s0 s1 s2 s3 ⊢
      simp -implicitDefEqProofs (disch := omega) [qa8, s0, s1, s2]
  rw [if_neg c2]
  by_cases c3 : s.cls.1 = 3
  · rw [if_pos c3]
    obtain ⟨e, hr⟩ := s.cls_same (by omega)
    rw [e] at s0
    have s1 := qxa q0t h
    have h3 : (s.ran qb3).length ≤ 4096 := by unfold Sc.ran; rw [List.length_take]; omega
    obtain ⟨er, s2⟩ := q3s h3
    have hn := qs6 h3
    have hk : (limbs (numV (s.ran qb3))).length ≤ 456 := qa7 hn.1 (by have := (qnq 456).2; omega)
    have s4 := qux (qaq (numV (s.ran qb3))) 456 (by omega) (by omega) (by rw [qbu hn.1]; exact hn.2)
    rw [qbu hn.1] at s4
    have s3 := qtd (s.run qb3) 2 s.pos
    change callE T0 X0 qdm _ _ = some (.ret [.d (.str (s.ran qb3))] [(s.run qb3).obj]) at s1
    by_cases h32 : 32 < (limbs (numV (s.ran qb3))).length
    · rw [if_pos h32]
      simp only [Sc.obj, Sc.cs, Pl.cs, Tok.cs] at s0 s1 s2 s3 ⊢
      simp -implicitDefEqProofs (disch := omega) [qa8, s0, s1, s2, s3, s4]
    · rw [if_neg h32]
      simp only [Sc.obj, Sc.cs, Pl.cs, Tok.cs] at s0 s1 s2 s3 ⊢
      simp -implicitDefEqProofs (disch := omega) [qa8, s0, s1, s2, s4]
  rw [if_neg c3]
  by_cases c5 : s.cls.1 = 5
  · rw [if_pos c5]
    obtain ⟨e, hr⟩ := s.cls_same (by omega)
    rw [e] at s0
    have s1 := q03 h (q04 c5)
    simp only [Sc.obj, Sc.cs, Pl.cs, Tok.cs] at s0 s1 ⊢
    simp -implicitDefEqProofs (disch := omega) [qa8, s0, s1]
  rw [if_neg c5]
  by_cases c0 : s.cls.1 = -1
  · rw [if_pos c0]
    simp only [Sc.obj, Sc.cs, Pl.cs, Tok.cs] at s0 ⊢
    simp -implicitDefEqProofs (disch := omega) [qa8, s0]
  · rw [if_neg c0]
    have s1 := q2n s.cls.2 41 s.cls.2.pos
    simp only [Sc.obj, Sc.cs, Pl.cs, Tok.cs] at s0 s1 ⊢
    simp -implicitDefEqProofs (disch := omega) [qa8, s0, s1]
end Go.Rf
