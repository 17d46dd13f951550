/- Parts of the proof: SpD1, SpM3, SpC1, SpR8, SpC2, SpC3, SpD2, SpD3, SpD4, SpD5. -/
import Derived.Test.YtdgfohkljpjdpaaGreatDoorSp5

set_option linter.unusedSimpArgs false
set_option linter.unusedVariables false
set_option linter.unnecessarySimpa false
namespace Go.Rf
theorem qox (n : Nat) : pw (n + 1) = 4294967296 * pw n := by rw [pw]
theorem qfr {xs : List Int} {j : Nat} (h : j ≤ xs.length) : nv xs = nv (xs.take j) + pw j * nv (xs.drop j) := by
  conv => lhs; rw [← List.take_append_drop j xs]
  rw [q5n, List.length_take, Nat.min_eq_left h]
theorem qzx {xs : List Int} (hg : Good xs) {k : Nat} (h : ∀ i, k ≤ i → nth xs i = 0) : nv xs < pw k := by
  by_cases hk : xs.length ≤ k
  · exact Int.lt_of_lt_of_le (qae hg).2 (pw_le hk)
  · have e := qfr (xs := xs) (j := k) (by omega)
    have z : ∀ l : List Int, (∀ i, nth l i = 0) → nv l = 0 := by
      intro l
      induction l with
      | nil => intro _; rfl
      | cons x l ih =>
        intro hl
        have h0 := hl 0
        rw [qn2] at h0
        have h1 := ih (fun i => by have := hl (i + 1); rwa [qn3] at this)
        simp only [nv, h0, h1]
        rfl
    have e2 : nv (xs.drop k) = 0 := z _ (fun i => by
      have := h (k + i) (by omega)
      simpa [nth, List.getD_eq_getElem?_getD, List.getElem?_drop] using this)
    rw [e2, Int.mul_zero, Int.add_zero] at e
    have := (qae (hg.take k)).2
    rw [List.length_take, Nat.min_eq_left (by omega)] at this
    omega
theorem qvu {xs : List Int} (hg : Good xs) {k : Nat} (h : nv xs < pw k) : ∀ i, k ≤ i → nth xs i = 0 := by
  intro i hi
  by_cases hl : i < xs.length
  · have e := qfr (xs := xs) (j := i) (by omega)
    rw [qgn hl, nv] at e
    have b1 := (qae (hg.take i)).1
    have b2 := (qae (hg.drop (i + 1))).1
    have b3 := hg.nth i
    have p1 := qib i
    have p2 := pw_le hi
    by_cases hz : nth xs i = 0
    · exact hz
    · exfalso
      have : pw i * 1 ≤ pw i * (nth xs i + 4294967296 * nv (xs.drop (i + 1))) := Int.mul_le_mul_of_nonneg_left (by omega) (by omega)
      omega
  · exact qn1 (by omega)
theorem q8z (vs us : List Int) (j : Nat) (g : Int) (hs : us.length ≤ 1099511627776) (hj : j + vs.length < us.length) (hv : Good vs) (hg : 0 ≤ g ∧ g < 4294967296) : ∀ d i (out : List Int) (c b : Int), d + i = vs.length → out.length = us.length → Good out → 0 ≤ c → c < 4294967296 → 0 ≤ b → b ≤ 1 →
    (∀ k, j + i ≤ k → nth out k = nth us k) → nv out = nv us - pw j * (g * nv (vs.take i)) + pw (j + i) * (c + b) →
    ∃ out' c' b', codeX T0 X0 2 qi3 (some (.nrm, ⟨[(0, .ref (.b 0) ⟨1, 4⟩ j (vs.length + 1)), (1, .ref (.b 1) ⟨1, 4⟩ 0 vs.length), (2, .d (.int .u64 g)), (7, .d (.int .u64 c)), (8, .d (.int .u64 b)), (14, .d (.int .i64 vs.length)), (15, .d (.int .i64 i))], [.arr (LV out) ⟨1, 4⟩, .arr (LV vs) ⟨1, 4⟩]⟩)) =
        some (.exit 0, ⟨[(0, .ref (.b 0) ⟨1, 4⟩ j (vs.length + 1)), (1, .ref (.b 1) ⟨1, 4⟩ 0 vs.length), (2, .d (.int .u64 g)), (7, .d (.int .u64 c')), (8, .d (.int .u64 b'))], [.arr (LV out') ⟨1, 4⟩, .arr (LV vs) ⟨1, 4⟩]⟩) ∧
      out'.length = us.length ∧ Good out' ∧ 0 ≤ c' ∧ c' < 4294967296 ∧ 0 ≤ b' ∧ b' ≤ 1 ∧ (∀ k, j + vs.length ≤ k → nth out' k = nth us k) ∧ nv out' = nv us - pw j * (g * nv vs) + pw (j + vs.length) * (c' + b') := by
  intro d
  induction d with
  | zero =>
    intro i out c b hd ho hgo hc hc1 hb hb1 hk hn
    have : i = vs.length := by omega
    subst this
    refine ⟨out, c, b, ?_, ho, hgo, hc, hc1, hb, hb1, hk, by rw [hn, List.take_length]⟩
    rw [qac (l := qi3) rfl]
    simp -implicitDefEqProofs (disch := omega) [ql2]
  | succ d ih =>
    intro i out c b hd ho hgo hc hc1 hb hb1 hk hn
    have n1 := hv.nth i
    have n2 := hgo.nth (j + i)
    have n3 := q19 hg n1
    rw [qac (l := qi3) rfl]
    have hx : 0 ≤ c + g * nth vs i ∧ c + g * nth vs i < 18446744073709551616 := by omega
    have e1 : (nth out (j + i) - (c + g * nth vs i) % 4294967296 - b) % 18446744073709551616 % 4294967296 = (nth out (j + i) - (c + g * nth vs i) % 4294967296 - b) % 4294967296 := by omega
    have e2 : (nth out (j + i) - (c + g * nth vs i) % 4294967296 - b) % 18446744073709551616 / 9223372036854775808 = -((nth out (j + i) - (c + g * nth vs i) % 4294967296 - b) / 4294967296) := by omega
    have step := ih (i + 1) (out.set (j + i) ((nth out (j + i) - (c + g * nth vs i) % 4294967296 - b) % 4294967296)) ((c + g * nth vs i) / 4294967296) (-((nth out (j + i) - (c + g * nth vs i) % 4294967296 - b) / 4294967296)) (by omega) (by simp [ho]) (qg7 hgo _ (by omega)) (by omega) (by omega) (by omega) (by omega) (by
      intro k hk'
      rw [qjm (by omega), if_neg (by omega)]
      exact hk k (by omega)) (by
      rw [qcq, qr4 (by omega), hn]
      have s1 := qk6 (j + i) (c + g * nth vs i)
      have s2 := qk6 (j + i) (nth out (j + i) - (c + g * nth vs i) % 4294967296 - b)
      have s3 : pw j * (g * (nv (vs.take i) + pw i * nth vs i)) = pw j * (g * nv (vs.take i)) + pw (j + i) * (g * nth vs i) := by
        rw [Nat.add_comm j i, qrs j i, Int.mul_add, Int.mul_add, ← Int.mul_assoc g (pw i), Int.mul_comm g (pw i)]
        simp only [Int.mul_assoc, Int.mul_left_comm]
      rw [s3, ← Nat.add_assoc]
      generalize (nth out (j + i) - (c + g * nth vs i) % 4294967296 - b) % 4294967296 = y at *
      generalize (nth out (j + i) - (c + g * nth vs i) % 4294967296 - b) / 4294967296 = z at *
      generalize (c + g * nth vs i) % 4294967296 = m at *
      generalize (c + g * nth vs i) / 4294967296 = q at *
      simp only [Int.mul_sub, Int.mul_add, Int.mul_neg] at s1 s2 ⊢
      omega)
    obtain ⟨out', c', b', h1, h2⟩ := step
    refine ⟨out', c', b', ?_, h2⟩
    rw [← h1]
    simp -implicitDefEqProofs (disch := omega) [ql2, qfq, e1, e2, Int.emod_eq_of_lt hx.1 hx.2]
theorem zbi (vs us : List Int) (j : Nat) (g : Int) (hs : us.length ≤ 1099511627776) (hj : j + vs.length < us.length) (hv : Good vs) : ∀ d i (out : List Int) (c : Int), d + i = vs.length → out.length = us.length → Good out → 0 ≤ c → c ≤ 1 →
    (∀ k, j + i ≤ k → nth out k = nth us k) → nv out = nv us + pw j * nv (vs.take i) - pw (j + i) * c →
    ∃ out' c', codeX T0 X0 2 qi2 (some (.nrm, ⟨[(0, .ref (.b 0) ⟨1, 4⟩ j (vs.length + 1)), (1, .ref (.b 1) ⟨1, 4⟩ 0 vs.length), (2, .d (.int .u64 g)), (7, .d (.int .u64 c)), (70, .d (.int .i64 vs.length)), (71, .d (.int .i64 i))], [.arr (LV out) ⟨1, 4⟩, .arr (LV vs) ⟨1, 4⟩]⟩)) =
        some (.exit 2, ⟨[(0, .ref (.b 0) ⟨1, 4⟩ j (vs.length + 1)), (1, .ref (.b 1) ⟨1, 4⟩ 0 vs.length), (2, .d (.int .u64 g)), (7, .d (.int .u64 c'))], [.arr (LV out') ⟨1, 4⟩, .arr (LV vs) ⟨1, 4⟩]⟩) ∧
      out'.length = us.length ∧ Good out' ∧ 0 ≤ c' ∧ c' ≤ 1 ∧ (∀ k, j + vs.length ≤ k → nth out' k = nth us k) ∧ nv out' = nv us + pw j * nv vs - pw (j + vs.length) * c' := by
  intro d
  induction d with
  | zero =>
    intro i out c hd ho hgo hc hc1 hk hn
    have : i = vs.length := by omega
    subst this
    refine ⟨out, c, ?_, ho, hgo, hc, hc1, hk, by rw [hn, List.take_length]⟩
    rw [qac (l := qi2) rfl]
    simp -implicitDefEqProofs (disch := omega) [ql1]
  | succ d ih =>
    intro i out c hd ho hgo hc hc1 hk hn
    have n1 := hv.nth i
    have n2 := hgo.nth (j + i)
    rw [qac (l := qi2) rfl]
    have step := ih (i + 1) (out.set (j + i) ((c + (nth out (j + i) + nth vs i)) % 4294967296)) ((c + (nth out (j + i) + nth vs i)) / 4294967296) (by omega) (by simp [ho]) (qg7 hgo _ (by omega)) (by omega) (by omega) (by
      intro k hk'
      rw [qjm (by omega), if_neg (by omega)]
      exact hk k (by omega)) (by
      rw [qcq, qr4 (by omega), hn]
      have s1 := qk6 (j + i) (c + (nth out (j + i) + nth vs i))
      have s3 : pw j * (nv (vs.take i) + pw i * nth vs i) = pw j * nv (vs.take i) + pw (j + i) * nth vs i := by
        rw [Nat.add_comm j i, qrs j i, Int.mul_add]
        simp only [Int.mul_assoc, Int.mul_left_comm]
      rw [s3, ← Nat.add_assoc]
      generalize (c + (nth out (j + i) + nth vs i)) % 4294967296 = m at *
      generalize (c + (nth out (j + i) + nth vs i)) / 4294967296 = q at *
      simp only [Int.mul_sub, Int.mul_add, Int.mul_neg] at s1 ⊢
      omega)
    obtain ⟨out', c', h1, h2⟩ := step
    refine ⟨out', c', ?_, h2⟩
    rw [← h1]
    simp -implicitDefEqProofs (disch := omega) [ql1]
theorem ze3 {a b q : Int} (hb : 0 < b) (h0 : q * b ≤ a) (h1 : a < (q + 1) * b) : a / b = q := by
  have h2 := Int.le_ediv_of_mul_le hb h0
  have h3 := Int.ediv_lt_of_lt_mul hb h1
  omega
theorem q8y {vs us : List Int} {j : Nat} {g : Int} (hs : us.length ≤ 1099511627776) (hj : j + vs.length < us.length) (hv : Good vs) (hu : Good us) (hg : 0 ≤ g ∧ g < 4294967296)
    (hz : ∀ i, j + vs.length + 1 ≤ i → nth us i = 0) (hp : 0 < nv vs) (h1 : (g - 1) * nv vs ≤ nv (us.drop j)) (h2 : nv (us.drop j) < (g + 1) * nv vs) :
    ∃ out, callE T0 X0 qtx [.ref (.b 0) ⟨1, 4⟩ j (vs.length + 1), .ref (.b 1) ⟨1, 4⟩ 0 vs.length, .d (.int .u64 g)] [.arr (LV us) ⟨1, 4⟩, .arr (LV vs) ⟨1, 4⟩] = some (.ret [.d (.int .u32 (nv (us.drop j) / nv vs))] [.arr (LV out) ⟨1, 4⟩, .arr (LV vs) ⟨1, 4⟩]) ∧
      out.length = us.length ∧ Good out ∧ nv out = nv us - pw j * ((nv (us.drop j) / nv vs) * nv vs) := by
  obtain ⟨o1, c, b, l1, ho1, hg1, hc0, hc1, hb0, hb1, hk1, hn1⟩ := q8z vs us j g hs hj hv hg vs.length 0 us 0 0 (by omega) rfl hu (by omega) (by omega) (by omega) (by omega) (fun _ _ => rfl) (by simp [nv])
  rw [qab (af := qkl) rfl rfl rfl]
  simp only [Int.cast_ofNat_Int] at l1
  have n1 := hg1.nth (j + vs.length)
  have hd := qfr (xs := us) (j := j) (by omega)
  have hlo := qae (hu.take j)
  rw [List.length_take, Nat.min_eq_left (by omega)] at hlo
  have pp := qib j
  have ps := qox (j + vs.length)
  generalize hW : nv (us.drop j) = W at *
  generalize hV : nv vs = Vv at *
  generalize hx : nth o1 (j + vs.length) - c - b = x
  have fin : ∀ {o : List Int}, Good o → o.length = us.length → (∀ k, j + vs.length + 1 ≤ k → nth o k = 0) → 0 ≤ nv o ∧ nv o < pw (j + vs.length + 1) := fun h _ hk => ⟨(qae h).1, qzx h hk⟩
  by_cases hneg : x < 0
  · have hx1 : x % 18446744073709551616 % 4294967296 = x + 4294967296 := by omega
    have hx2 : x % 18446744073709551616 / 9223372036854775808 = 1 := by omega
    have go2 : Good (o1.set (j + vs.length) (x + 4294967296)) := qg7 hg1 _ (by omega)
    have v2 : nv (o1.set (j + vs.length) (x + 4294967296)) = nv us - pw j * (g * Vv) + pw (j + vs.length + 1) := by
      rw [qr4 (by omega), hn1, ps]
      have : x + 4294967296 - nth o1 (j + vs.length) = 4294967296 - (c + b) := by omega
      rw [this, Int.mul_sub, Int.mul_comm (pw (j + vs.length)) 4294967296]
      omega
    have z2 : ∀ k, j + vs.length + 1 ≤ k → nth (o1.set (j + vs.length) (x + 4294967296)) k = 0 := fun k hk => by
      rw [qjm (by omega), if_neg (by omega), hk1 k (by omega)]
      exact hz k hk
    have f2 := fin go2 (by simp [ho1]) z2
    have hlt : W < g * Vv := by
      have : pw j * W < pw j * (g * Vv) := by omega
      exact Int.lt_of_mul_lt_mul_left this (by omega)
    obtain ⟨o3, c3, l3, ho3, hg3, hc30, hc31, hk3, hn3⟩ := zbi vs (o1.set (j + vs.length) (x + 4294967296)) j g (by simpa [ho1] using hs) (by simpa [ho1] using hj) hv vs.length 0 _ 0 (by omega) rfl go2 (by omega) (by omega) (fun _ _ => rfl) (by simp [nv])
    simp only [Int.cast_ofNat_Int] at l3
    have n3 := hg3.nth (j + vs.length)
    have ho3' : o3.length = us.length := by simpa [ho1] using ho3
    have e3 : nth o3 (j + vs.length) = x + 4294967296 := by rw [hk3 _ (Nat.le_refl _), qjm (by omega), if_pos rfl]
    have hq : W / Vv = g - 1 := ze3 hp h1 (by rw [Int.sub_add_cancel]; exact hlt)
    have g1 : 1 ≤ g := by
      by_cases h : 1 ≤ g
      · exact h
      · have : g = 0 := by omega
        subst this
        have := (qae (hu.drop j)).1
        omega
    have gm : (g - 1) % 18446744073709551616 % 4294967296 = g - 1 := by omega
    have go4 : Good (o3.set (j + vs.length) ((nth o3 (j + vs.length) + c3) % 4294967296)) := qg7 hg3 _ (by omega)
    have z4 : ∀ k, j + vs.length + 1 ≤ k → nth (o3.set (j + vs.length) ((nth o3 (j + vs.length) + c3) % 4294967296)) k = 0 := fun k hk => by
      rw [qjm (by omega), if_neg (by omega), hk3 k (by omega)]
      exact z2 k hk
    have f4 := fin go4 (by simp [ho3']) z4
    have v4 : nv (o3.set (j + vs.length) ((nth o3 (j + vs.length) + c3) % 4294967296)) = nv us - pw j * ((g - 1) * Vv) := by
      rw [qr4 (by omega)] at f4 ⊢
      rw [hn3, v2, hV] at f4 ⊢
      have s1 := qk6 (j + vs.length) (nth o3 (j + vs.length) + c3)
      have e5 : pw j * ((g - 1) * Vv) = pw j * (g * Vv) - pw j * Vv := by rw [Int.sub_mul, Int.one_mul, Int.mul_sub]
      have e6 : pw j * ((g - 1) * Vv) ≤ pw j * W := Int.mul_le_mul_of_nonneg_left h1 (by omega)
      have ht : (nth o3 (j + vs.length) + c3) / 4294967296 = 0 ∨ (nth o3 (j + vs.length) + c3) / 4294967296 = 1 := by omega
      generalize (nth o3 (j + vs.length) + c3) % 4294967296 = m at *
      generalize (nth o3 (j + vs.length) + c3) / 4294967296 = q at *
      simp only [Int.mul_sub, Int.mul_add] at s1 f4 ⊢
      rcases ht with ht | ht
      · subst ht
        exfalso
        omega
      · subst ht
        omega
    refine ⟨_, ?_, by simp [ho3'], go4, by rw [hq]; exact v4⟩
    rw [hq]
    have hxx : nth o1 (j + vs.length) - c - b = x := hx
    simp -implicitDefEqProofs (disch := omega) [qkl, l1, l3, hxx, hx1, hx2, qfq, gm]
  · have hx1 : x % 18446744073709551616 % 4294967296 = x := by omega
    have hx2 : x % 18446744073709551616 / 9223372036854775808 = 0 := by omega
    have go2 : Good (o1.set (j + vs.length) x) := qg7 hg1 _ (by omega)
    have v2 : nv (o1.set (j + vs.length) x) = nv us - pw j * (g * Vv) := by
      rw [qr4 (by omega), hn1]
      have : x - nth o1 (j + vs.length) = - (c + b) := by omega
      rw [this, Int.mul_neg]
      omega
    have hge : g * Vv ≤ W := by
      have h0 := (qae go2).1
      have : pw j * (g * Vv) < pw j * (W + 1) := by rw [Int.mul_add]; omega
      have := Int.lt_of_mul_lt_mul_left this (by omega)
      omega
    have hq : W / Vv = g := ze3 hp hge h2
    refine ⟨_, ?_, by simp [ho1], go2, by rw [hq]; exact v2⟩
    rw [hq]
    have hgm : g % 4294967296 = g := by omega
    have hxx : nth o1 (j + vs.length) - c - b = x := hx
    simp -implicitDefEqProofs (disch := omega) [qkl, l1, hxx, hx1, hx2, qfq, hgm]
end Go.Rf

namespace Go.Rf
structure Bg where
  name : List UInt8
  any : Bool
  n : Int
def Bg.cs (b : Bg) : List D := [.str b.name, .bool b.any, .bool (decide (b.n < 0)), .sl (L (limbs b.n.natAbs))]
def Rd.push (r : Rd) (s : List UInt8) : Rd := { r with vs := r.vs ++ [s], ly := none }
def Rd.heapN (r : Rd) (f : Bool) : List Obj := match f with
  | true => [.arr [.agg [.d (.sl (LT r.ts)), .d (.int .i64 r.i), .ref (.b 2) ⟨1, 16⟩ 0 r.vs.length, .d (.int .i64 r.op), .map (.b 1)]] ⟨5, 0⟩, .map (ME r.ms), .arr (SV r.vs) ⟨1, 16⟩]
  | false => [.arr [.agg [.d (.sl (LT r.ts)), .d (.int .i64 r.i), .ref (.b 3) ⟨1, 16⟩ 0 r.vs.length, .d (.int .i64 r.op), .map (.b 2)]] ⟨5, 0⟩, .dead, .map (ME r.ms), .arr (SV r.vs) ⟨1, 16⟩]
def Rd.newName (r : Rd) : Option Int :=
  if r.isName = false then some 80 else if qov r.tok.text = false then some 42 else if 0 ≤ r.var r.tok.text then some 82 else if r.vs.length < 8 then none else some 2
def Rd.num (r : Rd) (p : Bool) (s : List UInt8) : Rz Bg :=
  if r.tok.kind = 2 then .ok ⟨s, false, sg p (numV r.tok.text)⟩ r.next else .bad 80 r.tok.pos r
def Rd.value (r : Rd) (s : List UInt8) : Rz Bg :=
  if r.isT [61] = true then (if r.next.isT [45] = true then r.next.next.num true s else r.next.num false s) else .ok ⟨s, true, 0⟩ r
theorem qyo {r : Rd} (h : r.ok) (hl : r.vs.length < 8) {s : List UInt8} (hs : s.length ≤ 1100000) : (r.push s).ok :=
  ⟨h.i, h.n, h.mid, h.fin, by show (r.vs ++ [s]).length ≤ 16; simp; omega, h.op, h.tx, fun k => by
    show (tx (r.vs ++ [s]) k).length ≤ 1100000
    unfold tx
    rw [List.getD_eq_getElem?_getD, List.getElem?_append]
    split
    · have := h.tv k
      unfold tx at this
      rwa [List.getD_eq_getElem?_getD] at this
    · cases k - r.vs.length <;> simp [hs], fun x e => by cases e⟩
def Rd.own (r : Rd) (f : Bool) : Prop := if f then r.ly = some .nils ∧ r.vs = [] else r.ly = none
theorem zdp {r : Rd} (h : r.ok) {e : Int} (hn : r.newName = some e) : callE T0 X0 qdl [.ptr (.b 0) 0 0] r.heap = some (.pan (.d (qap e r.tok.pos)) r.heap) := by
  rw [qab (af := qa0) rfl rfl rfl]
  have s0 := qbi h
  have htx := qh0 h
  have s1 := qcf h
  have s2 := qq1 _ htx
  have s3 := qud h _ htx
  have n1 := qcr r 80
  have n2 := qcr r 42
  have n3 := qcr r 82
  have hv := h.vs
  have hx := h.ly
  unfold Rd.newName at hn
  by_cases c1 : r.isName = false
  · rw [if_pos c1] at hn
    cases hn
    have n4 := qdb h 80
    rw [c1] at s1
    cases hly : r.ly
    all_goals
      simp only [Rd.heap, hly, qap] at s1 n4 ⊢
      simp -implicitDefEqProofs (disch := omega) [qa0, s1, n4]
  rw [if_neg c1] at hn
  rw [show r.isName = true by simpa using c1] at s1
  by_cases c2 : qov r.tok.text = false
  · rw [if_pos c2] at hn
    cases hn
    have n4 := qdb h 42
    rw [c2] at s2
    cases hly : r.ly
    all_goals
      simp only [Rd.heap, hly, qap, Tok.cs] at s0 s1 n1 n4 ⊢
      generalize r.tok = t at *
      simp -implicitDefEqProofs (disch := omega) [qa0, s0, s1, s2, n1, n4]
  rw [if_neg c2] at hn
  rw [show qov r.tok.text = true by simpa using c2] at s2
  by_cases c3 : 0 ≤ r.var r.tok.text
  · rw [if_pos c3] at hn
    cases hn
    have n4 := qdb h 82
    cases hly : r.ly
    all_goals
      simp only [Rd.heap, hly, qap, Tok.cs] at s0 s1 s3 n1 n2 n4 ⊢
      generalize r.tok = t at *
      simp -implicitDefEqProofs (disch := omega) [qa0, s0, s1, s2, s3, n1, n2, n4]
  rw [if_neg c3] at hn
  by_cases c4 : r.vs.length < 8
  · rw [if_pos c4] at hn; cases hn
  rw [if_neg c4] at hn
  cases hn
  have n4 := qdb h 2
  cases hly : r.ly
  case' some => rcases hx _ hly with rfl | ⟨rfl, hvs⟩; rotate_left; rw [hvs] at c4; exact absurd (Nat.zero_lt_succ 7) c4
  all_goals
    simp only [Rd.heap, hly, qap, Tok.cs] at s0 s1 s3 n1 n2 n3 n4 ⊢
    generalize r.tok = t at *
    simp -implicitDefEqProofs (disch := omega) [qa0, s0, s1, s2, s3, n1, n2, n3, n4]
def outN (f : Bool) : Rz Bg → Option CRes
  | .ok b r => some (.ret [.d (.agg b.cs)] (r.heapN f))
  | .bad e p r => some (.pan (.d (qap e p)) (r.heapN f))
theorem q9l (r : Rd) (s) : (r.push s).heap = [.arr [.agg [.d (.sl (LT r.ts)), .d (.int .i64 r.i), .ref (.b 1) ⟨1, 16⟩ 0 (r.vs.length + 1), .d (.int .i64 r.op), .map (.b 2)]] ⟨5, 0⟩, .arr (SV (r.vs ++ [s])) ⟨1, 16⟩, .map (ME r.ms)] := by
  unfold Rd.heap Rd.push
  simp
set_option maxHeartbeats 4000000 in
theorem zh0 {r : Rd} {f : Bool} (h : r.ok) (hn : r.newName = none) (hf : r.own f) (hnum : ∀ t ∈ r.ts, t.kind = 2 → NumTx t.text) :
    callE T0 X0 qdl [.ptr (.b 0) 0 0] r.heap = outN f ((r.next.push r.tok.text).value r.tok.text) := by
  rw [qab (af := qa0) rfl rfl rfl]
  have s0 := qbi h
  have htx := qh0 h
  have s1 := qcf h
  have s2 := qq1 _ htx
  have s3 := qud h _ htx
  have n1 := qcr r 80
  have n2 := qcr r 42
  have n3 := qcr r 82
  have n4 := qcr r 2
  unfold Rd.newName at hn
  by_cases c1 : r.isName = false
  · rw [if_pos c1] at hn; cases hn
  rw [if_neg c1] at hn
  rw [show r.isName = true by simpa using c1] at s1
  by_cases c2 : qov r.tok.text = false
  · rw [if_pos c2] at hn; cases hn
  rw [if_neg c2] at hn
  rw [show qov r.tok.text = true by simpa using c2] at s2
  by_cases c3 : 0 ≤ r.var r.tok.text
  · rw [if_pos c3] at hn; cases hn
  rw [if_neg c3] at hn
  by_cases c4 : r.vs.length < 8
  case neg => rw [if_neg c4] at hn; cases hn
  have s4 := qgr h
  have hno := r.next_op
  have hms := (Kept.next h).ms
  have l1 := (lys r).1
  have h2 : (r.next.push r.tok.text).ok := qyo (Rd.next_ok h) (by rw [hno.2.2]; exact c4) htx
  have a1 := qa3 h2 [61] (by simp)
  have hp := q9l r.next r.tok.text
  have hts : (r.next.push r.tok.text).ts = r.ts := hno.2.1
  have hl : r.ly = none ∧ f = false ∨ r.ly = some .nils ∧ r.vs = [] ∧ f = true := by
    unfold Rd.own at hf
    cases f
    · exact .inl ⟨by simpa using hf, rfl⟩
    · exact .inr ⟨(by simpa using hf.1), (by simpa using hf.2), rfl⟩
  have hvs : r.next.vs = r.vs := hno.2.2
  have hpl : (r.next.push r.tok.text).ly = none := rfl
  have hpv : (r.next.push r.tok.text).vs = r.vs ++ [r.tok.text] := by show r.next.vs ++ _ = _; rw [hvs]
  have hpm : (r.next.push r.tok.text).ms = r.next.ms := rfl
  have hpi : (r.next.push r.tok.text).i = r.next.i := rfl
  have hpo : (r.next.push r.tok.text).op = r.next.op := rfl
  have hpt : (r.next.push r.tok.text).ts = r.next.ts := rfl
  unfold Rd.value
  generalize r.next.push r.tok.text = q at *
  by_cases c5 : q.isT [61] = true
  case neg =>
    rw [if_neg c5]
    rw [show q.isT [61] = false by simpa using c5, if_neg (by simp)] at a1
    rcases hl with ⟨hly, rfl⟩ | ⟨hly, hv0, rfl⟩
    case' inr => rw [hv0] at hvs hpv
    all_goals
      simp only [Rd.heap, Rd.heapN, hly, l1, outN, Bg.cs, Tok.cs, hpl, hpm, hpi, hpo, hpt, hpv, List.length_append, List.length_cons, List.length_nil, Nat.zero_add, List.nil_append, qtk, q6p] at s0 s1 s3 s4 n1 n2 n3 n4 a1 ⊢
      generalize r.tok = t at *
      simp -implicitDefEqProofs (disch := omega) [qa0, s0, s1, s2, s3, s4, n1, n2, n3, n4, a1, hvs, qtk]
  rw [if_pos c5]
  rw [c5, if_pos rfl] at a1
  have h3 := Rd.next_ok h2
  have l3 := (lys q).1.trans hpl
  have v3 := q.next_op.2.2.trans hpv
  have a2 := qa3 h3 [45] (by simp)
  have num3 : ∀ t ∈ q.next.ts, t.kind = 2 → NumTx t.text := by rw [q.next_op.2.1, hts]; exact hnum
  obtain ⟨p, w, hw, lw, vw, tw, a3, hv⟩ : ∃ (p : Bool) (w : Rd), w.ok ∧ w.ly = none ∧ w.vs = r.vs ++ [r.tok.text] ∧ w.ts = r.ts ∧ callE T0 X0 qai [.ptr (.b 0) 0 0, .d (.str [45])] q.next.heap = some (.ret [.d (.bool p)] w.heap) ∧
      (if q.next.isT [45] = true then q.next.next.num true r.tok.text else q.next.num false r.tok.text) = w.num p r.tok.text := by
    by_cases c6 : q.next.isT [45] = true
    · rw [if_pos c6]
      rw [c6, if_pos rfl] at a2
      exact ⟨true, _, Rd.next_ok h3, (lys _).1.trans l3, (Rd.next_op _).2.2.trans v3, (Rd.next_op _).2.1.trans (q.next_op.2.1.trans hts), a2, rfl⟩
    · rw [if_neg c6]
      rw [show q.next.isT [45] = false by simpa using c6, if_neg (by simp)] at a2
      exact ⟨false, _, h3, l3, v3, q.next_op.2.1.trans hts, a2, rfl⟩
  rw [hv]
  clear hv a2
  have s5 := qbi hw
  have l5 := (lys w).1.trans lw
  have v5 := w.next_op.2.2.trans vw
  unfold Rd.num
  by_cases c7 : w.tok.kind = 2
  case neg =>
    rw [if_neg c7]
    have n5 := qdb hw 80
    rcases hl with ⟨hly, rfl⟩ | ⟨hly, hv0, rfl⟩
    case' inr => rw [hv0] at hvs hpv v3 vw v5
    all_goals
      simp only [Rd.heap, Rd.heapN, hly, l1, l3, lw, outN, Tok.cs, qap, hpl, hpm, hpi, hpo, hpt, hpv, v3, vw, List.length_append, List.length_cons, List.length_nil, Nat.zero_add, List.nil_append, qtk, q6p] at s0 s1 s3 s4 n1 n2 n3 n4 n5 s5 a1 a3 ⊢
      generalize r.tok = t at *
      generalize w.tok = t2 at *
      simp -implicitDefEqProofs (disch := omega) [qa0, s0, s1, s2, s3, s4, n1, n2, n3, n4, n5, s5, a1, a3, hvs, qtk]
  rw [if_pos c7]
  have n5 := qcr w 80
  have s6 := qgr hw
  have tl := qh0 hw
  obtain ⟨e, s7⟩ := qus (hnum w.tok (tw ▸ qrh hw) c7)
  have hk : (limbs ((numV w.tok.text).natAbs : Int)).length ≤ 456 := by
    obtain ⟨hl, _⟩ := hnum w.tok (tw ▸ qrh hw) c7
    have hn := qs6 hl
    rw [Int.natAbs_of_nonneg hn.1]
    exact qa7 hn.1 (by have := (qnq 456).2; omega)
  have s8 := wneg_W (m := numV w.tok.text) (by unfold nl; omega)
  rcases hl with ⟨hly, rfl⟩ | ⟨hly, hv0, rfl⟩
  case' inr => rw [hv0] at hvs hpv v3 vw v5
  all_goals
    cases p
    all_goals
      simp only [Rd.heap, Rd.heapN, hly, l1, l3, l5, lw, outN, Bg.cs, sg, Tok.cs, Wd, hpl, hpm, hpi, hpo, hpt, hpv, v3, vw, v5, List.length_append, List.length_cons, List.length_nil, Nat.zero_add, List.nil_append, qtk, q6p] at s0 s1 s3 s4 n1 n2 n3 n4 n5 s5 s6 s7 s8 a1 a3 ⊢
      generalize r.tok = t at *
      generalize w.tok = t2 at *
      simp -implicitDefEqProofs (disch := omega) [qa0, s0, s1, s2, s3, s4, n1, n2, n3, n4, n5, s5, s6, s7, s8, a1, a3, hvs, qtk]
end Go.Rf

namespace Go.Rf
theorem zh1 {w t : List UInt8} {r n : Nat} (h : w ≠ []) (e : dec w 0 = (r, n)) (hb : ¬ (r = 65533 ∧ n = 1)) : dec (w ++ t) 0 = (r, n) := by
  unfold dec Utf8.decode at *
  have hsz : (ByteArray.mk w.toArray).size = w.length := by simp [ByteArray.size]
  have hsz2 : (ByteArray.mk (w ++ t).toArray).size = w.length + t.length := by simp [ByteArray.size]
  have hl : 0 < w.length := List.length_pos_iff.2 h
  have g : ∀ k, k < w.length → (ByteArray.mk (w ++ t).toArray).get! (0 + k) = (ByteArray.mk w.toArray).get! (0 + k) := by
    intro k hk
    simp only [ByteArray.get!, Nat.zero_add]
    simp [hk, List.getElem?_append_left]
  extract_lets a1 c1 b1 x1 x2 x3 at e
  extract_lets a2 c2 b2 y1 y2 y3
  have ha : ∀ k, k < w.length → a2 k = a1 k := fun k hk => congrArg UInt8.toNat (g k hk)
  have hc : ∀ k, c1 k = true → c2 k = true ∧ k < w.length := by
    intro k hk
    simp only [c1, Bool.and_eq_true, decide_eq_true_eq, hsz] at hk
    have hk1 : k < w.length := by omega
    refine ⟨?_, hk1⟩
    simp only [c2, Bool.and_eq_true, decide_eq_true_eq, hsz2]
    refine ⟨by omega, ?_⟩
    rw [ha k hk1]
    exact hk.2
  have hc' : ∀ k, k < w.length → c2 k = true → c1 k = true := by
    intro k hk hk2
    simp only [c2, Bool.and_eq_true, decide_eq_true_eq] at hk2
    simp only [c1, Bool.and_eq_true, decide_eq_true_eq, hsz]
    refine ⟨by omega, ?_⟩
    rw [← ha k hk]
    exact hk2.2
  have hb0 : b2 = b1 := ha 0 hl
  have hx1 : c1 1 = true → y1 = x1 := fun h => by simp only [y1, x1, hb0, ha 1 (hc 1 h).2]
  have hx2 : c1 1 = true → c1 2 = true → y2 = x2 := fun h h2 => by simp only [y2, x2, hb0, ha 1 (hc 1 h).2, ha 2 (hc 2 h2).2]
  have hx3 : c1 1 = true → c1 2 = true → c1 3 = true → y3 = x3 := fun h h2 h3 => by simp only [y3, x3, hb0, ha 1 (hc 1 h).2, ha 2 (hc 2 h2).2, ha 3 (hc 3 h3).2]
  clear_value y1 y2 y3 x1 x2 x3
  clear_value c1 c2
  clear_value b1 b2
  subst hb0
  by_cases k0 : b2 < 128
  · rw [if_pos k0] at e ⊢
    exact e
  rw [if_neg k0] at e ⊢
  by_cases k1 : (b2 / 32 == 6 && c1 1) = true
  · rw [if_pos k1] at e
    simp only [Bool.and_eq_true] at k1
    rw [if_pos (by simp [k1.1, (hc 1 k1.2).1]), hx1 k1.2]
    exact e
  rw [if_neg k1] at e
  by_cases k2 : (b2 / 16 == 14 && c1 1 && c1 2) = true
  · rw [if_pos k2] at e
    simp only [Bool.and_eq_true, beq_iff_eq] at k2
    rw [if_neg (by simp; omega), if_pos (by simp [k2.1.1, (hc 1 k2.1.2).1, (hc 2 k2.2).1]), hx2 k2.1.2 k2.2]
    exact e
  rw [if_neg k2] at e
  by_cases k3 : (b2 / 8 == 30 && c1 1 && c1 2 && c1 3) = true
  · rw [if_pos k3] at e
    simp only [Bool.and_eq_true, beq_iff_eq] at k3
    rw [if_neg (by simp; omega), if_neg (by simp; omega), if_pos (by simp [k3.1.1.1, (hc 1 k3.1.1.2).1, (hc 2 k3.1.2).1, (hc 3 k3.2).1]), hx3 k3.1.1.2 k3.1.2 k3.2]
    exact e
  rw [if_neg k3] at e
  cases e
  exact absurd ⟨rfl, rfl⟩ hb
def runs (p : Int → Bool) : Nat → List UInt8 → Bool
  | _, [] => true
  | 0, _ => false
  | f + 1, w => !qfb w (dec w 0).1 && p (cls (dec w 0).1) && runs p f (w.drop (dec w 0).2)
def Stops (p : Int → Bool) : List UInt8 → Prop
  | [] => True
  | b :: _ => b.toNat < 128 ∧ p (cls b.toNat) = false
end Go.Rf

namespace Go.Rf
theorem qx8 : ∀ f k (n : Int), n < tens k → (backF f n).length ≤ 9 * k
  | 0, k, n, _ => by simp [backF]
  | f + 1, 0, n, h => by
    unfold backF
    rw [if_pos (by simp only [tens] at h; omega)]
    simp
  | f + 1, k + 1, n, h => by
    unfold backF
    split
    · simp
    · have h1 := qz3 9 (n % 1000000000) (decide (0 < n / 1000000000))
      have h2 := qx8 f k (n / 1000000000) (by simp only [tens] at h; omega)
      simp only [List.length_append]; omega
theorem dig_le (r : Int) : 48 ≤ (dig r).toNat ∧ (dig r).toNat ≤ 57 := by
  unfold dig
  have : (r % 10).toNat < 10 := by omega
  rw [UInt8.toNat_ofNat', Nat.mod_eq_of_lt (by omega)]
  omega
theorem zae : ∀ f r b, ∀ c ∈ inF f r b, 48 ≤ c.toNat ∧ c.toNat ≤ 57
  | 0, _, _, c, h => by cases h
  | f + 1, r, b, c, h => by
    unfold inF at h
    split at h
    · rcases List.mem_cons.1 h with rfl | h
      · exact dig_le r
      · exact zae f _ _ c h
    · cases h
theorem q27 : ∀ f n, ∀ c ∈ backF f n, 48 ≤ c.toNat ∧ c.toNat ≤ 57
  | 0, _, c, h => by cases h
  | f + 1, n, c, h => by
    unfold backF at h
    split at h
    · cases h
    · rcases List.mem_append.1 h with h | h
      · exact zae _ _ _ c h
      · exact q27 f _ c h
theorem q0w (f n) : ∀ c ∈ textV f n, 48 ≤ c.toNat ∧ c.toNat ≤ 57 := by
  intro c h
  unfold textV at h
  split at h
  · rw [List.mem_singleton] at h; subst h; decide
  · exact q27 f n c (List.mem_reverse.1 h)
theorem pw32 : pw 32 ≤ tens 35 := by decide +kernel
theorem q7n {v : Int} (h0 : 0 ≤ v) (h : (limbs v).length ≤ 32) : NumTx (textV 456 v) := by
  have hv : v < tens 35 := by
    have h1 := (qae (qaq v)).2
    rw [qbu h0] at h1
    exact Int.lt_of_lt_of_le (Int.lt_of_lt_of_le h1 (pw_le h)) pw32
  have hd := q0w 456 v
  refine ⟨?_, ?_⟩
  · unfold textV
    split
    · simp
    · rw [List.length_reverse]
      exact Nat.le_trans (qx8 456 35 v hv) (by omega)
  · cases ht : textV 456 v with
    | nil => decide
    | cons c s =>
      rw [ht] at hd
      have := hd c (List.mem_cons_self ..)
      rw [qlz (by omega)]
      simp only []
      omega
theorem q8s {s : Sc} (h : s.ok) (hc : s.token.2.code = 0) (hk : s.token.1.kind = 2) : NumTx s.token.1.text := by
  unfold Sc.token at *
  split at hk
  · cases hk
  rename_i c2
  rw [if_neg c2] at hc ⊢
  split at hk
  · rename_i c3
    rw [if_pos c3] at hc ⊢
    have hl := h.1
    have h3 : (s.ran qb3).length ≤ 4096 := by unfold Sc.ran; rw [List.length_take]; omega
    have hn := qs6 h3
    by_cases h32 : 32 < (limbs (numV (s.ran qb3))).length
    · simp only [if_pos h32] at hc
      cases hc
    · exact q7n hn.1 (by omega)
  split at hk
  · cases hk
  split at hk
  · cases hk
  · cases hk
structure Pre (out : List Tok) : Prop where
  k : ∀ t ∈ out, t.kind ≠ 0
  tx : ∀ t ∈ out, t.text.length ≤ 1100000
  nm : ∀ t ∈ out, t.kind = 2 → NumTx t.text
theorem q5c : ∀ f (s : Sc) (out l : List Tok) e p, s.ok → s.rest.length < f → Pre out → scanF f s out = (some l, e, p) →
    ∃ o t, l = o ++ [t] ∧ Pre o ∧ t.kind = 0 ∧ t.text.length ≤ 1100000 ∧ e = 0
  | 0, s, out, l, e, p, _, hf, _, _ => by omega
  | f + 1, s, out, l, e, p, hs, hf, hp, h => by
    have hb := qih (s.rest.length + 1) hs
    change s.blanks.ok ∧ s.blanks.rest.length ≤ s.rest.length at hb
    have ht := qrg hb.1
    unfold scanF at h
    split at h
    · cases h
    · rename_i hc
      have hc : s.blanks.token.2.code = 0 := Classical.not_not.1 hc
      split at h
      · rename_i hk
        cases h
        exact ⟨out, _, rfl, hp, hk, ht.2.2, rfl⟩
      · rename_i hk
        have hlt := ht.2.1 hk
        refine q5c f _ _ l e p ht.1 (by omega) ⟨fun t hm => ?_, fun t hm => ?_, fun t hm => ?_⟩ h
        · rcases List.mem_append.1 hm with hm | hm
          · exact hp.k t hm
          · rw [List.mem_singleton] at hm; subst hm; exact hk
        · rcases List.mem_append.1 hm with hm | hm
          · exact hp.tx t hm
          · rw [List.mem_singleton] at hm; subst hm; exact ht.2.2
        · rcases List.mem_append.1 hm with hm | hm
          · exact hp.nm t hm
          · rw [List.mem_singleton] at hm; subst hm; exact q8s hb.1 hc
end Go.Rf

namespace Go.Rf
theorem q8a {w t : List UInt8} (h : w ≠ []) (hb : qfb w (dec w 0).1 = false) : dec (w ++ t) 0 = dec w 0 ∧ qfb (w ++ t) (dec w 0).1 = false := by
  have hne : ¬ ((dec w 0).1 = 65533 ∧ (dec w 0).2 = 1) := by
    intro hc
    unfold qfb at hb
    rw [qgo h] at hb
    simp [hc.1, hc.2] at hb
  have e := zh1 (t := t) h (show dec w 0 = ((dec w 0).1, (dec w 0).2) from rfl) hne
  refine ⟨e, ?_⟩
  unfold qfb at *
  rw [qgo (by simp [h]), e]
  rw [qgo h] at hb
  exact hb
theorem q51 {s : Sc} {w t : List UInt8} (hr : s.rest = w ++ t) (h : w ≠ []) (hb : qfb w (dec w 0).1 = false) :
    s.next = (((dec w 0).1 : Int), s) ∧ s.cls = (cls (dec w 0).1, s) ∧ s.pass.rest = w.drop (dec w 0).2 ++ t ∧ s.pass.code = s.code ∧ s.pass.bad = s.bad := by
  obtain ⟨e1, e2⟩ := q8a (t := t) h hb
  have hn : s.rest ≠ [] := by rw [hr]; simp [h]
  have hnext : s.next = (((dec w 0).1 : Int), s) := by
    unfold Sc.next
    rw [if_neg hn, hr, e1, e2]
    simp
  refine ⟨hnext, ?_, ?_, rfl, rfl⟩
  · unfold Sc.cls
    rw [hnext]
    rw [if_neg (by simp only []; omega)]
  · unfold Sc.pass
    simp only []
    rw [qgo hn, hr, e1]
    have hl := qsg w h
    rw [List.drop_append_of_le_length hl.2.1]
theorem qls {s : Sc} {b : UInt8} {t : List UInt8} (hr : s.rest = b :: t) (hb : b.toNat < 128) : s.next = ((b.toNat : Int), s) ∧ s.cls = (cls b.toNat, s) ∧ s.pass.rest = t ∧ s.pass.code = s.code ∧ s.pass.bad = s.bad := by
  have e := qlz (s := []) hb
  have hbr : qfb [b] (dec [b] 0).1 = false := by
    rw [e]
    unfold qfb
    have : ¬ ((b.toNat : Int) = 65533) := by omega
    simp [this]
  have := q51 (w := [b]) (t := t) hr (by simp) hbr
  rw [e] at this
  simpa using this
theorem q2j {s : Sc} (hr : s.rest = []) : s.cls = (-1, s) := by
  have : s.next = (-1, s) := by unfold Sc.next; rw [if_pos hr]
  unfold Sc.cls
  rw [this]
  rfl
theorem q62 {p : Int → Bool} {s : Sc} (h : Stops p s.rest) (f : Nat) : qfg p f s = s := by
  cases f with
  | zero => rfl
  | succ f =>
    unfold qfg
    cases hr : s.rest with
    | nil =>
      rw [q2j hr, if_neg (by simp)]
    | cons b t =>
      rw [hr] at h
      obtain ⟨_, e, _⟩ := qls hr h.1
      rw [e]
      rw [if_neg (by simp [h.2])]
theorem qxb {p : Int → Bool} {t : List UInt8} (ht : Stops p t) : ∀ (f F : Nat) (w : List UInt8) (s : Sc), runs p f w = true → w.length < F → s.rest = w ++ t → (qfg p F s).rest = t ∧ (qfg p F s).code = s.code ∧ (qfg p F s).bad = s.bad
  | f, F, [], s, _, _, hr => by
    rw [q62 (by rw [hr]; exact ht)]
    exact ⟨by simpa using hr, rfl, rfl⟩
  | 0, F, b :: w, s, h, _, _ => by simp [runs] at h
  | f + 1, 0, b :: w, s, _, hF, _ => by omega
  | f + 1, F + 1, b :: w, s, h, hF, hr => by
    unfold runs at h
    simp only [Bool.and_eq_true, Bool.not_eq_true'] at h
    obtain ⟨_, e2, e3, e4, e5⟩ := q51 hr (by simp) h.1.1
    have hl := qsg (b :: w) (by simp)
    unfold qfg
    rw [e2]
    have hc : -1 ≤ cls (dec (b :: w) 0).1 ∧ 0 ≤ cls (dec (b :: w) 0).1 := by unfold cls; (repeat' split) <;> omega
    rw [if_pos ⟨hc.2, h.1.2⟩]
    have := qxb ht f F _ s.pass h.2 (by rw [List.length_drop]; simp only [List.length_cons] at *; omega) e3
    rw [e4, e5] at this
    exact this
theorem q5h {p : Int → Bool} {t w : List UInt8} {s : Sc} {f : Nat} (ht : Stops p t) (h : runs p f w = true) (hr : s.rest = w ++ t) : s.ran p = w ∧ (s.run p).rest = t ∧ (s.run p).code = s.code := by
  have := qxb ht f (s.rest.length + 1) w s h (by rw [hr]; simp; omega) hr
  refine ⟨?_, this.1, this.2.1⟩
  unfold Sc.ran Sc.run
  rw [this.1, hr]
  simp
theorem q6x {w t : List UInt8} {s : Sc} {f : Nat} (h0 : s.code = 0) (hw : w ≠ []) (hc : cls (dec w 0).1 = 2) (h : runs qbr f w = true) (hrc : rc w ≤ 16) (ht : Stops qbr t) (hr : s.rest = w ++ t) :
    s.blanks = s ∧ s.token.1.kind = 1 ∧ s.token.1.text = w ∧ s.token.2.rest = t ∧ s.token.2.code = 0 := by
  have hbr : qfb w (dec w 0).1 = false := by
    cases w with
    | nil => exact absurd rfl hw
    | cons b w =>
      cases f with
      | zero => simp [runs] at h
      | succ f =>
        unfold runs at h
        simp only [Bool.and_eq_true, Bool.not_eq_true'] at h
        exact h.1.1
  obtain ⟨_, e2, _⟩ := q51 hr hw hbr
  obtain ⟨r1, r2, r3⟩ := q5h ht h hr
  refine ⟨?_, ?_⟩
  · unfold Sc.blanks qiy
    rw [e2]
    simp [hc]
  · have e : s.token = (⟨1, w, s.pos⟩, s.run qbr) := by
      unfold Sc.token
      rw [e2]
      simp only [hc, if_true, r1]
      rw [if_neg (by omega)]
    rw [e]
    exact ⟨rfl, rfl, r2, by rw [r3, h0]⟩
theorem q6w {w t : List UInt8} {s : Sc} {f : Nat} (h0 : s.code = 0) (hw : w ≠ []) (hc : cls (dec w 0).1 = 3) (h : runs qb3 f w = true) (hv : textV 456 (numV w) = w) (hl : (limbs (numV w)).length ≤ 32) (ht : Stops qb3 t) (hr : s.rest = w ++ t) :
    s.blanks = s ∧ s.token.1.kind = 2 ∧ s.token.1.text = w ∧ s.token.2.rest = t ∧ s.token.2.code = 0 := by
  have hbr : qfb w (dec w 0).1 = false := by
    cases w with
    | nil => exact absurd rfl hw
    | cons b w =>
      cases f with
      | zero => simp [runs] at h
      | succ f =>
        unfold runs at h
        simp only [Bool.and_eq_true, Bool.not_eq_true'] at h
        exact h.1.1
  obtain ⟨_, e2, _⟩ := q51 hr hw hbr
  obtain ⟨r1, r2, r3⟩ := q5h ht h hr
  refine ⟨?_, ?_⟩
  · unfold Sc.blanks qiy
    rw [e2]
    simp [hc]
  · have e : s.token = (⟨2, textV 456 (numV w), s.pos⟩, s.run qb3) := by
      unfold Sc.token
      rw [e2]
      simp only [hc, r1]
      rw [if_neg (by decide), if_pos trivial, if_neg (by omega)]
    rw [e]
    exact ⟨rfl, hv, r2, by rw [r3, h0]⟩
def signs : List UInt8 := [43, 45, 42, 47, 37, 40, 41, 61, 123, 125, 44, 59, 63, 64]
theorem q6v {c : UInt8} {t : List UInt8} {s : Sc} (h0 : s.code = 0) (hc : c ∈ signs) (hr : s.rest = c :: t) :
    s.blanks = s ∧ s.token.1.kind = 3 ∧ s.token.1.text = [c] ∧ s.token.2.rest = t ∧ s.token.2.code = 0 := by
  have h128 : c.toNat < 128 := by
    simp only [signs, List.mem_cons, List.not_mem_nil, or_false] at hc
    rcases hc with rfl | rfl | rfl | rfl | rfl | rfl | rfl | rfl | rfl | rfl | rfl | rfl | rfl | rfl <;> decide
  obtain ⟨e1, e2, e3, e4, _⟩ := qls hr h128
  have hcl : cls c.toNat = 5 ∧ fold c.toNat = c.toNat ∧ enc c.toNat = [c] ∧ ¬ ((c.toNat : Int) = 58 ∨ (c.toNat : Int) = 33) := by
    simp only [signs, List.mem_cons, List.not_mem_nil, or_false] at hc
    rcases hc with rfl | rfl | rfl | rfl | rfl | rfl | rfl | rfl | rfl | rfl | rfl | rfl | rfl | rfl <;> decide
  refine ⟨?_, ?_⟩
  · unfold Sc.blanks qiy
    rw [e2]
    simp [hcl.1]
  · have es : s.sign = ([c], s.pass) := by
      unfold Sc.sign
      rw [e1]
      simp only []
      rw [if_neg (by omega), if_neg (by omega), if_neg hcl.2.2.2, hcl.2.1, hcl.2.2.1]
    have e : s.token = (⟨3, [c], s.pos⟩, s.pass) := by
      unfold Sc.token
      rw [e2]
      simp only [hcl.1]
      rw [if_neg (by decide), if_neg (by decide), if_pos trivial, es]
    rw [e]
    exact ⟨rfl, rfl, e3, by rw [e4, h0]⟩
theorem q6y {c : UInt8} {t : List UInt8} {s : Sc} (h0 : s.code = 0) (hc : c = 33 ∨ c = 58) (hr : s.rest = c :: 61 :: t) :
    s.blanks = s ∧ s.token.1.kind = 3 ∧ s.token.1.text = [c, 61] ∧ s.token.2.rest = t ∧ s.token.2.code = 0 := by
  have h128 : c.toNat < 128 := by rcases hc with rfl | rfl <;> decide
  obtain ⟨e1, e2, e3, e4, _⟩ := qls hr h128
  obtain ⟨f1, f2, f3, f4, _⟩ := qls (s := s.pass) e3 (by decide)
  have hcl : cls c.toNat = 5 ∧ enc c.toNat = [c] ∧ ((c.toNat : Int) = 58 ∨ (c.toNat : Int) = 33) := by
    rcases hc with rfl | rfl <;> decide
  have f61 : (((61 : UInt8).toNat : Nat) : Int) = 61 := rfl
  rw [f61] at f1
  refine ⟨?_, ?_⟩
  · unfold Sc.blanks qiy
    rw [e2]
    simp [hcl.1]
  · have es : s.sign = ([c, 61], s.pass.pass) := by
      unfold Sc.sign
      rw [e1]
      simp only []
      rw [if_neg (by omega), if_neg (by omega), if_pos hcl.2.2, f1, hcl.2.1]
      simp
    have e : s.token = (⟨3, [c, 61], s.pos⟩, s.pass.pass) := by
      unfold Sc.token
      rw [e2]
      simp only [hcl.1]
      rw [if_neg (by decide), if_neg (by decide), if_pos trivial, es]
    rw [e]
    exact ⟨rfl, rfl, f3, by rw [f4, e4, h0]⟩
theorem q8t {s : Sc} (h0 : s.code = 0) (hr : s.rest = []) : s.blanks = s ∧ s.token.1.kind = 0 ∧ s.token.1.text = [] ∧ s.token.2.code = 0 := by
  have e := q2j hr
  refine ⟨?_, ?_⟩
  · unfold Sc.blanks qiy
    rw [e]
    simp
  · unfold Sc.token
    rw [e]
    simp [h0]
theorem q4w {s : Sc} {t : List UInt8} (hr : s.rest = 32 :: t) : s.blanks = s.pass.blanks ∧ s.pass.rest = t ∧ s.pass.code = s.code := by
  obtain ⟨_, e2, e3, e4, _⟩ := qls hr (by decide)
  refine ⟨?_, e3, e4⟩
  unfold Sc.blanks
  rw [hr]
  conv => lhs; unfold qiy
  rw [e2, e3]
  have : cls ((32 : UInt8).toNat) = 1 := by decide
  rw [if_pos this]
  rfl
def kt (t : Tok) : Int × List UInt8 := (t.kind, t.text)
inductive Rend : List UInt8 → List (Int × List UInt8) → Prop where
  | nil : Rend [] []
  | space {t l} : Rend t l → Rend (32 :: t) l
  | sign {c t l} : c ∈ signs → Rend t l → Rend (c :: t) ((3, [c]) :: l)
  | mark {c t l} : c = 33 ∨ c = 58 → Rend t l → Rend (c :: 61 :: t) ((3, [c, 61]) :: l)
  | num {w f t l} : w ≠ [] → cls (dec w 0).1 = 3 → runs qb3 f w = true → textV 456 (numV w) = w → (limbs (numV w)).length ≤ 32 → Stops qb3 t → Rend t l → Rend (w ++ t) ((2, w) :: l)
  | name {w f t l} : w ≠ [] → cls (dec w 0).1 = 2 → runs qbr f w = true → rc w ≤ 16 → Stops qbr t → Rend t l → Rend (w ++ t) ((1, w) :: l)
theorem qrq {F : Nat} {s : Sc} {out : List Tok} {k : Int} {w t : List UInt8} {l : List (Int × List UInt8)} (hk : k ≠ 0) (h : s.blanks = s ∧ s.token.1.kind = k ∧ s.token.1.text = w ∧ s.token.2.rest = t ∧ s.token.2.code = 0)
    (ih : ∃ ts p, scanF F s.token.2 (out ++ [s.token.1]) = (some (out ++ [s.token.1] ++ ts), 0, p) ∧ ts.map kt = l ++ [(0, [])]) :
    ∃ ts p, scanF (F + 1) s out = (some (out ++ ts), 0, p) ∧ ts.map kt = (k, w) :: l ++ [(0, [])] := by
  obtain ⟨ts, p, e1, e2⟩ := ih
  refine ⟨s.token.1 :: ts, p, ?_, ?_⟩
  · unfold scanF
    rw [h.1]
    rw [if_neg (by rw [h.2.2.2.2]; simp), if_neg (by rw [h.2.1]; exact hk), e1]
    simp
  · simp [kt, h.2.1, h.2.2.1, e2]
theorem q9g {t : List UInt8} {l : List (Int × List UInt8)} (h : Rend t l) : ∀ (F : Nat) (s : Sc) (out : List Tok), s.rest = t → s.code = 0 → t.length < F → ∃ ts p, scanF F s out = (some (out ++ ts), 0, p) ∧ ts.map kt = l ++ [(0, [])] := by
  induction h with
  | nil =>
    intro F s out hr h0 hF
    obtain ⟨F, rfl⟩ : ∃ n, F = n + 1 := ⟨F - 1, by simp at hF; omega⟩
    have h := q8t h0 hr
    refine ⟨[s.token.1], ⟨0, 0, 0, 0⟩, ?_, ?_⟩
    · unfold scanF
      rw [h.1, if_neg (by rw [h.2.2.2]; simp), if_pos h.2.1]
    · simp [kt, h.2.1, h.2.2.1]
  | space _ ih =>
    intro F s out hr h0 hF
    obtain ⟨F, rfl⟩ : ∃ n, F = n + 1 := ⟨F - 1, by simp at hF; omega⟩
    obtain ⟨e1, e2, e3⟩ := q4w hr
    obtain ⟨ts, p, e4, e5⟩ := ih (F + 1) s.pass out e2 (by rw [e3, h0]) (by simp at hF; omega)
    refine ⟨ts, p, ?_, e5⟩
    rw [← e4]
    unfold scanF
    rw [e1]
  | sign hc _ ih =>
    intro F s out hr h0 hF
    obtain ⟨F, rfl⟩ : ∃ n, F = n + 1 := ⟨F - 1, by simp at hF; omega⟩
    have h := q6v h0 hc hr
    exact qrq (by decide) h (ih F _ _ h.2.2.2.1 h.2.2.2.2 (by simp at hF; omega))
  | mark hc _ ih =>
    intro F s out hr h0 hF
    obtain ⟨F, rfl⟩ : ∃ n, F = n + 1 := ⟨F - 1, by simp at hF; omega⟩
    have h := q6y h0 hc hr
    exact qrq (by decide) h (ih F _ _ h.2.2.2.1 h.2.2.2.2 (by simp at hF; omega))
  | num hw hc hrun hv hl hs _ ih =>
    intro F s out hr h0 hF
    obtain ⟨F, rfl⟩ : ∃ n, F = n + 1 := ⟨F - 1, by omega⟩
    have h := q6w h0 hw hc hrun hv hl hs hr
    have := List.length_pos_iff.2 hw
    exact qrq (by decide) h (ih F _ _ h.2.2.2.1 h.2.2.2.2 (by rw [List.length_append] at hF; omega))
  | name hw hc hrun hrc hs _ ih =>
    intro F s out hr h0 hF
    obtain ⟨F, rfl⟩ : ∃ n, F = n + 1 := ⟨F - 1, by omega⟩
    have h := q6x h0 hw hc hrun hrc hs hr
    have := List.length_pos_iff.2 hw
    exact qrq (by decide) h (ih F _ _ h.2.2.2.1 h.2.2.2.2 (by rw [List.length_append] at hF; omega))
theorem zcv {t : List UInt8} {l : List (Int × List UInt8)} (h : Rend t l) (hl : t.length ≤ 4096) : ∃ ts p, scan t = (some ts, 0, p) ∧ ts.map kt = l ++ [(0, [])] := by
  unfold scan
  rw [if_neg (by omega)]
  obtain ⟨ts, p, e1, e2⟩ := q9g h (t.length + 1) ⟨t, start, 0, qam⟩ [] rfl rfl (by omega)
  exact ⟨ts, p, by simpa using e1, e2⟩
end Go.Rf

namespace Go.Rf
def Digs (w : List UInt8) : Prop := ∀ c ∈ w, 48 ≤ c.toNat ∧ c.toNat ≤ 57
theorem za5 {c : Int} (h : 48 ≤ c ∧ c ≤ 57) : cls c = 3 := by
  have : c = 48 ∨ c = 49 ∨ c = 50 ∨ c = 51 ∨ c = 52 ∨ c = 53 ∨ c = 54 ∨ c = 55 ∨ c = 56 ∨ c = 57 := by omega
  rcases this with rfl | rfl | rfl | rfl | rfl | rfl | rfl | rfl | rfl | rfl <;> decide
theorem q23 {b : UInt8} {w : List UInt8} (h : b.toNat < 128) : qfb (b :: w) (dec (b :: w) 0).1 = false := by
  rw [qlz h]
  unfold qfb
  have : ¬ ((b.toNat : Int) = 65533) := by omega
  simp [this]
theorem q07 : ∀ (f : Nat) (w : List UInt8), Digs w → w.length ≤ f → runs qb3 f w = true
  | f, [], _, _ => by cases f <;> rfl
  | 0, b :: w, _, h => by simp at h
  | f + 1, b :: w, h, hf => by
    have hb := h b (List.mem_cons_self ..)
    unfold runs
    rw [q23 (by omega), qlz (by omega)]
    rw [za5 (by simp only []; omega)]
    have := q07 f w (fun c hc => h c (List.mem_cons_of_mem _ hc)) (by simp only [List.length_cons] at hf; omega)
    simp only [List.drop_succ_cons, List.drop_zero, this]
    decide
def dfold : Int → List UInt8 → Int
  | v, [] => v
  | v, c :: r => dfold (10 * v + ((c.toNat : Int) - 48)) r
def lval : List UInt8 → Int
  | [] => 0
  | c :: r => ((c.toNat : Int) - 48) + 10 * lval r
theorem q2t : ∀ (a b : List UInt8) (v : Int), dfold v (a ++ b) = dfold (dfold v a) b
  | [], _, _ => rfl
  | _ :: a, b, v => q2t a b _
theorem q2s : ∀ l : List UInt8, dfold 0 l.reverse = lval l
  | [] => rfl
  | c :: r => by
    rw [List.reverse_cons, q2t, q2s r]
    show 10 * lval r + _ = _ + 10 * lval r
    omega
theorem dec_at {s : List UInt8} {i : Nat} (h : i < s.length) (hb : (s.getD i 0).toNat < 128) : dec s i = ((s.getD i 0).toNat, 1) := by
  unfold dec Utf8.decode
  have e : ((ByteArray.mk s.toArray).get! (i + 0)) = s.getD i 0 := by
    simp only [ByteArray.get!, Nat.add_zero]
    simp [h]
  simp only [e]
  rw [if_pos hb]
theorem q2v {s : List UInt8} (hs : Digs s) : ∀ (f i : Nat) (v : Int), s.length - i < f → i ≤ s.length → decV s f i v = some (dfold v (s.drop i))
  | 0, i, v, h, _ => by omega
  | f + 1, i, v, h, hi => by
    unfold decV
    by_cases c : i < s.length
    · have hg : s.getD i 0 = s[i] := by simp [c]
      have hd := hs s[i] (List.getElem_mem c)
      rw [if_pos c, dec_at c (by rw [hg]; omega), hg, if_neg (by omega), List.drop_eq_getElem_cons c]
      exact q2v hs f (i + 1) _ (by omega) (by omega)
    · rw [if_neg c, List.drop_eq_nil_of_le (by omega)]
      rfl
theorem q5q : ∀ a b : List UInt8, lval (a ++ b) = lval a + 10 ^ a.length * lval b
  | [], b => by simp [lval]
  | c :: a, b => by
    show _ + 10 * lval (a ++ b) = _
    rw [q5q a b, List.length_cons, Int.pow_succ]
    show _ = _ + 10 * lval a + _
    rw [Int.mul_add, Int.mul_comm (10 ^ a.length) 10, Int.mul_assoc]
    omega
theorem zad : ∀ (f : Nat) (r : Int) (more : Bool), 0 ≤ r → r < 10 ^ f → lval (inF f r more) = r ∧ (more = true → (inF f r more).length = f)
  | 0, r, more, h0, h => by
    simp at h
    exact ⟨by show (0 : Int) = r; omega, fun _ => rfl⟩
  | f + 1, r, more, h0, h => by
    unfold inF
    have hd := ze4 h0
    have ih := zad f (r / 10) more (by omega) (by rw [Int.pow_succ] at h; omega)
    split
    · refine ⟨?_, fun hm => by rw [List.length_cons, ih.2 hm]⟩
      show ((dig r).toNat : Int) - 48 + 10 * lval (inF f (r / 10) more) = r
      rw [ih.1]; omega
    · rename_i c
      exact ⟨by show (0 : Int) = r; omega, fun hm => absurd (.inr hm) c⟩
theorem qwl : ∀ (f : Nat) (n : Int), 0 ≤ n → n < tens f → lval (backF f n) = n
  | 0, n, h0, h => by
    have : n < 1 := h
    show (0 : Int) = n
    omega
  | f + 1, n, h0, h => by
    unfold backF
    split
    · show (0 : Int) = n; omega
    · rw [tens] at h
      have hm : n % 1000000000 < 10 ^ 9 := by omega
      have i1 := zad 9 (n % 1000000000) (decide (0 < n / 1000000000)) (by omega) hm
      have i2 := qwl f (n / 1000000000) (by omega) (by omega)
      rw [q5q, i1.1, i2]
      by_cases c : 0 < n / 1000000000
      · rw [i1.2 (by simp [c])]
        have : (10 : Int) ^ 9 = 1000000000 := by decide
        rw [this]; omega
      · have : n / 1000000000 = 0 := by omega
        rw [this]; omega
theorem qsq {f : Nat} {n : Int} : Digs (textV f n) := fun c hc => q0w f n c hc
theorem qo5 {v : Int} (h0 : 0 ≤ v) (h : v < tens 456) : textV 456 v ≠ [] ∧ numV (textV 456 v) = v := by
  have hd : dfold 0 (textV 456 v) = v := by
    unfold textV
    split
    · rename_i e; rw [e]; rfl
    · rw [q2s, qwl _ _ h0 h]
  have hne : textV 456 v ≠ [] := by
    unfold textV
    split
    · simp
    · rename_i e
      intro hc
      have : backF 456 v = [] := by simpa using hc
      have h2 := qwl 456 v h0 h
      rw [this] at h2
      exact e h2.symm
  refine ⟨hne, ?_⟩
  unfold numV qto
  rw [if_neg hne, q2v qsq _ _ _ (by omega) (by omega), List.drop_zero, hd]
  rfl
theorem qq0 {v : Int} (h0 : 0 ≤ v) (h : (limbs v).length ≤ 32) : v < tens 456 := by
  have h1 := (qae (qaq v)).2
  rw [qbu h0] at h1
  have h2 := pw_le h
  have h3 := pw32
  have h4 : tens 35 ≤ tens 456 := by
    rw [que, que]
    exact zej (by decide)
  omega
theorem zcu {v : Int} {t : List UInt8} {l : List (Int × List UInt8)} (h0 : 0 ≤ v) (h : (limbs v).length ≤ 32) (hs : Stops qb3 t) (hr : Rend t l) : Rend (textV 456 v ++ t) ((2, textV 456 v) :: l) := by
  obtain ⟨hne, hv⟩ := qo5 h0 (qq0 h0 h)
  refine .num hne ?_ (q07 _ _ qsq (Nat.le_refl _)) (by rw [hv]) (by rw [hv]; exact h) hs hr
  cases hw : textV 456 v with
  | nil => exact absurd hw hne
  | cons b w =>
    have := qsq (f := 456) (n := v) b (by rw [hw]; exact List.mem_cons_self ..)
    rw [qlz (by omega)]
    exact za5 (by simp only []; omega)
theorem q9e {p : Int → Bool} : ∀ (F : Nat) (s : Sc), (qfg p F s).rest = [] → runs p F s.rest = true
  | 0, s, h => by
    have : s.rest = [] := h
    rw [this]; rfl
  | F + 1, s, h => by
    unfold qfg at h
    split at h
    · rename_i c
      have hr := (s.cls_same (by omega)).2
      have ih := q9e F s.pass h
      have hn : 0 ≤ s.next.1 := by
        unfold Sc.cls at c
        by_cases h0 : s.next.1 < 0
        · rw [if_pos h0] at c; exact absurd c.1 (by simp)
        · omega
      have hnx : qfb s.rest (dec s.rest 0).1 = false ∧ s.next.1 = (dec s.rest 0).1 := by
        unfold Sc.next at hn ⊢
        rw [if_neg hr] at hn ⊢
        by_cases hb : qfb s.rest (dec s.rest 0).1 = true
        · rw [if_pos hb] at hn; exact absurd hn (by simp)
        · rw [if_neg hb]
          exact ⟨by simpa using hb, rfl⟩
      have hcl : s.cls.1 = cls (dec s.rest 0).1 := by
        unfold Sc.cls
        rw [if_neg (by omega), hnx.2]
      have hp : s.pass.rest = s.rest.drop (dec s.rest 0).2 := by
        unfold Sc.pass
        rw [qgo hr]
      cases hw : s.rest with
      | nil => exact absurd hw hr
      | cons b w =>
        rw [hw] at hnx hcl hp
        rw [hp] at ih
        unfold runs
        rw [hnx.1, ih, ← hcl, c.2]
        rfl
    · rw [s.cls_rest.1] at h
      rw [h]; cases F <;> rfl
structure NameOk (w : List UInt8) : Prop where
  ne : w ≠ []
  c : cls (dec w 0).1 = 2
  r : ∃ f, runs qbr f w = true
  n : rc w ≤ 16
  l : w.length ≤ 4096
theorem qu1 : ∀ (F : Nat) (s : Sc) (out l : List Tok) (e : Int) (p : Pl), scanF F s out = (some l, e, p) → ∃ r, l = out ++ r
  | 0, s, out, l, e, p, h => by unfold scanF at h; cases h; exact ⟨[], by simp⟩
  | F + 1, s, out, l, e, p, h => by
    unfold scanF at h
    split at h
    · cases h
    split at h
    · cases h; exact ⟨_, rfl⟩
    · obtain ⟨r, hr⟩ := qu1 F _ _ _ _ _ h
      exact ⟨_, by rw [hr, List.append_assoc]⟩
theorem zg1 {w : List UInt8} (h : isName w = true) : NameOk w := by
  unfold isName at h
  split at h
  · rename_i t t2 p hs
    simp only [Bool.and_eq_true, decide_eq_true_eq] at h
    obtain ⟨hk, htx⟩ := h
    unfold scan at hs
    split at hs
    · cases hs
    rename_i hl
    have hok : Sc.ok ⟨w, start, 0, qam⟩ := ⟨by show w.length ≤ 4096; omega, by show Pl.small start w.length; unfold Pl.small start; simp only []; omega⟩
    have hb := qih (w.length + 1) hok
    change (Sc.blanks ⟨w, start, 0, qam⟩).ok ∧ (Sc.blanks ⟨w, start, 0, qam⟩).rest.length ≤ w.length at hb
    unfold scanF at hs
    split at hs
    · cases hs
    rename_i hc
    have hc : (Sc.blanks ⟨w, start, 0, qam⟩).token.2.code = 0 := Classical.not_not.1 hc
    have ht : (Sc.blanks ⟨w, start, 0, qam⟩).token.1 = t := by
      split at hs
      · cases hs
      · obtain ⟨r, hr⟩ := qu1 _ _ _ _ _ _ hs
        rw [List.nil_append] at hr
        cases hr; rfl
    rw [← ht] at hk htx
    generalize Sc.blanks ⟨w, start, 0, qam⟩ = s at *
    have hcl : s.cls.1 = 2 := by
      by_cases c : s.cls.1 = 2
      · exact c
      · unfold Sc.token at hk
        rw [if_neg c] at hk
        repeat' split at hk
        all_goals cases hk
    have e : s.token = (⟨1, s.ran qbr, s.pos⟩, if 16 < rc (s.ran qbr) then (s.run qbr).early 42 s.pos else s.run qbr) := by
      unfold Sc.token; rw [if_pos hcl]
    rw [e] at htx hc
    have htx : s.ran qbr = w := htx
    rw [htx] at hc
    have hrl : s.rest.length - (s.run qbr).rest.length = w.length ∧ (s.run qbr).rest.length ≤ s.rest.length := by
      refine ⟨?_, (qm3 qbr _ hb.1).2⟩
      have := congrArg List.length htx
      unfold Sc.ran at this
      rw [List.length_take] at this
      omega
    have hrest0 : (s.run qbr).rest = [] ∨ w = [] := by
      by_cases hz : (s.run qbr).rest.length = 0
      · exact .inl (List.length_eq_zero_iff.1 hz)
      · omega
    have hsame := (s.cls_same (by omega)).2
    have hrest : (s.run qbr).rest = [] := by
      rcases hrest0 with h | h
      · exact h
      · exact List.length_eq_zero_iff.1 (by
          have := hb.2
          have h2 := List.length_pos_iff.2 hsame
          rw [h] at this
          simp at this
          exact absurd this hsame)
    have hsr : s.rest = w := by
      rw [← htx]
      unfold Sc.ran
      rw [hrest]
      simp
    have hnx : s.next.1 = (dec s.rest 0).1 := by
      unfold Sc.next
      rw [if_neg hsame]
      by_cases hbr : qfb s.rest (dec s.rest 0).1 = true
      · exfalso
        unfold Sc.cls Sc.next at hcl
        rw [if_neg hsame, if_pos hbr, if_pos (show (-1 : Int) < 0 by decide)] at hcl
        cases hcl
      · rw [if_neg hbr]
    refine ⟨hsr ▸ hsame, ?_, ⟨s.rest.length + 1, ?_⟩, ?_, by omega⟩
    · rw [← hsr, ← hnx]
      unfold Sc.cls at hcl
      by_cases h0 : s.next.1 < 0
      · rw [if_pos h0] at hcl; cases hcl
      · rw [if_neg h0] at hcl; exact hcl
    · rw [← hsr]; exact q9e _ _ hrest
    · by_cases h16 : 16 < rc w
      · rw [if_pos h16] at hc
        cases hc
      · omega
  · cases h
theorem q9h {w t : List UInt8} {l : List (Int × List UInt8)} (h : NameOk w) (hs : Stops qbr t) (hr : Rend t l) : Rend (w ++ t) ((1, w) :: l) := by
  obtain ⟨f, hf⟩ := h.r
  exact .name h.ne h.c hf h.n hs hr
end Go.Rf

namespace Go.Rf
theorem qtp (s : Nat) : 0 < (2 : Int) ^ s := Int.pow_pos (by decide)
theorem p2_le {s : Nat} (h : s < 32) : (2 : Int) ^ s ≤ 2147483648 := by
  have h1 : (2 : Nat) ^ s ≤ 2 ^ 31 := Nat.pow_le_pow_right (by decide) (by omega)
  have h2 : ((2 ^ s : Nat) : Int) = (2 : Int) ^ s := by simp
  omega
theorem or_lo {c a : Int} {s : Nat} (hs : s < 32) (hc : 0 ≤ c ∧ c < 2 ^ s) (ha : 0 ≤ a ∧ a < 4294967296) : orK .u64 c (a * 2 ^ s) = c + a * 2 ^ s := by
  obtain ⟨x, rfl⟩ := Int.eq_ofNat_of_zero_le hc.1
  obtain ⟨y, rfl⟩ := Int.eq_ofNat_of_zero_le ha.1
  have hp := p2_le hs
  have h2 : ((2 ^ s : Nat) : Int) = (2 : Int) ^ s := by simp
  have h3 : (y : Int) * 2 ^ s ≤ 4294967295 * 2 ^ s := Int.mul_le_mul_of_nonneg_right (by omega) (by have := qtp s; omega)
  have h5 : 2 ^ s * y ≤ 9223372034707292160 := by
    have : ((2 ^ s * y : Nat) : Int) ≤ 9223372034707292160 := by
      rw [Int.natCast_mul, h2, Int.mul_comm]; omega
    omega
  unfold orK
  rw [BitVec.toNat_or]
  have e1 : (BitVec.ofInt IntKind.u64.bits ((y : Int) * 2 ^ s)).toNat = 2 ^ s * y := by
    rw [show ((y : Int) * 2 ^ s) = ((2 ^ s * y : Nat) : Int) by rw [Int.natCast_mul, h2, Int.mul_comm], BitVec.ofInt_natCast, BitVec.toNat_ofNat]
    exact Nat.mod_eq_of_lt (by show _ < 2 ^ 64; omega)
  have e2 : (BitVec.ofInt IntKind.u64.bits (x : Int)).toNat = x := by
    rw [BitVec.ofInt_natCast, BitVec.toNat_ofNat]
    exact Nat.mod_eq_of_lt (by show _ < 2 ^ 64; omega)
  rw [e1, e2, Nat.or_comm, ← Nat.two_pow_add_eq_or_of_lt (by omega), qye ⟨by omega, by omega⟩, Int.natCast_add, Int.natCast_mul, h2, Int.mul_comm, Int.add_comm]
theorem zc5 (k : IntKind) (x y : Int) : orK k x y = orK k y x := by
  unfold orK
  rw [BitVec.or_comm]
theorem q7p (as : List Int) (s n : Nat) (hs : s < 32) (hn : n ≤ 1099511627776) (ha : Good as) (hl : as.length ≤ n) : ∀ d i (out : List Int) (c : Int), d + i = n → out.length = n → Good out → 0 ≤ c → c < 2 ^ s →
    nv (out.take i) + pw i * c = nv (as.take i) * 2 ^ s →
    ∃ out' c', codeX T0 X0 0 qhs (some (.nrm, ⟨[(0, .d (.sl (L as))), (1, .d (.int .i64 s)), (7, .ref (.b 0) ⟨1, 4⟩ 0 n), (8, .d (.int .u64 c)), (13, .d (.int .i64 n)), (14, .d (.int .i64 i))], [.arr (LV out) ⟨1, 4⟩]⟩)) =
        some (.exit 0, ⟨[(7, .ref (.b 0) ⟨1, 4⟩ 0 n)], [.arr (LV out') ⟨1, 4⟩]⟩) ∧
      out'.length = n ∧ Good out' ∧ 0 ≤ c' ∧ nv out' + pw n * c' = nv as * 2 ^ s := by
  have p0 := qtp s
  have p1 := p2_le hs
  have hm : min s 64 = s := by omega
  intro d
  induction d with
  | zero =>
    intro i out c hd ho hg hc hc1 hv
    have : i = n := by omega
    subst this
    refine ⟨out, c, ?_, ho, hg, hc, by rw [List.take_of_length_le (by omega), List.take_of_length_le (by omega)] at hv; exact hv⟩
    rw [qac (l := qhs) rfl]
    simp -implicitDefEqProofs (disch := omega) [qht]
  | succ d ih =>
    intro i out c hd ho hg hc hc1 hv
    have n1 := ha.nth i
    rw [qac (l := qhs) rfl]
    have hy : 0 ≤ nth as i * 2 ^ s ∧ nth as i * 2 ^ s ≤ 4294967295 * 2 ^ s := ⟨Int.mul_nonneg n1.1 (by omega), Int.mul_le_mul_of_nonneg_right (by omega) (by omega)⟩
    have ho1 := or_lo hs ⟨hc, hc1⟩ n1
    obtain ⟨out', c', h1, h2⟩ := ih (i + 1) (out.set i ((c + nth as i * 2 ^ s) % 4294967296)) ((c + nth as i * 2 ^ s) / 4294967296) (by omega) (by simp [ho]) (qg7 hg _ (by omega)) (by omega) (by omega) (by
      rw [qn0 (by omega), qcq, Int.add_mul, ← hv, Int.mul_assoc]
      have s1 := qk6 i (c + nth as i * 2 ^ s)
      rw [Int.mul_add (pw i) c] at s1
      omega)
    refine ⟨out', c', ?_, h2⟩
    rw [← h1]
    by_cases hi : i < as.length
    · generalize hz : nth as i * 2 ^ s = z at *
      simp -implicitDefEqProofs (disch := omega) [qht, hm, hz, ho1]
    · have e : nth as i = 0 := qn1 (by omega)
      have ec : c % 4294967296 = c := by omega
      simp -implicitDefEqProofs (disch := omega) [qht, e, ec]
theorem qxq {as : List Int} {s n : Nat} (hs : s < 32) (hn : n ≤ 1099511627776) (ha : Good as) (hl : as.length ≤ n) (hb : nv as * 2 ^ s < pw n) :
    ∃ out, callE T0 X0 qoa [.d (.sl (L as)), .d (.int .i64 s), .d (.int .i64 n)] [] = some (.ret [.ref (.b 0) ⟨1, 4⟩ 0 n] [.arr (LV out) ⟨1, 4⟩]) ∧ out.length = n ∧ Good out ∧ nv out = nv as * 2 ^ s := by
  obtain ⟨out, c, h1, ho, hg, hc, hv⟩ := q7p as s n hs hn ha hl n 0 (List.replicate n 0) 0 (by omega) (by simp) (qpu _) (by omega) (qtp s) (by simp [nv])
  rw [qab (af := qle) rfl rfl rfl]
  have h0 := (qae hg).1
  have hc0 : c = 0 := by
    by_cases h : c = 0
    · exact h
    · have := qib n
      have : pw n * 1 ≤ pw n * c := Int.mul_le_mul_of_nonneg_left (by omega) (by omega)
      omega
  subst hc0
  refine ⟨out, ?_, ho, hg, by omega⟩
  simp only [Int.cast_ofNat_Int] at h1
  simp -implicitDefEqProofs (disch := omega) [qle, h1]
theorem q7g {a b : Int} {s : Nat} (hs : s < 32) (ha : 0 ≤ a ∧ a < 4294967296) (hb : 0 ≤ b ∧ b < 4294967296) : 2 ^ s * (((b * 4294967296 + a) / 2 ^ s) % 4294967296) = a - a % 2 ^ s + 4294967296 * (b % 2 ^ s) := by
  obtain ⟨t, ht⟩ : ∃ t : Nat, s + t = 32 := ⟨32 - s, by omega⟩
  have p0 := qtp s
  have hQ : (2 : Int) ^ s * 2 ^ t = 4294967296 := by rw [← Int.pow_add, ht]; rfl
  have q0 := qtp t
  generalize (2 : Int) ^ s = P at *
  generalize (2 : Int) ^ t = Q at *
  have e1 := Int.mul_ediv_add_emod a P
  have e2 := Int.mul_ediv_add_emod b P
  have r1 := Int.emod_nonneg a (show P ≠ 0 by omega)
  have r2 := Int.emod_lt_of_pos a p0
  have t1 := Int.emod_nonneg b (show P ≠ 0 by omega)
  have t2 := Int.emod_lt_of_pos b p0
  have u0 : 0 ≤ a / P := Int.ediv_nonneg ha.1 (by omega)
  have u1 : a / P < Q := Int.ediv_lt_of_lt_mul p0 (by rw [Int.mul_comm, hQ]; exact ha.2)
  generalize a / P = u at *
  generalize a % P = r at *
  generalize b / P = w at *
  generalize b % P = t at *
  have ex : b * 4294967296 + a = r + P * (u + Q * t + 4294967296 * w) := by
    rw [← e1, ← e2, Int.mul_add P, Int.mul_add P, ← Int.mul_assoc P Q, hQ, Int.add_mul, Int.mul_comm t, Int.mul_comm (P * w), Int.mul_left_comm P]
    omega
  have ey : (b * 4294967296 + a) / P = u + Q * t + 4294967296 * w := by
    rw [ex, Int.add_mul_ediv_left _ _ (by omega), Int.ediv_eq_zero_of_lt r1 r2, Int.zero_add]
  have hq : Q * t ≤ Q * (P - 1) := Int.mul_le_mul_of_nonneg_left (by omega) (by omega)
  rw [Int.mul_sub, Int.mul_comm Q P, hQ, Int.mul_one] at hq
  have hq0 : 0 ≤ Q * t := Int.mul_nonneg (by omega) t1
  have em : (u + Q * t + 4294967296 * w) % 4294967296 = u + Q * t := by rw [Int.add_mul_emod_self_left]; exact Int.emod_eq_of_lt (by omega) (by omega)
  rw [ey, em, Int.mul_add, ← Int.mul_assoc, hQ]
  omega
theorem q7f (as : List Int) (s : Nat) (hs : s < 32) (hn : as.length ≤ 1099511627776) (ha : Good as) : ∀ d i (out : List Int), d + i = as.length → out.length = as.length → Good out →
    2 ^ s * nv (out.take i) + nth as 0 % 2 ^ s = nv (as.take i) + pw i * (nth as i % 2 ^ s) →
    ∃ out', codeX T0 X0 0 qhu (some (.nrm, ⟨[(0, .d (.sl (L as))), (1, .d (.int .i64 s)), (6, .ref (.b 0) ⟨1, 4⟩ 0 as.length), (26, .d (.int .i64 as.length)), (27, .d (.int .i64 i))], [.arr (LV out) ⟨1, 4⟩]⟩)) =
        some (.exit 0, ⟨[(6, .ref (.b 0) ⟨1, 4⟩ 0 as.length)], [.arr (LV out') ⟨1, 4⟩]⟩) ∧
      out'.length = as.length ∧ Good out' ∧ 2 ^ s * nv out' + nth as 0 % 2 ^ s = nv as := by
  have p0 := qtp s
  have p1 := p2_le hs
  have hm : min s 64 = s := by omega
  have hsm : (s : Int) % 32 = s := by omega
  intro d
  induction d with
  | zero =>
    intro i out hd ho hg hv
    have : i = as.length := by omega
    subst this
    refine ⟨out, ?_, ho, hg, ?_⟩
    · rw [qac (l := qhu) rfl]
      simp -implicitDefEqProofs (disch := omega) [qhv]
    · rw [qn1 (Nat.le_refl _), List.take_of_length_le (by omega), List.take_of_length_le (by omega)] at hv
      simpa using hv
  | succ d ih =>
    intro i out hd ho hg hv
    have n1 := ha.nth i
    have n2 := ha.nth (i + 1)
    rw [qac (l := qhu) rfl]
    have hr := q7g hs n1 n2
    obtain ⟨out', h1, h2⟩ := ih (i + 1) (out.set i (((nth as (i + 1) * 4294967296 + nth as i) / 2 ^ s) % 4294967296)) (by omega) (by simp [ho]) (qg7 hg _ (by omega)) (by
      rw [qn0 (by omega), qcq, Int.mul_add, Int.mul_left_comm, hr, qox]
      simp only [Int.mul_add, Int.mul_sub]
      rw [Int.mul_left_comm (pw i), Int.mul_assoc]
      omega)
    refine ⟨out', ?_, h2⟩
    rw [← h1]
    have ho1 : orK .u64 (nth as i) (nth as (i + 1) * 4294967296) = nth as (i + 1) * 4294967296 + nth as i := by rw [zc5]; exact or64 n2.1 n1 n2.2
    by_cases hi : i + 1 < as.length
    · simp -implicitDefEqProofs (disch := omega) [qhv, hm, hsm, ho1]
    · have e : nth as (i + 1) = 0 := qn1 (by omega)
      simp -implicitDefEqProofs (disch := omega) [qhv, hm, hsm, e]
theorem q7e {xs : List Int} {s : Nat} (hs : s < 32) (hn : xs.length ≤ 1099511627776) (hx : Good xs) :
    callE T0 X0 qsd [.d (.sl (L xs)), .d (.int .i64 s)] [] = some (.ret [.d (.sl (L (limbs (nv xs / 2 ^ s)))), .d (.int .i64 0)] []) := by
  rw [qab (af := qjb) rfl rfl rfl]
  have s1 := qa2 hx (by omega)
  have h1 := qbu (qae hx).1
  have l1 : (limbs (nv xs)).length ≤ xs.length := qa7 (qae hx).1 (qae hx).2
  have hg := qaq (nv xs)
  generalize limbs (nv xs) = as at *
  rw [← h1]
  have hd : (s : Int) / 32 = 0 := by omega
  by_cases h0 : as.length = 0
  · have : as = [] := List.length_eq_zero_iff.1 h0
    subst this
    have e : (nv [] / 2 ^ s : Int) = 0 := by simp [nv]
    rw [e]
    simp -implicitDefEqProofs (disch := omega) [qjb, s1, hd]
  · obtain ⟨out, l2, ho, hgo, hv⟩ := q7f as s hs (by omega) hg as.length 0 (List.replicate as.length 0) (by omega) (by simp) (qpu _) (by simp [nv, pw])
    have s2 := qa2 hgo (by omega)
    have p0 := qtp s
    have e : nv as / 2 ^ s = nv out := by
      rw [← hv, Int.add_comm, Int.add_mul_ediv_left _ _ (by omega), Int.ediv_eq_zero_of_lt (Int.emod_nonneg _ (by omega)) (Int.emod_lt_of_pos _ p0), Int.zero_add]
    rw [e]
    have ht : out.take as.length = out := List.take_of_length_le (by omega)
    simp only [Int.cast_ofNat_Int] at l2
    simp -implicitDefEqProofs (disch := omega) [-List.length_eq_zero_iff, qjb, s1, hd, l2, s2, ht]
end Go.Rf

namespace Go.Rf
theorem q4h {Vv W Bn f1 f2 top u2 : Int} (hBn : 0 < Bn) (hf1 : 1 ≤ f1) (hf2 : 0 ≤ f2 ∧ f2 < 4294967296) (hu2 : 0 ≤ u2 ∧ u2 < 4294967296) (ht : 0 ≤ top)
    (hV1 : (f1 * 4294967296 + f2) * Bn ≤ Vv) (hV2 : Vv < (f1 * 4294967296 + f2 + 1) * Bn) (hW1 : (top * 4294967296 + u2) * Bn ≤ W) (hW2 : W < (top * 4294967296 + u2 + 1) * Bn) (hWB : W < 4294967296 * Vv) :
    (∀ g rest, g * f1 + rest = top → 0 ≤ g → g < 4294967296 → (4294967296 ≤ rest ∨ g * f2 ≤ rest * 4294967296 + u2) → (g - 1) * Vv ≤ W) ∧
    (∀ g rest, g * f1 + rest = top → 0 ≤ g → (4294967296 ≤ g ∨ rest * 4294967296 + u2 < g * f2) → W < g * Vv) ∧
    (∀ g rest, g * f1 + rest = top → 4294967296 ≤ g → rest < 4294967296) ∧ W < (top / f1 + 1) * Vv := by
  have hm : ∀ g rest : Int, g * f1 + rest = top → g * (f1 * 4294967296 + f2) = (top - rest) * 4294967296 + g * f2 := fun g rest h => by
    rw [Int.mul_add, ← Int.mul_assoc, ← h, Int.add_sub_cancel]
  have hV0 : 0 < Vv := Int.lt_of_lt_of_le (Int.mul_pos (by omega) hBn) hV1
  have key : ∀ g, 0 ≤ g → top * 4294967296 + u2 < g * (f1 * 4294967296 + f2) → W < g * Vv := fun g h0 h => by
    have e1 : (top * 4294967296 + u2 + 1) * Bn ≤ g * (f1 * 4294967296 + f2) * Bn := Int.mul_le_mul_of_nonneg_right (by omega) (by omega)
    have e2 : g * ((f1 * 4294967296 + f2) * Bn) ≤ g * Vv := Int.mul_le_mul_of_nonneg_left hV1 h0
    rw [← Int.mul_assoc] at e2
    omega
  refine ⟨fun g rest h h0 h1 hc => ?_, fun g rest h h0 hc => ?_, fun g rest h hc => ?_, ?_⟩
  · have hc2 : g * f2 ≤ rest * 4294967296 + u2 := by
      rcases hc with hc | hc
      · have := q19 ⟨h0, h1⟩ hf2
        omega
      · exact hc
    have e0 := hm g rest h
    have e1 : g * Vv ≤ g * ((f1 * 4294967296 + f2 + 1) * Bn) := Int.mul_le_mul_of_nonneg_left (by omega) h0
    have e2 : g * ((f1 * 4294967296 + f2 + 1) * Bn) = g * (f1 * 4294967296 + f2) * Bn + g * Bn := by
      rw [← Int.mul_assoc, Int.mul_add g _ 1, Int.mul_one, Int.add_mul]
    have e3 : g * (f1 * 4294967296 + f2) * Bn ≤ (top * 4294967296 + u2) * Bn := Int.mul_le_mul_of_nonneg_right (by omega) (by omega)
    have e4 : g * Bn ≤ (f1 * 4294967296 + f2) * Bn := Int.mul_le_mul_of_nonneg_right (by omega) (by omega)
    rw [Int.sub_mul, Int.one_mul]
    omega
  · rcases hc with hc | hc
    · have : 4294967296 * Vv ≤ g * Vv := Int.mul_le_mul_of_nonneg_right hc (by omega)
      omega
    · exact key g h0 (by rw [hm g rest h]; omega)
  · have e1 : (top * 4294967296 + u2) * Bn < 4294967296 * (f1 * 4294967296 + f2 + 1) * Bn := by
      rw [Int.mul_assoc 4294967296]
      omega
    have e2 := Int.lt_of_mul_lt_mul_right e1 (by omega)
    have e3 : 4294967296 * f1 ≤ g * f1 := Int.mul_le_mul_of_nonneg_right hc (by omega)
    omega
  · have e0 := Int.lt_ediv_add_one_mul_self top (show 0 < f1 by omega)
    have e1 : 0 ≤ top / f1 := Int.ediv_nonneg ht (by omega)
    refine key _ (by omega) ?_
    have e2 : 0 ≤ (top / f1 + 1) * f2 := Int.mul_nonneg (by omega) hf2.1
    rw [Int.mul_add, ← Int.mul_assoc]
    omega
theorem q7x (us qs vs : List Int) (s j : Nat) {Vv W f1 f2 top : Int} (hl : us.length ≤ 1099511627776) (hj : j + vs.length < us.length) (hv : 2 ≤ vs.length) (hq : qs.length ≤ 1099511627776) (hu : Good us)
    (hf1 : 1 ≤ f1 ∧ f1 < 4294967296) (hf2 : 0 ≤ f2 ∧ f2 < 4294967296) (ht : 0 ≤ top ∧ top < 18446744073709551616)
    (k1 : ∀ g rest, g * f1 + rest = top → 0 ≤ g → g < 4294967296 → (4294967296 ≤ rest ∨ g * f2 ≤ rest * 4294967296 + nth us (j + vs.length - 2)) → (g - 1) * Vv ≤ W)
    (k2 : ∀ g rest, g * f1 + rest = top → 0 ≤ g → (4294967296 ≤ g ∨ rest * 4294967296 + nth us (j + vs.length - 2) < g * f2) → W < g * Vv)
    (k3 : ∀ g rest, g * f1 + rest = top → 4294967296 ≤ g → rest < 4294967296) :
    ∀ m g rest, (4294967296 - rest).toNat = m → g * f1 + rest = top → 0 ≤ g → g < 18446744073709551616 → 0 ≤ rest → rest < 8589934592 → W < (g + 1) * Vv →
    ∃ g', codeX T0 X0 0 qi5 (some (.nrm, ⟨[(4, .ref (.b 0) ⟨1, 4⟩ 0 qs.length), (6, .d (.int .i64 s)), (7, .ref (.b 1) ⟨1, 4⟩ 0 us.length), (8, .ref (.b 2) ⟨1, 4⟩ 0 vs.length), (9, .d (.int .i64 vs.length)), (10, .d (.int .u64 f1)), (11, .d (.int .u64 f2)), (12, .d (.int .i64 j)), (14, .d (.int .u64 g)), (15, .d (.int .u64 rest))], [.arr (LV qs) ⟨1, 4⟩, .arr (LV us) ⟨1, 4⟩, .arr (LV vs) ⟨1, 4⟩]⟩)) =
        some (.exit 2, ⟨[(4, .ref (.b 0) ⟨1, 4⟩ 0 qs.length), (6, .d (.int .i64 s)), (7, .ref (.b 1) ⟨1, 4⟩ 0 us.length), (8, .ref (.b 2) ⟨1, 4⟩ 0 vs.length), (9, .d (.int .i64 vs.length)), (10, .d (.int .u64 f1)), (11, .d (.int .u64 f2)), (12, .d (.int .i64 j)), (14, .d (.int .u64 g'))], [.arr (LV qs) ⟨1, 4⟩, .arr (LV us) ⟨1, 4⟩, .arr (LV vs) ⟨1, 4⟩]⟩) ∧
      0 ≤ g' ∧ g' < 4294967296 ∧ (g' - 1) * Vv ≤ W ∧ W < (g' + 1) * Vv := by
  intro m
  induction m using Nat.strongRecOn with
  | _ m ih =>
    intro g rest hm hg h0 h64 hr0 hr1 hW
    have n2 := hu.nth (j + vs.length - 2)
    rw [qac (l := qi5) rfl]
    by_cases hr : rest < 4294967296
    · have hor := or64 hr0 n2 hr
      have hdec : ∀ hc : 4294967296 ≤ g ∨ rest * 4294967296 + nth us (j + vs.length - 2) < g * f2, 1 ≤ g →
        ∃ g', codeX T0 X0 0 qi5 (some (.nrm, ⟨[(4, .ref (.b 0) ⟨1, 4⟩ 0 qs.length), (6, .d (.int .i64 s)), (7, .ref (.b 1) ⟨1, 4⟩ 0 us.length), (8, .ref (.b 2) ⟨1, 4⟩ 0 vs.length), (9, .d (.int .i64 vs.length)), (10, .d (.int .u64 f1)), (11, .d (.int .u64 f2)), (12, .d (.int .i64 j)), (14, .d (.int .u64 (g - 1))), (15, .d (.int .u64 (rest + f1)))], [.arr (LV qs) ⟨1, 4⟩, .arr (LV us) ⟨1, 4⟩, .arr (LV vs) ⟨1, 4⟩]⟩)) =
            some (.exit 2, ⟨[(4, .ref (.b 0) ⟨1, 4⟩ 0 qs.length), (6, .d (.int .i64 s)), (7, .ref (.b 1) ⟨1, 4⟩ 0 us.length), (8, .ref (.b 2) ⟨1, 4⟩ 0 vs.length), (9, .d (.int .i64 vs.length)), (10, .d (.int .u64 f1)), (11, .d (.int .u64 f2)), (12, .d (.int .i64 j)), (14, .d (.int .u64 g'))], [.arr (LV qs) ⟨1, 4⟩, .arr (LV us) ⟨1, 4⟩, .arr (LV vs) ⟨1, 4⟩]⟩) ∧
          0 ≤ g' ∧ g' < 4294967296 ∧ (g' - 1) * Vv ≤ W ∧ W < (g' + 1) * Vv := fun hc h1 =>
        ih _ (by omega) (g - 1) (rest + f1) rfl (by rw [Int.sub_mul, Int.one_mul]; omega) (by omega) (by omega) (by omega) (by omega) (by rw [Int.sub_add_cancel]; exact k2 g rest hg h0 hc)
      by_cases hb : 4294967296 ≤ g
      · obtain ⟨g', e, h⟩ := hdec (.inl hb) (by omega)
        refine ⟨g', ?_, h⟩
        rw [← e]
        simp -implicitDefEqProofs (disch := omega) [qgz, hor]
      · have hm2 := q19 (x := g) (y := f2) ⟨h0, by omega⟩ hf2
        by_cases hc : rest * 4294967296 + nth us (j + vs.length - 2) < g * f2
        · have h1 : 1 ≤ g := by
            by_cases h : 1 ≤ g
            · exact h
            · have : g = 0 := by omega
              subst this
              omega
          obtain ⟨g', e, h⟩ := hdec (.inr hc) h1
          refine ⟨g', ?_, h⟩
          rw [← e]
          simp -implicitDefEqProofs (disch := omega) [qgz, hor]
        · refine ⟨g, ?_, h0, by omega, k1 g rest hg h0 (by omega) (.inr (by omega)), hW⟩
          simp -implicitDefEqProofs (disch := omega) [qgz, hor]
    · have hb : g < 4294967296 := by
        by_cases h : g < 4294967296
        · exact h
        · exact absurd (k3 g rest hg (by omega)) hr
      refine ⟨g, ?_, h0, hb, k1 g rest hg h0 hb (.inl (by omega)), hW⟩
      simp -implicitDefEqProofs (disch := omega) [qgz]
end Go.Rf

namespace Go.Rf
@[simp] theorem without_at (h : Loc → Option Obj) (m : List Loc) (l : Loc) : qgh h m l = if l ∈ m then none else h l := rfl
theorem q39 {l : List Int} (h : ∀ i, nth l i = 0) : nv l = 0 := by
  induction l with
  | nil => rfl
  | cons x l ih =>
    have h0 := h 0
    rw [qn2] at h0
    have h1 := ih (fun i => by have := h (i + 1); rwa [qn3] at this)
    simp only [nv, h0, h1]
    rfl
theorem q5o (xs : List Int) (k i : Nat) : nth (xs.drop k) i = nth xs (k + i) := by simp [nth, List.getD_eq_getElem?_getD, List.getElem?_drop]
theorem q98 (vs : List Int) (s m : Nat) (hv : Good vs) (hv2 : 2 ≤ vs.length) (hf : 1 ≤ nth vs (vs.length - 1)) (hl : m + vs.length ≤ 1099511627776) : ∀ k (us qs : List Int), k ≤ m → us.length = m + vs.length → qs.length = m → Good us → Good qs → nv us < pw k * nv vs → (∀ i, i < k → nth qs i = 0) →
    ∃ us' qs', codeX T0 X0 0 qi4 (some (.nrm, ⟨[(4, .ref (.b 0) ⟨1, 4⟩ 0 m), (6, .d (.int .i64 s)), (7, .ref (.b 1) ⟨1, 4⟩ 0 us.length), (8, .ref (.b 2) ⟨1, 4⟩ 0 vs.length), (9, .d (.int .i64 vs.length)), (10, .d (.int .u64 (nth vs (vs.length - 1)))), (11, .d (.int .u64 (nth vs (vs.length - 2)))), (12, .d (.int .i64 ((k : Int) - 1)))], [.arr (LV qs) ⟨1, 4⟩, .arr (LV us) ⟨1, 4⟩, .arr (LV vs) ⟨1, 4⟩]⟩)) =
        some (.exit 0, ⟨[(4, .ref (.b 0) ⟨1, 4⟩ 0 m), (6, .d (.int .i64 s)), (7, .ref (.b 1) ⟨1, 4⟩ 0 us.length), (9, .d (.int .i64 vs.length))], [.arr (LV qs') ⟨1, 4⟩, .arr (LV us') ⟨1, 4⟩]⟩) ∧
      us'.length = us.length ∧ qs'.length = m ∧ Good us' ∧ Good qs' ∧ nv us' < nv vs ∧ nv us + nv qs * nv vs = nv us' + nv qs' * nv vs := by
  intro k
  induction k with
  | zero =>
    intro us qs hk hu hq gu gq hlt hz
    refine ⟨us, qs, ?_, rfl, hq, gu, gq, by simpa [pw] using hlt, rfl⟩
    rw [qac (l := qi4) rfl]
    simp -implicitDefEqProofs (disch := omega) [ql3]
  | succ j ih =>
    intro us qs hk hu hq gu gq hlt hz
    have hn : j + vs.length < us.length := by omega
    have pj := qib j
    have vb := qae hv
    have hlt2 : nv us < pw (j + 1 + vs.length) := by
      rw [Nat.add_comm, qrs]
      have := Int.mul_le_mul_of_nonneg_left (Int.le_of_lt vb.2) (Int.le_of_lt (qib (j + 1)))
      rw [Int.mul_comm (pw vs.length)]
      omega
    have zz := qvu gu hlt2
    have f1b := hv.nth (vs.length - 1)
    have f2b := hv.nth (vs.length - 2)
    have u0b := gu.nth (j + vs.length)
    have u1b := gu.nth (j + vs.length - 1)
    have u2b := gu.nth (j + vs.length - 2)
    have hVd : nv vs = nv (vs.take (vs.length - 2)) + pw (vs.length - 2) * (nth vs (vs.length - 1) * 4294967296 + nth vs (vs.length - 2)) := by
      rw [qfr (xs := vs) (j := vs.length - 2) (by omega), qgn (by omega), show vs.length - 2 + 1 = vs.length - 1 by omega, qgn (by omega), show vs.length - 1 + 1 = vs.length by omega, List.drop_length]
      simp only [nv]
      rw [Int.mul_zero, Int.add_zero, Int.add_comm (nth vs (vs.length - 2)), Int.mul_comm 4294967296]
    have vl := qae (hv.take (vs.length - 2))
    rw [List.length_take, Nat.min_eq_left (by omega)] at vl
    have hWd : nv (us.drop j) = nv ((us.drop j).take (vs.length - 2)) + pw (vs.length - 2) * ((nth us (j + vs.length) * 4294967296 + nth us (j + vs.length - 1)) * 4294967296 + nth us (j + vs.length - 2)) := by
      rw [qfr (xs := us.drop j) (j := vs.length - 2) (by simp; omega), List.drop_drop, show j + (vs.length - 2) = j + vs.length - 2 by omega, qgn (xs := us) (i := j + vs.length - 2) (by omega), show j + vs.length - 2 + 1 = j + vs.length - 1 by omega, qgn (xs := us) (i := j + vs.length - 1) (by omega), show j + vs.length - 1 + 1 = j + vs.length by omega, qgn (xs := us) (i := j + vs.length) (by omega)]
      have e : nv (us.drop (j + vs.length + 1)) = 0 := q39 (fun i => by rw [q5o]; exact zz _ (by omega))
      simp only [nv, e]
      rw [Int.mul_zero, Int.add_zero]
      congr 2
      omega
    have wl := qae ((gu.drop j).take (vs.length - 2))
    rw [List.length_take, Nat.min_eq_left (by simp; omega)] at wl
    have hUd := qfr (xs := us) (j := j) (by omega)
    have ul := qae (gu.take j)
    rw [List.length_take, Nat.min_eq_left (by omega)] at ul
    have hWB : nv (us.drop j) < 4294967296 * nv vs := by
      have : pw j * nv (us.drop j) < pw j * (4294967296 * nv vs) := by
        rw [qox, Int.mul_comm 4294967296, Int.mul_assoc] at hlt
        omega
      exact Int.lt_of_mul_lt_mul_left this (by omega)
    generalize hf1 : nth vs (vs.length - 1) = f1 at *
    generalize hf2 : nth vs (vs.length - 2) = f2 at *
    have hb := qib (vs.length - 2)
    generalize hBn : pw (vs.length - 2) = Bn at *
    have htop : 0 ≤ nth us (j + vs.length) * 4294967296 + nth us (j + vs.length - 1) ∧ nth us (j + vs.length) * 4294967296 + nth us (j + vs.length - 1) < 18446744073709551616 := by omega
    have hor := or64 u0b.1 u1b u0b.2
    generalize htp : nth us (j + vs.length) * 4294967296 + nth us (j + vs.length - 1) = top at *
    obtain ⟨k1, k2, k3, k4⟩ := q4h (Vv := nv vs) (W := nv (us.drop j)) hb hf f2b u2b htop.1 (by rw [hVd, Int.mul_comm]; omega) (by rw [hVd, Int.add_mul, Int.one_mul, Int.mul_comm Bn]; omega) (by rw [hWd, Int.mul_comm]; omega) (by rw [hWd, Int.add_mul _ 1, Int.one_mul, Int.mul_comm Bn]; omega) hWB
    have t1 := Int.mul_ediv_add_emod top f1
    rw [Int.mul_comm] at t1
    have t2 : 0 ≤ top / f1 := Int.ediv_nonneg htop.1 (by omega)
    have t3 : top / f1 ≤ top := Int.ediv_le_self _ htop.1
    have t4 := Int.emod_nonneg top (show f1 ≠ 0 by omega)
    have t5 := Int.emod_lt_of_pos top (show 0 < f1 by omega)
    obtain ⟨g, l1, g0, g1, g2, g3⟩ := q7x us qs vs s j (W := nv (us.drop j)) (Vv := nv vs) (by omega) hn hv2 (by omega) gu ⟨hf, f1b.2⟩ f2b htop k1 k2 k3 _ (top / f1) (top % f1) rfl t1 t2 (by omega) t4 (by omega) k4
    have hV0 : 0 < nv vs := by
      have : 0 < Bn * (f1 * 4294967296 + f2) := Int.mul_pos hb (by omega)
      omega
    obtain ⟨us2, l2, hu2, gu2, hnu⟩ := q8y (us := us) (j := j) (by omega) hn hv gu ⟨g0, g1⟩ (fun i hi => zz i (by omega)) hV0 g2 g3
    have q0 : 0 ≤ nv (us.drop j) / nv vs := Int.ediv_nonneg (qae (gu.drop j)).1 (by omega)
    have q1 : nv (us.drop j) / nv vs < 4294967296 := Int.ediv_lt_of_lt_mul hV0 hWB
    have d1 := Int.mul_ediv_add_emod (nv (us.drop j)) (nv vs)
    have d2 := Int.emod_lt_of_pos (nv (us.drop j)) hV0
    have hlt3 : nv us2 < pw j * nv vs := by
      have e1 : pw j * (nv (us.drop j) - nv (us.drop j) / nv vs * nv vs) ≤ pw j * (nv vs - 1) := Int.mul_le_mul_of_nonneg_left (by rw [Int.mul_comm (nv (us.drop j) / nv vs)]; omega) (by omega)
      rw [Int.mul_sub, Int.mul_sub, Int.mul_one] at e1
      omega
    obtain ⟨us3, qs3, l3, h1, h2, h3, h4, h5, h6⟩ := ih us2 (qs.set j (nv (us.drop j) / nv vs)) (by omega) (by omega) (by simp [hq]) gu2 (qg7 gq _ ⟨q0, q1⟩) hlt3 (fun i hi => by
      rw [qjm (by omega), if_neg (by omega)]
      exact hz i (by omega))
    refine ⟨us3, qs3, ?_, by omega, h2, h3, h4, h5, ?_⟩
    · rw [qac (l := qi4) rfl]
      rw [hu2] at l3
      rw [← l3]
      rw [hq] at l1
      generalize nv (us.drop j) / nv vs = Q at *
      have hsl : j + vs.length + 1 - j = vs.length + 1 := by omega
      have htk : (LV vs).take vs.length = LV vs := by rw [zit, List.take_length]
      have hvt : vs.take vs.length = vs := List.take_length
      simp -implicitDefEqProofs (disch := omega) [ql3, hor, htp, l1, l2, hsl, htk, hvt]
    · rw [← h6, qr4 (by omega), hz j (by omega), Int.sub_zero, hnu, Int.add_mul, Int.mul_assoc]
      omega
end Go.Rf

namespace Go.Rf
theorem q97 {as bs : List Int} (ha : Good as) (hb : Good bs) (hs : as.length + bs.length < 1099511627776) (h2 : 2 ≤ bs.length) (hab : bs.length ≤ as.length) (ht : nth bs (bs.length - 1) ≠ 0) :
    callE T0 X0 qty [.d (.sl (L as)), .d (.sl (L bs))] [] = some (.ret [.d (.sl (L (limbs (nv as / nv bs)))), .d (.sl (L (limbs (nv as % nv bs))))] []) := by
  have tb := hb.nth (bs.length - 1)
  have s1 := zaa tb
  have b1 := qwk (n := nth bs (bs.length - 1)) (k := 32) (by omega)
  have b3 := zbf (n := nth bs (bs.length - 1)) (by omega)
  have b2 : 1 ≤ blen (nth bs (bs.length - 1)) := by
    have := qgx (nth bs (bs.length - 1))
    by_cases h : blen (nth bs (bs.length - 1)) = 0
    · rw [h] at b3
      have : (2 : Int) ^ (0 : Int).toNat = 1 := rfl
      omega
    · omega
  obtain ⟨s, hs32⟩ : ∃ s : Nat, 32 - blen (nth bs (bs.length - 1)) = s := ⟨(32 - blen (nth bs (bs.length - 1))).toNat, by omega⟩
  rw [hs32] at s1
  have hlt : s < 32 := by omega
  have p0 := qtp s
  have p1 := p2_le hlt
  have ab := qae ha
  have hbtop : nv bs = nv (bs.take (bs.length - 1)) + pw (bs.length - 1) * nth bs (bs.length - 1) := by
    conv => lhs; rw [qfr (xs := bs) (j := bs.length - 1) (by omega), qgn (by omega), show bs.length - 1 + 1 = bs.length by omega, List.drop_length]
    simp only [nv]
    rw [Int.mul_zero, Int.add_zero]
  have lb := qae (hb.take (bs.length - 1))
  rw [List.length_take, Nat.min_eq_left (by omega)] at lb
  have pb := qib (bs.length - 1)
  have hpl : pw bs.length = 4294967296 * pw (bs.length - 1) := by
    have := qox (bs.length - 1)
    rwa [show bs.length - 1 + 1 = bs.length by omega] at this
  have hPP : (2 : Int) ^ (blen (nth bs (bs.length - 1))).toNat * 2 ^ s = 4294967296 := by
    rw [← Int.pow_add, show (blen (nth bs (bs.length - 1))).toNat + s = 32 by omega]; rfl
  have hub : nv bs * 2 ^ s < pw bs.length := by
    have e1 : pw (bs.length - 1) * (nth bs (bs.length - 1) + 1) ≤ pw (bs.length - 1) * 2 ^ (blen (nth bs (bs.length - 1))).toNat := Int.mul_le_mul_of_nonneg_left (by omega) (by omega)
    rw [Int.mul_add, Int.mul_one] at e1
    have e2 : nv bs < pw (bs.length - 1) * 2 ^ (blen (nth bs (bs.length - 1))).toNat := by omega
    have e3 := Int.mul_lt_mul_of_pos_right e2 p0
    rw [Int.mul_assoc, hPP] at e3
    omega
  have hbl : pw (bs.length - 1) ≤ nv bs := by
    have : pw (bs.length - 1) * 1 ≤ pw (bs.length - 1) * nth bs (bs.length - 1) := Int.mul_le_mul_of_nonneg_left (by omega) (by omega)
    omega
  have hua : nv as * 2 ^ s < pw (as.length + 1) := by
    have e := Int.mul_lt_mul_of_pos_right ab.2 p0
    have e2 : pw as.length * 2 ^ s ≤ pw as.length * 2147483648 := Int.mul_le_mul_of_nonneg_left p1 (Int.le_of_lt (qib _))
    have e3 := qib as.length
    rw [qox]
    omega
  obtain ⟨us, m1, lu, gu, vu⟩ := qxq (as := as) (s := s) (n := as.length + 1) hlt (by omega) ha (by omega) hua
  obtain ⟨vs, m2, lv, gv, vv⟩ := qxq (as := bs) (s := s) (n := bs.length) hlt (by omega) hb (Nat.le_refl _) hub
  have vlow : nv bs ≤ nv vs := by
    rw [vv]
    have : nv bs * 1 ≤ nv bs * 2 ^ s := Int.mul_le_mul_of_nonneg_left (by omega) (by omega)
    omega
  have f1 : 1 ≤ nth vs (vs.length - 1) := by
    have b := gv.nth (vs.length - 1)
    by_cases h : nth vs (vs.length - 1) = 0
    · exfalso
      have := qzx gv (k := vs.length - 1) (fun i hi => by
        by_cases e : i = vs.length - 1
        · rw [e]; exact h
        · exact qn1 (by omega))
      rw [lv] at this
      omega
    · omega
  obtain ⟨us2, qs, l1, lu2, lq, gu2, gq, hlt2, hval⟩ := q98 vs s (as.length + 1 - bs.length) gv (by omega) f1 (by omega) (as.length + 1 - bs.length) us (List.replicate (as.length + 1 - bs.length) 0) (Nat.le_refl _) (by omega) (by simp) gu (qpu _) (by
      rw [vu]
      have e1 := Int.mul_lt_mul_of_pos_right ab.2 p0
      have e2 : pw (as.length + 1 - bs.length) * (pw (bs.length - 1) * 2 ^ s) ≤ pw (as.length + 1 - bs.length) * nv vs := Int.mul_le_mul_of_nonneg_left (by rw [vv]; exact Int.mul_le_mul_of_nonneg_right hbl (by omega)) (Int.le_of_lt (qib _))
      rw [← Int.mul_assoc, ← qrs, show as.length + 1 - bs.length + (bs.length - 1) = as.length by omega] at e2
      omega) (fun i _ => by simp [nth, List.getD_eq_getElem?_getD, List.getElem?_replicate]; split <;> rfl)
  have z0 : nv (List.replicate (as.length + 1 - bs.length) 0) = 0 := q39 (fun i => by simp [nth, List.getD_eq_getElem?_getD, List.getElem?_replicate]; split <;> rfl)
  rw [z0, Int.zero_mul, Int.add_zero] at hval
  have b0 : 0 ≤ nv us2 := (qae gu2).1
  have hVp : 0 < nv vs := by omega
  have q1 : nv as * 2 ^ s / nv vs = nv qs := by
    rw [← vu, hval, Int.add_mul_ediv_right _ _ (by omega), Int.ediv_eq_zero_of_lt b0 hlt2, Int.zero_add]
  have r1 : nv as * 2 ^ s % nv vs = nv us2 := by
    rw [← vu, hval, Int.add_mul_emod_self_right, Int.emod_eq_of_lt b0 hlt2]
  have q2 : nv as / nv bs = nv qs := by rw [← q1, vv, Int.mul_ediv_mul_of_pos_left _ _ p0]
  have r2 : nv us2 / 2 ^ s = nv as % nv bs := by
    rw [← r1, vv, Int.mul_comm _ (2 ^ s), Int.mul_comm (nv bs), Int.mul_emod_mul_of_pos _ _ p0, Int.mul_ediv_cancel_left _ (by omega)]
  have hlow : nv (us2.take vs.length) = nv us2 := by
    have hz := qvu gu2 (k := vs.length) (Int.lt_trans hlt2 (qae gv).2)
    have e := qfr (xs := us2) (j := vs.length) (by omega)
    rw [q39 (l := us2.drop vs.length) (fun i => by rw [q5o]; exact hz _ (by omega)), Int.mul_zero, Int.add_zero] at e
    exact e.symm
  have s3 := q7e (xs := us2.take vs.length) (s := s) hlt (by simp; omega) (gu2.take _)
  rw [hlow, r2] at s3
  have s4 := qa2 gq (by omega)
  rw [q2]
  rw [qab (af := qmo) rfl rfl rfl]
  rw [lu, lv] at l1
  rw [lv] at s3
  have hm : as.length + 1 - bs.length + bs.length = as.length + 1 := by omega
  have hqt : qs.take (as.length + 1 - bs.length) = qs := List.take_of_length_le (by omega)
  have hc : ((as.length : Int) + 1 - (bs.length : Int)) = ((as.length + 1 - bs.length : Nat) : Int) := by omega
  have htn : ((as.length : Int) + 1 - (bs.length : Int)).toNat = as.length + 1 - bs.length := by omega
  simp only [Int.natCast_add, Int.cast_ofNat_Int] at m1
  have f1b := gv.nth (vs.length - 1)
  have f2b := gv.nth (vs.length - 2)
  rw [lv] at f1b f2b
  generalize hM : as.length + 1 - bs.length = M at *
  simp -implicitDefEqProofs (disch := omega) [qmo, s1, m1, m2, hc, l1, s3, s4, hqt]
end Go.Rf
