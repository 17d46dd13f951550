/- Parts of the proof: SpG8, SpN, SpW, SpR0, SpR1, SpR2, SpR3, SpR4, SpR5, SpR6, SpM1, SpM2. -/
import Derived.Test.YtdgfohkljpjdpaaGreatDoorSp4

set_option linter.unusedSimpArgs false
set_option linter.unusedVariables false
set_option linter.unnecessarySimpa false
namespace Go.Rf
theorem Sc.sign_ok {s : Sc} (h : s.ok) (hn : 0 ≤ s.next.1) : s.sign.2.ok ∧ s.sign.2.rest.length < s.rest.length := by
  obtain ⟨e, hr⟩ := s.next_same hn
  have hp := Sc.pass_ok h hr
  have hl := Sc.pass_len hr
  unfold Sc.sign
  split
  · exact ⟨hp, hl⟩
  split
  · exact ⟨hp, hl⟩
  split
  · split
    · refine ⟨Sc.early_ok (Sc.next_ok hp) _ _, ?_⟩
      show s.pass.next.2.rest.length < _
      rw [s.pass.next_rest.1]; exact hl
    · rename_i h5
      have h5 : s.pass.next.1 = 61 := Classical.not_not.1 h5
      obtain ⟨e2, hr2⟩ := s.pass.next_same (by omega)
      have := Sc.pass_len hr2
      exact ⟨Sc.pass_ok hp hr2, Nat.lt_trans this hl⟩
  · exact ⟨hp, hl⟩
theorem zed (p : Int → Bool) {s : Sc} (h : s.ok) (h0 : 0 ≤ s.cls.1) (hp : p s.cls.1 = true) : (s.run p).ok ∧ (s.run p).rest.length < s.rest.length := by
  obtain ⟨e, hr⟩ := s.cls_same h0
  have hl := Sc.pass_len hr
  have := qm3 p s.rest.length (Sc.pass_ok h hr)
  unfold Sc.run qfg
  rw [if_pos ⟨h0, hp⟩]
  exact ⟨this.1, by omega⟩
theorem qrg {s : Sc} (h : s.ok) : s.token.2.ok ∧ (s.token.1.kind ≠ 0 → s.token.2.rest.length < s.rest.length) ∧ s.token.1.text.length ≤ 1100000 := by
  have hl := h.1
  unfold Sc.token
  split
  · rename_i c
    have := zed qbr h (by omega) (by rw [c]; rfl)
    refine ⟨?_, fun _ => ?_, ?_⟩
    · simp only []; split
      · exact Sc.early_ok this.1 _ _
      · exact this.1
    · simp only []; split
      · exact this.2
      · exact this.2
    · show (s.ran qbr).length ≤ _
      unfold Sc.ran; rw [List.length_take]; omega
  split
  · rename_i c
    have := zed qb3 h (by omega) (by rw [c]; rfl)
    refine ⟨?_, fun _ => ?_, ?_⟩
    · simp only []; split
      · exact Sc.early_ok this.1 _ _
      · exact this.1
    · simp only []; split
      · exact this.2
      · exact this.2
    · show (textV 456 _).length ≤ _
      unfold textV
      split
      · simp
      · rw [List.length_reverse]
        exact Nat.le_trans (qsi 456 _) (by omega)
  split
  · rename_i c
    have := Sc.sign_ok h (q04 c)
    refine ⟨this.1, fun _ => this.2, ?_⟩
    show s.sign.1.length ≤ _
    unfold Sc.sign
    have e1 := zat s.next.1
    have e2 := zat (fold s.next.1)
    (repeat' split) <;> simp <;> omega
  split
  · exact ⟨Sc.cls_ok h, fun h0 => absurd rfl h0, by simp⟩
  · exact ⟨Sc.fail_ok (Sc.cls_ok h) _ _, fun h0 => absurd rfl h0, by simp⟩
def scanF : Nat → Sc → List Tok → Option (List Tok) × Int × Pl
  | 0, _, out => (some out, 0, ⟨0, 0, 0, 0⟩)
  | f + 1, s, out =>
    if s.blanks.token.2.code ≠ 0 then (none, s.blanks.token.2.code, s.blanks.token.2.bad)
    else if s.blanks.token.1.kind = 0 then (some (out ++ [s.blanks.token.1]), 0, ⟨0, 0, 0, 0⟩)
    else scanF f s.blanks.token.2 (out ++ [s.blanks.token.1])
def LT (l : List Tok) : List D := l.map fun t => .agg t.cs
def VT (l : List Tok) : List V := l.map fun t => .d (.agg t.cs)
@[simp] theorem LT_len (l) : (LT l).length = l.length := by simp [LT]
@[simp] theorem VT_len (l) : (VT l).length = l.length := by simp [VT]
@[simp] theorem VT_nil : VT [] = [] := rfl
@[simp] theorem VT_take (l n) : (VT l).take n = VT (l.take n) := by simp [VT, List.map_take]
@[simp] theorem LT_take (l n) : (LT l).take n = LT (l.take n) := by simp [LT, List.map_take]
@[simp] theorem VT_app1 (l : List Tok) (k x a b c d) : VT l ++ [.d (.agg [.int .i64 k, .str x, .int .i64 a, .int .i64 b, .int .i64 c, .int .i64 d])] = VT (l ++ [⟨k, x, ⟨a, b, c, d⟩⟩]) := by simp [VT, Tok.cs]
@[simp] theorem tok_eta (t : Tok) : (⟨t.kind, t.text, ⟨t.pos.b, t.pos.g, t.pos.l, t.pos.c⟩⟩ : Tok) = t := rfl
@[simp] theorem zfg (l) : (LT l).map V.d = VT l := by simp [LT, VT, Function.comp_def]
@[simp] theorem allD_VT (l) : allD (VT l) = some (LT l) := by rw [← zfg]; exact q6n _
@[simp] theorem rens_VT (al : Loc → Bool) (l : List Tok) (m : List Loc) : rens al (VT l) m = (VT l, m) := by rw [← zfg]; exact qpo ..
@[simp] theorem mapLs_VT (f : Loc → Loc) (l : List Tok) : mapLs f (VT l) = VT l := by
  induction l with
  | nil => rfl
  | cons x xs ih =>
    show V.mapL f (.d _) :: mapLs f (VT xs) = _
    rw [ih]
    rfl
@[simp] theorem frzL_VT (h : Loc → Option Obj) (k : Nat) (l : List Tok) : frzL (frz h (k + 1)) (VT l) = some (LT l, []) := by
  induction l with
  | nil => rfl
  | cons x xs ih =>
    show frzL (frz h (k + 1)) (.d _ :: VT xs) = _
    simp only [frzL, ih]
    rfl
theorem wl_LT (l : List Tok) : wl (LT l) ≤ 56 := by
  induction l with
  | nil => simp [LT, wl]
  | cons x xs ih =>
    show max (wt (.agg x.cs)) (wl (LT xs)) ≤ 56
    have : wt (.agg x.cs) = 56 := rfl
    omega
@[simp] theorem wl_LT56 (l) : (wl (LT l) ≤ 56) = True := eq_true (wl_LT l)
@[simp] theorem fit_LT {n : Nat} {l : List Tok} (h : n ≤ 1099511627) : (n * wl (LT l) ≤ lots) = True := eq_true (Nat.le_trans (Nat.mul_le_mul h (wl_LT l)) (by unfold lots; omega))
@[simp] theorem VT_cells (l) : (∀ x ∈ VT l, x.cells.length = 6) = True := eq_true (by
  intro x hx
  obtain ⟨n, _, rfl⟩ := List.mem_map.1 hx
  rfl)
@[simp] theorem LT_cells (l) : (∀ x ∈ LT l, x.cells.length = 6) = True := eq_true (by
  intro x hx
  obtain ⟨n, _, rfl⟩ := List.mem_map.1 hx
  rfl)
theorem qrr : ∀ f (s : Sc) (out l : List Tok) e p, s.ok → scanF f s out = (some l, e, p) → l.length ≤ out.length + f
  | 0, s, out, l, e, p, _, h => by unfold scanF at h; cases h; omega
  | f + 1, s, out, l, e, p, hs, h => by
    unfold scanF at h
    split at h
    · cases h
    · split at h
      · cases h; simp
      · have := qrr f _ _ l e p (qrg (qih _ hs).1).1 h
        simp at this
        omega
def qam : Pl := ⟨0, 0, 0, 0⟩
theorem q9a : ∀ f (s : Sc) (out : List Tok) (e : List (Nat × V)), s.ok → s.rest.length < f → out.length + s.rest.length ≤ 5000 →
    codeX T0 X0 0 qma (some (.nrm, ⟨(4, .ptr (.b 0) 0 0) :: (5, .ptr (.b 1) 0 0) :: (6, .ref (.b 2) ⟨6, 56⟩ 0 out.length) :: e, [.arr [.d (.agg [.int .i64 0, .int .i64 0, .int .i64 0, .int .i64 0])] ⟨4, 0⟩, s.obj, .arr (VT out) ⟨6, 56⟩]⟩)) =
      some (.ret, match scanF f s out with
        | (none, c, p) => ⟨[(2, .d (.sl [])), (3, .d (.int .i64 c)), (4, .ptr (.b 0) 0 0)], [.arr [.d (.agg p.cs)] ⟨4, 0⟩]⟩
        | (some l, c, p) => ⟨[(2, .ref (.b 0) ⟨6, 56⟩ 0 l.length), (3, .d (.int .i64 c)), (4, .ptr (.b 1) 0 0)], [.arr (VT l) ⟨6, 56⟩, .arr [.d (.agg p.cs)] ⟨4, 0⟩]⟩) := by
  intro f
  induction f with
  | zero => intros; omega
  | succ f ih =>
    intro s out e h hf hb
    rw [qac (l := qma) rfl]
    have s1 := q4u h
    have hb1 := qih (s.rest.length + 1) h
    change s.blanks.ok ∧ s.blanks.rest.length ≤ s.rest.length at hb1
    have s2 := q6u hb1.1
    have ht := qrg hb1.1
    unfold scanF
    by_cases hc : s.blanks.token.2.code = 0
    · rw [if_neg (by simpa using hc)]
      by_cases hk : s.blanks.token.1.kind = 0
      · rw [if_pos hk]
        simp only [Sc.obj, Sc.cs, Tok.cs, Pl.cs] at s1 s2 ⊢
        simp -implicitDefEqProofs (disch := omega) [qjg, s1, s2]
      · rw [if_neg hk]
        have hlt := ht.2.1 hk
        have s3 := ih s.blanks.token.2 (out ++ [s.blanks.token.1]) [(39, .d (.bool false))] ht.1 (by omega) (by simp; omega)
        rw [← s3]
        simp only [Sc.obj, Sc.cs, Tok.cs, Pl.cs] at s1 s2 ⊢
        simp -implicitDefEqProofs (disch := omega) [qjg, s1, s2]
    · rw [if_pos hc]
      simp only [Sc.obj, Sc.cs, Tok.cs, Pl.cs] at s1 s2 ⊢
      simp -implicitDefEqProofs (disch := omega) [qjg, s1, s2]
def scan (s : List UInt8) : Option (List Tok) × Int × Pl := if 4096 < s.length then (none, 2, qam) else scanF (s.length + 1) ⟨s, start, 0, qam⟩ []
theorem qm5 (s : List UInt8) (hs : s.length ≤ 1099511627776) : callE T0 X0 qph [.d (.str s)] [] =
    some (.ret [.d (.sl (LT ((scan s).1.getD []))), .d (.int .i64 (scan s).2.1), .d (.agg (scan s).2.2.cs)] []) := by
  rw [qab (af := qim) rfl rfl rfl]
  unfold scan
  by_cases hl : 4096 < s.length
  · rw [if_pos hl]
    simp -implicitDefEqProofs (disch := omega) [qim, Pl.cs, qam, LT]
  · rw [if_neg hl]
    have s0 := q65
    have hok : Sc.ok ⟨s, start, 0, qam⟩ := ⟨by show s.length ≤ 4096; omega, by show Pl.small start s.length; unfold Pl.small start; simp only []; omega⟩
    have s1 := q9a (s.length + 1) ⟨s, start, 0, qam⟩ [] [] hok (by show s.length < _; omega) (by show 0 + s.length ≤ _; omega)
    simp only [Sc.obj, Sc.cs, Tok.cs, Pl.cs, qam, start, VT_nil, List.length_nil] at s0 s1 ⊢
    have hlen := qrr (s.length + 1) ⟨s, start, 0, qam⟩ []
    simp only [qam, start] at hlen
    generalize scanF (s.length + 1) ⟨s, ⟨0, 0, 1, 1⟩, 0, ⟨0, 0, 0, 0⟩⟩ [] = r at s1 hlen ⊢
    obtain ⟨o, c, p⟩ := r
    cases o with
    | none =>
      simp -implicitDefEqProofs (disch := omega) [qim, s0, s1, LT]
    | some l =>
      have hl2 := hlen l c p hok rfl
      simp at hl2
      have ht : l.take l.length = l := List.take_length
      simp -implicitDefEqProofs (disch := omega) [qim, s0, s1]
end Go.Rf

namespace Go.Rf
def isName (s : List UInt8) : Bool := match scan s with
  | (some [t, _], 0, _) => decide (t.kind = 1) && decide (t.text = s)
  | _ => false
theorem q94 (s : List UInt8) (hs : s.length ≤ 1100000) : callE T0 X0 qt4 [.d (.str s)] [] = some (.ret [.d (.bool (isName s))] []) := by
  rw [qab (af := qft) rfl rfl rfl]
  have s1 := qm5 s (by omega)
  have hlen : ∀ l c p, scan s = (some l, c, p) → l.length ≤ 5000 := by
    intro l c p h
    unfold scan at h
    split at h
    · cases h
    · have := qrr _ _ _ l c p ⟨by show s.length ≤ 4096; omega, by show Pl.small start s.length; unfold Pl.small start; simp only []; omega⟩ h
      simp at this
      omega
  unfold isName
  generalize scan s = r at s1 hlen
  obtain ⟨o, c, p⟩ := r
  simp only [Pl.cs] at s1
  by_cases hc : c = 0
  · subst hc
    cases o with
    | none =>
      simp only [Option.getD_none, LT, List.map_nil] at s1
      simp -implicitDefEqProofs (disch := omega) [qft, s1]
    | some l =>
      have hl := hlen l _ p rfl
      simp only [Option.getD_some] at s1
      by_cases h2 : l.length = 2
      · obtain ⟨a, b, rfl⟩ : ∃ a b, l = [a, b] := by
          match l, h2 with
          | [a, b], _ => exact ⟨a, b, rfl⟩
        simp only [LT, List.map_cons, List.map_nil, Tok.cs] at s1
        have w := wl_LT [a, b]
        simp only [LT, List.map_cons, List.map_nil, Tok.cs] at w
        by_cases h3 : a.kind = 1
        · simp -implicitDefEqProofs (disch := omega) [qft, s1, h3, wl, wt, wts]
          by_cases h : a.text = s <;> simp [h]
        · simp -implicitDefEqProofs (disch := omega) [qft, s1, h3, wl, wt, wts]
      · have e : (match (some l, (0 : Int), p) with
            | (some [t, _], 0, _) => decide (t.kind = 1) && decide (t.text = s)
            | _ => false) = false := by
          match l, h2 with
          | [], _ => rfl
          | [_], _ => rfl
          | [_, _], h => exact absurd rfl h
          | _ :: _ :: _ :: _, _ => rfl
        rw [e]
        simp -implicitDefEqProofs (disch := omega) [qft, s1]
  · have e : (match (o, c, p) with
          | (some [t, _], 0, _) => decide (t.kind = 1) && decide (t.text = s)
          | _ => false) = false := by
      split
      · rename_i h; simp at h; exact absurd h.2.1 hc
      · rfl
    rw [e]
    simp -implicitDefEqProofs (disch := omega) [qft, s1]
def SL (vs : List (List UInt8)) : List D := vs.map .str
@[simp] theorem SL_len (vs) : (SL vs).length = vs.length := by simp [SL]
@[simp] theorem SL_take (vs n) : (SL vs).take n = SL (vs.take n) := by simp [SL, List.map_take]
def tx (vs : List (List UInt8)) (i : Nat) : List UInt8 := vs.getD i []
theorem SL_get {vs : List (List UInt8)} {i : Nat} (h : i < vs.length) : (SL vs)[i]? = some (.str (tx vs i)) := by simp [SL, tx, h]
attribute [simp] SL_get
theorem wl_SL (vs) : wl (SL vs) ≤ 16 := by
  induction vs with
  | nil => simp [SL, wl]
  | cons x xs ih =>
    show max 16 (wl (SL xs)) ≤ 16
    omega
@[simp] theorem wl_SL16 (vs) : (wl (SL vs) ≤ 16) = True := eq_true (wl_SL vs)
@[simp] theorem fit_SL {n : Nat} {vs} (h : n ≤ 1099511627) : (n * wl (SL vs) ≤ lots) = True := eq_true (Nat.le_trans (Nat.mul_le_mul h (wl_SL vs)) (by unfold lots; omega))
@[simp] theorem SL_cells (vs) : (∀ x ∈ SL vs, x.cells.length = 1) = True := eq_true (by
  intro x hx
  obtain ⟨n, _, rfl⟩ := List.mem_map.1 hx
  rfl)
def seenF (vs : List (List UInt8)) (i : Nat) : Nat → Nat → Bool
  | 0, _ => false
  | d + 1, k => if tx vs k = tx vs i then true else seenF vs i d (k + 1)
def qk1 (vs : List (List UInt8)) : Nat → Nat → Int
  | 0, _ => 0
  | f + 1, i => if isName (tx vs i) = false then 1 else if seenF vs i i 0 = true then 1 else qk1 vs f (i + 1)
def names (vs : List (List UInt8)) : Int := if 16 < vs.length then 1 else qk1 vs vs.length 0
theorem zc7 (vs : List (List UInt8)) (i : Nat) (hl : vs.length ≤ 16) (hi : i < vs.length) (hb : ∀ k, (tx vs k).length ≤ 1100000) : ∀ d k (e : List (Nat × V)), d + k = i →
    codeX T0 X0 0 qhg (some (.nrm, ⟨(0, .d (.sl (SL vs))) :: (4, .d (.str (tx vs i))) :: (10, .d (.sl (SL vs))) :: (11, .d (.int .i64 vs.length)) :: (12, .d (.int .i64 i)) :: (22, .d (.sl (SL (vs.take i)))) :: (23, .d (.int .i64 i)) :: (24, .d (.int .i64 k)) :: e, []⟩)) =
      if seenF vs i d k = true then some (.ret, ⟨[(2, .d (.int .i64 1))], []⟩) else some (.exit 2, ⟨[(0, .d (.sl (SL vs))), (10, .d (.sl (SL vs))), (11, .d (.int .i64 vs.length)), (12, .d (.int .i64 i))], []⟩) := by
  intro d
  induction d with
  | zero =>
    intro k e hk
    have : k = i := by omega
    subst this
    rw [qac (l := qhg) rfl, if_neg (by simp [seenF])]
    simp -implicitDefEqProofs (disch := omega) [qhh]
  | succ d ih =>
    intro k e hk
    rw [qac (l := qhg) rfl]
    have ht : (SL (vs.take i))[k]? = some (.str (tx vs k)) := by simp [SL, tx, List.getElem?_take, show k < i by omega, show k < vs.length by omega]
    have h1 := hb k
    have h2 := hb i
    by_cases he : tx vs k = tx vs i
    · rw [seenF, if_pos he, if_pos rfl]
      simp -implicitDefEqProofs (disch := omega) [qhh, ht, he]
    · have s1 := ih (k + 1) [] (by omega)
      rw [seenF, if_neg he]
      rw [← s1]
      have he' : (tx vs i == tx vs k) = false := by simp; exact fun h => he h.symm
      simp -implicitDefEqProofs (disch := omega) [qhh, ht, he']
theorem q93 (vs : List (List UInt8)) (hl : vs.length ≤ 16) (hb : ∀ k, (tx vs k).length ≤ 1100000) : ∀ d i, d + i = vs.length →
    codeX T0 X0 0 qhf (some (.nrm, ⟨[(0, .d (.sl (SL vs))), (10, .d (.sl (SL vs))), (11, .d (.int .i64 vs.length)), (12, .d (.int .i64 i))], []⟩)) =
      if qk1 vs d i = 0 then some (.exit 0, ⟨[], []⟩) else some (.ret, ⟨[(2, .d (.int .i64 1))], []⟩) := by
  intro d
  induction d with
  | zero =>
    intro i hk
    have : i = vs.length := by omega
    subst this
    rw [qac (l := qhf) rfl, if_pos (show qk1 vs 0 vs.length = 0 from rfl)]
    simp -implicitDefEqProofs (disch := omega) [qfp]
  | succ d ih =>
    intro i hk
    rw [qac (l := qhf) rfl]
    have s1 := q94 (tx vs i) (hb i)
    have s2 := zc7 vs i hl (by omega) hb i 0 [] (by omega)
    have h2 := hb i
    simp only [Int.cast_ofNat_Int] at s2
    cases hn : isName (tx vs i)
    · rw [hn] at s1
      rw [show qk1 vs (d + 1) i = 1 by simp [qk1, hn], if_neg (by decide)]
      simp -implicitDefEqProofs (disch := omega) [qfp, s1]
    · rw [hn] at s1
      cases hs : seenF vs i i 0
      · rw [show qk1 vs (d + 1) i = qk1 vs d (i + 1) by simp [qk1, hn, hs]]
        rw [hs, if_neg (by simp)] at s2
        rw [← ih (i + 1) (by omega)]
        simp -implicitDefEqProofs (disch := omega) [qfp, s1, s2]
      · rw [show qk1 vs (d + 1) i = 1 by simp [qk1, hn, hs], if_neg (by decide)]
        rw [hs, if_pos rfl] at s2
        simp -implicitDefEqProofs (disch := omega) [qfp, s1, s2]
theorem qr6 (vs) : ∀ f i, qk1 vs f i = 0 ∨ qk1 vs f i = 1
  | 0, _ => .inl rfl
  | f + 1, i => by
    unfold qk1
    split
    · exact .inr rfl
    · split
      · exact .inr rfl
      · exact qr6 vs f (i + 1)
theorem qxo (vs : List (List UInt8)) (hv : vs.length ≤ 1099511627) (hb : ∀ k, (tx vs k).length ≤ 1100000) : callE T0 X0 qqc [.d (.sl (SL vs))] [] = some (.ret [.d (.int .i64 (names vs))] []) := by
  rw [qab (af := qgg) rfl rfl rfl]
  unfold names
  by_cases hl : 16 < vs.length
  · rw [if_pos hl]
    simp -implicitDefEqProofs (disch := omega) [qgg]
  · rw [if_neg hl]
    have s1 := q93 vs (by omega) hb vs.length 0 rfl
    simp only [Int.cast_ofNat_Int] at s1
    rcases qr6 vs vs.length 0 with h | h
    · rw [h, if_pos rfl] at s1
      rw [h]
      simp -implicitDefEqProofs (disch := omega) [qgg, s1]
    · rw [h, if_neg (by decide)] at s1
      rw [h]
      simp -implicitDefEqProofs (disch := omega) [qgg, s1]
end Go.Rf

namespace Go.Rf
def Wd (n : Int) : D := .agg [.bool (decide (n < 0)), .sl (L (limbs n.natAbs))]
def sg (p : Bool) (n : Int) : Int := if p then -n else n
@[simp] theorem sg_true (n) : sg true n = -n := rfl
@[simp] theorem zck (n) : sg false n = n := rfl
@[simp] theorem zen (p n) : sg (!p) n = - sg p n := by cases p <;> simp
theorem qrn (n : Int) : sg (decide (n < 0)) n.natAbs = n := by
  unfold sg
  split <;> simp_all <;> omega
def nl (n : Int) : Nat := (limbs n.natAbs).length
theorem nl_lt {n : Int} {k : Nat} (h : n < pw k) (h' : -n < pw k) : nl n ≤ k := qa7 (by omega) (by omega)
theorem lt_nl (n : Int) : (n.natAbs : Int) < pw (nl n) := by
  have := (qae (qaq n.natAbs)).2
  rwa [qbu (by omega)] at this
theorem qgs (p : Bool) {n : Int} (h : 0 ≤ n) (hs : (limbs n).length ≤ 1099511627776) : callE T0 X0 qb4 [.d (.bool p), .d (.sl (L (limbs n)))] [] = some (.ret [.d (Wd (sg p n))] []) := by
  rw [qab (af := qii) rfl rfl rfl]
  have hz := qni h
  unfold Wd sg
  by_cases h0 : n = 0
  · subst h0
    cases p <;> simp -implicitDefEqProofs (disch := omega) [qii]
  · have hl : (limbs n).length ≠ 0 := fun e => h0 (hz.1 (List.eq_nil_of_length_eq_zero e))
    have e : ((n.natAbs : Int)) = n := by omega
    cases p
    · simp -implicitDefEqProofs (disch := omega) [qii, e]
    · simp -implicitDefEqProofs (disch := omega) [qii, e, -List.length_eq_zero_iff]
theorem q5s {xs : List Int} (hx : Good xs) : (limbs (nv xs)).length ≤ xs.length := qa7 (qae hx).1 (qae hx).2
section raw
variable {xs ys : List Int} (hx : Good xs) (hy : Good ys) (hs : xs.length < 1073741824) (hs' : ys.length < 1073741824)
include hx hs
theorem q8f (p : Bool) : callE T0 X0 qkf [.d (.agg [.bool p, .sl (L xs)])] [] = some (.ret [.d (Wd (sg p (nv xs)))] []) := by
  rw [qab (af := qmn) rfl rfl rfl]
  have l1 := q5s hx
  have s1 := quw hx (by omega)
  have s2 := qgs p (qae hx).1 (by omega)
  simp -implicitDefEqProofs (disch := omega) [qmn, s1, s2, Wd]
theorem zbz (p : Bool) : callE T0 X0 qn9 [.d (.agg [.bool p, .sl (L xs)])] [] = some (.ret [.d (Wd (-sg p (nv xs)))] []) := by
  rw [qab (af := qod) rfl rfl rfl]
  have l1 := q5s hx
  have s1 := quw hx (by omega)
  have s2 := qgs (!p) (qae hx).1 (by omega)
  simp -implicitDefEqProofs (disch := omega) [qod, s1, s2, Wd]
theorem zil : 0 ≤ blen (nth (limbs (nv xs)) ((limbs (nv xs)).length - 1)) ∧ blen (nth (limbs (nv xs)) ((limbs (nv xs)).length - 1)) ≤ 32 := by
  have _ := hx
  have _ := hs
  have g := (qaq (nv xs)).nth ((limbs (nv xs)).length - 1)
  exact ⟨qgx _, qwk (k := 32) (by omega)⟩
theorem zim (h : nv xs ≠ 0) : 1 ≤ (limbs (nv xs)).length ∧ 1 ≤ blen (nth (limbs (nv xs)) ((limbs (nv xs)).length - 1)) := by
  have _ := hs
  have h0 := (qae hx).1
  have hn : (limbs (nv xs)).length ≠ 0 := fun h' => h ((qni h0).1 (List.eq_nil_of_length_eq_zero h'))
  refine ⟨by omega, ?_⟩
  have g := (qaq (nv xs)).nth ((limbs (nv xs)).length - 1)
  have hz : nth (limbs (nv xs)) ((limbs (nv xs)).length - 1) ≠ 0 := by
    intro hz
    have e := qcq (limbs (nv xs)) ((limbs (nv xs)).length - 1)
    rw [hz, List.take_of_length_le (by omega), qbu h0] at e
    have b := (qae ((qaq (nv xs)).take ((limbs (nv xs)).length - 1))).2
    rw [List.length_take, Nat.min_eq_left (by omega)] at b
    rcases qf8 (nv xs) with c | c
    · rw [c] at hn; exact hn rfl
    · rw [qbu h0] at c
      omega
  unfold blen
  rw [if_neg (by omega)]
  omega
theorem q8g (p : Bool) : callE T0 X0 qid [.d (.agg [.bool p, .sl (L xs)])] [] = some (.ret [.d (.int .i64 (Int.sign (sg p (nv xs))))] []) := by
  rw [qab (af := qik) rfl rfl rfl]
  have h0 := (qae hx).1
  have s1 := zbg hx (by omega)
  by_cases hz : nv xs = 0
  · rw [if_pos hz] at s1
    rw [hz]
    cases p <;> simp -implicitDefEqProofs (disch := omega) [qik, s1]
  · rw [if_neg hz] at s1
    have b1 := zil hx hs
    have b2 := zim hx hs hz
    unfold nlen at s1
    cases p
    · have e : Int.sign (sg false (nv xs)) = 1 := Int.sign_eq_one_of_pos (by simp; omega)
      rw [e]
      simp -implicitDefEqProofs (disch := omega) [qik, s1]
    · have e : Int.sign (sg true (nv xs)) = -1 := Int.sign_eq_neg_one_of_neg (by simp; omega)
      rw [e]
      simp -implicitDefEqProofs (disch := omega) [qik, s1]
include hy hs'
theorem q45 (p q : Bool) : callE T0 X0 qe5 [.d (.agg [.bool p, .sl (L xs)]), .d (.agg [.bool q, .sl (L ys)])] [] = some (.ret [.d (Wd (sg p (nv xs) + sg q (nv ys)))] []) := by
  rw [qab (af := qjt) rfl rfl rfl]
  have h1 := (qae hx).1
  have h2 := (qae hy).1
  have l1 := qae hx
  have l2 := qae hy
  by_cases hpq : p = q
  · subst hpq
    have s1 := zd2 hx hy (by omega) (by omega)
    have hb := qa7 (n := nv xs + nv ys) (k := max xs.length ys.length + 1) (by omega) (by
      have a1 := pw_le (show xs.length ≤ max xs.length ys.length by omega)
      have a2 := pw_le (show ys.length ≤ max xs.length ys.length by omega)
      simp only [pw]
      omega)
    have s2 := qgs p (n := nv xs + nv ys) (by omega) (by omega)
    have e : sg p (nv xs) + sg p (nv ys) = sg p (nv xs + nv ys) := by cases p <;> simp <;> omega
    rw [e]
    simp -implicitDefEqProofs (disch := omega) [qjt, s1, s2, Wd]
  · have e : q = !p := by cases p <;> cases q <;> simp_all
    subst e
    have s1 := q5a hx hy (by omega) (by omega)
    have s1' := q5a hy hx (by omega) (by omega)
    rw [zen]
    by_cases hlt : nv xs < nv ys
    · rw [if_pos hlt] at s1
      rw [if_neg (by omega)] at s1'
      have hb := qa7 (n := nv ys - nv xs) (k := ys.length) (by omega) (by omega)
      have s2 := qgs (!p) (n := nv ys - nv xs) (by omega) (by omega)
      have e : sg p (nv xs) + - sg p (nv ys) = sg (!p) (nv ys - nv xs) := by cases p <;> simp <;> omega
      rw [e]
      simp -implicitDefEqProofs (disch := omega) [qjt, s1, s1', s2, Wd]
    · rw [if_neg hlt] at s1
      have hb := qa7 (n := nv xs - nv ys) (k := xs.length) (by omega) (by omega)
      have s2 := qgs p (n := nv xs - nv ys) (by omega) (by omega)
      have e : sg p (nv xs) + - sg p (nv ys) = sg p (nv xs - nv ys) := by cases p <;> simp <;> omega
      rw [e]
      simp -implicitDefEqProofs (disch := omega) [qjt, s1, s2, Wd]
theorem zbv (p q : Bool) : callE T0 X0 qh4 [.d (.agg [.bool p, .sl (L xs)]), .d (.agg [.bool q, .sl (L ys)])] [] = some (.ret [.d (Wd (sg p (nv xs) - sg q (nv ys)))] []) := by
  rw [qab (af := qoc) rfl rfl rfl]
  have s1 := q45 hx hy hs hs' p (!q)
  rw [zen, ← Int.sub_eq_add_neg] at s1
  simp -implicitDefEqProofs (disch := omega) [qoc, s1, Wd]
theorem zb0 (p q : Bool) : callE T0 X0 qlu [.d (.agg [.bool p, .sl (L xs)]), .d (.agg [.bool q, .sl (L ys)])] [] = some (.ret [.d (Wd (sg p (nv xs) * sg q (nv ys)))] []) := by
  rw [qab (af := qoe) rfl rfl rfl]
  have l1 := qae hx
  have l2 := qae hy
  have s1 := zc8 hx hy (by omega)
  have hb := qa7 (n := nv xs * nv ys) (k := xs.length + ys.length) (Int.mul_nonneg l1.1 l2.1) (by
    rw [qrs]
    have a1 : nv xs * nv ys ≤ nv xs * pw ys.length := Int.mul_le_mul_of_nonneg_left (by omega) l1.1
    have a2 : nv xs * pw ys.length < pw xs.length * pw ys.length := Int.mul_lt_mul_of_pos_right l1.2 (qib _)
    omega)
  have s2 := fun b => qgs b (n := nv xs * nv ys) (Int.mul_nonneg l1.1 l2.1) (by omega)
  have e : sg p (nv xs) * sg q (nv ys) = sg (p != q) (nv xs * nv ys) := by cases p <;> cases q <;> simp [Int.mul_neg, Int.neg_mul]
  rw [e]
  cases p <;> cases q <;> simp -implicitDefEqProofs (disch := omega) [qoe, s1, s2, Wd]
end raw
theorem quc {n : Int} (h : -9223372036854775808 ≤ n ∧ n ≤ 9223372036854775807) : callE T0 X0 qll [.d (.int .i64 n)] [] = some (.ret [.d (Wd n)] []) := by
  rw [qab (af := qnp) rfl rfl rfl]
  by_cases h0 : n < 0
  · have s1 := qsr (n := -n) (by omega)
    have hb := qa7 (n := -n) (k := 2) (by omega) (by simp only [pw]; omega)
    have s2 := qgs true (n := -n) (by omega) (by omega)
    have e : -(n + 1) + 1 = -n := by omega
    simp -implicitDefEqProofs (disch := omega) [qnp, s1, s2, Wd, e]
  · have s1 := qsr (n := n) (by omega)
    have hb := qa7 (n := n) (k := 2) (by omega) (by simp only [pw]; omega)
    have s2 := qgs false (n := n) (by omega) (by omega)
    simp -implicitDefEqProofs (disch := omega) [qnp, s1, s2, Wd]
section W
variable {m n : Int} (hm : nl m < 1073741824) (hn : nl n < 1073741824)
theorem qng (n : Int) : nv (limbs n.natAbs) = n.natAbs := qbu (by omega)
include hm
theorem zfi : callE T0 X0 qkf [.d (Wd m)] [] = some (.ret [.d (Wd m)] []) := by
  have := q8f (qaq m.natAbs) hm (decide (m < 0))
  rwa [qng, qrn] at this
theorem wneg_W : callE T0 X0 qn9 [.d (Wd m)] [] = some (.ret [.d (Wd (-m))] []) := by
  have := zbz (qaq m.natAbs) hm (decide (m < 0))
  rwa [qng, qrn] at this
theorem qyd : callE T0 X0 qid [.d (Wd m)] [] = some (.ret [.d (.int .i64 m.sign)] []) := by
  have := q8g (qaq m.natAbs) hm (decide (m < 0))
  rwa [qng, qrn] at this
include hn
theorem q8p : callE T0 X0 qe5 [.d (Wd m), .d (Wd n)] [] = some (.ret [.d (Wd (m + n))] []) := by
  have := q45 (qaq m.natAbs) (qaq n.natAbs) hm hn (decide (m < 0)) (decide (n < 0))
  rwa [qng, qng, qrn, qrn] at this
theorem zd3 : callE T0 X0 qh4 [.d (Wd m), .d (Wd n)] [] = some (.ret [.d (Wd (m - n))] []) := by
  have := zbv (qaq m.natAbs) (qaq n.natAbs) hm hn (decide (m < 0)) (decide (n < 0))
  rwa [qng, qng, qrn, qrn] at this
theorem wmul_W : callE T0 X0 qlu [.d (Wd m), .d (Wd n)] [] = some (.ret [.d (Wd (m * n))] []) := by
  have := zb0 (qaq m.natAbs) (qaq n.natAbs) hm hn (decide (m < 0)) (decide (n < 0))
  rwa [qng, qng, qrn, qrn] at this
end W
end Go.Rf

namespace Go.Rf
def SV (vs : List (List UInt8)) : List V := vs.map fun s => .d (.str s)
@[simp] theorem SV_len (vs) : (SV vs).length = vs.length := by simp [SV]
@[simp] theorem SV_take (vs n) : (SV vs).take n = SV (vs.take n) := by simp [SV, List.map_take]
@[simp] theorem zfe (vs) : (SL vs).map V.d = SV vs := by simp [SL, SV, Function.comp_def]
@[simp] theorem q6p : SV [] = [] := rfl
@[simp] theorem SV_app1 (vs s) : SV vs ++ [.d (.str s)] = SV (vs ++ [s]) := by simp [SV]
theorem qtk (s l) : SV (s :: l) = .d (.str s) :: SV l := rfl
theorem SV_get {vs : List (List UInt8)} {i : Nat} (h : i < vs.length) : (SV vs)[i]? = some (.d (.str (tx vs i))) := by simp [SV, tx, h]
attribute [simp] SV_get
@[simp] theorem rens_SV (al : Loc → Bool) (xs) (m : List Loc) : rens al (SV xs) m = (SV xs, m) := by rw [← zfe]; exact qpo ..
@[simp] theorem mapLs_SV (f : Loc → Loc) (xs) : mapLs f (SV xs) = SV xs := by
  induction xs with
  | nil => rfl
  | cons x xs ih =>
    show V.mapL f (.d _) :: mapLs f (SV xs) = _
    rw [ih]
    rfl
@[simp] theorem frzL_SV (h : Loc → Option Obj) (k : Nat) (xs) : frzL (frz h (k + 1)) (SV xs) = some (SL xs, []) := by rw [← zfe]; exact q50 ..
@[simp] theorem SV_cells (vs) : (∀ x ∈ SV vs, x.cells.length = 1) = True := eq_true (by
  intro x hx
  obtain ⟨n, _, rfl⟩ := List.mem_map.1 hx
  rfl)
def ME (ms : List (List UInt8)) : List (D × V) := ms.map fun s => (.str s, .d (.int .i64 1))
@[simp] theorem qua : ME [] = [] := rfl
@[simp] theorem renEs_ME (al : Loc → Bool) (xs) (m : List Loc) : renEs al (ME xs) m = (ME xs, m) := by
  induction xs with
  | nil => rfl
  | cons x xs ih =>
    show renEs al ((.str x, .d (.int .i64 1)) :: ME xs) m = _
    simp only [renEs, V.ren, viaP, ih]
    rfl
@[simp] theorem mapLe_ME (f : Loc → Loc) (xs) : mapLe f (ME xs) = ME xs := by
  induction xs with
  | nil => rfl
  | cons x xs ih =>
    show (_, V.mapL f (.d _)) :: mapLe f (ME xs) = _
    rw [ih]
    rfl
@[simp] theorem keys_ME (xs) : (ME xs).all (fun e => isKey true e.1) = true := by
  induction xs with
  | nil => rfl
  | cons x xs ih => simpa [ME, isKey] using ih
@[simp] theorem findE_ME (xs s) : findE (ME xs) (qfv (.str s)) = if s ∈ xs then some (.d (.int .i64 1)) else none := by
  induction xs with
  | nil => rfl
  | cons x xs ih =>
    show (if qfv (.str s) (.str x) then _ else findE (ME xs) _) = _
    rw [ih]
    by_cases h : s = x
    · subst h; simp [qfv]
    · simp [qfv, h]
theorem zgu {xs s} (h : ¬ s ∈ xs) : putE (ME xs) (.str s) (.d (.int .i64 1)) = ME (xs ++ [s]) := by
  induction xs with
  | nil => rfl
  | cons x xs ih =>
    simp only [List.mem_cons, not_or] at h
    show (if qfv (.str s) (.str x) then _ else (_, _) :: putE (ME xs) _ _) = _
    rw [ih h.2]
    simp [qfv, h.1, ME]
end Go.Rf

namespace Go.Rf
structure Rd where
  ts : List Tok
  i : Nat
  vs : List (List UInt8)
  op : Int
  ly : Option D
  ms : List (List UInt8)
def Rd.heap (r : Rd) : List Obj := match r.ly with
  | some x => [.arr [.agg [.d (.sl (LT r.ts)), .d (.int .i64 r.i), .d x, .d (.int .i64 r.op), .map (.b 1)]] ⟨5, 0⟩, .map (ME r.ms)]
  | none => [.arr [.agg [.d (.sl (LT r.ts)), .d (.int .i64 r.i), .ref (.b 1) ⟨1, 16⟩ 0 r.vs.length, .d (.int .i64 r.op), .map (.b 2)]] ⟨5, 0⟩, .arr (SV r.vs) ⟨1, 16⟩, .map (ME r.ms)]
def Rd.tok (r : Rd) : Tok := r.ts.getD r.i ⟨0, [], qam⟩
def Rd.next (r : Rd) : Rd := if r.tok.kind = 0 then r else { r with i := r.i + 1 }
def Rd.opened (r : Rd) : Rd := { r with op := r.op + 1 }
def Rd.closed (r : Rd) : Rd := { r with op := r.op - 1 }
theorem lys (r : Rd) : r.next.ly = r.ly ∧ r.opened.ly = r.ly ∧ r.closed.ly = r.ly := ⟨by unfold Rd.next; split <;> rfl, rfl, rfl⟩
structure Rd.ok (r : Rd) : Prop where
  i : r.i < r.ts.length
  n : r.ts.length ≤ 5000
  mid : ∀ j, j + 1 < r.ts.length → (r.ts.getD j ⟨0, [], qam⟩).kind ≠ 0
  fin : ∀ j, r.ts.length = j + 1 → (r.ts.getD j ⟨0, [], qam⟩).kind = 0
  vs : r.vs.length ≤ 16
  op : 0 ≤ r.op ∧ r.op ≤ 16
  tx : ∀ t ∈ r.ts, t.text.length ≤ 1100000
  tv : ∀ k, (Rf.tx r.vs k).length ≤ 1100000
  ly : ∀ x, r.ly = some x → x = .sl (SL r.vs) ∨ x = .nils ∧ r.vs = []
theorem ziu {l : List Tok} {i : Nat} (h : i < l.length) : (LT l)[i]? = some (.agg (l.getD i ⟨0, [], qam⟩).cs) := by simp [LT, h]
theorem qbi {r : Rd} (h : r.ok) : callE T0 X0 qal [.ptr (.b 0) 0 0] r.heap = some (.ret [.d (.agg r.tok.cs)] r.heap) := by
  rw [qab (af := qgp) rfl rfl rfl]
  have h1 := h.i
  have h2 := h.n
  have h3 := ziu h1
  cases hly : r.ly
  all_goals
    simp only [Rd.heap, hly, lys, Rd.tok] at *
    generalize r.ts.getD r.i ⟨0, [], qam⟩ = t at *
    simp only [Tok.cs] at *
    simp -implicitDefEqProofs (disch := omega) [qgp, h3]
def qap (e : Int) (p : Pl) : D := .iface qou (.agg [.int .i64 e, .int .i64 p.b, .int .i64 p.g, .int .i64 p.l, .int .i64 p.c])
theorem qcr (r : Rd) (e : Int) : callE T0 X0 qar [.ptr (.b 0) 0 0, .d (.bool true), .d (.int .i64 e)] r.heap = some (.ret [] r.heap) := by
  rw [qab (af := qdw) rfl rfl rfl]
  cases hly : r.ly
  all_goals
    simp only [Rd.heap, hly, lys] at *
    simp -implicitDefEqProofs (disch := omega) [qdw]
theorem qdb {r : Rd} (h : r.ok) (e : Int) : callE T0 X0 qar [.ptr (.b 0) 0 0, .d (.bool false), .d (.int .i64 e)] r.heap = some (.pan (.d (qap e r.tok.pos)) r.heap) := by
  rw [qab (af := qdw) rfl rfl rfl]
  have s1 := qbi h
  cases hly : r.ly
  all_goals
    simp only [Rd.heap, hly, lys, qap] at *
    generalize r.tok = t at *
    simp only [Tok.cs] at *
    simp -implicitDefEqProofs (disch := omega) [qdw, s1]
end Go.Rf

namespace Go.Rf
theorem Rd.next_ok {r : Rd} (h : r.ok) : r.next.ok := by
  unfold Rd.next
  split
  · exact h
  · rename_i hk
    have hi := h.i
    refine ⟨?_, h.n, h.mid, h.fin, h.vs, h.op, h.tx, h.tv, h.ly⟩
    show r.i + 1 < r.ts.length
    by_cases hl : r.i + 1 < r.ts.length
    · exact hl
    · exact absurd (h.fin r.i (by omega)) hk
theorem qgr {r : Rd} (h : r.ok) : callE T0 X0 qbv [.ptr (.b 0) 0 0] r.heap = some (.ret [.d (.agg r.tok.cs)] r.next.heap) := by
  rw [qab (af := qey) rfl rfl rfl]
  have s1 := qbi h
  have h1 := h.i
  have h2 := h.n
  unfold Rd.next
  by_cases hk : r.tok.kind = 0
  · rw [if_pos hk]
    cases hly : r.ly
    all_goals
      simp only [Rd.heap, hly, lys] at *
      generalize r.tok = t at *
      simp only [Tok.cs] at *
      simp -implicitDefEqProofs (disch := omega) [qey, s1]
  · rw [if_neg hk]
    cases hly : r.ly
    all_goals
      simp only [Rd.heap, hly, lys] at *
      generalize r.tok = t at *
      simp only [Tok.cs] at *
      simp -implicitDefEqProofs (disch := omega) [qey, s1]
def Rd.isT (r : Rd) (s : List UInt8) : Bool := decide (r.tok.text = s ∧ (r.tok.kind = 3 ∨ r.tok.kind = 1))
theorem qa3 {r : Rd} (h : r.ok) (s : List UInt8) (hs : s.length ≤ 1100000) : callE T0 X0 qai [.ptr (.b 0) 0 0, .d (.str s)] r.heap = some (.ret [.d (.bool (r.isT s))] (if r.isT s then r.next else r).heap) := by
  rw [qab (af := qd2) rfl rfl rfl]
  have s1 := qbi h
  have s2 := qgr h
  unfold Rd.isT
  by_cases ht : r.tok.text = s
  · have hb : (r.tok.text == s) = true := by simp [ht]
    by_cases hk : r.tok.kind = 3
    · rw [if_pos (by simp [ht, hk]), decide_eq_true (by simp [ht, hk])]
      cases hly : r.ly
      all_goals
        simp only [Rd.heap, hly, lys] at *
        generalize r.tok = t at *
        simp only [Tok.cs] at *
        simp -implicitDefEqProofs (disch := omega) [qd2, s1, s2, hb]
    · by_cases hk1 : r.tok.kind = 1
      · rw [if_pos (by simp [ht, hk1]), decide_eq_true (by simp [ht, hk1])]
        cases hly : r.ly
        all_goals
          simp only [Rd.heap, hly, lys] at *
          generalize r.tok = t at *
          simp only [Tok.cs] at *
          simp -implicitDefEqProofs (disch := omega) [qd2, s1, s2, hb]
      · rw [if_neg (by simp [ht, hk, hk1]), decide_eq_false (by simp [ht, hk, hk1])]
        cases hly : r.ly
        all_goals
          simp only [Rd.heap, hly, lys] at *
          generalize r.tok = t at *
          simp only [Tok.cs] at *
          simp -implicitDefEqProofs (disch := omega) [qd2, s1, s2, hb]
  · have hb : (r.tok.text == s) = false := by simp [ht]
    rw [if_neg (by simp [ht]), decide_eq_false (by simp [ht])]
    cases hly : r.ly
    all_goals
      simp only [Rd.heap, hly, lys] at *
      generalize r.tok = t at *
      simp only [Tok.cs] at *
      simp -implicitDefEqProofs (disch := omega) [qd2, s1, s2, hb]
theorem qhm {r : Rd} (h : r.ok) {s : List UInt8} (hs : s.length ≤ 1100000) (hi : r.isT s = true) : callE T0 X0 qbh [.ptr (.b 0) 0 0, .d (.str s)] r.heap = some (.ret [] r.next.heap) := by
  rw [qab (af := qdx) rfl rfl rfl]
  have s1 := qa3 h s hs
  rw [hi, if_pos rfl] at s1
  have s2 := qcr r.next 80
  cases hly : r.ly
  all_goals
    simp only [Rd.heap, hly, lys] at *
    simp -implicitDefEqProofs (disch := omega) [qdx, s1, s2]
theorem qgc {r : Rd} (h : r.ok) {s : List UInt8} (hs : s.length ≤ 1100000) (hi : r.isT s = false) : callE T0 X0 qbh [.ptr (.b 0) 0 0, .d (.str s)] r.heap = some (.pan (.d (qap 80 r.tok.pos)) r.heap) := by
  rw [qab (af := qdx) rfl rfl rfl]
  have s1 := qa3 h s hs
  rw [hi, if_neg (by simp)] at s1
  have s2 := qdb h 80
  cases hly : r.ly
  all_goals
    simp only [Rd.heap, hly, lys] at *
    simp -implicitDefEqProofs (disch := omega) [qdx, s1, s2]
end Go.Rf

namespace Go.Rf
def words : List (List UInt8) := [[118, 97, 114, 115], [97, 110, 121], [115, 107, 105, 112], [115, 116, 111, 112], [109, 97, 114, 107], [99, 104, 111, 111, 115, 101], [111, 114], [108, 111, 111, 112], [105, 102], [101, 108, 115, 101], [119, 104, 105, 108, 101]]
def qk2 (s : List UInt8) : Bool := words.contains s
theorem q8j (s : List UInt8) (hs : s.length ≤ 1100000) : callE T0 X0 qv6 [.d (.str s)] [] = some (.ret [.d (.bool (qk2 s))] []) := by
  rw [qab (af := ql7) rfl rfl rfl]
  by_cases h : s = [118, 97, 114, 115] ∨ s = [97, 110, 121] ∨ s = [115, 107, 105, 112] ∨ s = [115, 116, 111, 112] ∨ s = [109, 97, 114, 107] ∨ s = [99, 104, 111, 111, 115, 101] ∨ s = [111, 114] ∨ s = [108, 111, 111, 112] ∨ s = [105, 102] ∨ s = [101, 108, 115, 101] ∨ s = [119, 104, 105, 108, 101]
  · rcases h with rfl | rfl | rfl | rfl | rfl | rfl | rfl | rfl | rfl | rfl | rfl <;>
      simp -implicitDefEqProofs (disch := omega) [ql7, qk2, words]
  · have e : qk2 s = false := by
      unfold qk2 words
      simp only [List.contains_eq_mem, List.mem_cons, List.not_mem_nil, or_false, decide_eq_false_iff_not]
      exact h
    rw [e]
    simp only [not_or] at h
    obtain ⟨h0, h1, h2, h3, h4, h5, h6, h7, h8, h9, h10⟩ := h
    have b0 : (s == [118, 97, 114, 115]) = false := by rw [beq_eq_false_iff_ne]; exact h0
    have b1 : (s == [97, 110, 121]) = false := by rw [beq_eq_false_iff_ne]; exact h1
    have b2 : (s == [115, 107, 105, 112]) = false := by rw [beq_eq_false_iff_ne]; exact h2
    have b3 : (s == [115, 116, 111, 112]) = false := by rw [beq_eq_false_iff_ne]; exact h3
    have b4 : (s == [109, 97, 114, 107]) = false := by rw [beq_eq_false_iff_ne]; exact h4
    have b5 : (s == [99, 104, 111, 111, 115, 101]) = false := by rw [beq_eq_false_iff_ne]; exact h5
    have b6 : (s == [111, 114]) = false := by rw [beq_eq_false_iff_ne]; exact h6
    have b7 : (s == [108, 111, 111, 112]) = false := by rw [beq_eq_false_iff_ne]; exact h7
    have b8 : (s == [105, 102]) = false := by rw [beq_eq_false_iff_ne]; exact h8
    have b9 : (s == [101, 108, 115, 101]) = false := by rw [beq_eq_false_iff_ne]; exact h9
    have b10 : (s == [119, 104, 105, 108, 101]) = false := by rw [beq_eq_false_iff_ne]; exact h10
    simp -implicitDefEqProofs (disch := omega) [ql7, b0, b1, b2, b3, b4, b5, b6, b7, b8, b9, b10]
def Rd.isName (r : Rd) : Bool := decide (r.tok.kind = 1) && !qk2 r.tok.text
theorem qh0 {r : Rd} (h : r.ok) : r.tok.text.length ≤ 1100000 := by
  unfold Rd.tok
  have := h.i
  simp [this]
  exact h.tx _ (List.getElem_mem this)
theorem qcf {r : Rd} (h : r.ok) : callE T0 X0 qev [.ptr (.b 0) 0 0] r.heap = some (.ret [.d (.bool r.isName)] r.heap) := by
  rw [qab (af := qez) rfl rfl rfl]
  have s1 := qbi h
  have s2 := q8j r.tok.text (qh0 h)
  have ht := qh0 h
  unfold Rd.isName
  by_cases hk : r.tok.kind = 1
  · rw [decide_eq_true hk]
    cases hly : r.ly
    all_goals
      simp only [Rd.heap, hly, lys] at *
      generalize r.tok = t at *
      simp only [Tok.cs] at *
      cases hw : qk2 t.text <;> rw [hw] at s2 <;> simp -implicitDefEqProofs (disch := omega) [qez, s1, s2]
  · rw [decide_eq_false hk]
    cases hly : r.ly
    all_goals
      simp only [Rd.heap, hly, lys] at *
      generalize r.tok = t at *
      simp only [Tok.cs] at *
      simp -implicitDefEqProofs (disch := omega) [qez, s1]
def varF (vs : List (List UInt8)) (s : List UInt8) : Nat → Nat → Int
  | 0, _ => -1
  | d + 1, i => if s = tx vs i then i else varF vs s d (i + 1)
theorem qyg (vs) (s) : ∀ d i, d + i = vs.length → -1 ≤ varF vs s d i ∧ varF vs s d i < vs.length
  | 0, i, h => by simp only [varF]; omega
  | d + 1, i, h => by
    unfold varF
    split
    · omega
    · exact qyg vs s d (i + 1) (by omega)
def Rd.nv (r : Rd) : V := match r.ly with
  | some x => .d x
  | none => .ref (.b 1) ⟨1, 16⟩ 0 r.vs.length
theorem zb2 {r : Rd} (h : r.ok) (s : List UInt8) (hs : s.length ≤ 1100000) : ∀ d i (e : List (Nat × V)), d + i = r.vs.length →
    codeX T0 X0 r.heap.length qde (some (.nrm, ⟨(1, .d (.str s)) :: (10, r.nv) :: (11, .d (.int .i64 r.vs.length)) :: (12, .d (.int .i64 i)) :: e, r.heap⟩)) =
      if varF r.vs s d i = -1 then some (.exit 0, ⟨[], r.heap⟩) else some (.ret, ⟨[(4, .d (.int .i64 (varF r.vs s d i)))], r.heap⟩) := by
  have hv := h.vs
  intro d
  induction d with
  | zero =>
    intro i e hi
    have : i = r.vs.length := by omega
    subst this
    rw [qac (l := qde) rfl, if_pos (show varF r.vs s 0 r.vs.length = -1 from rfl)]
    cases hly : r.ly
    all_goals
      simp only [Rd.heap, Rd.nv, hly]
      simp -implicitDefEqProofs (disch := omega) [qdf]
  | succ d ih =>
    intro i e hi
    rw [qac (l := qde) rfl]
    have h1 := h.tv i
    have hx : ∀ x, r.ly = some x → x = .sl (SL r.vs) := fun x e => by
      rcases h.ly x e with h | ⟨_, h⟩
      · exact h
      · rw [h] at hi; simp at hi
    by_cases he : s = tx r.vs i
    · rw [show varF r.vs s (d + 1) i = i by simp only [varF, if_pos he], if_neg (by omega)]
      have hb : (s == tx r.vs i) = true := by rw [← he]; simp
      cases hly : r.ly
      case' some => cases hx _ hly
      all_goals
        simp only [Rd.heap, Rd.nv, hly]
        simp -implicitDefEqProofs (disch := omega) [qdf, hb]
    · rw [show varF r.vs s (d + 1) i = varF r.vs s d (i + 1) by simp only [varF, if_neg he]]
      have hb : (s == tx r.vs i) = false := by rw [beq_eq_false_iff_ne]; exact he
      rw [← ih (i + 1) [] (by omega)]
      cases hly : r.ly
      case' some => cases hx _ hly
      all_goals
        simp only [Rd.heap, Rd.nv, hly]
        simp -implicitDefEqProofs (disch := omega) [qdf, hb]
def Rd.var (r : Rd) (s : List UInt8) : Int := varF r.vs s r.vs.length 0
theorem qud {r : Rd} (h : r.ok) (s : List UInt8) (hs : s.length ≤ 1100000) : callE T0 X0 qeo [.ptr (.b 0) 0 0, .d (.str s)] r.heap = some (.ret [.d (.int .i64 (r.var s))] r.heap) := by
  rw [qab (af := qda) rfl rfl rfl]
  have hv := h.vs
  have s1 := zb2 h s hs r.vs.length 0 [] rfl
  have hx := h.ly
  unfold Rd.var
  by_cases hz : varF r.vs s r.vs.length 0 = -1
  · rw [if_pos hz] at s1
    rw [hz]
    cases hly : r.ly
    case' some => rcases hx _ hly with rfl | ⟨rfl, hvs⟩; rotate_left; rw [hvs] at s1
    all_goals
      simp only [Rd.heap, Rd.nv, hly, Int.cast_ofNat_Int, List.length_cons, List.length_nil] at s1 ⊢
      simp -implicitDefEqProofs (disch := omega) [qda, s1]
  · rw [if_neg hz] at s1
    cases hly : r.ly
    case' some => rcases hx _ hly with rfl | ⟨rfl, hvs⟩; rotate_left; exact absurd (by rw [hvs]; rfl) hz
    all_goals
      simp only [Rd.heap, Rd.nv, hly, Int.cast_ofNat_Int, List.length_cons, List.length_nil] at s1 ⊢
      simp -implicitDefEqProofs (disch := omega) [qda, s1]
def Rd.into (r : Rd) (s : List UInt8) : Option Int := if r.tok.kind = 3 ∧ r.tok.text = s then (if r.op < 16 then none else some 83) else some 80
theorem Rd.opened_ok {r : Rd} (h : r.ok) (hi : r.op < 16) : r.opened.ok := ⟨h.i, h.n, h.mid, h.fin, h.vs, by have := h.op; exact ⟨by show 0 ≤ r.op + 1; omega, by show r.op + 1 ≤ 16; omega⟩, h.tx, h.tv, h.ly⟩
theorem q2g {r : Rd} (h : r.ok) {s : List UInt8} (hs : s.length ≤ 1100000) (hi : r.into s = none) : callE T0 X0 qgm [.ptr (.b 0) 0 0, .d (.str s)] r.heap = some (.ret [] r.opened.next.heap) := by
  rw [qab (af := qb7) rfl rfl rfl]
  have ht := qh0 h
  unfold Rd.into at hi
  by_cases hc : r.tok.kind = 3 ∧ r.tok.text = s
  · rw [if_pos hc] at hi
    by_cases ho : r.op < 16
    · have s1 := qbi h
      have s2 := qcr r 80
      have s3 := qcr r 83
      have s4 := qgr (Rd.opened_ok h ho)
      have h4 := h.op
      have hb : (r.tok.text == s) = true := by rw [hc.2]; simp
      have hk := hc.1
      cases hly : r.ly
      all_goals
        simp only [Rd.heap, hly, lys] at *
        generalize r.opened.tok = t2 at *
        generalize r.tok = t at *
        simp only [Tok.cs, Rd.opened] at *
        simp -implicitDefEqProofs (disch := omega) [qb7, s1, s2, s3, s4, hb]
    · rw [if_neg ho] at hi; cases hi
  · rw [if_neg hc] at hi; cases hi
theorem q2f {r : Rd} (h : r.ok) {s : List UInt8} (hs : s.length ≤ 1100000) {e : Int} (hi : r.into s = some e) : callE T0 X0 qgm [.ptr (.b 0) 0 0, .d (.str s)] r.heap = some (.pan (.d (qap e r.tok.pos)) r.heap) := by
  rw [qab (af := qb7) rfl rfl rfl]
  have ht := qh0 h
  have s1 := qbi h
  have h4 := h.op
  unfold Rd.into at hi
  by_cases hc : r.tok.kind = 3 ∧ r.tok.text = s
  · rw [if_pos hc] at hi
    by_cases ho : r.op < 16
    · rw [if_pos ho] at hi; cases hi
    · rw [if_neg ho] at hi
      cases hi
      have s2 := qcr r 80
      have s3 := qdb h 83
      have hb : (r.tok.text == s) = true := by rw [hc.2]; simp
      have hk := hc.1
      cases hly : r.ly
      all_goals
        simp only [Rd.heap, hly, lys, qap] at *
        generalize r.tok = t at *
        simp only [Tok.cs] at *
        simp -implicitDefEqProofs (disch := omega) [qb7, s1, s2, s3, hb]
  · rw [if_neg hc] at hi
    cases hi
    have s3 := qdb h 80
    by_cases hk : r.tok.kind = 3
    · have hb : (r.tok.text == s) = false := by rw [beq_eq_false_iff_ne]; exact fun e => hc ⟨hk, e⟩
      cases hly : r.ly
      all_goals
        simp only [Rd.heap, hly, lys, qap] at *
        generalize r.tok = t at *
        simp only [Tok.cs] at *
        simp -implicitDefEqProofs (disch := omega) [qb7, s1, s3, hb]
    · cases hly : r.ly
      all_goals
        simp only [Rd.heap, hly, lys, qap] at *
        generalize r.tok = t at *
        simp only [Tok.cs] at *
        simp -implicitDefEqProofs (disch := omega) [qb7, s1, s3]
theorem Rd.closed_ok {r : Rd} (h : r.ok) (hi : 0 < r.op) : r.closed.ok := ⟨h.i, h.n, h.mid, h.fin, h.vs, by have := h.op; exact ⟨by show 0 ≤ r.op - 1; omega, by show r.op - 1 ≤ 16; omega⟩, h.tx, h.tv, h.ly⟩
theorem Rd.next_op (r : Rd) : r.next.op = r.op ∧ r.next.ts = r.ts ∧ r.next.vs = r.vs := by unfold Rd.next; split <;> exact ⟨rfl, rfl, rfl⟩
theorem q5j {r : Rd} (h : r.ok) {s : List UInt8} (hs : s.length ≤ 1100000) (hi : r.isT s = true) : callE T0 X0 qg8 [.ptr (.b 0) 0 0, .d (.str s)] r.heap = some (.ret [] r.next.closed.heap) := by
  rw [qab (af := qeh) rfl rfl rfl]
  have s1 := qhm h hs hi
  have h4 := h.op
  have h5 := r.next_op.1
  cases hly : r.ly
  all_goals
    simp only [Rd.heap, hly, lys, Rd.closed] at *
    simp -implicitDefEqProofs (disch := omega) [qeh, s1]
theorem q1l {r : Rd} (h : r.ok) {s : List UInt8} (hs : s.length ≤ 1100000) (hi : r.isT s = false) : callE T0 X0 qg8 [.ptr (.b 0) 0 0, .d (.str s)] r.heap = some (.pan (.d (qap 80 r.tok.pos)) r.heap) := by
  rw [qab (af := qeh) rfl rfl rfl]
  have s1 := qgc h hs hi
  cases hly : r.ly
  all_goals
    simp only [Rd.heap, hly, lys, qap] at *
    simp -implicitDefEqProofs (disch := omega) [qeh, s1]
inductive Nd where
  | num (n : Int)
  | name (v : Int) (s : List UInt8)
  | minus (x : Nd)
  | two (op : Int) (l r : Nd)
def Nd.d : Nd → D
  | .num n => .iface qcp (Wd n)
  | .name v s => .iface qei (.agg [.int .i64 v, .str s])
  | .minus x => .iface qdj (.agg [x.d])
  | .two op l r => .iface qce (.agg [.int .u8 op, l.d, r.d])
@[simp] theorem zdv (x : Nd) : V.cells (.d x.d) = [.d x.d] := by cases x <;> rfl
end Go.Rf

namespace Go.Rf
def NumTx (s : List UInt8) : Prop := s.length ≤ 4096 ∧ (dec s 0).1 ≠ 45 ∧ (dec s 0).1 ≠ 8722
theorem qus {s : List UInt8} (h : NumTx s) : ∃ e, callE T0 X0 qn8 [.d (.str s)] [] = some (.ret [.d (Wd (numV s)), .d (.int .i64 e)] []) := by
  obtain ⟨hl, h1, h2⟩ := h
  have hn := qs6 hl
  have hk : (limbs (numV s)).length ≤ 456 := qa7 hn.1 (by have := (qnq 456).2; omega)
  have s1 := qxk (s := s) (by omega)
  have s2 := qgs false hn.1 (by omega)
  have lp : codeX T0 X0 0 qkw (some (.nrm, ⟨[(0, .d (.str s)), (2, .ptr (.b 0) 0 0), (4, .d (.bool false)), (10, .iter (.b 1))], [.arr [.d (.agg [.bool false, .sl []])] ⟨2, 0⟩, .iter s 0]⟩)) =
      some (.exit 0, ⟨[(0, .d (.str s)), (2, .ptr (.b 0) 0 0), (4, .d (.bool false))], [.arr [.d (.agg [.bool false, .sl []])] ⟨2, 0⟩]⟩) := by
    rw [qac (l := qkw) rfl]
    by_cases h0 : 0 < s.length
    · have d1 := qwc h0
      simp -implicitDefEqProofs (disch := omega) [qkx]
    · simp -implicitDefEqProofs (disch := omega) [qkx]
  rw [qab (af := qi0) rfl rfl rfl]
  unfold numV at *
  cases hp : qto s with
  | none =>
    rw [hp] at s1
    refine ⟨10, ?_⟩
    simp -implicitDefEqProofs (disch := omega) [qi0, lp, s1, Wd]
  | some v =>
    rw [hp] at s1 s2 hk
    simp only [Option.getD_some, zck] at s2 hk
    refine ⟨0, ?_⟩
    simp -implicitDefEqProofs (disch := omega) [qi0, lp, s1, s2, Wd]
inductive Rs where
  | ok (x : Nd) (r : Rd)
  | bad (e : Int) (p : Pl) (r : Rd)
def Rs.out : Rs → Option CRes
  | .ok x r => some (.ret [.d x.d] r.heap)
  | .bad e p r => some (.pan (.d (qap e p)) r.heap)
def Rs.end : Rs → Option (Ex × St)
  | .ok x r => some (.ret, ⟨[(2, .d x.d)], r.heap⟩)
  | .bad e p r => some (.pan (.d (qap e p)), ⟨[], r.heap⟩)
def Rs.bind : Rs → (Nd → Rd → Rs) → Rs
  | .ok x r, f => f x r
  | .bad e p r, _ => .bad e p r
inductive Md where
  | u
  | p
  | s
  | lp (x : Nd)
  | ls (x : Nd)
def rd : Nat → Md → Rd → Rs
  | 0, _, r => .bad 80 qam r
  | n + 1, .u, r =>
    if r.isT [45] = true then (rd n .u r.next).bind fun x r => .ok (.minus x) r
    else if r.tok.kind = 2 then .ok (.num (numV r.tok.text)) r.next
    else if r.isName = true then (if 0 ≤ r.var r.tok.text then .ok (.name (r.var r.tok.text) r.tok.text) r.next else .bad 81 r.tok.pos r)
    else match r.into [40] with
      | some e => .bad e r.tok.pos r
      | none => (rd n .s r.opened.next).bind fun x r => if r.isT [41] = true then .ok x r.next.closed else .bad 80 r.tok.pos r
  | n + 1, .p, r => (rd n .u r).bind fun x r => rd n (.lp x) r
  | n + 1, .s, r => (rd n .p r).bind fun x r => rd n (.ls x) r
  | n + 1, .lp x, r =>
    if r.isT [42] = true then (rd n .u r.next).bind fun y r => rd n (.lp (.two 42 x y)) r
    else if r.isT [47] = true then (rd n .u r.next).bind fun y r => rd n (.lp (.two 47 x y)) r
    else if r.isT [37] = true then (rd n .u r.next).bind fun y r => rd n (.lp (.two 37 x y)) r
    else .ok x r
  | n + 1, .ls x, r =>
    if r.isT [43] = true then (rd n .p r.next).bind fun y r => rd n (.ls (.two 43 x y)) r
    else if r.isT [45] = true then (rd n .p r.next).bind fun y r => rd n (.ls (.two 45 x y)) r
    else .ok x r
structure Kept (r r' : Rd) : Prop where
  ok : r'.ok
  ts : r'.ts = r.ts
  vs : r'.vs = r.vs
  op : r'.op = r.op
  i : r.i ≤ r'.i
  ly : r'.ly = r.ly
  ms : r'.ms = r.ms
def Rs.fine (r : Rd) (d : Nat) : Rs → Prop
  | .ok _ r' => Kept r r' ∧ r.i + d ≤ r'.i
  | .bad _ _ r' => r'.ly = r.ly
def Rs.st : Rs → Rd
  | .ok _ r => r
  | .bad _ _ r => r
theorem fine_ly {r : Rd} {d : Nat} {b : Rs} (h : b.fine r d) : b.st.ly = r.ly := by
  cases b with
  | ok x r' => exact h.1.ly
  | bad e p r' => exact h
theorem Kept.refl {r : Rd} (h : r.ok) : Kept r r := ⟨h, rfl, rfl, rfl, Nat.le_refl _, rfl, rfl⟩
theorem Kept.trans {a b c : Rd} (h : Kept a b) (k : Kept b c) : Kept a c := ⟨k.ok, k.ts.trans h.ts, k.vs.trans h.vs, k.op.trans h.op, Nat.le_trans h.i k.i, k.ly.trans h.ly, k.ms.trans h.ms⟩
theorem Kept.next {r : Rd} (h : r.ok) : Kept r r.next := ⟨Rd.next_ok h, r.next_op.2.1, r.next_op.2.2, r.next_op.1, by unfold Rd.next; split <;> simp, (lys r).1, by unfold Rd.next; split <;> rfl⟩
theorem qv3 {r : Rd} {d : Nat} {b : Rs} {f : Nd → Rd → Rs} (h : b.fine r d) (g : ∀ x r', Kept r r' → r.i + d ≤ r'.i → (f x r').fine r' 0) : (b.bind f).fine r d := by
  cases b with
  | bad e p r' => exact h
  | ok x r' =>
    have q := g x r' h.1 h.2
    simp only [Rs.bind]
    have h2 := h.2
    cases hv : f x r' with
    | bad e p r2 => rw [hv] at q; exact Eq.trans q h.1.ly
    | ok y r2 => rw [hv] at q; exact ⟨h.1.trans q.1, by have := q.2; omega⟩
theorem fine_kept {r r' : Rd} {d d' : Nat} {b : Rs} (h : b.fine r' d') (k : Kept r r') (l : r.i + d ≤ r'.i + d') : b.fine r d := by
  cases b with
  | bad e p r2 => exact Eq.trans h k.ly
  | ok x r2 => exact ⟨k.trans h.1, by have := h.2; omega⟩
theorem qfj {r : Rd} (h : r.tok.kind ≠ 0) : r.next.i = r.i + 1 := by unfold Rd.next; rw [if_neg h]
theorem qca {r : Rd} {s} (h : r.isT s = true) : r.tok.kind ≠ 0 := by
  unfold Rd.isT at h
  have := of_decide_eq_true h
  omega
structure Reads (n : Nat) (ts : List Tok) : Prop where
  u : ∀ r : Rd, r.ok → r.ts = ts → 4 * (ts.length - r.i) + 1 ≤ n → callE T0 X0 qb0 [.ptr (.b 0) 0 0] r.heap = (rd n .u r).out ∧ (rd n .u r).fine r 1
  p : ∀ r : Rd, r.ok → r.ts = ts → 4 * (ts.length - r.i) + 2 ≤ n → callE T0 X0 qch [.ptr (.b 0) 0 0] r.heap = (rd n .p r).out ∧ (rd n .p r).fine r 1
  s : ∀ r : Rd, r.ok → r.ts = ts → 4 * (ts.length - r.i) + 3 ≤ n → callE T0 X0 qcg [.ptr (.b 0) 0 0] r.heap = (rd n .s r).out ∧ (rd n .s r).fine r 1
  lp : ∀ (r : Rd) (x : Nd), r.ok → r.ts = ts → 4 * (ts.length - r.i) + 1 ≤ n → codeX T0 X0 r.heap.length qcl (some (.nrm, ⟨[(0, .ptr (.b 0) 0 0), (3, .d x.d)], r.heap⟩)) = (rd n (.lp x) r).end ∧ (rd n (.lp x) r).fine r 0
  ls : ∀ (r : Rd) (x : Nd), r.ok → r.ts = ts → 4 * (ts.length - r.i) + 1 ≤ n → codeX T0 X0 r.heap.length qd4 (some (.nrm, ⟨[(0, .ptr (.b 0) 0 0), (3, .d x.d)], r.heap⟩)) = (rd n (.ls x) r).end ∧ (rd n (.ls x) r).fine r 0
theorem zgo {n : Nat} {ts : List Tok} (ih : Reads n ts) (r : Rd) (h : r.ok) (ht : r.ts = ts) (hn : 4 * (ts.length - r.i) + 2 ≤ n + 1) :
    callE T0 X0 qch [.ptr (.b 0) 0 0] r.heap = (rd (n + 1) .p r).out ∧ (rd (n + 1) .p r).fine r 1 := by
  obtain ⟨s1, f1⟩ := ih.u r h ht (by omega)
  rw [qab (af := qdo) rfl rfl rfl]
  unfold rd
  refine ⟨?_, qv3 f1 fun x r' k1 k2 => (ih.lp r' x k1.ok (k1.ts.trans ht) (by omega)).2⟩
  have e1 := fine_ly f1
  rcases hu : rd n .u r with ⟨x, r'⟩ | ⟨e, p, r'⟩
  case bad =>
    rw [hu] at s1 e1
    cases hly : r.ly
    all_goals
      simp only [Rd.heap, hly, e1, Rs.st, Rs.bind, Rs.out, qap] at s1 e1 ⊢
      simp -implicitDefEqProofs (disch := omega) [qdo, s1, e1]
  rw [hu] at s1 f1 e1
  obtain ⟨s2, f2⟩ := ih.lp r' x f1.1.ok (f1.1.ts.trans ht) (by have := f1.2; omega)
  have e2 := fine_ly f2
  simp only [Rs.bind]
  rcases hv : rd n (.lp x) r' with ⟨y, r2⟩ | ⟨e, p, r2⟩
  all_goals
    rw [hv] at s2 e2
    cases hly : r.ly
    all_goals
      rw [hly] at e1
      simp only [Rs.st] at e1 e2
      rw [e1] at e2
      simp only [Rd.heap, hly, e1, e2, Rs.end, Rs.out, qap, List.length_cons, List.length_nil, Nat.reduceAdd] at s1 s2 ⊢
      simp -implicitDefEqProofs (disch := omega) [qdo, s1, s2]
theorem zgn {n : Nat} {ts : List Tok} (ih : Reads n ts) (r : Rd) (h : r.ok) (ht : r.ts = ts) (hn : 4 * (ts.length - r.i) + 3 ≤ n + 1) :
    callE T0 X0 qcg [.ptr (.b 0) 0 0] r.heap = (rd (n + 1) .s r).out ∧ (rd (n + 1) .s r).fine r 1 := by
  obtain ⟨s1, f1⟩ := ih.p r h ht (by omega)
  rw [qab (af := qfn) rfl rfl rfl]
  unfold rd
  refine ⟨?_, qv3 f1 fun x r' k1 k2 => (ih.ls r' x k1.ok (k1.ts.trans ht) (by omega)).2⟩
  have e1 := fine_ly f1
  rcases hu : rd n .p r with ⟨x, r'⟩ | ⟨e, p, r'⟩
  case bad =>
    rw [hu] at s1 e1
    cases hly : r.ly
    all_goals
      simp only [Rd.heap, hly, e1, Rs.st, Rs.bind, Rs.out, qap] at s1 e1 ⊢
      simp -implicitDefEqProofs (disch := omega) [qfn, s1, e1]
  rw [hu] at s1 f1 e1
  obtain ⟨s2, f2⟩ := ih.ls r' x f1.1.ok (f1.1.ts.trans ht) (by have := f1.2; omega)
  have e2 := fine_ly f2
  simp only [Rs.bind]
  rcases hv : rd n (.ls x) r' with ⟨y, r2⟩ | ⟨e, p, r2⟩
  all_goals
    rw [hv] at s2 e2
    cases hly : r.ly
    all_goals
      rw [hly] at e1
      simp only [Rs.st] at e1 e2
      rw [e1] at e2
      simp only [Rd.heap, hly, e1, e2, Rs.end, Rs.out, qap, List.length_cons, List.length_nil, Nat.reduceAdd] at s1 s2 ⊢
      simp -implicitDefEqProofs (disch := omega) [qfn, s1, s2]
theorem zcy {n : Nat} {ts : List Tok} (ih : Reads n ts) (r : Rd) (x : Nd) (h : r.ok) (ht : r.ts = ts) (hn : 4 * (ts.length - r.i) + 1 ≤ n + 1) :
    codeX T0 X0 r.heap.length qcl (some (.nrm, ⟨[(0, .ptr (.b 0) 0 0), (3, .d x.d)], r.heap⟩)) = (rd (n + 1) (.lp x) r).end ∧ (rd (n + 1) (.lp x) r).fine r 0 := by
  have hi : r.i < ts.length := ht ▸ h.i
  have a0 := qa3 h [42] (by simp)
  have a1 := qa3 h [47] (by simp)
  have a2 := qa3 h [37] (by simp)
  rw [qac (l := qcl) rfl]
  unfold rd
  have go : r.tok.kind ≠ 0 → callE T0 X0 qb0 [.ptr (.b 0) 0 0] r.next.heap = (rd n .u r.next).out ∧ (rd n .u r.next).fine r 0 ∧ ∀ y r', rd n .u r.next = .ok y r' → ∀ op,
      codeX T0 X0 r'.heap.length qcl (some (.nrm, ⟨[(0, .ptr (.b 0) 0 0), (3, .d (Nd.d (.two op x y)))], r'.heap⟩)) = (rd n (.lp (.two op x y)) r').end ∧ (rd n (.lp (.two op x y)) r').fine r' 0 := by
    intro hk
    have hni := qfj hk
    have hno := r.next_op
    obtain ⟨s1, f1⟩ := ih.u r.next (Rd.next_ok h) (hno.2.1.trans ht) (by omega)
    refine ⟨s1, fine_kept f1 (Kept.next h) (by omega), fun y r' hb op => ?_⟩
    rw [hb] at f1
    exact ih.lp r' (.two op x y) f1.1.ok (f1.1.ts.trans (hno.2.1.trans ht)) (by have := f1.2; omega)
  by_cases c0 : r.isT [42] = true
  · rw [if_pos c0]
    rw [c0, if_pos rfl] at a0
    obtain ⟨s1, f1, g⟩ := go (qca c0)
    have e1 := fine_ly f1
    have hno := (lys r).1
    rcases hb : rd n .u r.next with ⟨y, r'⟩ | ⟨e, p, r'⟩
    all_goals rw [hb] at s1 e1 f1
    · obtain ⟨s2, f2⟩ := g y r' hb 42
      simp only [Rs.bind]
      refine ⟨?_, fine_kept f2 f1.1 (by have := f1.2; omega)⟩
      rw [← s2]
      cases hly : r.ly
      all_goals
        simp only [Rd.heap, hly, hno, e1, Rs.st, Rs.out, List.length_cons, List.length_nil, Nat.reduceAdd] at a0 s1 e1 ⊢
        simp -implicitDefEqProofs (disch := omega) [qbc, a0, s1, e1, Nd.d]
    · refine ⟨?_, f1⟩
      cases hly : r.ly
      all_goals
        simp only [Rd.heap, hly, hno, e1, Rs.st, Rs.bind, Rs.end, Rs.out, qap, List.length_cons, List.length_nil, Nat.reduceAdd] at a0 s1 e1 ⊢
        simp -implicitDefEqProofs (disch := omega) [qbc, a0, s1, e1]
  rw [if_neg c0]
  rw [show r.isT [42] = false by simpa using c0, if_neg (by simp)] at a0
  by_cases c1 : r.isT [47] = true
  · rw [if_pos c1]
    rw [c1, if_pos rfl] at a1
    obtain ⟨s1, f1, g⟩ := go (qca c1)
    have e1 := fine_ly f1
    have hno := (lys r).1
    rcases hb : rd n .u r.next with ⟨y, r'⟩ | ⟨e, p, r'⟩
    all_goals rw [hb] at s1 e1 f1
    · obtain ⟨s2, f2⟩ := g y r' hb 47
      simp only [Rs.bind]
      refine ⟨?_, fine_kept f2 f1.1 (by have := f1.2; omega)⟩
      rw [← s2]
      cases hly : r.ly
      all_goals
        simp only [Rd.heap, hly, hno, e1, Rs.st, Rs.out, List.length_cons, List.length_nil, Nat.reduceAdd] at a0 a1 s1 e1 ⊢
        simp -implicitDefEqProofs (disch := omega) [qbc, a0, a1, s1, e1, Nd.d]
    · refine ⟨?_, f1⟩
      cases hly : r.ly
      all_goals
        simp only [Rd.heap, hly, hno, e1, Rs.st, Rs.bind, Rs.end, Rs.out, qap, List.length_cons, List.length_nil, Nat.reduceAdd] at a0 a1 s1 e1 ⊢
        simp -implicitDefEqProofs (disch := omega) [qbc, a0, a1, s1, e1]
  rw [if_neg c1]
  rw [show r.isT [47] = false by simpa using c1, if_neg (by simp)] at a1
  by_cases c2 : r.isT [37] = true
  · rw [if_pos c2]
    rw [c2, if_pos rfl] at a2
    obtain ⟨s1, f1, g⟩ := go (qca c2)
    have e1 := fine_ly f1
    have hno := (lys r).1
    rcases hb : rd n .u r.next with ⟨y, r'⟩ | ⟨e, p, r'⟩
    all_goals rw [hb] at s1 e1 f1
    · obtain ⟨s2, f2⟩ := g y r' hb 37
      simp only [Rs.bind]
      refine ⟨?_, fine_kept f2 f1.1 (by have := f1.2; omega)⟩
      rw [← s2]
      cases hly : r.ly
      all_goals
        simp only [Rd.heap, hly, hno, e1, Rs.st, Rs.out, List.length_cons, List.length_nil, Nat.reduceAdd] at a0 a1 a2 s1 e1 ⊢
        simp -implicitDefEqProofs (disch := omega) [qbc, a0, a1, a2, s1, e1, Nd.d]
    · refine ⟨?_, f1⟩
      cases hly : r.ly
      all_goals
        simp only [Rd.heap, hly, hno, e1, Rs.st, Rs.bind, Rs.end, Rs.out, qap, List.length_cons, List.length_nil, Nat.reduceAdd] at a0 a1 a2 s1 e1 ⊢
        simp -implicitDefEqProofs (disch := omega) [qbc, a0, a1, a2, s1, e1]
  rw [if_neg c2]
  rw [show r.isT [37] = false by simpa using c2, if_neg (by simp)] at a2
  refine ⟨?_, Kept.refl h, Nat.le_refl _⟩
  cases hly : r.ly
  all_goals
    simp only [Rd.heap, hly, Rs.end, List.length_cons, List.length_nil, Nat.reduceAdd] at *
    simp -implicitDefEqProofs (disch := omega) [qbc, a0, a1, a2]
theorem zcx {n : Nat} {ts : List Tok} (ih : Reads n ts) (r : Rd) (x : Nd) (h : r.ok) (ht : r.ts = ts) (hn : 4 * (ts.length - r.i) + 1 ≤ n + 1) :
    codeX T0 X0 r.heap.length qd4 (some (.nrm, ⟨[(0, .ptr (.b 0) 0 0), (3, .d x.d)], r.heap⟩)) = (rd (n + 1) (.ls x) r).end ∧ (rd (n + 1) (.ls x) r).fine r 0 := by
  have hi : r.i < ts.length := ht ▸ h.i
  have a0 := qa3 h [43] (by simp)
  have a1 := qa3 h [45] (by simp)
  rw [qac (l := qd4) rfl]
  unfold rd
  have go : r.tok.kind ≠ 0 → callE T0 X0 qch [.ptr (.b 0) 0 0] r.next.heap = (rd n .p r.next).out ∧ (rd n .p r.next).fine r 0 ∧ ∀ y r', rd n .p r.next = .ok y r' → ∀ op,
      codeX T0 X0 r'.heap.length qd4 (some (.nrm, ⟨[(0, .ptr (.b 0) 0 0), (3, .d (Nd.d (.two op x y)))], r'.heap⟩)) = (rd n (.ls (.two op x y)) r').end ∧ (rd n (.ls (.two op x y)) r').fine r' 0 := by
    intro hk
    have hni := qfj hk
    have hno := r.next_op
    obtain ⟨s1, f1⟩ := ih.p r.next (Rd.next_ok h) (hno.2.1.trans ht) (by omega)
    refine ⟨s1, fine_kept f1 (Kept.next h) (by omega), fun y r' hb op => ?_⟩
    rw [hb] at f1
    exact ih.ls r' (.two op x y) f1.1.ok (f1.1.ts.trans (hno.2.1.trans ht)) (by have := f1.2; omega)
  by_cases c0 : r.isT [43] = true
  · rw [if_pos c0]
    rw [c0, if_pos rfl] at a0
    obtain ⟨s1, f1, g⟩ := go (qca c0)
    have e1 := fine_ly f1
    have hno := (lys r).1
    rcases hb : rd n .p r.next with ⟨y, r'⟩ | ⟨e, p, r'⟩
    all_goals rw [hb] at s1 e1 f1
    · obtain ⟨s2, f2⟩ := g y r' hb 43
      simp only [Rs.bind]
      refine ⟨?_, fine_kept f2 f1.1 (by have := f1.2; omega)⟩
      rw [← s2]
      cases hly : r.ly
      all_goals
        simp only [Rd.heap, hly, hno, e1, Rs.st, Rs.out, List.length_cons, List.length_nil, Nat.reduceAdd] at a0 s1 e1 ⊢
        simp -implicitDefEqProofs (disch := omega) [qc1, a0, s1, e1, Nd.d]
    · refine ⟨?_, f1⟩
      cases hly : r.ly
      all_goals
        simp only [Rd.heap, hly, hno, e1, Rs.st, Rs.bind, Rs.end, Rs.out, qap, List.length_cons, List.length_nil, Nat.reduceAdd] at a0 s1 e1 ⊢
        simp -implicitDefEqProofs (disch := omega) [qc1, a0, s1, e1]
  rw [if_neg c0]
  rw [show r.isT [43] = false by simpa using c0, if_neg (by simp)] at a0
  by_cases c1 : r.isT [45] = true
  · rw [if_pos c1]
    rw [c1, if_pos rfl] at a1
    obtain ⟨s1, f1, g⟩ := go (qca c1)
    have e1 := fine_ly f1
    have hno := (lys r).1
    rcases hb : rd n .p r.next with ⟨y, r'⟩ | ⟨e, p, r'⟩
    all_goals rw [hb] at s1 e1 f1
    · obtain ⟨s2, f2⟩ := g y r' hb 45
      simp only [Rs.bind]
      refine ⟨?_, fine_kept f2 f1.1 (by have := f1.2; omega)⟩
      rw [← s2]
      cases hly : r.ly
      all_goals
        simp only [Rd.heap, hly, hno, e1, Rs.st, Rs.out, List.length_cons, List.length_nil, Nat.reduceAdd] at a0 a1 s1 e1 ⊢
        simp -implicitDefEqProofs (disch := omega) [qc1, a0, a1, s1, e1, Nd.d]
    · refine ⟨?_, f1⟩
      cases hly : r.ly
      all_goals
        simp only [Rd.heap, hly, hno, e1, Rs.st, Rs.bind, Rs.end, Rs.out, qap, List.length_cons, List.length_nil, Nat.reduceAdd] at a0 a1 s1 e1 ⊢
        simp -implicitDefEqProofs (disch := omega) [qc1, a0, a1, s1, e1]
  rw [if_neg c1]
  rw [show r.isT [45] = false by simpa using c1, if_neg (by simp)] at a1
  refine ⟨?_, Kept.refl h, Nat.le_refl _⟩
  cases hly : r.ly
  all_goals
    simp only [Rd.heap, hly, Rs.end, List.length_cons, List.length_nil, Nat.reduceAdd] at *
    simp -implicitDefEqProofs (disch := omega) [qc1, a0, a1]
end Go.Rf

namespace Go.Rf
theorem qrh {r : Rd} (h : r.ok) : r.tok ∈ r.ts := by
  unfold Rd.tok
  have := h.i
  simp [this]
set_option maxHeartbeats 2000000 in
theorem zgm {n : Nat} {ts : List Tok} (hnum : ∀ t ∈ ts, t.kind = 2 → NumTx t.text) (ih : Reads n ts) (r : Rd) (h : r.ok) (ht : r.ts = ts) (hn : 4 * (ts.length - r.i) + 1 ≤ n + 1) :
    callE T0 X0 qb0 [.ptr (.b 0) 0 0] r.heap = (rd (n + 1) .u r).out ∧ (rd (n + 1) .u r).fine r 1 := by
  have hi : r.i < ts.length := ht ▸ h.i
  rw [qab (af := qa9) rfl rfl rfl]
  have s0 := qbi h
  have a1 := qa3 h [45] (by simp)
  have htx := qh0 h
  have hno := r.next_op
  have l1 := (lys r).1
  unfold rd
  by_cases c1 : r.isT [45] = true
  · rw [if_pos c1]
    rw [c1, if_pos rfl] at a1
    have hni := qfj (qca c1)
    obtain ⟨s1, f1⟩ := ih.u r.next (Rd.next_ok h) (hno.2.1.trans ht) (by omega)
    have e1 := fine_ly f1
    refine ⟨?_, qv3 (fine_kept f1 (Kept.next h) (by omega)) fun x r' k1 k2 => ⟨Kept.refl k1.ok, Nat.le_refl _⟩⟩
    rcases hb : rd n .u r.next with ⟨y, r'⟩ | ⟨e, p, r'⟩
    all_goals
      rw [hb] at s1 e1
      cases hly : r.ly
      all_goals
        simp only [Rd.heap, hly, l1, e1, Rs.st, Rs.bind, Rs.out, qap, Tok.cs] at s0 a1 s1 e1 ⊢
        simp -implicitDefEqProofs (disch := omega) [qa9, s0, a1, s1, e1, Nd.d]
  rw [if_neg c1]
  rw [show r.isT [45] = false by simpa using c1, if_neg (by simp)] at a1
  have s2 := qgr h
  by_cases c2 : r.tok.kind = 2
  · rw [if_pos c2]
    obtain ⟨e, s3⟩ := qus (hnum r.tok (ht ▸ qrh h) c2)
    have hni := qfj (r := r) (by omega)
    refine ⟨?_, Kept.next h, by omega⟩
    cases hly : r.ly
    all_goals
      simp only [Rd.heap, hly, l1, Rs.out, Tok.cs, Wd] at s0 a1 s2 s3 ⊢
      generalize r.tok = t at *
      simp -implicitDefEqProofs (disch := omega) [qa9, s0, a1, s2, s3, Nd.d, Wd]
  rw [if_neg c2]
  have s4 := qcf h
  by_cases c3 : r.isName = true
  · rw [if_pos c3]
    rw [c3] at s4
    have s5 := qud h r.tok.text htx
    have hk : r.tok.kind ≠ 0 := by
      unfold Rd.isName at c3
      simp at c3
      omega
    have hni := qfj hk
    by_cases c4 : 0 ≤ r.var r.tok.text
    · rw [if_pos c4]
      have s6 := qcr r 81
      refine ⟨?_, Kept.next h, by omega⟩
      cases hly : r.ly
      all_goals
        simp only [Rd.heap, hly, l1, Rs.out, Tok.cs] at s0 a1 s2 s4 s5 s6 ⊢
        generalize r.tok = t at *
        simp -implicitDefEqProofs (disch := omega) [qa9, s0, a1, s2, s4, s5, s6, Nd.d]
    · rw [if_neg c4]
      have s6 := qdb h 81
      refine ⟨?_, rfl⟩
      cases hly : r.ly
      all_goals
        simp only [Rd.heap, hly, l1, Rs.out, Tok.cs, qap] at s0 a1 s2 s4 s5 s6 ⊢
        generalize r.tok = t at *
        simp -implicitDefEqProofs (disch := omega) [qa9, s0, a1, s2, s4, s5, s6]
  rw [if_neg c3]
  rw [show r.isName = false by simpa using c3] at s4
  cases hin : r.into [40] with
  | some e =>
    have s5 := q2f h (by simp) hin
    refine ⟨?_, rfl⟩
    cases hly : r.ly
    all_goals
      simp only [Rd.heap, hly, Rs.out, Tok.cs, qap] at s0 a1 s4 s5 ⊢
      generalize r.tok = t at *
      simp -implicitDefEqProofs (disch := omega) [qa9, s0, a1, s4, s5]
  | none =>
    have s5 := q2g h (by simp) hin
    have hc : r.tok.kind = 3 ∧ r.op < 16 := by
      unfold Rd.into at hin
      split at hin
      · rename_i hk
        split at hin
        · rename_i ho; exact ⟨hk.1, ho⟩
        · cases hin
      · cases hin
    have hop := Rd.opened_ok h hc.2
    have hni : r.opened.next.i = r.i + 1 := qfj (r := r.opened) (by rw [show r.opened.tok = r.tok from rfl]; omega)
    have hno := r.opened.next_op
    have l2 : r.opened.next.ly = r.ly := (lys r.opened).1
    obtain ⟨s6, f6⟩ := ih.s r.opened.next (Rd.next_ok hop) (hno.2.1.trans ht) (by omega)
    have e6 := fine_ly f6
    simp only []
    rcases hb : rd n .s r.opened.next with ⟨x, r'⟩ | ⟨e, p, r'⟩
    all_goals rw [hb] at s6 e6 f6
    case bad =>
      refine ⟨?_, Eq.trans e6 l2⟩
      cases hly : r.ly
      all_goals
        simp only [Rd.heap, hly, l2, e6, Rs.st, Rs.bind, Rs.out, Tok.cs, qap] at s0 a1 s4 s5 s6 e6 ⊢
        generalize r.tok = t at *
        simp -implicitDefEqProofs (disch := omega) [qa9, s0, a1, s4, s5, s6, e6]
    obtain ⟨k1, k2⟩ := f6
    simp only [Rs.bind]
    have e7 : r'.ly = r.ly := e6.trans l2
    by_cases c5 : r'.isT [41] = true
    · rw [if_pos c5]
      have s7 := q5j k1.ok (by simp) c5
      have hni' := qfj (qca c5)
      have hno' := r'.next_op
      have hop' : r'.next.op = r.op + 1 := hno'.1.trans (k1.op.trans hno.1)
      have h16 := h.op
      have l3 : r'.next.closed.ly = r'.ly := (lys r'.next).2.2.trans (lys r').1
      refine ⟨?_, ⟨Rd.closed_ok (Rd.next_ok k1.ok) (by omega), hno'.2.1.trans (k1.ts.trans hno.2.1), hno'.2.2.trans (k1.vs.trans hno.2.2), by show r'.next.op - 1 = r.op; omega, ?_, l3.trans (e6.trans l2), ?_⟩, ?_⟩
      · cases hly : r.ly
        all_goals
          simp only [Rd.heap, hly, l2, l3, e7, Rs.out, Tok.cs] at s0 a1 s4 s5 s6 s7 ⊢
          generalize r.tok = t at *
          simp -implicitDefEqProofs (disch := omega) [qa9, s0, a1, s4, s5, s6, s7]
      · show r.i ≤ r'.next.i
        omega
      · exact (Kept.next k1.ok).ms.trans (k1.ms.trans (Kept.next hop).ms)
      · show r.i + 1 ≤ r'.next.i
        omega
    · rw [if_neg c5]
      have s7 := q1l k1.ok (by simp) (show r'.isT [41] = false by simpa using c5)
      refine ⟨?_, e6.trans l2⟩
      cases hly : r.ly
      all_goals
        simp only [Rd.heap, hly, l2, e7, Rs.out, Tok.cs, qap] at s0 a1 s4 s5 s6 s7 ⊢
        generalize r.tok = t at *
        generalize r'.tok = t' at *
        simp -implicitDefEqProofs (disch := omega) [qa9, s0, a1, s4, s5, s6, s7]
theorem reads {ts : List Tok} (hnum : ∀ t ∈ ts, t.kind = 2 → NumTx t.text) : ∀ n, Reads n ts
  | 0 => ⟨fun _ _ _ h => by omega, fun _ _ _ h => by omega, fun _ _ _ h => by omega, fun _ _ _ _ h => by omega, fun _ _ _ _ h => by omega⟩
  | n + 1 => ⟨fun r h ht hn => zgm hnum (reads hnum n) r h ht hn, fun r h ht hn => zgo (reads hnum n) r h ht hn, fun r h ht hn => zgn (reads hnum n) r h ht hn,
      fun r x h ht hn => zcy (reads hnum n) r x h ht hn, fun r x h ht hn => zcx (reads hnum n) r x h ht hn⟩
end Go.Rf

namespace Go.Rf
@[simp] theorem setPart_nd (x : Nd) : qd8 (.d .nili) 0 (.d x.d) = some (.d x.d) := by cases x <;> rfl
def Rd.heap3 (r : Rd) (c : D) : List Obj := [.arr [.agg [.d (.sl (LT r.ts)), .d (.int .i64 r.i), .d (r.ly.getD .nils), .d (.int .i64 r.op), .map (.b 2)]] ⟨5, 0⟩, .arr [.d c] ⟨1, 0⟩, .map (ME r.ms)]
def Rd.fuel (r : Rd) : Nat := 4 * (r.ts.length - r.i) + 3
def rx1R : Rs → Option CRes
  | .ok x r => some (.ret [] (r.heap3 x.d))
  | .bad e p r => some (.pan (.d (qap e p)) (r.heap3 .nili))
theorem zcp {r : Rd} {x : D} (h : r.ok) (hx : r.ly = some x) (hnum : ∀ t ∈ r.ts, t.kind = 2 → NumTx t.text) : callE T0 X0 qfm [.ptr (.b 0) 0 0, .ptr (.b 1) 0 0] (r.heap3 .nili) = rx1R (rd r.fuel .s r) := by
  rw [qab (af := qhc) rfl rfl rfl]
  obtain ⟨s1, f1⟩ := (reads hnum r.fuel).s r h rfl (Nat.le_refl _)
  have e1 := (fine_ly f1).trans hx
  rcases hb : rd r.fuel .s r with ⟨y, r'⟩ | ⟨e, p, r'⟩
  all_goals
    rw [hb] at s1 e1
    simp only [Rs.st] at e1
    simp only [Rs.out, rx1R, Rd.heap, Rd.heap3, qap, hx, e1, Option.getD_some] at *
    simp -implicitDefEqProofs (disch := omega) [qhc, s1]
end Go.Rf

namespace Go.Rf
inductive Rz (α : Type) where
  | ok (x : α) (r : Rd)
  | bad (e : Int) (p : Pl) (r : Rd)
def Rz.st {α : Type} : Rz α → Rd
  | .ok _ r => r
  | .bad _ _ r => r
def Rz.out {α : Type} (d : α → List V) : Rz α → Option CRes
  | .ok x r => some (.ret (d x) r.heap)
  | .bad e p r => some (.pan (.d (qap e p)) r.heap)
def Rz.bind {α β : Type} : Rz α → (α → Rd → Rz β) → Rz β
  | .ok x r, f => f x r
  | .bad e p r, _ => .bad e p r
def Rs.z : Rs → Rz Nd
  | .ok x r => .ok x r
  | .bad e p r => .bad e p r
def Rd.sum (r : Rd) : Rz Nd := (rd r.fuel .s r).z
def Rz.fine {α : Type} (r : Rd) (d : Nat) : Rz α → Prop
  | .ok _ r' => Kept r r' ∧ r.i + d ≤ r'.i
  | .bad _ _ r' => r'.ly = r.ly
theorem Rz.fine_ly {α : Type} {r : Rd} {d : Nat} {b : Rz α} (h : b.fine r d) : b.st.ly = r.ly := by
  cases b with
  | ok x r' => exact h.1.ly
  | bad e p r' => exact h
theorem Rz.fine_kept {α : Type} {r r' : Rd} {d d' : Nat} {b : Rz α} (h : b.fine r' d') (k : Kept r r') (l : r.i + d ≤ r'.i + d') : b.fine r d := by
  cases b with
  | bad e p r2 => exact Eq.trans h k.ly
  | ok x r2 => exact ⟨k.trans h.1, by have := h.2; omega⟩
theorem qu5 {r : Rd} (h : r.ok) (hnum : ∀ t ∈ r.ts, t.kind = 2 → NumTx t.text) : callE T0 X0 qcg [.ptr (.b 0) 0 0] r.heap = r.sum.out (fun x => [.d x.d]) ∧ r.sum.fine r 1 := by
  have := (reads hnum r.fuel).s r h rfl (Nat.le_refl _)
  unfold Rd.sum
  cases hb : rd r.fuel .s r <;> rw [hb] at this <;> exact this
def Rd.cond (r : Rd) : Rz (Nd × Nd × Bool) := r.sum.bind fun x r1 =>
  if r1.isT [61] = true then r1.next.sum.bind fun y r3 => .ok (x, y, true) r3
  else if r1.isT [33, 61] = true then r1.next.sum.bind fun y r3 => .ok (x, y, false) r3
  else .bad 80 r1.tok.pos r1
def cD (x y : Nd) (b : Bool) : D := .agg [x.d, y.d, .bool b]
def cDs (c : Nd × Nd × Bool) : List V := [.d (cD c.1 c.2.1 c.2.2)]
theorem za1 {r : Rd} (h : r.ok) (hnum : ∀ t ∈ r.ts, t.kind = 2 → NumTx t.text) : callE T0 X0 qdt [.ptr (.b 0) 0 0] r.heap = r.cond.out cDs ∧ r.cond.fine r 1 := by
  obtain ⟨s1, f1⟩ := qu5 h hnum
  have e1 := Rz.fine_ly f1
  rw [qab (af := qcw) rfl rfl rfl]
  unfold Rd.cond
  rcases hb : r.sum with ⟨x, r1⟩ | ⟨e, p, r1⟩
  all_goals
    rw [hb] at s1 f1 e1
    have e1 : r1.ly = r.ly := e1
  case bad =>
    refine ⟨?_, f1⟩
    cases hly : r.ly
    all_goals
      simp only [Rd.heap, hly, e1, Rz.bind, Rz.out, qap] at s1 ⊢
      simp -implicitDefEqProofs (disch := omega) [qcw, s1]
  obtain ⟨k1, k2⟩ := f1
  have a1 := qa3 k1.ok [61] (by simp)
  have l1 : r1.next.ly = r.ly := (lys r1).1.trans e1
  have kn := k1.trans (Kept.next k1.ok)
  obtain ⟨s2, f2⟩ := qu5 kn.ok (by rw [kn.ts]; exact hnum)
  have f3 : ∀ b : Bool, (r1.next.sum.bind fun y r3 => .ok (x, y, b) r3 : Rz (Nd × Nd × Bool)).fine r 1 := fun b => by
    have f4 := Rz.fine_kept f2 kn (d := 1) (by have := (Kept.next k1.ok).i; omega)
    rcases hq : r1.next.sum with ⟨z, r3⟩ | ⟨e, p, r3⟩ <;> rw [hq] at f4 <;> exact f4
  have e2 : r1.next.sum.st.ly = r.ly := (Rz.fine_ly f2).trans l1
  simp only [Rz.bind]
  by_cases c1 : r1.isT [61] = true
  · rw [if_pos c1]
    rw [c1, if_pos rfl] at a1
    refine ⟨?_, f3 true⟩
    rcases hb2 : r1.next.sum with ⟨y, r3⟩ | ⟨e, p, r3⟩
    all_goals
      rw [hb2] at s2 e2
      have e2 : r3.ly = r.ly := e2
      cases hly : r.ly
      all_goals
        simp only [Rd.heap, hly, l1, e1, e2, Rz.out, cDs, cD, qap] at a1 s1 s2 ⊢
        simp -implicitDefEqProofs (disch := omega) [qcw, s1, a1, s2]
  rw [if_neg c1]
  rw [show r1.isT [61] = false by simpa using c1, if_neg (by simp)] at a1
  by_cases c2 : r1.isT [33, 61] = true
  · rw [if_pos c2]
    have a2 := qhm k1.ok (by simp) c2
    refine ⟨?_, f3 false⟩
    rcases hb2 : r1.next.sum with ⟨y, r3⟩ | ⟨e, p, r3⟩
    all_goals
      rw [hb2] at s2 e2
      have e2 : r3.ly = r.ly := e2
      cases hly : r.ly
      all_goals
        simp only [Rd.heap, hly, l1, e1, e2, Rz.out, cDs, cD, qap] at a1 a2 s1 s2 ⊢
        simp -implicitDefEqProofs (disch := omega) [qcw, s1, a1, a2, s2]
  rw [if_neg c2]
  have a2 := qgc k1.ok (s := [33, 61]) (by simp) (by simpa using c2)
  refine ⟨?_, e1⟩
  cases hly : r.ly
  all_goals
    simp only [Rd.heap, hly, l1, e1, Rz.out, qap] at a1 a2 s1 ⊢
    simp -implicitDefEqProofs (disch := omega) [qcw, s1, a1, a2]
end Go.Rf

namespace Go.Rf
def degF (s : List UInt8) : Nat → Nat → Bool
  | 0, _ => false
  | f + 1, i => if i < s.length then (if (dec s i).1 = 176 then true else degF s f (i + (dec s i).2)) else false
def qov (s : List UInt8) : Bool := !degF s (s.length + 1) 0 && decide (rc s < 16)
theorem q4c (s : List UInt8) (hs : s.length ≤ 1100000) : ∀ f i (e : List (Nat × V)), s.length - i < f → i ≤ s.length →
    codeX T0 X0 0 ql8 (some (.nrm, ⟨(0, .d (.str s)) :: (6, .iter (.b 0)) :: e, [.iter s i]⟩)) = if degF s f i = true then some (.ret, ⟨[(2, .d (.bool false))], []⟩) else some (.exit 0, ⟨[(0, .d (.str s))], []⟩) := by
  intro f
  induction f with
  | zero => intro i e h; omega
  | succ f ih =>
    intro i e hf hi
    rw [qac (l := ql8) rfl]
    unfold degF
    by_cases h0 : i < s.length
    · have d1 := qwc h0
      rw [if_pos h0]
      by_cases h1 : (dec s i).1 = 176
      · rw [if_pos h1, if_pos rfl]
        simp -implicitDefEqProofs (disch := omega) [qjc, h1]
      · rw [if_neg h1, ← ih _ [(11, .d (.bool false))] (by omega) (by omega)]
        simp -implicitDefEqProofs (disch := omega) [qjc]
    · rw [if_neg h0, if_neg (by simp)]
      simp -implicitDefEqProofs (disch := omega) [qjc]
theorem qq1 (s : List UInt8) (hs : s.length ≤ 1100000) : callE T0 X0 qpg [.d (.str s)] [] = some (.ret [.d (.bool (qov s))] []) := by
  rw [qab (af := qkp) rfl rfl rfl]
  have s1 := q4c s hs (s.length + 1) 0 [] (by omega) (by omega)
  have s2 := q9k hs
  unfold qov
  by_cases h : degF s (s.length + 1) 0 = true
  · rw [if_pos h] at s1
    rw [h]
    simp -implicitDefEqProofs (disch := omega) [qkp, s1]
  · rw [if_neg h] at s1
    rw [show degF s (s.length + 1) 0 = false by simpa using h]
    simp -implicitDefEqProofs (disch := omega) [qkp, s1, s2]
    omega
end Go.Rf
