/- Parts of the proof: SpG5, SpG6, SpG7, SpG8, SpN, SpW, SpR1, SpR2, SpR3, SpR4, SpR5. -/
import Derived.Test.YtdgfohkljpjdpaaGreatDoorSp3

/- glyph: the scanner's loops. -/
namespace Go.Rf

/-- A comment, up to the line's end. -/
def lineF : Nat → Sc → Sc
  | 0, s => s
  | f + 1, s => if 0 ≤ s.next.1 ∧ s.next.1 ≠ 10 then lineF f s.pass else s.next.2
theorem lineF_ok : ∀ f {s : Sc}, s.ok → (lineF f s).ok ∧ (lineF f s).rest.length ≤ s.rest.length
  | 0, s, h => ⟨h, Nat.le_refl _⟩
  | f + 1, s, h => by
    unfold lineF
    split
    · rename_i hc
      have hr := (s.next_same hc.1).2
      have hp := Sc.pass_len hr
      have := lineF_ok f (Sc.pass_ok h hr)
      exact ⟨this.1, by omega⟩
    · exact ⟨Sc.next_ok h, by rw [s.next_rest.1]; exact Nat.le_refl _⟩
theorem line_loop : ∀ f {s : Sc}, s.ok → s.rest.length < f →
    codeX T0 X0 1 a_glyph_scanner_blanks_l0 (some (.nrm, ⟨[(0, .ptr (.b 0) 0 0), (2, .d (.int .i64 s.next.1))], [s.next.2.obj]⟩)) = some (.exit 3, ⟨[(0, .ptr (.b 0) 0 0)], [(lineF f s).obj]⟩) := by
  intro f
  induction f with
  | zero => intro s _ h; omega
  | succ f ih =>
    intro s h hf
    rw [codeX_loop (l := a_glyph_scanner_blanks_l0) rfl]
    have hl := s.next_le
    unfold lineF
    by_cases hc : 0 ≤ s.next.1 ∧ s.next.1 ≠ 10
    · rw [if_pos hc]
      obtain ⟨e, hr⟩ := s.next_same hc.1
      have hp := Sc.pass_len hr
      have s1 := pass_spec h hr
      have s2 := next_spec (Sc.pass_ok h hr)
      have s3 := ih (s := s.pass) (Sc.pass_ok h hr) (by omega)
      rw [e]
      simp only [Sc.obj, Sc.cs] at s1 s2 s3 ⊢
      simp -implicitDefEqProofs (disch := omega) [a_glyph_scanner_blanks_b0, s1, s2, s3]
      done
    · rw [if_neg hc]
      simp only [Sc.obj, Sc.cs]
      by_cases h0 : s.next.1 < 0
      · simp -implicitDefEqProofs (disch := omega) [a_glyph_scanner_blanks_b0]
      · simp -implicitDefEqProofs (disch := omega) [a_glyph_scanner_blanks_b0]
        done

/-- Blanks and comments. -/
def blanksF : Nat → Sc → Sc
  | 0, s => s
  | f + 1, s => if s.cls.1 = 1 then blanksF f s.pass else if s.cls.1 = 6 then blanksF f (lineF (s.rest.length + 1) s) else s.cls.2
theorem lineF_lt {s : Sc} (h : s.ok) (hc : s.cls.1 = 6) : (lineF (s.rest.length + 1) s).rest.length < s.rest.length := by
  unfold Sc.cls at hc
  have h0 : ¬ s.next.1 < 0 := by intro h0; rw [if_pos h0] at hc; exact absurd hc (by simp)
  rw [if_neg h0] at hc
  simp only [] at hc
  have h10 : s.next.1 ≠ 10 := by
    intro e
    rw [e] at hc
    exact absurd hc (by decide)
  obtain ⟨_, hr⟩ := s.next_same (by omega)
  unfold lineF
  rw [if_pos ⟨by omega, h10⟩]
  have := (lineF_ok s.rest.length (Sc.pass_ok h hr)).2
  have := Sc.pass_len hr
  omega
theorem blanksF_ok : ∀ f {s : Sc}, s.ok → (blanksF f s).ok ∧ (blanksF f s).rest.length ≤ s.rest.length
  | 0, s, h => ⟨h, Nat.le_refl _⟩
  | f + 1, s, h => by
    unfold blanksF
    split
    · rename_i hc
      have hr := (s.cls_same (by omega)).2
      have hp := Sc.pass_len hr
      have := blanksF_ok f (Sc.pass_ok h hr)
      exact ⟨this.1, by omega⟩
    · split
      · rename_i hc
        have h1 := lineF_ok (s.rest.length + 1) h
        have h2 := blanksF_ok f h1.1
        exact ⟨h2.1, by omega⟩
      · exact ⟨Sc.cls_ok h, by rw [s.cls_rest.1]; exact Nat.le_refl _⟩
theorem blanks_loop : ∀ f {s : Sc}, s.ok → s.rest.length < f →
    codeX T0 X0 1 a_glyph_scanner_blanks_l1 (some (.nrm, ⟨[(0, .ptr (.b 0) 0 0)], [s.obj]⟩)) = some (.ret, ⟨[(0, .ptr (.b 0) 0 0), (9, .d (.bool false))], [(blanksF f s).obj]⟩) := by
  intro f
  induction f with
  | zero => intro s _ h; omega
  | succ f ih =>
    intro s h hf
    rw [codeX_loop (l := a_glyph_scanner_blanks_l1) rfl]
    have hl := s.cls_le
    have s0 := class_spec h
    unfold blanksF
    by_cases hc : s.cls.1 = 1
    · rw [if_pos hc]
      obtain ⟨e, hr⟩ := s.cls_same (by omega)
      have hp := Sc.pass_len hr
      have s1 := pass_spec h hr
      have s3 := ih (s := s.pass) (Sc.pass_ok h hr) (by omega)
      rw [e] at s0
      simp only [Sc.obj, Sc.cs] at s0 s1 s3 ⊢
      simp -implicitDefEqProofs (disch := omega) [a_glyph_scanner_blanks_b1, s0, s1, s3]
      done
    · rw [if_neg hc]
      by_cases hc : s.cls.1 = 6
      · rw [if_pos hc]
        obtain ⟨e, hr⟩ := s.cls_same (by omega)
        have hp := lineF_lt h hc
        have s1 := next_spec h
        have s2 := line_loop (s.rest.length + 1) h (by omega)
        have s3 := ih (lineF_ok (s.rest.length + 1) h).1 (by omega)
        rw [e] at s0
        simp only [Sc.obj, Sc.cs] at s0 s1 s2 s3 ⊢
        simp -implicitDefEqProofs (disch := omega) [a_glyph_scanner_blanks_b1, s0, s1, s2, s3]
        done
      · rw [if_neg hc]
        simp only [Sc.obj, Sc.cs] at s0 ⊢
        simp -implicitDefEqProofs (disch := omega) [a_glyph_scanner_blanks_b1, s0]
        done
def Sc.blanks (s : Sc) : Sc := blanksF (s.rest.length + 1) s
theorem blanks_spec {s : Sc} (h : s.ok) : callE T0 X0 f_glyph_scanner_blanks [.ptr (.b 0) 0 0] [s.obj] = some (.ret [] [s.blanks.obj]) := by
  rw [callX_fun (af := a_glyph_scanner_blanks) rfl rfl rfl]
  have s1 := blanks_loop (s.rest.length + 1) h (by omega)
  simp only [Sc.obj, Sc.cs, Sc.blanks] at s1 ⊢
  simp -implicitDefEqProofs (disch := omega) [a_glyph_scanner_blanks, s1]

/-! ### What a class of glyphs is told by -/
def inName (c : Int) : Bool := c == 2 || c == 3 || c == 4
def inNumber (c : Int) : Bool := c == 3
theorem token_1_spec (c : Int) : callE T0 X0 f_glyph_scanner_token_1 [.d (.int .i64 c)] [] = some (.ret [.d (.bool (inName c))] []) := by
  rw [callX_fun (af := a_glyph_scanner_token_1) rfl rfl rfl]
  by_cases h : c = 2 ∨ c = 3 ∨ c = 4
  · rcases h with rfl | rfl | rfl <;> simp -implicitDefEqProofs (disch := omega) [a_glyph_scanner_token_1, inName]
  · simp -implicitDefEqProofs (disch := omega) [a_glyph_scanner_token_1, inName]
theorem token_2_spec (c : Int) : callE T0 X0 f_glyph_scanner_token_2 [.d (.int .i64 c)] [] = some (.ret [.d (.bool (inNumber c))] []) := by
  rw [callX_fun (af := a_glyph_scanner_token_2) rfl rfl rfl]
  simp -implicitDefEqProofs (disch := omega) [a_glyph_scanner_token_2, inNumber]

def whileF (p : Int → Bool) : Nat → Sc → Sc
  | 0, s => s
  | f + 1, s => if 0 ≤ s.cls.1 ∧ p s.cls.1 = true then whileF p f s.pass else s.cls.2
theorem whileF_ok (p : Int → Bool) : ∀ f {s : Sc}, s.ok → (whileF p f s).ok ∧ (whileF p f s).rest.length ≤ s.rest.length
  | 0, s, h => ⟨h, Nat.le_refl _⟩
  | f + 1, s, h => by
    unfold whileF
    split
    · rename_i hc
      have hr := (s.cls_same (by omega)).2
      have hp := Sc.pass_len hr
      have := whileF_ok p f (Sc.pass_ok h hr)
      exact ⟨this.1, by omega⟩
    · exact ⟨Sc.cls_ok h, by rw [s.cls_rest.1]; exact Nat.le_refl _⟩
section
variable {p : Int → Bool} {g : FuncId} (hg : ∀ c, callE T0 X0 g [.d (.int .i64 c)] [] = some (.ret [.d (.bool (p c))] []))
include hg
theorem while_loop (from_ : List UInt8) (hf : from_.length ≤ 4096) : ∀ f {s : Sc}, s.ok → s.rest.length < f →
    codeX T0 X0 1 a_glyph_scanner_while_l0 (some (.nrm, ⟨[(0, .ptr (.b 0) 0 0), (1, .d (.fn g [])), (5, .d (.str from_)), (6, .d (.int .i64 s.cls.1))], [s.cls.2.obj]⟩)) = some (.exit 0, ⟨[(0, .ptr (.b 0) 0 0), (5, .d (.str from_))], [(whileF p f s).obj]⟩) := by
  intro f
  induction f with
  | zero => intro s _ h; omega
  | succ f ih =>
    intro s h hf
    rw [codeX_loop (l := a_glyph_scanner_while_l0) rfl]
    have hl := s.cls_le
    unfold whileF
    by_cases h0 : 0 ≤ s.cls.1
    · obtain ⟨e, hr⟩ := s.cls_same h0
      have hg1 := hg s.cls.1
      cases hp : p s.cls.1
      · rw [if_neg (by simp)]
        rw [hp] at hg1
        simp only [Sc.obj, Sc.cs]
        simp -implicitDefEqProofs (disch := omega) [a_glyph_scanner_while_b0, hg1]
        done
      · rw [if_pos ⟨h0, rfl⟩]
        rw [hp] at hg1
        have hp := Sc.pass_len hr
        have s1 := pass_spec h hr
        have s2 := class_spec (Sc.pass_ok h hr)
        have s3 := ih (s := s.pass) (Sc.pass_ok h hr) (by omega)
        rw [e]
        simp only [Sc.obj, Sc.cs] at s1 s2 s3 ⊢
        simp -implicitDefEqProofs (disch := omega) [a_glyph_scanner_while_b0, hg1, s1, s2, s3]
        done
    · rw [if_neg (fun x => h0 x.1)]
      simp only [Sc.obj, Sc.cs]
      simp -implicitDefEqProofs (disch := omega) [a_glyph_scanner_while_b0]
      done
theorem while_spec {s : Sc} (h : s.ok) : callE T0 X0 f_glyph_scanner_while [.ptr (.b 0) 0 0, .d (.fn g [])] [s.obj] =
    some (.ret [.d (.str (s.rest.take (s.rest.length - (whileF p (s.rest.length + 1) s).rest.length)))] [(whileF p (s.rest.length + 1) s).obj]) := by
  rw [callX_fun (af := a_glyph_scanner_while) rfl rfl rfl]
  have h1 := h.1
  have s1 := while_loop hg s.rest h.1 (s.rest.length + 1) h (by omega)
  have s2 := class_spec h
  have hw := (whileF_ok p (s.rest.length + 1) h).2
  have hr := s.cls_rest.1
  simp only [Sc.obj, Sc.cs] at s1 s2 ⊢
  simp -implicitDefEqProofs (disch := omega) [a_glyph_scanner_while, s1, s2]
end
end Go.Rf

/- glyph: tokens. -/
namespace Go.Rf

/-- How many glyphs a text has. -/
def rcF (s : List UInt8) : Nat → Nat → Nat → Nat
  | 0, _, k => k
  | f + 1, i, k => if i < s.length then rcF s f (i + (dec s i).2) (k + 1) else k
theorem rc_loop (s : List UInt8) (hs : s.length ≤ 1100000) : ∀ f i (k : Nat), s.length - i < f → i ≤ s.length → k ≤ i →
    codeX T0 X0 0 a_utf8_RuneCountInString_l0 (some (.nrm, ⟨[(2, .d (.int .i64 k)), (4, .iter (.b 0))], [.iter s i]⟩)) = some (.exit 0, ⟨[(2, .d (.int .i64 (rcF s f i k)))], []⟩) := by
  intro f
  induction f with
  | zero => intros; omega
  | succ f ih =>
    intro i k hf hi hk
    rw [codeX_loop (l := a_utf8_RuneCountInString_l0) rfl]
    unfold rcF
    by_cases h : i < s.length
    · rw [if_pos h]
      obtain ⟨d1, d2, _⟩ := dec_okp h
      rw [← ih (i + (dec s i).2) (k + 1) (by omega) (by omega) (by omega)]
      simp -implicitDefEqProofs (disch := omega) [a_utf8_RuneCountInString_b0]
    · rw [if_neg h]
      simp -implicitDefEqProofs (disch := omega) [a_utf8_RuneCountInString_b0]
def rc (s : List UInt8) : Nat := rcF s (s.length + 1) 0 0
theorem rc_spec {s : List UInt8} (hs : s.length ≤ 1100000) : callE T0 X0 f_utf8_RuneCountInString [.d (.str s)] [] = some (.ret [.d (.int .i64 (rc s))] []) := by
  rw [callX_fun (af := a_utf8_RuneCountInString) rfl rfl rfl]
  have s1 := rc_loop s hs (s.length + 1) 0 0 (by omega) (by omega) (by omega)
  simp only [Int.cast_ofNat_Int] at s1
  simp -implicitDefEqProofs (disch := omega) [a_utf8_RuneCountInString, s1, rc]
def enc (r : Int) : List UInt8 := (Utf8.encode r).data.toList
theorem enc_def (r : Int) : (Utf8.encode r).data.toList = enc r := rfl
theorem enc_size (r : Int) : (Utf8.encode r).size = (enc r).length := by
  rw [← enc_def, Array.length_toList]
  rfl
theorem enc_le (r : Int) : (enc r).length ≤ 4 := by
  rw [← enc_size]
  unfold Utf8.encode
  extract_lets c b
  split
  · exact show 1 ≤ 4 by omega
  · split
    · exact show 2 ≤ 4 by omega
    · split
      · exact show 3 ≤ 4 by omega
      · exact show 4 ≤ 4 by omega
def Sc.sign (s : Sc) : List UInt8 × Sc :=
  if s.next.1 = 8788 then ([58, 61], s.pass) else if s.next.1 = 8800 then ([33, 61], s.pass) else
  if s.next.1 = 58 ∨ s.next.1 = 33 then (if s.pass.next.1 ≠ 61 then ([], s.pass.next.2.early 41 s.pos) else (enc s.next.1 ++ [61], s.pass.pass)) else (enc (fold s.next.1), s.pass)
theorem sign_next {s : Sc} (h : s.cls.1 = 5) : 0 ≤ s.next.1 := by
  unfold Sc.cls at h
  by_cases h0 : s.next.1 < 0
  · rw [if_pos h0] at h; exact absurd h (by simp)
  · omega
theorem sign_sc_spec {s : Sc} (h : s.ok) (hn : 0 ≤ s.next.1) : callE T0 X0 f_glyph_scanner_sign [.ptr (.b 0) 0 0] [s.obj] = some (.ret [.d (.str s.sign.1)] [s.sign.2.obj]) := by
  rw [callX_fun (af := a_glyph_scanner_sign) rfl rfl rfl]
  have h1 := s.next_le
  obtain ⟨e, hr⟩ := s.next_same hn
  have s0 := next_spec h
  rw [e] at s0
  have s1 := pass_spec h hr
  unfold Sc.sign
  have hf : -1 ≤ fold s.next.1 ∧ fold s.next.1 ≤ 1114111 := by unfold fold; (repeat' split) <;> omega
  by_cases h2 : s.next.1 = 8788
  · rw [if_pos h2]
    simp only [Sc.obj, Sc.cs] at s0 s1 ⊢
    simp -implicitDefEqProofs (disch := omega) [a_glyph_scanner_sign, s0, s1]
    done
  rw [if_neg h2]
  by_cases h3 : s.next.1 = 8800
  · rw [if_pos h3]
    simp only [Sc.obj, Sc.cs] at s0 s1 ⊢
    simp -implicitDefEqProofs (disch := omega) [a_glyph_scanner_sign, s0, s1]
    done
  rw [if_neg h3]
  by_cases h4 : s.next.1 = 58 ∨ s.next.1 = 33
  · rw [if_pos h4]
    have hp := Sc.pass_ok h hr
    have s2 := next_spec hp
    by_cases h5 : s.pass.next.1 ≠ 61
    · rw [if_pos h5]
      have s3 := early_spec s.pass.next.2 41 s.pos
      simp only [Sc.obj, Sc.cs, Pl.cs] at s0 s1 s2 s3 ⊢
      rcases h4 with h4 | h4 <;> simp -implicitDefEqProofs (disch := omega) [a_glyph_scanner_sign, s0, s1, s2, s3]
      done
    · rw [if_neg h5]
      have h5 : s.pass.next.1 = 61 := by omega
      obtain ⟨e2, hr2⟩ := s.pass.next_same (by omega)
      rw [e2] at s2
      have s3 := pass_spec hp hr2
      simp only [Sc.obj, Sc.cs, Pl.cs] at s0 s1 s2 s3 ⊢
      have he := enc_le s.next.1
      rcases h4 with h4 | h4 <;> simp -implicitDefEqProofs (disch := omega) [a_glyph_scanner_sign, s0, s1, s2, s3, enc_def, enc_size]
      done
  · rw [if_neg h4]
    simp only [Sc.obj, Sc.cs, Pl.cs] at s0 s1 ⊢
    have s3 := fold_spec s.next.1
    simp -implicitDefEqProofs (disch := omega) [a_glyph_scanner_sign, s0, s1, s3, enc_def]
    done
end Go.Rf

/- glyph: a token. -/
namespace Go.Rf

theorem decV_lt (s : List UInt8) : ∀ f i v w, 0 ≤ v → decV s f i v = some w → w < (v + 1) * 10 ^ f
  | 0, _, v, w, _, e => by cases e; omega
  | f + 1, i, v, w, h, e => by
    have hp : (0 : Int) < 10 ^ f := Int.pow_pos (by decide)
    unfold decV at e
    split at e
    · split at e
      · cases e
      · rename_i hd
        have := decV_lt s f _ _ _ (by omega) e
        refine Int.lt_of_lt_of_le this ?_
        rw [Int.pow_succ, Int.mul_comm _ 10, ← Int.mul_assoc]
        exact Int.mul_le_mul_of_nonneg_right (by omega) (by omega)
    · cases e
      have h1 : (v + 1) * 1 ≤ (v + 1) * 10 ^ (f + 1) := Int.mul_le_mul_of_nonneg_left (by have := Int.pow_pos (n := 10) (m := f + 1) (by decide); omega) (by omega)
      omega
theorem p10_le {a b : Nat} (h : a ≤ b) : (10 : Int) ^ a ≤ 10 ^ b := by
  have := Nat.pow_le_pow_right (n := 10) (by decide) h
  exact_mod_cast this
theorem tens_pow : ∀ f, tens f = 10 ^ (9 * f)
  | 0 => rfl
  | f + 1 => by
    rw [tens, tens_pow f, Nat.mul_add, Int.pow_add]
    have : (10 : Int) ^ (9 * 1) = 1000000000 := by decide
    rw [this, Int.mul_comm]
/-- What a run of digits tells. -/
def numV (s : List UInt8) : Int := (parseV s).getD 0
theorem numV_ok {s : List UInt8} (hs : s.length ≤ 4096) : 0 ≤ numV s ∧ numV s < tens 456 := by
  unfold numV
  have ht := (tens_pw 456).1
  cases h : parseV s with
  | none => exact ⟨Int.le_refl _, ht⟩
  | some v =>
    show 0 ≤ v ∧ v < tens 456
    unfold parseV at h
    split at h
    · cases h
    · have h1 := decV_lt s _ _ _ _ (by omega) h
      have h2 := decV_nonneg s _ _ _ _ (by omega) h
      refine ⟨h2, Int.lt_of_lt_of_le h1 ?_⟩
      rw [tens_pow, Int.zero_add, Int.one_mul]
      exact p10_le (show s.length + 1 ≤ 9 * 456 by omega)
theorem parse_spec' {s : List UInt8} (hs : s.length ≤ 4096) : ∃ e, callE T0 X0 f_limbs_Parse [.d (.str s)] [] = some (.ret [.d (.sl (L (limbs (numV s)))), .d (.int .i64 e)] []) := by
  have := parse_spec (s := s) (by omega)
  unfold numV
  cases h : parseV s with
  | none => rw [h] at this; exact ⟨10, this⟩
  | some v => rw [h] at this; exact ⟨0, this⟩

structure Tok where
  kind : Int
  text : List UInt8
  pos : Pl
def Tok.cs (t : Tok) : List D := [.int .i64 t.kind, .str t.text, .int .i64 t.pos.b, .int .i64 t.pos.g, .int .i64 t.pos.l, .int .i64 t.pos.c]

def Sc.run (p : Int → Bool) (s : Sc) : Sc := whileF p (s.rest.length + 1) s
def Sc.ran (p : Int → Bool) (s : Sc) : List UInt8 := s.rest.take (s.rest.length - (s.run p).rest.length)
def Sc.token (s : Sc) : Tok × Sc :=
  if s.cls.1 = 2 then (⟨1, s.ran inName, s.pos⟩, if 16 < rc (s.ran inName) then (s.run inName).early 42 s.pos else s.run inName)
  else if s.cls.1 = 3 then (⟨2, textV 456 (numV (s.ran inNumber)), s.pos⟩, if 32 < (limbs (numV (s.ran inNumber))).length then (s.run inNumber).early 2 s.pos else s.run inNumber)
  else if s.cls.1 = 5 then (⟨3, s.sign.1, s.pos⟩, s.sign.2)
  else if s.cls.1 = -1 then (⟨0, [], s.pos⟩, s.cls.2)
  else (⟨0, [], s.pos⟩, s.cls.2.fail 41 s.cls.2.pos)

theorem rcF_le (s : List UInt8) : ∀ f i k, i ≤ s.length → k ≤ i → rcF s f i k ≤ s.length
  | 0, i, k, hi, hk => by unfold rcF; omega
  | f + 1, i, k, hi, hk => by
    unfold rcF
    split
    · rename_i h
      have := dec_okp h
      exact rcF_le s f _ _ (by omega) (by omega)
    · omega
theorem token_spec {s : Sc} (h : s.ok) : callE T0 X0 f_glyph_scanner_token [.ptr (.b 0) 0 0] [s.obj] = some (.ret [.d (.agg s.token.1.cs)] [s.token.2.obj]) := by
  rw [callX_fun (af := a_glyph_scanner_token) rfl rfl rfl]
  have hl := h.1
  have h1 := s.cls_le
  have s0 := class_spec h
  unfold Sc.token
  by_cases c2 : s.cls.1 = 2
  · rw [if_pos c2]
    obtain ⟨e, hr⟩ := s.cls_same (by omega)
    rw [e] at s0
    have s1 := while_spec token_1_spec h
    have h3 : (s.ran inName).length ≤ s.rest.length := by unfold Sc.ran; rw [List.length_take]; omega
    have s2 := rc_spec (s := s.ran inName) (by omega)
    have h2 : rc (s.ran inName) ≤ 4096 := by
      have := rcF_le (s.ran inName) ((s.ran inName).length + 1) 0 0 (by omega) (by omega)
      exact Nat.le_trans this (by omega)
    have s3 := early_spec (s.run inName) 42 s.pos
    change callE T0 X0 f_glyph_scanner_while _ _ = some (.ret [.d (.str (s.ran inName))] [(s.run inName).obj]) at s1
    by_cases h16 : 16 < rc (s.ran inName)
    · rw [if_pos h16]
      simp only [Sc.obj, Sc.cs, Pl.cs, Tok.cs] at s0 s1 s2 s3 ⊢
      simp -implicitDefEqProofs (disch := omega) [a_glyph_scanner_token, s0, s1, s2, s3]
      done
    · rw [if_neg h16]
      simp only [Sc.obj, Sc.cs, Pl.cs, Tok.cs] at s0 s1 s2 s3 ⊢
      simp -implicitDefEqProofs (disch := omega) [a_glyph_scanner_token, s0, s1, s2]
      done
  rw [if_neg c2]
  by_cases c3 : s.cls.1 = 3
  · rw [if_pos c3]
    obtain ⟨e, hr⟩ := s.cls_same (by omega)
    rw [e] at s0
    have s1 := while_spec token_2_spec h
    have h3 : (s.ran inNumber).length ≤ 4096 := by unfold Sc.ran; rw [List.length_take]; omega
    obtain ⟨er, s2⟩ := parse_spec' h3
    have hn := numV_ok h3
    have hk : (limbs (numV (s.ran inNumber))).length ≤ 456 := limbs_len hn.1 (by have := (tens_pw 456).2; omega)
    have s4 := text_spec (limbs_good (numV (s.ran inNumber))) 456 (by omega) (by omega) (by rw [limbs_nv hn.1]; exact hn.2)
    rw [limbs_nv hn.1] at s4
    have s3 := early_spec (s.run inNumber) 2 s.pos
    change callE T0 X0 f_glyph_scanner_while _ _ = some (.ret [.d (.str (s.ran inNumber))] [(s.run inNumber).obj]) at s1
    by_cases h32 : 32 < (limbs (numV (s.ran inNumber))).length
    · rw [if_pos h32]
      simp only [Sc.obj, Sc.cs, Pl.cs, Tok.cs] at s0 s1 s2 s3 ⊢
      simp -implicitDefEqProofs (disch := omega) [a_glyph_scanner_token, s0, s1, s2, s3, s4]
      done
    · rw [if_neg h32]
      simp only [Sc.obj, Sc.cs, Pl.cs, Tok.cs] at s0 s1 s2 s3 ⊢
      simp -implicitDefEqProofs (disch := omega) [a_glyph_scanner_token, s0, s1, s2, s4]
      done
  rw [if_neg c3]
  by_cases c5 : s.cls.1 = 5
  · rw [if_pos c5]
    obtain ⟨e, hr⟩ := s.cls_same (by omega)
    rw [e] at s0
    have s1 := sign_sc_spec h (sign_next c5)
    simp only [Sc.obj, Sc.cs, Pl.cs, Tok.cs] at s0 s1 ⊢
    simp -implicitDefEqProofs (disch := omega) [a_glyph_scanner_token, s0, s1]
    done
  rw [if_neg c5]
  by_cases c0 : s.cls.1 = -1
  · rw [if_pos c0]
    simp only [Sc.obj, Sc.cs, Pl.cs, Tok.cs] at s0 ⊢
    simp -implicitDefEqProofs (disch := omega) [a_glyph_scanner_token, s0]
    done
  · rw [if_neg c0]
    have s1 := fail_spec s.cls.2 41 s.cls.2.pos
    simp only [Sc.obj, Sc.cs, Pl.cs, Tok.cs] at s0 s1 ⊢
    simp -implicitDefEqProofs (disch := omega) [a_glyph_scanner_token, s0, s1]
    done
end Go.Rf

/- glyph: a text's tokens. -/
namespace Go.Rf

theorem Sc.sign_ok {s : Sc} (h : s.ok) (hn : 0 ≤ s.next.1) : s.sign.2.ok ∧ s.sign.2.rest.length < s.rest.length := by
  obtain ⟨e, hr⟩ := s.next_same hn
  have hp := Sc.pass_ok h hr
  have hl := Sc.pass_len hr
  unfold Sc.sign
  split
  · exact ⟨hp, hl⟩
  split
  · exact ⟨hp, hl⟩
  split
  · split
    · refine ⟨Sc.early_ok (Sc.next_ok hp) _ _, ?_⟩
      show s.pass.next.2.rest.length < _
      rw [s.pass.next_rest.1]; exact hl
    · rename_i h5
      have h5 : s.pass.next.1 = 61 := Classical.not_not.1 h5
      obtain ⟨e2, hr2⟩ := s.pass.next_same (by omega)
      have := Sc.pass_len hr2
      exact ⟨Sc.pass_ok hp hr2, Nat.lt_trans this hl⟩
  · exact ⟨hp, hl⟩
theorem run_lt (p : Int → Bool) {s : Sc} (h : s.ok) (h0 : 0 ≤ s.cls.1) (hp : p s.cls.1 = true) : (s.run p).ok ∧ (s.run p).rest.length < s.rest.length := by
  obtain ⟨e, hr⟩ := s.cls_same h0
  have hl := Sc.pass_len hr
  have := whileF_ok p s.rest.length (Sc.pass_ok h hr)
  unfold Sc.run whileF
  rw [if_pos ⟨h0, hp⟩]
  exact ⟨this.1, by omega⟩
/-- A token that is told, and not the end, takes something; else an error is told. -/
theorem token_ok {s : Sc} (h : s.ok) : s.token.2.ok ∧ (s.token.1.kind ≠ 0 → s.token.2.rest.length < s.rest.length) ∧ s.token.1.text.length ≤ 1100000 := by
  have hl := h.1
  unfold Sc.token
  split
  · rename_i c
    have := run_lt inName h (by omega) (by rw [c]; rfl)
    refine ⟨?_, fun _ => ?_, ?_⟩
    · simp only []; split
      · exact Sc.early_ok this.1 _ _
      · exact this.1
    · simp only []; split
      · exact this.2
      · exact this.2
    · show (s.ran inName).length ≤ _
      unfold Sc.ran; rw [List.length_take]; omega
  split
  · rename_i c
    have := run_lt inNumber h (by omega) (by rw [c]; rfl)
    refine ⟨?_, fun _ => ?_, ?_⟩
    · simp only []; split
      · exact Sc.early_ok this.1 _ _
      · exact this.1
    · simp only []; split
      · exact this.2
      · exact this.2
    · show (textV 456 _).length ≤ _
      unfold textV
      split
      · simp
      · rw [List.length_reverse]
        exact Nat.le_trans (backF_len 456 _) (by omega)
  split
  · rename_i c
    have := Sc.sign_ok h (sign_next c)
    refine ⟨this.1, fun _ => this.2, ?_⟩
    show s.sign.1.length ≤ _
    unfold Sc.sign
    have e1 := enc_le s.next.1
    have e2 := enc_le (fold s.next.1)
    (repeat' split) <;> simp <;> omega
  split
  · exact ⟨Sc.cls_ok h, fun h0 => absurd rfl h0, by simp⟩
  · exact ⟨Sc.fail_ok (Sc.cls_ok h) _ _, fun h0 => absurd rfl h0, by simp⟩

def scanF : Nat → Sc → List Tok → Option (List Tok) × Int × Pl
  | 0, _, out => (some out, 0, ⟨0, 0, 0, 0⟩)
  | f + 1, s, out =>
    if s.blanks.token.2.code ≠ 0 then (none, s.blanks.token.2.code, s.blanks.token.2.bad)
    else if s.blanks.token.1.kind = 0 then (some (out ++ [s.blanks.token.1]), 0, ⟨0, 0, 0, 0⟩)
    else scanF f s.blanks.token.2 (out ++ [s.blanks.token.1])
/-- Tokens in a row. -/
def LT (l : List Tok) : List D := l.map fun t => .agg t.cs
def VT (l : List Tok) : List V := l.map fun t => .d (.agg t.cs)
@[simp] theorem LT_len (l) : (LT l).length = l.length := by simp [LT]
@[simp] theorem VT_len (l) : (VT l).length = l.length := by simp [VT]
@[simp] theorem VT_nil : VT [] = [] := rfl
@[simp] theorem VT_take (l n) : (VT l).take n = VT (l.take n) := by simp [VT, List.map_take]
@[simp] theorem LT_take (l n) : (LT l).take n = LT (l.take n) := by simp [LT, List.map_take]
@[simp] theorem VT_app1 (l : List Tok) (k x a b c d) : VT l ++ [.d (.agg [.int .i64 k, .str x, .int .i64 a, .int .i64 b, .int .i64 c, .int .i64 d])] = VT (l ++ [⟨k, x, ⟨a, b, c, d⟩⟩]) := by simp [VT, Tok.cs]
@[simp] theorem tok_eta (t : Tok) : (⟨t.kind, t.text, ⟨t.pos.b, t.pos.g, t.pos.l, t.pos.c⟩⟩ : Tok) = t := rfl
@[simp] theorem LT_map (l) : (LT l).map V.d = VT l := by simp [LT, VT, Function.comp_def]
@[simp] theorem allD_VT (l) : allD (VT l) = some (LT l) := by rw [← LT_map]; exact allD_map _
@[simp] theorem rens_VT (al : Loc → Bool) (l : List Tok) (m : List Loc) : rens al (VT l) m = (VT l, m) := by rw [← LT_map]; exact rens_map ..
@[simp] theorem mapLs_VT (f : Loc → Loc) (l : List Tok) : mapLs f (VT l) = VT l := by
  induction l with
  | nil => rfl
  | cons x xs ih =>
    show V.mapL f (.d _) :: mapLs f (VT xs) = _
    rw [ih]
    rfl
@[simp] theorem frzL_VT (h : Loc → Option Obj) (k : Nat) (l : List Tok) : frzL (frz h (k + 1)) (VT l) = some (LT l, []) := by
  induction l with
  | nil => rfl
  | cons x xs ih =>
    show frzL (frz h (k + 1)) (.d _ :: VT xs) = _
    simp only [frzL, ih]
    rfl
theorem wl_LT (l : List Tok) : wl (LT l) ≤ 56 := by
  induction l with
  | nil => simp [LT, wl]
  | cons x xs ih =>
    show max (wt (.agg x.cs)) (wl (LT xs)) ≤ 56
    have : wt (.agg x.cs) = 56 := rfl
    omega
@[simp] theorem wl_LT56 (l) : (wl (LT l) ≤ 56) = True := eq_true (wl_LT l)
@[simp] theorem fit_LT {n : Nat} {l : List Tok} (h : n ≤ 1099511627) : (n * wl (LT l) ≤ lots) = True := eq_true (Nat.le_trans (Nat.mul_le_mul h (wl_LT l)) (by unfold lots; omega))
@[simp] theorem VT_cells (l) : (∀ x ∈ VT l, x.cells.length = 6) = True := eq_true (by
  intro x hx
  obtain ⟨n, _, rfl⟩ := List.mem_map.1 hx
  rfl)
@[simp] theorem LT_cells (l) : (∀ x ∈ LT l, x.cells.length = 6) = True := eq_true (by
  intro x hx
  obtain ⟨n, _, rfl⟩ := List.mem_map.1 hx
  rfl)
theorem LT_get {l : List Tok} {i : Nat} (h : i < l.length) : (LT l)[i]? = some (.agg (l[i]'h).cs) := by simp [LT, h]

theorem scanF_len : ∀ f (s : Sc) (out l : List Tok) e p, s.ok → scanF f s out = (some l, e, p) → l.length ≤ out.length + f
  | 0, s, out, l, e, p, _, h => by unfold scanF at h; cases h; omega
  | f + 1, s, out, l, e, p, hs, h => by
    unfold scanF at h
    split at h
    · cases h
    · split at h
      · cases h; simp
      · have := scanF_len f _ _ l e p (token_ok (blanksF_ok _ hs).1).1 h
        simp at this
        omega
def emptyPl : Pl := ⟨0, 0, 0, 0⟩
theorem scan_loop : ∀ f (s : Sc) (out : List Tok) (e : List (Nat × V)), s.ok → s.rest.length < f → out.length + s.rest.length ≤ 5000 →
    codeX T0 X0 0 a_glyph_Scan_l0 (some (.nrm, ⟨(4, .ptr (.b 0) 0 0) :: (5, .ptr (.b 1) 0 0) :: (6, .ref (.b 2) ⟨6, 56⟩ 0 out.length) :: e, [.arr [.d (.agg [.int .i64 0, .int .i64 0, .int .i64 0, .int .i64 0])] ⟨4, 0⟩, s.obj, .arr (VT out) ⟨6, 56⟩]⟩)) =
      some (.ret, match scanF f s out with
        | (none, c, p) => ⟨[(2, .d (.sl [])), (3, .d (.int .i64 c)), (4, .ptr (.b 0) 0 0)], [.arr [.d (.agg p.cs)] ⟨4, 0⟩]⟩
        | (some l, c, p) => ⟨[(2, .ref (.b 0) ⟨6, 56⟩ 0 l.length), (3, .d (.int .i64 c)), (4, .ptr (.b 1) 0 0)], [.arr (VT l) ⟨6, 56⟩, .arr [.d (.agg p.cs)] ⟨4, 0⟩]⟩) := by
  intro f
  induction f with
  | zero => intros; omega
  | succ f ih =>
    intro s out e h hf hb
    rw [codeX_loop (l := a_glyph_Scan_l0) rfl]
    have s1 := blanks_spec h
    have hb1 := blanksF_ok (s.rest.length + 1) h
    change s.blanks.ok ∧ s.blanks.rest.length ≤ s.rest.length at hb1
    have s2 := token_spec hb1.1
    have ht := token_ok hb1.1
    unfold scanF
    by_cases hc : s.blanks.token.2.code = 0
    · rw [if_neg (by simpa using hc)]
      by_cases hk : s.blanks.token.1.kind = 0
      · rw [if_pos hk]
        simp only [Sc.obj, Sc.cs, Tok.cs, Pl.cs] at s1 s2 ⊢
        simp -implicitDefEqProofs (disch := omega) [a_glyph_Scan_b0, s1, s2]
        done
      · rw [if_neg hk]
        have hlt := ht.2.1 hk
        have s3 := ih s.blanks.token.2 (out ++ [s.blanks.token.1]) [(39, .d (.bool false))] ht.1 (by omega) (by simp; omega)
        rw [← s3]
        simp only [Sc.obj, Sc.cs, Tok.cs, Pl.cs] at s1 s2 ⊢
        simp -implicitDefEqProofs (disch := omega) [a_glyph_Scan_b0, s1, s2]
        done
    · rw [if_pos hc]
      simp only [Sc.obj, Sc.cs, Tok.cs, Pl.cs] at s1 s2 ⊢
      simp -implicitDefEqProofs (disch := omega) [a_glyph_Scan_b0, s1, s2]
      done

/-- A text's tokens, or the error and its place. -/
def scan (s : List UInt8) : Option (List Tok) × Int × Pl := if 4096 < s.length then (none, 2, emptyPl) else scanF (s.length + 1) ⟨s, start, 0, emptyPl⟩ []
theorem scan_spec (s : List UInt8) (hs : s.length ≤ 1099511627776) : callE T0 X0 f_glyph_Scan [.d (.str s)] [] =
    some (.ret [.d (.sl (LT ((scan s).1.getD []))), .d (.int .i64 (scan s).2.1), .d (.agg (scan s).2.2.cs)] []) := by
  rw [callX_fun (af := a_glyph_Scan) rfl rfl rfl]
  unfold scan
  by_cases hl : 4096 < s.length
  · rw [if_pos hl]
    simp -implicitDefEqProofs (disch := omega) [a_glyph_Scan, Pl.cs, emptyPl, LT]
    done
  · rw [if_neg hl]
    have s0 := start_spec
    have hok : Sc.ok ⟨s, start, 0, emptyPl⟩ := ⟨by show s.length ≤ 4096; omega, by show Pl.small start s.length; unfold Pl.small start; simp only []; omega⟩
    have s1 := scan_loop (s.length + 1) ⟨s, start, 0, emptyPl⟩ [] [] hok (by show s.length < _; omega) (by show 0 + s.length ≤ _; omega)
    simp only [Sc.obj, Sc.cs, Tok.cs, Pl.cs, emptyPl, start, VT_nil, List.length_nil] at s0 s1 ⊢
    have hlen := scanF_len (s.length + 1) ⟨s, start, 0, emptyPl⟩ []
    simp only [emptyPl, start] at hlen
    generalize scanF (s.length + 1) ⟨s, ⟨0, 0, 1, 1⟩, 0, ⟨0, 0, 0, 0⟩⟩ [] = r at s1 hlen ⊢
    obtain ⟨o, c, p⟩ := r
    cases o with
    | none =>
      simp -implicitDefEqProofs (disch := omega) [a_glyph_Scan, s0, s1, LT]
      done
    | some l =>
      have hl2 := hlen l c p hok rfl
      simp at hl2
      have ht : l.take l.length = l := List.take_length
      simp -implicitDefEqProofs (disch := omega) [a_glyph_Scan, s0, s1]
      done
end Go.Rf

/- glyph.Name, affine.Names. -/
namespace Go.Rf

def isName (s : List UInt8) : Bool := match scan s with
  | (some [t, _], 0, _) => decide (t.kind = 1) && decide (t.text = s)
  | _ => false
theorem name_spec (s : List UInt8) (hs : s.length ≤ 1100000) : callE T0 X0 f_glyph_Name [.d (.str s)] [] = some (.ret [.d (.bool (isName s))] []) := by
  rw [callX_fun (af := a_glyph_Name) rfl rfl rfl]
  have s1 := scan_spec s (by omega)
  have hlen : ∀ l c p, scan s = (some l, c, p) → l.length ≤ 5000 := by
    intro l c p h
    unfold scan at h
    split at h
    · cases h
    · have := scanF_len _ _ _ l c p ⟨by show s.length ≤ 4096; omega, by show Pl.small start s.length; unfold Pl.small start; simp only []; omega⟩ h
      simp at this
      omega
  unfold isName
  generalize scan s = r at s1 hlen
  obtain ⟨o, c, p⟩ := r
  simp only [Pl.cs] at s1
  by_cases hc : c = 0
  · subst hc
    cases o with
    | none =>
      simp only [Option.getD_none, LT, List.map_nil] at s1
      simp -implicitDefEqProofs (disch := omega) [a_glyph_Name, s1]
      done
    | some l =>
      have hl := hlen l _ p rfl
      simp only [Option.getD_some] at s1
      by_cases h2 : l.length = 2
      · obtain ⟨a, b, rfl⟩ : ∃ a b, l = [a, b] := by
          match l, h2 with
          | [a, b], _ => exact ⟨a, b, rfl⟩
        simp only [LT, List.map_cons, List.map_nil, Tok.cs] at s1
        have w := wl_LT [a, b]
        simp only [LT, List.map_cons, List.map_nil, Tok.cs] at w
        by_cases h3 : a.kind = 1
        · simp -implicitDefEqProofs (disch := omega) [a_glyph_Name, s1, h3, wl, wt, wts]
          by_cases h : a.text = s <;> simp [h]
        · simp -implicitDefEqProofs (disch := omega) [a_glyph_Name, s1, h3, wl, wt, wts]
          done
      · have e : (match (some l, (0 : Int), p) with
            | (some [t, _], 0, _) => decide (t.kind = 1) && decide (t.text = s)
            | _ => false) = false := by
          match l, h2 with
          | [], _ => rfl
          | [_], _ => rfl
          | [_, _], h => exact absurd rfl h
          | _ :: _ :: _ :: _, _ => rfl
        rw [e]
        simp -implicitDefEqProofs (disch := omega) [a_glyph_Name, s1]
        done
  · have e : (match (o, c, p) with
          | (some [t, _], 0, _) => decide (t.kind = 1) && decide (t.text = s)
          | _ => false) = false := by
      split
      · rename_i h; simp at h; exact absurd h.2.1 hc
      · rfl
    rw [e]
    simp -implicitDefEqProofs (disch := omega) [a_glyph_Name, s1]
    done

/-- Texts. -/
def SL (vs : List (List UInt8)) : List D := vs.map .str
@[simp] theorem SL_len (vs) : (SL vs).length = vs.length := by simp [SL]
@[simp] theorem SL_take (vs n) : (SL vs).take n = SL (vs.take n) := by simp [SL, List.map_take]
def tx (vs : List (List UInt8)) (i : Nat) : List UInt8 := vs.getD i []
theorem SL_get {vs : List (List UInt8)} {i : Nat} (h : i < vs.length) : (SL vs)[i]? = some (.str (tx vs i)) := by simp [SL, tx, h]
attribute [simp] SL_get
theorem wl_SL (vs) : wl (SL vs) ≤ 16 := by
  induction vs with
  | nil => simp [SL, wl]
  | cons x xs ih =>
    show max 16 (wl (SL xs)) ≤ 16
    omega
@[simp] theorem wl_SL16 (vs) : (wl (SL vs) ≤ 16) = True := eq_true (wl_SL vs)
@[simp] theorem fit_SL {n : Nat} {vs} (h : n ≤ 1099511627) : (n * wl (SL vs) ≤ lots) = True := eq_true (Nat.le_trans (Nat.mul_le_mul h (wl_SL vs)) (by unfold lots; omega))
@[simp] theorem SL_cells (vs) : (∀ x ∈ SL vs, x.cells.length = 1) = True := eq_true (by
  intro x hx
  obtain ⟨n, _, rfl⟩ := List.mem_map.1 hx
  rfl)

/-- Are they names, no two of them one? -/
def seenF (vs : List (List UInt8)) (i : Nat) : Nat → Nat → Bool
  | 0, _ => false
  | d + 1, k => if tx vs k = tx vs i then true else seenF vs i d (k + 1)
def namesF (vs : List (List UInt8)) : Nat → Nat → Int
  | 0, _ => 0
  | f + 1, i => if isName (tx vs i) = false then 1 else if seenF vs i i 0 = true then 1 else namesF vs f (i + 1)
def names (vs : List (List UInt8)) : Int := if 16 < vs.length then 1 else namesF vs vs.length 0

theorem names_in (vs : List (List UInt8)) (i : Nat) (hl : vs.length ≤ 16) (hi : i < vs.length) (hb : ∀ k, (tx vs k).length ≤ 1100000) : ∀ d k (e : List (Nat × V)), d + k = i →
    codeX T0 X0 0 a_affine_Names_l0 (some (.nrm, ⟨(0, .d (.sl (SL vs))) :: (4, .d (.str (tx vs i))) :: (10, .d (.sl (SL vs))) :: (11, .d (.int .i64 vs.length)) :: (12, .d (.int .i64 i)) :: (22, .d (.sl (SL (vs.take i)))) :: (23, .d (.int .i64 i)) :: (24, .d (.int .i64 k)) :: e, []⟩)) =
      if seenF vs i d k = true then some (.ret, ⟨[(2, .d (.int .i64 1))], []⟩) else some (.exit 2, ⟨[(0, .d (.sl (SL vs))), (10, .d (.sl (SL vs))), (11, .d (.int .i64 vs.length)), (12, .d (.int .i64 i))], []⟩) := by
  intro d
  induction d with
  | zero =>
    intro k e hk
    have : k = i := by omega
    subst this
    rw [codeX_loop (l := a_affine_Names_l0) rfl, if_neg (by simp [seenF])]
    simp -implicitDefEqProofs (disch := omega) [a_affine_Names_b0]
    done
  | succ d ih =>
    intro k e hk
    rw [codeX_loop (l := a_affine_Names_l0) rfl]
    have ht : (SL (vs.take i))[k]? = some (.str (tx vs k)) := by simp [SL, tx, List.getElem?_take, show k < i by omega, show k < vs.length by omega]
    have h1 := hb k
    have h2 := hb i
    by_cases he : tx vs k = tx vs i
    · rw [seenF, if_pos he, if_pos rfl]
      simp -implicitDefEqProofs (disch := omega) [a_affine_Names_b0, ht, he]
      done
    · have s1 := ih (k + 1) [] (by omega)
      rw [seenF, if_neg he]
      rw [← s1]
      have he' : (tx vs i == tx vs k) = false := by simp; exact fun h => he h.symm
      simp -implicitDefEqProofs (disch := omega) [a_affine_Names_b0, ht, he']
      done
theorem names_out (vs : List (List UInt8)) (hl : vs.length ≤ 16) (hb : ∀ k, (tx vs k).length ≤ 1100000) : ∀ d i, d + i = vs.length →
    codeX T0 X0 0 a_affine_Names_l1 (some (.nrm, ⟨[(0, .d (.sl (SL vs))), (10, .d (.sl (SL vs))), (11, .d (.int .i64 vs.length)), (12, .d (.int .i64 i))], []⟩)) =
      if namesF vs d i = 0 then some (.exit 0, ⟨[], []⟩) else some (.ret, ⟨[(2, .d (.int .i64 1))], []⟩) := by
  intro d
  induction d with
  | zero =>
    intro i hk
    have : i = vs.length := by omega
    subst this
    rw [codeX_loop (l := a_affine_Names_l1) rfl, if_pos (show namesF vs 0 vs.length = 0 from rfl)]
    simp -implicitDefEqProofs (disch := omega) [a_affine_Names_b1]
  | succ d ih =>
    intro i hk
    rw [codeX_loop (l := a_affine_Names_l1) rfl]
    have s1 := name_spec (tx vs i) (hb i)
    have s2 := names_in vs i hl (by omega) hb i 0 [] (by omega)
    have h2 := hb i
    simp only [Int.cast_ofNat_Int] at s2
    cases hn : isName (tx vs i)
    · rw [hn] at s1
      rw [show namesF vs (d + 1) i = 1 by simp [namesF, hn], if_neg (by decide)]
      simp -implicitDefEqProofs (disch := omega) [a_affine_Names_b1, s1]
      done
    · rw [hn] at s1
      cases hs : seenF vs i i 0
      · rw [show namesF vs (d + 1) i = namesF vs d (i + 1) by simp [namesF, hn, hs]]
        rw [hs, if_neg (by simp)] at s2
        rw [← ih (i + 1) (by omega)]
        simp -implicitDefEqProofs (disch := omega) [a_affine_Names_b1, s1, s2]
        done
      · rw [show namesF vs (d + 1) i = 1 by simp [namesF, hn, hs], if_neg (by decide)]
        rw [hs, if_pos rfl] at s2
        simp -implicitDefEqProofs (disch := omega) [a_affine_Names_b1, s1, s2]
        done
theorem namesF_01 (vs) : ∀ f i, namesF vs f i = 0 ∨ namesF vs f i = 1
  | 0, _ => .inl rfl
  | f + 1, i => by
    unfold namesF
    split
    · exact .inr rfl
    · split
      · exact .inr rfl
      · exact namesF_01 vs f (i + 1)
theorem names_spec (vs : List (List UInt8)) (hv : vs.length ≤ 1099511627) (hb : ∀ k, (tx vs k).length ≤ 1100000) : callE T0 X0 f_affine_Names [.d (.sl (SL vs))] [] = some (.ret [.d (.int .i64 (names vs))] []) := by
  rw [callX_fun (af := a_affine_Names) rfl rfl rfl]
  unfold names
  by_cases hl : 16 < vs.length
  · rw [if_pos hl]
    simp -implicitDefEqProofs (disch := omega) [a_affine_Names]
  · rw [if_neg hl]
    have s1 := names_out vs (by omega) hb vs.length 0 rfl
    simp only [Int.cast_ofNat_Int] at s1
    rcases namesF_01 vs vs.length 0 with h | h
    · rw [h, if_pos rfl] at s1
      rw [h]
      simp -implicitDefEqProofs (disch := omega) [a_affine_Names, s1]
      done
    · rw [h, if_neg (by decide)] at s1
      rw [h]
      simp -implicitDefEqProofs (disch := omega) [a_affine_Names, s1]
      done
end Go.Rf

/- whole: numbers with a sign. -/
namespace Go.Rf

/-- A number as it is told. -/
def Wd (n : Int) : D := .agg [.bool (decide (n < 0)), .sl (L (limbs n.natAbs))]
/-- What a sign and limbs tell. -/
def sg (p : Bool) (n : Int) : Int := if p then -n else n
@[simp] theorem sg_true (n) : sg true n = -n := rfl
@[simp] theorem sg_false (n) : sg false n = n := rfl
@[simp] theorem not_sg (p n) : sg (!p) n = - sg p n := by cases p <;> simp
theorem sg_abs (n : Int) : sg (decide (n < 0)) n.natAbs = n := by
  unfold sg
  split <;> simp_all <;> omega
/-- How many limbs a number has. -/
def nl (n : Int) : Nat := (limbs n.natAbs).length
theorem nl_lt {n : Int} {k : Nat} (h : n < pw k) (h' : -n < pw k) : nl n ≤ k := limbs_len (by omega) (by omega)
theorem lt_nl (n : Int) : (n.natAbs : Int) < pw (nl n) := by
  have := (nv_bounds (limbs_good n.natAbs)).2
  rwa [limbs_nv (by omega)] at this

theorem made_spec (p : Bool) {n : Int} (h : 0 ≤ n) (hs : (limbs n).length ≤ 1099511627776) : callE T0 X0 f_whole_made [.d (.bool p), .d (.sl (L (limbs n)))] [] = some (.ret [.d (Wd (sg p n))] []) := by
  rw [callX_fun (af := a_whole_made) rfl rfl rfl]
  have hz := limbs_nil h
  unfold Wd sg
  by_cases h0 : n = 0
  · subst h0
    cases p <;> simp -implicitDefEqProofs (disch := omega) [a_whole_made]
  · have hl : (limbs n).length ≠ 0 := fun e => h0 (hz.1 (List.eq_nil_of_length_eq_zero e))
    have e : ((n.natAbs : Int)) = n := by omega
    cases p
    · simp -implicitDefEqProofs (disch := omega) [a_whole_made, e]
    · simp -implicitDefEqProofs (disch := omega) [a_whole_made, e, -List.length_eq_zero_iff]
theorem limbs_le {xs : List Int} (hx : Good xs) : (limbs (nv xs)).length ≤ xs.length := limbs_len (nv_bounds hx).1 (nv_bounds hx).2

section raw
variable {xs ys : List Int} (hx : Good xs) (hy : Good ys) (hs : xs.length < 1073741824) (hs' : ys.length < 1073741824)
include hx hs

theorem wtrim_raw (p : Bool) : callE T0 X0 f_whole_Trim [.d (.agg [.bool p, .sl (L xs)])] [] = some (.ret [.d (Wd (sg p (nv xs)))] []) := by
  rw [callX_fun (af := a_whole_Trim) rfl rfl rfl]
  have l1 := limbs_le hx
  have s1 := trim_spec hx (by omega)
  have s2 := made_spec p (nv_bounds hx).1 (by omega)
  simp -implicitDefEqProofs (disch := omega) [a_whole_Trim, s1, s2, Wd]
theorem wneg_raw (p : Bool) : callE T0 X0 f_whole_Neg [.d (.agg [.bool p, .sl (L xs)])] [] = some (.ret [.d (Wd (-sg p (nv xs)))] []) := by
  rw [callX_fun (af := a_whole_Neg) rfl rfl rfl]
  have l1 := limbs_le hx
  have s1 := trim_spec hx (by omega)
  have s2 := made_spec (!p) (nv_bounds hx).1 (by omega)
  simp -implicitDefEqProofs (disch := omega) [a_whole_Neg, s1, s2, Wd]
theorem bits_le : 0 ≤ blen (nth (limbs (nv xs)) ((limbs (nv xs)).length - 1)) ∧ blen (nth (limbs (nv xs)) ((limbs (nv xs)).length - 1)) ≤ 32 := by
  have _ := hx
  have _ := hs
  have g := (limbs_good (nv xs)).nth ((limbs (nv xs)).length - 1)
  exact ⟨blen_nonneg _, blen_le (k := 32) (by omega)⟩
theorem bits_ge (h : nv xs ≠ 0) : 1 ≤ (limbs (nv xs)).length ∧ 1 ≤ blen (nth (limbs (nv xs)) ((limbs (nv xs)).length - 1)) := by
  have _ := hs
  have h0 := (nv_bounds hx).1
  have hn : (limbs (nv xs)).length ≠ 0 := fun h' => h ((limbs_nil h0).1 (List.eq_nil_of_length_eq_zero h'))
  refine ⟨by omega, ?_⟩
  have g := (limbs_good (nv xs)).nth ((limbs (nv xs)).length - 1)
  have hz : nth (limbs (nv xs)) ((limbs (nv xs)).length - 1) ≠ 0 := by
    intro hz
    have e := nv_take_succ' (limbs (nv xs)) ((limbs (nv xs)).length - 1)
    rw [hz, List.take_of_length_le (by omega), limbs_nv h0] at e
    have b := (nv_bounds ((limbs_good (nv xs)).take ((limbs (nv xs)).length - 1))).2
    rw [List.length_take, Nat.min_eq_left (by omega)] at b
    rcases limbs_can (nv xs) with c | c
    · rw [c] at hn; exact hn rfl
    · rw [limbs_nv h0] at c
      omega
  unfold blen
  rw [if_neg (by omega)]
  omega
theorem wsign_raw (p : Bool) : callE T0 X0 f_whole_Sign [.d (.agg [.bool p, .sl (L xs)])] [] = some (.ret [.d (.int .i64 (Int.sign (sg p (nv xs))))] []) := by
  rw [callX_fun (af := a_whole_Sign) rfl rfl rfl]
  have h0 := (nv_bounds hx).1
  have s1 := bits_spec hx (by omega)
  by_cases hz : nv xs = 0
  · rw [if_pos hz] at s1
    rw [hz]
    cases p <;> simp -implicitDefEqProofs (disch := omega) [a_whole_Sign, s1]
  · rw [if_neg hz] at s1
    have b1 := bits_le hx hs
    have b2 := bits_ge hx hs hz
    unfold nlen at s1
    cases p
    · have e : Int.sign (sg false (nv xs)) = 1 := Int.sign_eq_one_of_pos (by simp; omega)
      rw [e]
      simp -implicitDefEqProofs (disch := omega) [a_whole_Sign, s1]
    · have e : Int.sign (sg true (nv xs)) = -1 := Int.sign_eq_neg_one_of_neg (by simp; omega)
      rw [e]
      simp -implicitDefEqProofs (disch := omega) [a_whole_Sign, s1]
theorem wlimbs_raw (p : Bool) : callE T0 X0 f_whole_Limbs [.d (.agg [.bool p, .sl (L xs)])] [] = some (.ret [.d (.int .i64 (limbs (nv xs)).length)] []) := by
  rw [callX_fun (af := a_whole_Limbs) rfl rfl rfl]
  have h0 := (nv_bounds hx).1
  have s1 := bits_spec hx (by omega)
  have l1 := limbs_le hx
  by_cases hz : nv xs = 0
  · rw [if_pos hz] at s1
    rw [hz]
    simp -implicitDefEqProofs (disch := omega) [a_whole_Limbs, s1]
    done
  · rw [if_neg hz] at s1
    have b1 := bits_le hx hs
    have b2 := bits_ge hx hs hz
    unfold nlen at s1
    simp -implicitDefEqProofs (disch := omega) [a_whole_Limbs, s1]
    omega
include hy hs'
theorem wadd_raw (p q : Bool) : callE T0 X0 f_whole_Add [.d (.agg [.bool p, .sl (L xs)]), .d (.agg [.bool q, .sl (L ys)])] [] = some (.ret [.d (Wd (sg p (nv xs) + sg q (nv ys)))] []) := by
  rw [callX_fun (af := a_whole_Add) rfl rfl rfl]
  have h1 := (nv_bounds hx).1
  have h2 := (nv_bounds hy).1
  have l1 := nv_bounds hx
  have l2 := nv_bounds hy
  by_cases hpq : p = q
  · subst hpq
    have s1 := add_spec hx hy (by omega) (by omega)
    have hb := limbs_len (n := nv xs + nv ys) (k := max xs.length ys.length + 1) (by omega) (by
      have a1 := pw_le (show xs.length ≤ max xs.length ys.length by omega)
      have a2 := pw_le (show ys.length ≤ max xs.length ys.length by omega)
      simp only [pw]
      omega)
    have s2 := made_spec p (n := nv xs + nv ys) (by omega) (by omega)
    have e : sg p (nv xs) + sg p (nv ys) = sg p (nv xs + nv ys) := by cases p <;> simp <;> omega
    rw [e]
    simp -implicitDefEqProofs (disch := omega) [a_whole_Add, s1, s2, Wd]
  · have e : q = !p := by cases p <;> cases q <;> simp_all
    subst e
    have s1 := sub_spec hx hy (by omega) (by omega)
    have s1' := sub_spec hy hx (by omega) (by omega)
    rw [not_sg]
    by_cases hlt : nv xs < nv ys
    · rw [if_pos hlt] at s1
      rw [if_neg (by omega)] at s1'
      have hb := limbs_len (n := nv ys - nv xs) (k := ys.length) (by omega) (by omega)
      have s2 := made_spec (!p) (n := nv ys - nv xs) (by omega) (by omega)
      have e : sg p (nv xs) + - sg p (nv ys) = sg (!p) (nv ys - nv xs) := by cases p <;> simp <;> omega
      rw [e]
      simp -implicitDefEqProofs (disch := omega) [a_whole_Add, s1, s1', s2, Wd]
      done
    · rw [if_neg hlt] at s1
      have hb := limbs_len (n := nv xs - nv ys) (k := xs.length) (by omega) (by omega)
      have s2 := made_spec p (n := nv xs - nv ys) (by omega) (by omega)
      have e : sg p (nv xs) + - sg p (nv ys) = sg p (nv xs - nv ys) := by cases p <;> simp <;> omega
      rw [e]
      simp -implicitDefEqProofs (disch := omega) [a_whole_Add, s1, s2, Wd]
      done
theorem wsub_raw (p q : Bool) : callE T0 X0 f_whole_Sub [.d (.agg [.bool p, .sl (L xs)]), .d (.agg [.bool q, .sl (L ys)])] [] = some (.ret [.d (Wd (sg p (nv xs) - sg q (nv ys)))] []) := by
  rw [callX_fun (af := a_whole_Sub) rfl rfl rfl]
  have s1 := wadd_raw hx hy hs hs' p (!q)
  rw [not_sg, ← Int.sub_eq_add_neg] at s1
  simp -implicitDefEqProofs (disch := omega) [a_whole_Sub, s1, Wd]
theorem wmul_raw (p q : Bool) : callE T0 X0 f_whole_Mul [.d (.agg [.bool p, .sl (L xs)]), .d (.agg [.bool q, .sl (L ys)])] [] = some (.ret [.d (Wd (sg p (nv xs) * sg q (nv ys)))] []) := by
  rw [callX_fun (af := a_whole_Mul) rfl rfl rfl]
  have l1 := nv_bounds hx
  have l2 := nv_bounds hy
  have s1 := mul_spec hx hy (by omega)
  have hb := limbs_len (n := nv xs * nv ys) (k := xs.length + ys.length) (Int.mul_nonneg l1.1 l2.1) (by
    rw [pw_add]
    have a1 : nv xs * nv ys ≤ nv xs * pw ys.length := Int.mul_le_mul_of_nonneg_left (by omega) l1.1
    have a2 : nv xs * pw ys.length < pw xs.length * pw ys.length := Int.mul_lt_mul_of_pos_right l1.2 (pw_pos _)
    omega)
  have s2 := fun b => made_spec b (n := nv xs * nv ys) (Int.mul_nonneg l1.1 l2.1) (by omega)
  have e : sg p (nv xs) * sg q (nv ys) = sg (p != q) (nv xs * nv ys) := by cases p <;> cases q <;> simp [Int.mul_neg, Int.neg_mul]
  rw [e]
  cases p <;> cases q <;> simp -implicitDefEqProofs (disch := omega) [a_whole_Mul, s1, s2, Wd]
end raw

theorem wof_spec {n : Int} (h : -9223372036854775808 ≤ n ∧ n ≤ 9223372036854775807) : callE T0 X0 f_whole_Of [.d (.int .i64 n)] [] = some (.ret [.d (Wd n)] []) := by
  rw [callX_fun (af := a_whole_Of) rfl rfl rfl]
  by_cases h0 : n < 0
  · have s1 := small_spec (n := -n) (by omega)
    have hb := limbs_len (n := -n) (k := 2) (by omega) (by simp only [pw]; omega)
    have s2 := made_spec true (n := -n) (by omega) (by omega)
    have e : -(n + 1) + 1 = -n := by omega
    simp -implicitDefEqProofs (disch := omega) [a_whole_Of, s1, s2, Wd, e]
    done
  · have s1 := small_spec (n := n) (by omega)
    have hb := limbs_len (n := n) (k := 2) (by omega) (by simp only [pw]; omega)
    have s2 := made_spec false (n := n) (by omega) (by omega)
    simp -implicitDefEqProofs (disch := omega) [a_whole_Of, s1, s2, Wd]
    done
/-! ### Numbers as they are told -/
section W
variable {m n : Int} (hm : nl m < 1073741824) (hn : nl n < 1073741824)
theorem nv_abs (n : Int) : nv (limbs n.natAbs) = n.natAbs := limbs_nv (by omega)
include hm
theorem wtrim_W : callE T0 X0 f_whole_Trim [.d (Wd m)] [] = some (.ret [.d (Wd m)] []) := by
  have := wtrim_raw (limbs_good m.natAbs) hm (decide (m < 0))
  rwa [nv_abs, sg_abs] at this
theorem wneg_W : callE T0 X0 f_whole_Neg [.d (Wd m)] [] = some (.ret [.d (Wd (-m))] []) := by
  have := wneg_raw (limbs_good m.natAbs) hm (decide (m < 0))
  rwa [nv_abs, sg_abs] at this
theorem wsign_W : callE T0 X0 f_whole_Sign [.d (Wd m)] [] = some (.ret [.d (.int .i64 m.sign)] []) := by
  have := wsign_raw (limbs_good m.natAbs) hm (decide (m < 0))
  rwa [nv_abs, sg_abs] at this
theorem wlimbs_W : callE T0 X0 f_whole_Limbs [.d (Wd m)] [] = some (.ret [.d (.int .i64 (nl m))] []) := by
  have := wlimbs_raw (limbs_good m.natAbs) hm (decide (m < 0))
  rwa [nv_abs] at this
include hn
theorem wadd_W : callE T0 X0 f_whole_Add [.d (Wd m), .d (Wd n)] [] = some (.ret [.d (Wd (m + n))] []) := by
  have := wadd_raw (limbs_good m.natAbs) (limbs_good n.natAbs) hm hn (decide (m < 0)) (decide (n < 0))
  rwa [nv_abs, nv_abs, sg_abs, sg_abs] at this
theorem wsub_W : callE T0 X0 f_whole_Sub [.d (Wd m), .d (Wd n)] [] = some (.ret [.d (Wd (m - n))] []) := by
  have := wsub_raw (limbs_good m.natAbs) (limbs_good n.natAbs) hm hn (decide (m < 0)) (decide (n < 0))
  rwa [nv_abs, nv_abs, sg_abs, sg_abs] at this
theorem wmul_W : callE T0 X0 f_whole_Mul [.d (Wd m), .d (Wd n)] [] = some (.ret [.d (Wd (m * n))] []) := by
  have := wmul_raw (limbs_good m.natAbs) (limbs_good n.natAbs) hm hn (decide (m < 0)) (decide (n < 0))
  rwa [nv_abs, nv_abs, sg_abs, sg_abs] at this
end W
end Go.Rf

/- lang: the reader's small steps. -/
namespace Go.Rf

structure Rd where
  ts : List Tok
  i : Nat
  vs : List (List UInt8)
  op : Int
/-- The reader's objects: itself, and its marks. -/
def Rd.heap (r : Rd) : List Obj := [.arr [.agg [.d (.sl (LT r.ts)), .d (.int .i64 r.i), .d (.sl (SL r.vs)), .d (.int .i64 r.op), .map (.b 1)]] ⟨5, 0⟩, .map []]
def Rd.tok (r : Rd) : Tok := r.ts.getD r.i ⟨0, [], emptyPl⟩
structure Rd.ok (r : Rd) : Prop where
  i : r.i < r.ts.length
  n : r.ts.length ≤ 5000
  mid : ∀ j, j + 1 < r.ts.length → (r.ts.getD j ⟨0, [], emptyPl⟩).kind ≠ 0
  fin : ∀ j, r.ts.length = j + 1 → (r.ts.getD j ⟨0, [], emptyPl⟩).kind = 0
  vs : r.vs.length ≤ 16
  op : 0 ≤ r.op ∧ r.op ≤ 16
  tx : ∀ t ∈ r.ts, t.text.length ≤ 1100000
  tv : ∀ k, (Rf.tx r.vs k).length ≤ 1100000

theorem LT_get' {l : List Tok} {i : Nat} (h : i < l.length) : (LT l)[i]? = some (.agg (l.getD i ⟨0, [], emptyPl⟩).cs) := by simp [LT, h]

theorem here_spec {r : Rd} (h : r.ok) : callE T0 X0 f_lang_reader_here [.ptr (.b 0) 0 0] r.heap = some (.ret [.d (.agg r.tok.cs)] r.heap) := by
  rw [callX_fun (af := a_lang_reader_here) rfl rfl rfl]
  have h1 := h.i
  have h2 := h.n
  have h3 := LT_get' h1
  unfold Rd.heap Rd.tok
  generalize r.ts.getD r.i ⟨0, [], emptyPl⟩ = t at *
  simp only [Tok.cs] at *
  simp -implicitDefEqProofs (disch := omega) [a_lang_reader_here, h3]
  done
def faultD (e : Int) (p : Pl) : D := .iface t_lang_fault (.agg [.int .i64 e, .int .i64 p.b, .int .i64 p.g, .int .i64 p.l, .int .i64 p.c])
theorem need_true (r : Rd) (e : Int) : callE T0 X0 f_lang_reader_need [.ptr (.b 0) 0 0, .d (.bool true), .d (.int .i64 e)] r.heap = some (.ret [] r.heap) := by
  rw [callX_fun (af := a_lang_reader_need) rfl rfl rfl]
  unfold Rd.heap
  simp -implicitDefEqProofs (disch := omega) [a_lang_reader_need]
  done
theorem need_false {r : Rd} (h : r.ok) (e : Int) : callE T0 X0 f_lang_reader_need [.ptr (.b 0) 0 0, .d (.bool false), .d (.int .i64 e)] r.heap = some (.pan (.d (faultD e r.tok.pos)) r.heap) := by
  rw [callX_fun (af := a_lang_reader_need) rfl rfl rfl]
  have s1 := here_spec h
  unfold Rd.heap faultD at *
  generalize r.tok = t at *
  simp only [Tok.cs] at *
  simp -implicitDefEqProofs (disch := omega) [a_lang_reader_need, s1]
  done
end Go.Rf

/- lang: the reader's small steps. -/
namespace Go.Rf

def Rd.next (r : Rd) : Rd := if r.tok.kind = 0 then r else { r with i := r.i + 1 }
theorem Rd.next_ok {r : Rd} (h : r.ok) : r.next.ok := by
  unfold Rd.next
  split
  · exact h
  · rename_i hk
    have hi := h.i
    refine ⟨?_, h.n, h.mid, h.fin, h.vs, h.op, h.tx, h.tv⟩
    show r.i + 1 < r.ts.length
    by_cases hl : r.i + 1 < r.ts.length
    · exact hl
    · exact absurd (h.fin r.i (by omega)) hk
theorem pass_rd_spec {r : Rd} (h : r.ok) : callE T0 X0 f_lang_reader_pass [.ptr (.b 0) 0 0] r.heap = some (.ret [.d (.agg r.tok.cs)] r.next.heap) := by
  rw [callX_fun (af := a_lang_reader_pass) rfl rfl rfl]
  have s1 := here_spec h
  have h1 := h.i
  have h2 := h.n
  unfold Rd.next
  by_cases hk : r.tok.kind = 0
  · rw [if_pos hk]
    unfold Rd.heap at *
    generalize r.tok = t at *
    simp only [Tok.cs] at *
    simp -implicitDefEqProofs (disch := omega) [a_lang_reader_pass, s1]
    done
  · rw [if_neg hk]
    unfold Rd.heap at *
    generalize r.tok = t at *
    simp only [Tok.cs] at *
    simp -implicitDefEqProofs (disch := omega) [a_lang_reader_pass, s1]
    done
def Rd.isT (r : Rd) (s : List UInt8) : Bool := decide (r.tok.text = s ∧ (r.tok.kind = 3 ∨ r.tok.kind = 1))
theorem is_spec {r : Rd} (h : r.ok) (s : List UInt8) (hs : s.length ≤ 1100000) : callE T0 X0 f_lang_reader_is [.ptr (.b 0) 0 0, .d (.str s)] r.heap = some (.ret [.d (.bool (r.isT s))] (if r.isT s then r.next else r).heap) := by
  rw [callX_fun (af := a_lang_reader_is) rfl rfl rfl]
  have s1 := here_spec h
  have s2 := pass_rd_spec h
  unfold Rd.isT
  by_cases ht : r.tok.text = s
  · have hb : (r.tok.text == s) = true := by simp [ht]
    by_cases hk : r.tok.kind = 3
    · rw [if_pos (by simp [ht, hk]), decide_eq_true (by simp [ht, hk])]
      unfold Rd.heap at *
      generalize r.tok = t at *
      simp only [Tok.cs] at *
      simp -implicitDefEqProofs (disch := omega) [a_lang_reader_is, s1, s2, hb]
      done
    · by_cases hk1 : r.tok.kind = 1
      · rw [if_pos (by simp [ht, hk1]), decide_eq_true (by simp [ht, hk1])]
        unfold Rd.heap at *
        generalize r.tok = t at *
        simp only [Tok.cs] at *
        simp -implicitDefEqProofs (disch := omega) [a_lang_reader_is, s1, s2, hb]
        done
      · rw [if_neg (by simp [ht, hk, hk1]), decide_eq_false (by simp [ht, hk, hk1])]
        unfold Rd.heap at *
        generalize r.tok = t at *
        simp only [Tok.cs] at *
        simp -implicitDefEqProofs (disch := omega) [a_lang_reader_is, s1, s2, hb]
        done
  · have hb : (r.tok.text == s) = false := by simp [ht]
    rw [if_neg (by simp [ht]), decide_eq_false (by simp [ht])]
    unfold Rd.heap at *
    generalize r.tok = t at *
    simp only [Tok.cs] at *
    simp -implicitDefEqProofs (disch := omega) [a_lang_reader_is, s1, s2, hb]
    done
theorem must_true {r : Rd} (h : r.ok) {s : List UInt8} (hs : s.length ≤ 1100000) (hi : r.isT s = true) : callE T0 X0 f_lang_reader_must [.ptr (.b 0) 0 0, .d (.str s)] r.heap = some (.ret [] r.next.heap) := by
  rw [callX_fun (af := a_lang_reader_must) rfl rfl rfl]
  have s1 := is_spec h s hs
  rw [hi, if_pos rfl] at s1
  have s2 := need_true r.next 80
  unfold Rd.heap at *
  simp -implicitDefEqProofs (disch := omega) [a_lang_reader_must, s1, s2]
  done
theorem must_false {r : Rd} (h : r.ok) {s : List UInt8} (hs : s.length ≤ 1100000) (hi : r.isT s = false) : callE T0 X0 f_lang_reader_must [.ptr (.b 0) 0 0, .d (.str s)] r.heap = some (.pan (.d (faultD 80 r.tok.pos)) r.heap) := by
  rw [callX_fun (af := a_lang_reader_must) rfl rfl rfl]
  have s1 := is_spec h s hs
  rw [hi, if_neg (by simp)] at s1
  have s2 := need_false h 80
  unfold Rd.heap at *
  simp -implicitDefEqProofs (disch := omega) [a_lang_reader_must, s1, s2]
  done
end Go.Rf

/- lang: names, brackets. -/
namespace Go.Rf

def words : List (List UInt8) := [[118, 97, 114, 115], [97, 110, 121], [115, 107, 105, 112], [115, 116, 111, 112], [109, 97, 114, 107], [99, 104, 111, 111, 115, 101], [111, 114], [108, 111, 111, 112], [105, 102], [101, 108, 115, 101], [119, 104, 105, 108, 101]]
def isWord (s : List UInt8) : Bool := words.contains s
theorem word_spec (s : List UInt8) (hs : s.length ≤ 1100000) : callE T0 X0 f_lang_word [.d (.str s)] [] = some (.ret [.d (.bool (isWord s))] []) := by
  rw [callX_fun (af := a_lang_word) rfl rfl rfl]
  by_cases h : s = [118, 97, 114, 115] ∨ s = [97, 110, 121] ∨ s = [115, 107, 105, 112] ∨ s = [115, 116, 111, 112] ∨ s = [109, 97, 114, 107] ∨ s = [99, 104, 111, 111, 115, 101] ∨ s = [111, 114] ∨ s = [108, 111, 111, 112] ∨ s = [105, 102] ∨ s = [101, 108, 115, 101] ∨ s = [119, 104, 105, 108, 101]
  · rcases h with rfl | rfl | rfl | rfl | rfl | rfl | rfl | rfl | rfl | rfl | rfl <;>
      simp -implicitDefEqProofs (disch := omega) [a_lang_word, isWord, words]
  · have e : isWord s = false := by
      unfold isWord words
      simp only [List.contains_eq_mem, List.mem_cons, List.not_mem_nil, or_false, decide_eq_false_iff_not]
      exact h
    rw [e]
    simp only [not_or] at h
    obtain ⟨h0, h1, h2, h3, h4, h5, h6, h7, h8, h9, h10⟩ := h
    have b0 : (s == [118, 97, 114, 115]) = false := by rw [beq_eq_false_iff_ne]; exact h0
    have b1 : (s == [97, 110, 121]) = false := by rw [beq_eq_false_iff_ne]; exact h1
    have b2 : (s == [115, 107, 105, 112]) = false := by rw [beq_eq_false_iff_ne]; exact h2
    have b3 : (s == [115, 116, 111, 112]) = false := by rw [beq_eq_false_iff_ne]; exact h3
    have b4 : (s == [109, 97, 114, 107]) = false := by rw [beq_eq_false_iff_ne]; exact h4
    have b5 : (s == [99, 104, 111, 111, 115, 101]) = false := by rw [beq_eq_false_iff_ne]; exact h5
    have b6 : (s == [111, 114]) = false := by rw [beq_eq_false_iff_ne]; exact h6
    have b7 : (s == [108, 111, 111, 112]) = false := by rw [beq_eq_false_iff_ne]; exact h7
    have b8 : (s == [105, 102]) = false := by rw [beq_eq_false_iff_ne]; exact h8
    have b9 : (s == [101, 108, 115, 101]) = false := by rw [beq_eq_false_iff_ne]; exact h9
    have b10 : (s == [119, 104, 105, 108, 101]) = false := by rw [beq_eq_false_iff_ne]; exact h10
    simp -implicitDefEqProofs (disch := omega) [a_lang_word, b0, b1, b2, b3, b4, b5, b6, b7, b8, b9, b10]
    done
def Rd.isName (r : Rd) : Bool := decide (r.tok.kind = 1) && !isWord r.tok.text
theorem tok_mem {r : Rd} (h : r.ok) : r.tok.text.length ≤ 1100000 := by
  unfold Rd.tok
  have := h.i
  simp [this]
  exact h.tx _ (List.getElem_mem this)
theorem name_rd_spec {r : Rd} (h : r.ok) : callE T0 X0 f_lang_reader_name [.ptr (.b 0) 0 0] r.heap = some (.ret [.d (.bool r.isName)] r.heap) := by
  rw [callX_fun (af := a_lang_reader_name) rfl rfl rfl]
  have s1 := here_spec h
  have s2 := word_spec r.tok.text (tok_mem h)
  have ht := tok_mem h
  unfold Rd.isName
  by_cases hk : r.tok.kind = 1
  · rw [decide_eq_true hk]
    unfold Rd.heap at *
    generalize r.tok = t at *
    simp only [Tok.cs] at *
    cases hw : isWord t.text <;> rw [hw] at s2 <;> simp -implicitDefEqProofs (disch := omega) [a_lang_reader_name, s1, s2]
    done
  · rw [decide_eq_false hk]
    unfold Rd.heap at *
    generalize r.tok = t at *
    simp only [Tok.cs] at *
    simp -implicitDefEqProofs (disch := omega) [a_lang_reader_name, s1]
    done
/-- Which variable is it? -/
def varF (vs : List (List UInt8)) (s : List UInt8) : Nat → Nat → Int
  | 0, _ => -1
  | d + 1, i => if s = tx vs i then i else varF vs s d (i + 1)
theorem varF_le (vs) (s) : ∀ d i, d + i = vs.length → -1 ≤ varF vs s d i ∧ varF vs s d i < vs.length
  | 0, i, h => by simp only [varF]; omega
  | d + 1, i, h => by
    unfold varF
    split
    · omega
    · exact varF_le vs s d (i + 1) (by omega)
theorem var_loop {r : Rd} (h : r.ok) (s : List UInt8) (hs : s.length ≤ 1100000) : ∀ d i (e : List (Nat × V)), d + i = r.vs.length →
    codeX T0 X0 2 a_lang_reader_variable_l0 (some (.nrm, ⟨(1, .d (.str s)) :: (10, .d (.sl (SL r.vs))) :: (11, .d (.int .i64 r.vs.length)) :: (12, .d (.int .i64 i)) :: e, r.heap⟩)) =
      if varF r.vs s d i = -1 then some (.exit 0, ⟨[], r.heap⟩) else some (.ret, ⟨[(4, .d (.int .i64 (varF r.vs s d i)))], r.heap⟩) := by
  have hv := h.vs
  intro d
  induction d with
  | zero =>
    intro i e hi
    have : i = r.vs.length := by omega
    subst this
    rw [codeX_loop (l := a_lang_reader_variable_l0) rfl, if_pos (show varF r.vs s 0 r.vs.length = -1 from rfl)]
    unfold Rd.heap
    simp -implicitDefEqProofs (disch := omega) [a_lang_reader_variable_b0]
    done
  | succ d ih =>
    intro i e hi
    rw [codeX_loop (l := a_lang_reader_variable_l0) rfl]
    have h1 := h.tv i
    by_cases he : s = tx r.vs i
    · rw [show varF r.vs s (d + 1) i = i by simp only [varF, if_pos he], if_neg (by omega)]
      have hb : (s == tx r.vs i) = true := by rw [← he]; simp
      unfold Rd.heap
      simp -implicitDefEqProofs (disch := omega) [a_lang_reader_variable_b0, hb]
      done
    · rw [show varF r.vs s (d + 1) i = varF r.vs s d (i + 1) by simp only [varF, if_neg he]]
      have hb : (s == tx r.vs i) = false := by rw [beq_eq_false_iff_ne]; exact he
      rw [← ih (i + 1) [] (by omega)]
      unfold Rd.heap
      simp -implicitDefEqProofs (disch := omega) [a_lang_reader_variable_b0, hb]
      done
def Rd.var (r : Rd) (s : List UInt8) : Int := varF r.vs s r.vs.length 0
theorem var_spec {r : Rd} (h : r.ok) (s : List UInt8) (hs : s.length ≤ 1100000) : callE T0 X0 f_lang_reader_variable [.ptr (.b 0) 0 0, .d (.str s)] r.heap = some (.ret [.d (.int .i64 (r.var s))] r.heap) := by
  rw [callX_fun (af := a_lang_reader_variable) rfl rfl rfl]
  have hv := h.vs
  have s1 := var_loop h s hs r.vs.length 0 [] rfl
  unfold Rd.var
  by_cases hz : varF r.vs s r.vs.length 0 = -1
  · rw [if_pos hz] at s1
    rw [hz]
    unfold Rd.heap at *
    simp only [Int.cast_ofNat_Int] at s1
    simp -implicitDefEqProofs (disch := omega) [a_lang_reader_variable, s1]
    done
  · rw [if_neg hz] at s1
    unfold Rd.heap at *
    simp only [Int.cast_ofNat_Int] at s1
    simp -implicitDefEqProofs (disch := omega) [a_lang_reader_variable, s1]
    done
/-- A bracket opened; or the fault. -/
def Rd.into (r : Rd) (s : List UInt8) : Option Int := if r.tok.kind = 3 ∧ r.tok.text = s then (if r.op < 16 then none else some 83) else some 80
def Rd.opened (r : Rd) : Rd := { r with op := r.op + 1 }
theorem Rd.opened_ok {r : Rd} (h : r.ok) (hi : r.op < 16) : r.opened.ok := ⟨h.i, h.n, h.mid, h.fin, h.vs, by have := h.op; exact ⟨by show 0 ≤ r.op + 1; omega, by show r.op + 1 ≤ 16; omega⟩, h.tx, h.tv⟩
theorem into_none {r : Rd} (h : r.ok) {s : List UInt8} (hs : s.length ≤ 1100000) (hi : r.into s = none) : callE T0 X0 f_lang_reader_into [.ptr (.b 0) 0 0, .d (.str s)] r.heap = some (.ret [] r.opened.next.heap) := by
  rw [callX_fun (af := a_lang_reader_into) rfl rfl rfl]
  have ht := tok_mem h
  unfold Rd.into at hi
  by_cases hc : r.tok.kind = 3 ∧ r.tok.text = s
  · rw [if_pos hc] at hi
    by_cases ho : r.op < 16
    · have s1 := here_spec h
      have s2 := need_true r 80
      have s3 := need_true r 83
      have s4 := pass_rd_spec (Rd.opened_ok h ho)
      have h4 := h.op
      have hb : (r.tok.text == s) = true := by rw [hc.2]; simp
      have hk := hc.1
      unfold Rd.heap at *
      generalize r.opened.tok = t2 at *
      generalize r.tok = t at *
      simp only [Tok.cs, Rd.opened] at *
      simp -implicitDefEqProofs (disch := omega) [a_lang_reader_into, s1, s2, s3, s4, hb]
      done
    · rw [if_neg ho] at hi; cases hi
  · rw [if_neg hc] at hi; cases hi
theorem into_some {r : Rd} (h : r.ok) {s : List UInt8} (hs : s.length ≤ 1100000) {e : Int} (hi : r.into s = some e) : callE T0 X0 f_lang_reader_into [.ptr (.b 0) 0 0, .d (.str s)] r.heap = some (.pan (.d (faultD e r.tok.pos)) r.heap) := by
  rw [callX_fun (af := a_lang_reader_into) rfl rfl rfl]
  have ht := tok_mem h
  have s1 := here_spec h
  have h4 := h.op
  unfold Rd.into at hi
  by_cases hc : r.tok.kind = 3 ∧ r.tok.text = s
  · rw [if_pos hc] at hi
    by_cases ho : r.op < 16
    · rw [if_pos ho] at hi; cases hi
    · rw [if_neg ho] at hi
      cases hi
      have s2 := need_true r 80
      have s3 := need_false h 83
      have hb : (r.tok.text == s) = true := by rw [hc.2]; simp
      have hk := hc.1
      unfold Rd.heap faultD at *
      generalize r.tok = t at *
      simp only [Tok.cs] at *
      simp -implicitDefEqProofs (disch := omega) [a_lang_reader_into, s1, s2, s3, hb]
      done
  · rw [if_neg hc] at hi
    cases hi
    have s3 := need_false h 80
    by_cases hk : r.tok.kind = 3
    · have hb : (r.tok.text == s) = false := by rw [beq_eq_false_iff_ne]; exact fun e => hc ⟨hk, e⟩
      unfold Rd.heap faultD at *
      generalize r.tok = t at *
      simp only [Tok.cs] at *
      simp -implicitDefEqProofs (disch := omega) [a_lang_reader_into, s1, s3, hb]
      done
    · unfold Rd.heap faultD at *
      generalize r.tok = t at *
      simp only [Tok.cs] at *
      simp -implicitDefEqProofs (disch := omega) [a_lang_reader_into, s1, s3]
      done
def Rd.closed (r : Rd) : Rd := { r with op := r.op - 1 }
theorem Rd.closed_ok {r : Rd} (h : r.ok) (hi : 0 < r.op) : r.closed.ok := ⟨h.i, h.n, h.mid, h.fin, h.vs, by have := h.op; exact ⟨by show 0 ≤ r.op - 1; omega, by show r.op - 1 ≤ 16; omega⟩, h.tx, h.tv⟩
theorem Rd.next_op (r : Rd) : r.next.op = r.op ∧ r.next.ts = r.ts ∧ r.next.vs = r.vs := by unfold Rd.next; split <;> exact ⟨rfl, rfl, rfl⟩
theorem out_true {r : Rd} (h : r.ok) {s : List UInt8} (hs : s.length ≤ 1100000) (hi : r.isT s = true) : callE T0 X0 f_lang_reader_out [.ptr (.b 0) 0 0, .d (.str s)] r.heap = some (.ret [] r.next.closed.heap) := by
  rw [callX_fun (af := a_lang_reader_out) rfl rfl rfl]
  have s1 := must_true h hs hi
  have h4 := h.op
  have h5 := r.next_op.1
  unfold Rd.heap Rd.closed at *
  simp -implicitDefEqProofs (disch := omega) [a_lang_reader_out, s1]
  done
theorem out_false {r : Rd} (h : r.ok) {s : List UInt8} (hs : s.length ≤ 1100000) (hi : r.isT s = false) : callE T0 X0 f_lang_reader_out [.ptr (.b 0) 0 0, .d (.str s)] r.heap = some (.pan (.d (faultD 80 r.tok.pos)) r.heap) := by
  rw [callX_fun (af := a_lang_reader_out) rfl rfl rfl]
  have s1 := must_false h hs hi
  unfold Rd.heap faultD at *
  simp -implicitDefEqProofs (disch := omega) [a_lang_reader_out, s1]
  done

/-! ### Expressions -/
inductive Nd where
  | num (n : Int)
  | name (v : Int) (s : List UInt8)
  | minus (x : Nd)
  | two (op : Int) (l r : Nd)
def Nd.d : Nd → D
  | .num n => .iface t_lang_Number (Wd n)
  | .name v s => .iface t_lang_Name (.agg [.int .i64 v, .str s])
  | .minus x => .iface t_lang_Minus (.agg [x.d])
  | .two op l r => .iface t_lang_Two (.agg [.int .u8 op, l.d, r.d])
@[simp] theorem cells_nd (x : Nd) : V.cells (.d x.d) = [.d x.d] := by cases x <;> rfl
theorem Nd.d_iface (x : Nd) : ∃ t y, x.d = .iface t y := by cases x <;> exact ⟨_, _, rfl⟩
end Go.Rf

/- lang: expressions. -/
namespace Go.Rf

/-- A text that is read as a number without a sign. -/
def NumTx (s : List UInt8) : Prop := s.length ≤ 4096 ∧ (dec s 0).1 ≠ 45 ∧ (dec s 0).1 ≠ 8722
theorem wparse_spec {s : List UInt8} (h : NumTx s) : ∃ e, callE T0 X0 f_whole_Parse [.d (.str s)] [] = some (.ret [.d (Wd (numV s)), .d (.int .i64 e)] []) := by
  obtain ⟨hl, h1, h2⟩ := h
  have hn := numV_ok hl
  have hk : (limbs (numV s)).length ≤ 456 := limbs_len hn.1 (by have := (tens_pw 456).2; omega)
  have s1 := parse_spec (s := s) (by omega)
  have s2 := made_spec false hn.1 (by omega)
  have lp : codeX T0 X0 0 a_whole_Parse_l0 (some (.nrm, ⟨[(0, .d (.str s)), (2, .ptr (.b 0) 0 0), (4, .d (.bool false)), (10, .iter (.b 1))], [.arr [.d (.agg [.bool false, .sl []])] ⟨2, 0⟩, .iter s 0]⟩)) =
      some (.exit 0, ⟨[(0, .d (.str s)), (2, .ptr (.b 0) 0 0), (4, .d (.bool false))], [.arr [.d (.agg [.bool false, .sl []])] ⟨2, 0⟩]⟩) := by
    rw [codeX_loop (l := a_whole_Parse_l0) rfl]
    by_cases h0 : 0 < s.length
    · have d1 := dec_okp h0
      simp -implicitDefEqProofs (disch := omega) [a_whole_Parse_b0]
    · simp -implicitDefEqProofs (disch := omega) [a_whole_Parse_b0]
  rw [callX_fun (af := a_whole_Parse) rfl rfl rfl]
  unfold numV at *
  cases hp : parseV s with
  | none =>
    rw [hp] at s1
    refine ⟨10, ?_⟩
    simp -implicitDefEqProofs (disch := omega) [a_whole_Parse, lp, s1, Wd]
    done
  | some v =>
    rw [hp] at s1 s2 hk
    simp only [Option.getD_some, sg_false] at s2 hk
    refine ⟨0, ?_⟩
    simp -implicitDefEqProofs (disch := omega) [a_whole_Parse, lp, s1, s2, Wd]
    done

inductive Rs where
  | ok (x : Nd) (r : Rd)
  | bad (e : Int) (p : Pl) (r : Rd)
def Rs.out : Rs → Option CRes
  | .ok x r => some (.ret [.d x.d] r.heap)
  | .bad e p r => some (.pan (.d (faultD e p)) r.heap)
/-- What a loop ends with. -/
def Rs.end : Rs → Option (Ex × St)
  | .ok x r => some (.ret, ⟨[(2, .d x.d)], r.heap⟩)
  | .bad e p r => some (.pan (.d (faultD e p)), ⟨[], r.heap⟩)
def Rs.bind : Rs → (Nd → Rd → Rs) → Rs
  | .ok x r, f => f x r
  | .bad e p r, _ => .bad e p r
inductive Md where
  | u
  | p
  | s
  | lp (x : Nd)
  | ls (x : Nd)
def rd : Nat → Md → Rd → Rs
  | 0, _, r => .bad 80 emptyPl r
  | n + 1, .u, r =>
    if r.isT [45] = true then (rd n .u r.next).bind fun x r => .ok (.minus x) r
    else if r.tok.kind = 2 then .ok (.num (numV r.tok.text)) r.next
    else if r.isName = true then (if 0 ≤ r.var r.tok.text then .ok (.name (r.var r.tok.text) r.tok.text) r.next else .bad 81 r.tok.pos r)
    else match r.into [40] with
      | some e => .bad e r.tok.pos r
      | none => (rd n .s r.opened.next).bind fun x r => if r.isT [41] = true then .ok x r.next.closed else .bad 80 r.tok.pos r
  | n + 1, .p, r => (rd n .u r).bind fun x r => rd n (.lp x) r
  | n + 1, .s, r => (rd n .p r).bind fun x r => rd n (.ls x) r
  | n + 1, .lp x, r =>
    if r.isT [42] = true then (rd n .u r.next).bind fun y r => rd n (.lp (.two 42 x y)) r
    else if r.isT [47] = true then (rd n .u r.next).bind fun y r => rd n (.lp (.two 47 x y)) r
    else if r.isT [37] = true then (rd n .u r.next).bind fun y r => rd n (.lp (.two 37 x y)) r
    else .ok x r
  | n + 1, .ls x, r =>
    if r.isT [43] = true then (rd n .p r.next).bind fun y r => rd n (.ls (.two 43 x y)) r
    else if r.isT [45] = true then (rd n .p r.next).bind fun y r => rd n (.ls (.two 45 x y)) r
    else .ok x r

/-- What is kept. -/
structure Kept (r r' : Rd) : Prop where
  ok : r'.ok
  ts : r'.ts = r.ts
  vs : r'.vs = r.vs
  op : r'.op = r.op
  i : r.i ≤ r'.i
def Rs.fine (r : Rd) (d : Nat) : Rs → Prop
  | .ok _ r' => Kept r r' ∧ r.i + d ≤ r'.i
  | .bad _ _ _ => True
theorem Kept.refl {r : Rd} (h : r.ok) : Kept r r := ⟨h, rfl, rfl, rfl, Nat.le_refl _⟩
theorem Kept.trans {a b c : Rd} (h : Kept a b) (k : Kept b c) : Kept a c := ⟨k.ok, k.ts.trans h.ts, k.vs.trans h.vs, k.op.trans h.op, Nat.le_trans h.i k.i⟩
theorem Kept.next {r : Rd} (h : r.ok) : Kept r r.next := ⟨Rd.next_ok h, r.next_op.2.1, r.next_op.2.2, r.next_op.1, by unfold Rd.next; split <;> simp⟩
theorem next_i {r : Rd} (h : r.tok.kind ≠ 0) : r.next.i = r.i + 1 := by unfold Rd.next; rw [if_neg h]
theorem isT_kind {r : Rd} {s} (h : r.isT s = true) : r.tok.kind ≠ 0 := by
  unfold Rd.isT at h
  have := of_decide_eq_true h
  omega

/-- All five, with so much fuel. -/
structure Reads (n : Nat) (ts : List Tok) : Prop where
  u : ∀ r : Rd, r.ok → r.ts = ts → 4 * (ts.length - r.i) + 1 ≤ n → callE T0 X0 f_lang_reader_unary [.ptr (.b 0) 0 0] r.heap = (rd n .u r).out ∧ (rd n .u r).fine r 1
  p : ∀ r : Rd, r.ok → r.ts = ts → 4 * (ts.length - r.i) + 2 ≤ n → callE T0 X0 f_lang_reader_product [.ptr (.b 0) 0 0] r.heap = (rd n .p r).out ∧ (rd n .p r).fine r 1
  s : ∀ r : Rd, r.ok → r.ts = ts → 4 * (ts.length - r.i) + 3 ≤ n → callE T0 X0 f_lang_reader_sum [.ptr (.b 0) 0 0] r.heap = (rd n .s r).out ∧ (rd n .s r).fine r 1
  lp : ∀ (r : Rd) (x : Nd), r.ok → r.ts = ts → 4 * (ts.length - r.i) + 1 ≤ n → codeX T0 X0 2 a_lang_reader_product_l0 (some (.nrm, ⟨[(0, .ptr (.b 0) 0 0), (3, .d x.d)], r.heap⟩)) = (rd n (.lp x) r).end ∧ (rd n (.lp x) r).fine r 0
  ls : ∀ (r : Rd) (x : Nd), r.ok → r.ts = ts → 4 * (ts.length - r.i) + 1 ≤ n → codeX T0 X0 2 a_lang_reader_sum_l0 (some (.nrm, ⟨[(0, .ptr (.b 0) 0 0), (3, .d x.d)], r.heap⟩)) = (rd n (.ls x) r).end ∧ (rd n (.ls x) r).fine r 0

theorem reads_p {n : Nat} {ts : List Tok} (ih : Reads n ts) (r : Rd) (h : r.ok) (ht : r.ts = ts) (hn : 4 * (ts.length - r.i) + 2 ≤ n + 1) :
    callE T0 X0 f_lang_reader_product [.ptr (.b 0) 0 0] r.heap = (rd (n + 1) .p r).out ∧ (rd (n + 1) .p r).fine r 1 := by
  obtain ⟨s1, f1⟩ := ih.u r h ht (by omega)
  rw [callX_fun (af := a_lang_reader_product) rfl rfl rfl]
  unfold rd
  cases hu : rd n .u r with
  | bad e p r' =>
    rw [hu] at s1
    refine ⟨?_, trivial⟩
    simp only [Rs.bind, Rs.out, Rd.heap, faultD] at *
    simp -implicitDefEqProofs (disch := omega) [a_lang_reader_product, s1]
    done
  | ok x r' =>
    rw [hu] at s1 f1
    obtain ⟨k1, k2⟩ := f1
    obtain ⟨s2, f2⟩ := ih.lp r' x k1.ok (k1.ts.trans ht) (by omega)
    simp only [Rs.bind]
    refine ⟨?_, ?_⟩
    · cases hv : rd n (.lp x) r' with
      | bad e p r2 =>
        rw [hv] at s2
        simp only [Rs.end, Rs.out, Rd.heap, faultD] at *
        simp -implicitDefEqProofs (disch := omega) [a_lang_reader_product, s1, s2]
        done
      | ok y r2 =>
        rw [hv] at s2
        simp only [Rs.end, Rs.out, Rd.heap] at *
        simp -implicitDefEqProofs (disch := omega) [a_lang_reader_product, s1, s2]
        done
    · cases hv : rd n (.lp x) r' with
      | bad e p r2 => trivial
      | ok y r2 =>
        rw [hv] at f2
        exact ⟨k1.trans f2.1, by have := f2.2; omega⟩
theorem reads_s {n : Nat} {ts : List Tok} (ih : Reads n ts) (r : Rd) (h : r.ok) (ht : r.ts = ts) (hn : 4 * (ts.length - r.i) + 3 ≤ n + 1) :
    callE T0 X0 f_lang_reader_sum [.ptr (.b 0) 0 0] r.heap = (rd (n + 1) .s r).out ∧ (rd (n + 1) .s r).fine r 1 := by
  obtain ⟨s1, f1⟩ := ih.p r h ht (by omega)
  rw [callX_fun (af := a_lang_reader_sum) rfl rfl rfl]
  unfold rd
  cases hu : rd n .p r with
  | bad e p r' =>
    rw [hu] at s1
    refine ⟨?_, trivial⟩
    simp only [Rs.bind, Rs.out, Rd.heap, faultD] at *
    simp -implicitDefEqProofs (disch := omega) [a_lang_reader_sum, s1]
    done
  | ok x r' =>
    rw [hu] at s1 f1
    obtain ⟨k1, k2⟩ := f1
    obtain ⟨s2, f2⟩ := ih.ls r' x k1.ok (k1.ts.trans ht) (by omega)
    simp only [Rs.bind]
    refine ⟨?_, ?_⟩
    · cases hv : rd n (.ls x) r' with
      | bad e p r2 =>
        rw [hv] at s2
        simp only [Rs.end, Rs.out, Rd.heap, faultD] at *
        simp -implicitDefEqProofs (disch := omega) [a_lang_reader_sum, s1, s2]
        done
      | ok y r2 =>
        rw [hv] at s2
        simp only [Rs.end, Rs.out, Rd.heap] at *
        simp -implicitDefEqProofs (disch := omega) [a_lang_reader_sum, s1, s2]
        done
    · cases hv : rd n (.ls x) r' with
      | bad e p r2 => trivial
      | ok y r2 =>
        rw [hv] at f2
        exact ⟨k1.trans f2.1, by have := f2.2; omega⟩

theorem reads_lp {n : Nat} {ts : List Tok} (ih : Reads n ts) (r : Rd) (x : Nd) (h : r.ok) (ht : r.ts = ts) (hn : 4 * (ts.length - r.i) + 1 ≤ n + 1) :
    codeX T0 X0 2 a_lang_reader_product_l0 (some (.nrm, ⟨[(0, .ptr (.b 0) 0 0), (3, .d x.d)], r.heap⟩)) = (rd (n + 1) (.lp x) r).end ∧ (rd (n + 1) (.lp x) r).fine r 0 := by
  have hi : r.i < ts.length := ht ▸ h.i
  have a1 := is_spec h [42] (by simp)
  have a2 := is_spec h [47] (by simp)
  have a3 := is_spec h [37] (by simp)
  rw [codeX_loop (l := a_lang_reader_product_l0) rfl]
  unfold rd
  have go : ∀ op, r.tok.kind ≠ 0 → (∃ (b : Rs), rd n .u r.next = b ∧ callE T0 X0 f_lang_reader_unary [.ptr (.b 0) 0 0] r.next.heap = b.out ∧ b.fine r.next 1 ∧
      ∀ y r', b = .ok y r' → (codeX T0 X0 2 a_lang_reader_product_l0 (some (.nrm, ⟨[(0, .ptr (.b 0) 0 0), (3, .d (Nd.d (.two op x y)))], r'.heap⟩)) = (rd n (.lp (.two op x y)) r').end ∧ (rd n (.lp (.two op x y)) r').fine r' 0 ∧ Kept r r')) := by
    intro op hk
    have hni := next_i hk
    have hno := r.next_op
    obtain ⟨s1, f1⟩ := ih.u r.next (Rd.next_ok h) (hno.2.1.trans ht) (by omega)
    refine ⟨_, rfl, s1, f1, fun y r' hb => ?_⟩
    rw [hb] at f1
    obtain ⟨k1, k2⟩ := f1
    obtain ⟨s2, f2⟩ := ih.lp r' (.two op x y) k1.ok (k1.ts.trans (hno.2.1.trans ht)) (by omega)
    exact ⟨s2, f2, (Kept.next h).trans k1⟩
  by_cases c1 : r.isT [42] = true
  · rw [if_pos c1]
    rw [c1, if_pos rfl] at a1
    obtain ⟨b, hb, s1, f1, g⟩ := go 42 (isT_kind c1)
    rw [hb]
    cases b with
    | bad e p r' =>
      refine ⟨?_, trivial⟩
      simp only [Rs.bind, Rs.end, Rs.out, Rd.heap, faultD] at *
      simp -implicitDefEqProofs (disch := omega) [a_lang_reader_product_b0, a1, s1]
      done
    | ok y r' =>
      obtain ⟨s2, f2, k⟩ := g y r' rfl
      simp only [Rs.bind]
      refine ⟨?_, ?_⟩
      · rw [← s2]
        simp only [Rs.out, Rd.heap] at *
        simp -implicitDefEqProofs (disch := omega) [a_lang_reader_product_b0, a1, s1, Nd.d]
        done
      · cases hv : rd n (.lp (.two 42 x y)) r' with
        | bad e p r2 => trivial
        | ok z r2 =>
          rw [hv] at f2
          exact ⟨k.trans f2.1, (k.trans f2.1).i⟩
  rw [if_neg c1]
  have d1 : r.isT [42] = false := by simpa using c1
  rw [d1, if_neg (by simp)] at a1
  by_cases c2 : r.isT [47] = true
  · rw [if_pos c2]
    rw [c2, if_pos rfl] at a2
    obtain ⟨b, hb, s1, f1, g⟩ := go 47 (isT_kind c2)
    rw [hb]
    cases b with
    | bad e p r' =>
      refine ⟨?_, trivial⟩
      simp only [Rs.bind, Rs.end, Rs.out, Rd.heap, faultD] at *
      simp -implicitDefEqProofs (disch := omega) [a_lang_reader_product_b0, a1, a2, s1]
      done
    | ok y r' =>
      obtain ⟨s2, f2, k⟩ := g y r' rfl
      simp only [Rs.bind]
      refine ⟨?_, ?_⟩
      · rw [← s2]
        simp only [Rs.out, Rd.heap] at *
        simp -implicitDefEqProofs (disch := omega) [a_lang_reader_product_b0, a1, a2, s1, Nd.d]
        done
      · cases hv : rd n (.lp (.two 47 x y)) r' with
        | bad e p r2 => trivial
        | ok z r2 =>
          rw [hv] at f2
          exact ⟨k.trans f2.1, (k.trans f2.1).i⟩
  rw [if_neg c2]
  have d2 : r.isT [47] = false := by simpa using c2
  rw [d2, if_neg (by simp)] at a2
  by_cases c3 : r.isT [37] = true
  · rw [if_pos c3]
    rw [c3, if_pos rfl] at a3
    obtain ⟨b, hb, s1, f1, g⟩ := go 37 (isT_kind c3)
    rw [hb]
    cases b with
    | bad e p r' =>
      refine ⟨?_, trivial⟩
      simp only [Rs.bind, Rs.end, Rs.out, Rd.heap, faultD] at *
      simp -implicitDefEqProofs (disch := omega) [a_lang_reader_product_b0, a1, a2, a3, s1]
      done
    | ok y r' =>
      obtain ⟨s2, f2, k⟩ := g y r' rfl
      simp only [Rs.bind]
      refine ⟨?_, ?_⟩
      · rw [← s2]
        simp only [Rs.out, Rd.heap] at *
        simp -implicitDefEqProofs (disch := omega) [a_lang_reader_product_b0, a1, a2, a3, s1, Nd.d]
        done
      · cases hv : rd n (.lp (.two 37 x y)) r' with
        | bad e p r2 => trivial
        | ok z r2 =>
          rw [hv] at f2
          exact ⟨k.trans f2.1, (k.trans f2.1).i⟩
  rw [if_neg c3]
  have d3 : r.isT [37] = false := by simpa using c3
  rw [d3, if_neg (by simp)] at a3
  refine ⟨?_, Kept.refl h, Nat.le_refl _⟩
  simp only [Rs.end, Rd.heap] at *
  simp -implicitDefEqProofs (disch := omega) [a_lang_reader_product_b0, a1, a2, a3]
  done
theorem reads_ls {n : Nat} {ts : List Tok} (ih : Reads n ts) (r : Rd) (x : Nd) (h : r.ok) (ht : r.ts = ts) (hn : 4 * (ts.length - r.i) + 1 ≤ n + 1) :
    codeX T0 X0 2 a_lang_reader_sum_l0 (some (.nrm, ⟨[(0, .ptr (.b 0) 0 0), (3, .d x.d)], r.heap⟩)) = (rd (n + 1) (.ls x) r).end ∧ (rd (n + 1) (.ls x) r).fine r 0 := by
  have hi : r.i < ts.length := ht ▸ h.i
  have a1 := is_spec h [43] (by simp)
  have a2 := is_spec h [45] (by simp)
  rw [codeX_loop (l := a_lang_reader_sum_l0) rfl]
  unfold rd
  have go : ∀ op, r.tok.kind ≠ 0 → (∃ (b : Rs), rd n .p r.next = b ∧ callE T0 X0 f_lang_reader_product [.ptr (.b 0) 0 0] r.next.heap = b.out ∧ b.fine r.next 1 ∧
      ∀ y r', b = .ok y r' → (codeX T0 X0 2 a_lang_reader_sum_l0 (some (.nrm, ⟨[(0, .ptr (.b 0) 0 0), (3, .d (Nd.d (.two op x y)))], r'.heap⟩)) = (rd n (.ls (.two op x y)) r').end ∧ (rd n (.ls (.two op x y)) r').fine r' 0 ∧ Kept r r')) := by
    intro op hk
    have hni := next_i hk
    have hno := r.next_op
    obtain ⟨s1, f1⟩ := ih.p r.next (Rd.next_ok h) (hno.2.1.trans ht) (by omega)
    refine ⟨_, rfl, s1, f1, fun y r' hb => ?_⟩
    rw [hb] at f1
    obtain ⟨k1, k2⟩ := f1
    obtain ⟨s2, f2⟩ := ih.ls r' (.two op x y) k1.ok (k1.ts.trans (hno.2.1.trans ht)) (by omega)
    exact ⟨s2, f2, (Kept.next h).trans k1⟩
  by_cases c1 : r.isT [43] = true
  · rw [if_pos c1]
    rw [c1, if_pos rfl] at a1
    obtain ⟨b, hb, s1, f1, g⟩ := go 43 (isT_kind c1)
    rw [hb]
    cases b with
    | bad e p r' =>
      refine ⟨?_, trivial⟩
      simp only [Rs.bind, Rs.end, Rs.out, Rd.heap, faultD] at *
      simp -implicitDefEqProofs (disch := omega) [a_lang_reader_sum_b0, a1, s1]
      done
    | ok y r' =>
      obtain ⟨s2, f2, k⟩ := g y r' rfl
      simp only [Rs.bind]
      refine ⟨?_, ?_⟩
      · rw [← s2]
        simp only [Rs.out, Rd.heap] at *
        simp -implicitDefEqProofs (disch := omega) [a_lang_reader_sum_b0, a1, s1, Nd.d]
        done
      · cases hv : rd n (.ls (.two 43 x y)) r' with
        | bad e p r2 => trivial
        | ok z r2 =>
          rw [hv] at f2
          exact ⟨k.trans f2.1, (k.trans f2.1).i⟩
  rw [if_neg c1]
  have d1 : r.isT [43] = false := by simpa using c1
  rw [d1, if_neg (by simp)] at a1
  by_cases c2 : r.isT [45] = true
  · rw [if_pos c2]
    rw [c2, if_pos rfl] at a2
    obtain ⟨b, hb, s1, f1, g⟩ := go 45 (isT_kind c2)
    rw [hb]
    cases b with
    | bad e p r' =>
      refine ⟨?_, trivial⟩
      simp only [Rs.bind, Rs.end, Rs.out, Rd.heap, faultD] at *
      simp -implicitDefEqProofs (disch := omega) [a_lang_reader_sum_b0, a1, a2, s1]
      done
    | ok y r' =>
      obtain ⟨s2, f2, k⟩ := g y r' rfl
      simp only [Rs.bind]
      refine ⟨?_, ?_⟩
      · rw [← s2]
        simp only [Rs.out, Rd.heap] at *
        simp -implicitDefEqProofs (disch := omega) [a_lang_reader_sum_b0, a1, a2, s1, Nd.d]
        done
      · cases hv : rd n (.ls (.two 45 x y)) r' with
        | bad e p r2 => trivial
        | ok z r2 =>
          rw [hv] at f2
          exact ⟨k.trans f2.1, (k.trans f2.1).i⟩
  rw [if_neg c2]
  have d2 : r.isT [45] = false := by simpa using c2
  rw [d2, if_neg (by simp)] at a2
  refine ⟨?_, Kept.refl h, Nat.le_refl _⟩
  simp only [Rs.end, Rd.heap] at *
  simp -implicitDefEqProofs (disch := omega) [a_lang_reader_sum_b0, a1, a2]
  done
end Go.Rf

/- lang: a factor; all of an expression. -/
namespace Go.Rf

theorem tok_in {r : Rd} (h : r.ok) : r.tok ∈ r.ts := by
  unfold Rd.tok
  have := h.i
  simp [this]
theorem reads_u {n : Nat} {ts : List Tok} (hnum : ∀ t ∈ ts, t.kind = 2 → NumTx t.text) (ih : Reads n ts) (r : Rd) (h : r.ok) (ht : r.ts = ts) (hn : 4 * (ts.length - r.i) + 1 ≤ n + 1) :
    callE T0 X0 f_lang_reader_unary [.ptr (.b 0) 0 0] r.heap = (rd (n + 1) .u r).out ∧ (rd (n + 1) .u r).fine r 1 := by
  have hi : r.i < ts.length := ht ▸ h.i
  rw [callX_fun (af := a_lang_reader_unary) rfl rfl rfl]
  have s0 := here_spec h
  have a1 := is_spec h [45] (by simp)
  have htx := tok_mem h
  unfold rd
  by_cases c1 : r.isT [45] = true
  · rw [if_pos c1]
    rw [c1, if_pos rfl] at a1
    have hk := isT_kind c1
    have hni := next_i hk
    have hno := r.next_op
    obtain ⟨s1, f1⟩ := ih.u r.next (Rd.next_ok h) (hno.2.1.trans ht) (by omega)
    cases hb : rd n .u r.next with
    | bad e p r' =>
      rw [hb] at s1
      refine ⟨?_, trivial⟩
      simp only [Rs.bind, Rs.out, Rd.heap, faultD, Tok.cs] at *
      simp -implicitDefEqProofs (disch := omega) [a_lang_reader_unary, s0, a1, s1]
      done
    | ok y r' =>
      rw [hb] at s1 f1
      refine ⟨?_, (Kept.next h).trans f1.1, by have := f1.2; omega⟩
      simp only [Rs.bind, Rs.out, Rd.heap, Tok.cs] at *
      simp -implicitDefEqProofs (disch := omega) [a_lang_reader_unary, s0, a1, s1, Nd.d]
      done
  rw [if_neg c1]
  have d1 : r.isT [45] = false := by simpa using c1
  rw [d1, if_neg (by simp)] at a1
  have s2 := pass_rd_spec h
  by_cases c2 : r.tok.kind = 2
  · rw [if_pos c2]
    obtain ⟨e, s3⟩ := wparse_spec (hnum r.tok (ht ▸ tok_in h) c2)
    have hni := next_i (r := r) (by omega)
    refine ⟨?_, Kept.next h, by omega⟩
    simp only [Rs.out, Rd.heap, Tok.cs, Wd] at *
    generalize r.tok = t at *
    simp -implicitDefEqProofs (disch := omega) [a_lang_reader_unary, s0, a1, s2, s3, Nd.d, Wd]
    done
  rw [if_neg c2]
  have s4 := name_rd_spec h
  by_cases c3 : r.isName = true
  · rw [if_pos c3]
    rw [c3] at s4
    have s5 := var_spec h r.tok.text htx
    have hk : r.tok.kind ≠ 0 := by
      unfold Rd.isName at c3
      simp at c3
      omega
    have hni := next_i hk
    by_cases c4 : 0 ≤ r.var r.tok.text
    · rw [if_pos c4]
      have s6 := need_true r 81
      refine ⟨?_, Kept.next h, by omega⟩
      simp only [Rs.out, Rd.heap, Tok.cs] at *
      generalize r.tok = t at *
      simp -implicitDefEqProofs (disch := omega) [a_lang_reader_unary, s0, a1, s2, s4, s5, s6, Nd.d]
      done
    · rw [if_neg c4]
      have s6 := need_false h 81
      refine ⟨?_, trivial⟩
      simp only [Rs.out, Rd.heap, Tok.cs, faultD] at *
      generalize r.tok = t at *
      simp -implicitDefEqProofs (disch := omega) [a_lang_reader_unary, s0, a1, s2, s4, s5, s6]
      done
  rw [if_neg c3]
  have d3 : r.isName = false := by simpa using c3
  rw [d3] at s4
  cases hin : r.into [40] with
  | some e =>
    have s5 := into_some h (by simp) hin
    refine ⟨?_, trivial⟩
    simp only [Rs.out, Rd.heap, Tok.cs, faultD] at *
    generalize r.tok = t at *
    simp -implicitDefEqProofs (disch := omega) [a_lang_reader_unary, s0, a1, s4, s5]
    done
  | none =>
    have s5 := into_none h (by simp) hin
    have hc : r.tok.kind = 3 ∧ r.op < 16 := by
      unfold Rd.into at hin
      split at hin
      · rename_i hk
        split at hin
        · rename_i ho; exact ⟨hk.1, ho⟩
        · cases hin
      · cases hin
    have hop := Rd.opened_ok h hc.2
    have hot : r.opened.tok = r.tok := rfl
    have hni : r.opened.next.i = r.i + 1 := next_i (r := r.opened) (by rw [hot]; omega)
    have hno := r.opened.next_op
    obtain ⟨s6, f6⟩ := ih.s r.opened.next (Rd.next_ok hop) (hno.2.1.trans ht) (by omega)
    simp only []
    cases hb : rd n .s r.opened.next with
    | bad e p r' =>
      rw [hb] at s6
      refine ⟨?_, trivial⟩
      simp only [Rs.bind, Rs.out, Rd.heap, Tok.cs, faultD] at *
      generalize r.tok = t at *
      simp -implicitDefEqProofs (disch := omega) [a_lang_reader_unary, s0, a1, s4, s5, s6]
      done
    | ok x r' =>
      rw [hb] at s6 f6
      obtain ⟨k1, k2⟩ := f6
      simp only [Rs.bind]
      by_cases c5 : r'.isT [41] = true
      · rw [if_pos c5]
        have s7 := out_true k1.ok (by simp) c5
        have hk' := isT_kind c5
        have hni' := next_i hk'
        have hno' := r'.next_op
        have hop' : r'.next.op = r.op + 1 := hno'.1.trans (k1.op.trans hno.1)
        have h16 := h.op
        refine ⟨?_, ⟨Rd.closed_ok (Rd.next_ok k1.ok) (by omega), hno'.2.1.trans (k1.ts.trans hno.2.1), hno'.2.2.trans (k1.vs.trans hno.2.2), by show r'.next.op - 1 = r.op; omega, ?_⟩, ?_⟩
        · simp only [Rs.out, Rd.heap, Tok.cs] at *
          generalize r.tok = t at *
          simp -implicitDefEqProofs (disch := omega) [a_lang_reader_unary, s0, a1, s4, s5, s6, s7]
          done
        · show r.i ≤ r'.next.i
          omega
        · show r.i + 1 ≤ r'.next.i
          omega
      · rw [if_neg c5]
        have d5 : r'.isT [41] = false := by simpa using c5
        have s7 := out_false k1.ok (by simp) d5
        refine ⟨?_, trivial⟩
        simp only [Rs.out, Rd.heap, Tok.cs, faultD] at *
        generalize r.tok = t at *
        generalize r'.tok = t' at *
        simp -implicitDefEqProofs (disch := omega) [a_lang_reader_unary, s0, a1, s4, s5, s6, s7]
        done

theorem reads {ts : List Tok} (hnum : ∀ t ∈ ts, t.kind = 2 → NumTx t.text) : ∀ n, Reads n ts
  | 0 => ⟨fun _ _ _ h => by omega, fun _ _ _ h => by omega, fun _ _ _ h => by omega, fun _ _ _ _ h => by omega, fun _ _ _ _ h => by omega⟩
  | n + 1 => ⟨fun r h ht hn => reads_u hnum (reads hnum n) r h ht hn, fun r h ht hn => reads_p (reads hnum n) r h ht hn, fun r h ht hn => reads_s (reads hnum n) r h ht hn,
      fun r x h ht hn => reads_lp (reads hnum n) r x h ht hn, fun r x h ht hn => reads_ls (reads hnum n) r x h ht hn⟩
end Go.Rf
