/- Parts of the proof: SpG3, SpG4, SpG5, SpG6, SpG7, SpG8, SpN. -/
import Derived.Test.YtbjfkjbdpnkknaaDoorSp4

/- glyph: the scanner. -/
namespace Go.Rf

structure Sc where
  rest : List UInt8
  pos : Pl
  code : Int
  bad : Pl
/-- The scanner's cells. -/
def Sc.cs (s : Sc) : List D := [.str s.rest, .int .i64 s.pos.b, .int .i64 s.pos.g, .int .i64 s.pos.l, .int .i64 s.pos.c, .int .i64 s.code, .int .i64 s.bad.b, .int .i64 s.bad.g, .int .i64 s.bad.l, .int .i64 s.bad.c]
def Sc.obj (s : Sc) : Obj := .arr [.d (.agg s.cs)] ⟨10, 0⟩
/-- Short and small. -/
def Sc.ok (s : Sc) : Prop := s.rest.length ≤ 4096 ∧ s.pos.small s.rest.length

def Sc.fail (s : Sc) (e : Int) (p : Pl) : Sc := if s.code = 0 then { s with code := e, bad := p } else s
def Sc.early (s : Sc) (e : Int) (p : Pl) : Sc := { s with code := e, bad := p }
def Sc.next (s : Sc) : Int × Sc :=
  if s.rest = [] then (-1, s) else if broken s.rest (dec s.rest 0).1 then (-1, s.fail 40 s.pos) else ((dec s.rest 0).1, s)
def Sc.cls (s : Sc) : Int × Sc := if s.next.1 < 0 then (-1, s.next.2) else (Rf.cls s.next.1, s.next.2)
def Sc.pass (s : Sc) : Sc := { s with pos := behind s.pos (decGo s.rest).1, rest := s.rest.drop (decGo s.rest).2 }

theorem fail_spec (s : Sc) (e : Int) (p : Pl) : callE T0 X0 f_glyph_scanner_fail [.ptr (.b 0) 0 0, .d (.int .i64 e), .d (.agg p.cs)] [s.obj] = some (.ret [] [(s.fail e p).obj]) := by
  rw [callX_fun (af := a_glyph_scanner_fail) rfl rfl rfl]
  by_cases h : s.code = 0
  · simp -implicitDefEqProofs (disch := omega) [a_glyph_scanner_fail, Sc.obj, Sc.cs, Pl.cs, Sc.fail, h]
  · simp -implicitDefEqProofs (disch := omega) [a_glyph_scanner_fail, Sc.obj, Sc.cs, Pl.cs, Sc.fail, h]
theorem early_spec (s : Sc) (e : Int) (p : Pl) : callE T0 X0 f_glyph_scanner_early [.ptr (.b 0) 0 0, .d (.int .i64 e), .d (.agg p.cs)] [s.obj] = some (.ret [] [(s.early e p).obj]) := by
  rw [callX_fun (af := a_glyph_scanner_early) rfl rfl rfl]
  simp -implicitDefEqProofs (disch := omega) [a_glyph_scanner_early, Sc.obj, Sc.cs, Pl.cs, Sc.early]
theorem next_spec {s : Sc} (h : s.ok) : callE T0 X0 f_glyph_scanner_next [.ptr (.b 0) 0 0] [s.obj] = some (.ret [.d (.int .i64 s.next.1)] [s.next.2.obj]) := by
  rw [callX_fun (af := a_glyph_scanner_next) rfl rfl rfl]
  have hl := h.1
  unfold Sc.next
  by_cases he : s.rest = []
  · rw [if_pos he]
    simp -implicitDefEqProofs (disch := omega) [a_glyph_scanner_next, Sc.obj, Sc.cs, he]
    rw [codeX_loop (l := a_glyph_scanner_next_l0) rfl]
    simp -implicitDefEqProofs (disch := omega) [a_glyph_scanner_next_b0]
  · rw [if_neg he]
    have hp : 0 < s.rest.length := List.length_pos_iff.2 he
    have d1 := dec_ok s.rest he
    have s1 := broken_spec (s := s.rest) (r := (dec s.rest 0).1) (by omega)
    simp -implicitDefEqProofs (disch := omega) [a_glyph_scanner_next, Sc.obj, Sc.cs]
    rw [codeX_loop (l := a_glyph_scanner_next_l0) rfl]
    cases hb : broken s.rest (dec s.rest 0).1
    · rw [hb] at s1
      simp -implicitDefEqProofs (disch := omega) [a_glyph_scanner_next_b0, s1]
      done
    · rw [hb] at s1
      have s2 := fail_spec s 40 s.pos
      simp only [Sc.obj, Sc.cs, Pl.cs] at s2
      simp -implicitDefEqProofs (disch := omega) [a_glyph_scanner_next_b0, s1, s2]
      done
end Go.Rf

/- glyph: the scanner's loops. -/
namespace Go.Rf

theorem cls_spec (c : Int) : callE T0 X0 f_glyph_Class [.d (.int .i64 c)] [] = some (.ret [.d (.int .i64 (cls c))] []) := by
  rw [callX_fun (af := a_glyph_Class) rfl rfl rfl]
  have s1 := letter_spec c
  have s2 := sign_spec c
  unfold cls
  by_cases h1 : c = 9 ∨ c = 10 ∨ c = 13 ∨ c = 32 ∨ c = 160 ∨ c = 12288
  · rcases h1 with rfl | rfl | rfl | rfl | rfl | rfl <;> simp -implicitDefEqProofs (disch := omega) [a_glyph_Class, isBlank]
  have e1 : isBlank c = false := by
    unfold isBlank
    simp
    omega
  rw [e1]
  cases e2 : isLetter c
  · rw [e2] at s1
    by_cases h3 : 48 ≤ c ∧ c ≤ 57
    · simp -implicitDefEqProofs (disch := omega) [a_glyph_Class, s1]
    have h3' : c < 48 ∨ 57 < c := by omega
    by_cases h4 : c = 95 ∨ c = 176 ∨ c = 8242 ∨ (8320 ≤ c ∧ c ≤ 8329)
    · have e4 : isMark c = true := by
        unfold isMark
        simp
        omega
      rw [e4]
      rcases h3' with h3' | h3'
      · omega
      rcases h4 with rfl | rfl | rfl | h4 <;> simp -implicitDefEqProofs (disch := omega) [a_glyph_Class, s1, h3]
    have e4 : isMark c = false := by
      unfold isMark
      simp
      omega
    rw [e4]
    have h4' : c < 48 ∨ (57 < c ∧ c < 8320) ∨ 8329 < c := by omega
    by_cases h5 : c = 35
    · subst h5
      simp -implicitDefEqProofs (disch := omega) [a_glyph_Class, s1]
    cases e6 : isSign c <;> rw [e6] at s2 <;> rcases h4' with h4' | h4' | h4' <;>
      simp -implicitDefEqProofs (disch := omega) [a_glyph_Class, s1, s2, h3, h5]
  · rw [e2] at s1
    simp -implicitDefEqProofs (disch := omega) [a_glyph_Class, s1]

/-! ### What scanning keeps -/
theorem Sc.fail_rest (s : Sc) (e p) : (s.fail e p).rest = s.rest ∧ (s.fail e p).pos = s.pos := by unfold Sc.fail; split <;> exact ⟨rfl, rfl⟩
theorem Sc.next_rest (s : Sc) : s.next.2.rest = s.rest ∧ s.next.2.pos = s.pos := by
  unfold Sc.next
  split
  · exact ⟨rfl, rfl⟩
  · split
    · exact s.fail_rest _ _
    · exact ⟨rfl, rfl⟩
theorem Sc.next_same (s : Sc) (h : 0 ≤ s.next.1) : s.next.2 = s ∧ s.rest ≠ [] := by
  unfold Sc.next at *
  split
  · rename_i h0; rw [if_pos h0] at h; exact absurd h (by simp)
  · rename_i h0
    split
    · rename_i h1; rw [if_neg h0, if_pos h1] at h; exact absurd h (by simp)
    · exact ⟨rfl, h0⟩
theorem Sc.next_ok {s : Sc} (h : s.ok) : s.next.2.ok := by
  have := s.next_rest
  unfold Sc.ok at *
  rw [this.1, this.2]
  exact h
theorem Sc.next_le (s : Sc) : -1 ≤ s.next.1 ∧ s.next.1 ≤ 1114111 := by
  unfold Sc.next
  split
  · simp
  · rename_i h0
    have := dec_ok s.rest h0
    split <;> simp only [] <;> omega
theorem cls_le (c : Int) : 0 ≤ Rf.cls c ∧ Rf.cls c ≤ 6 := by
  unfold Rf.cls
  (repeat' split) <;> omega
theorem Sc.cls_le (s : Sc) : -1 ≤ s.cls.1 ∧ s.cls.1 ≤ 6 := by
  have := Rf.cls_le s.next.1
  unfold Sc.cls
  split <;> simp only [] <;> omega
theorem Sc.cls_ok {s : Sc} (h : s.ok) : s.cls.2.ok := by
  unfold Sc.cls
  split <;> exact Sc.next_ok h
theorem Sc.cls_rest (s : Sc) : s.cls.2.rest = s.rest ∧ s.cls.2.pos = s.pos := by
  unfold Sc.cls
  split <;> exact s.next_rest
theorem Sc.cls_same (s : Sc) (h : 0 ≤ s.cls.1) : s.cls.2 = s ∧ s.rest ≠ [] := by
  unfold Sc.cls at *
  by_cases h0 : s.next.1 < 0
  · rw [if_pos h0] at h; exact absurd h (by simp)
  · rw [if_neg h0]; exact s.next_same (by omega)
theorem decGo_eq {s : List UInt8} (h : s ≠ []) : decGo s = dec s 0 := by
  unfold decGo
  rw [if_neg]
  intro e
  exact h (List.eq_nil_of_length_eq_zero e)
theorem Sc.pass_len {s : Sc} (h : s.rest ≠ []) : s.pass.rest.length < s.rest.length := by
  have := dec_ok s.rest h
  unfold Sc.pass
  simp only [decGo_eq h, List.length_drop]
  omega
theorem Pl.small_le {p : Pl} {m n : Nat} (h : p.small n) (hm : m ≤ n) : p.small m := by unfold Pl.small at *; omega
theorem Sc.pass_ok {s : Sc} (h : s.ok) (hr : s.rest ≠ []) : s.pass.ok := by
  have hl := Sc.pass_len hr
  refine ⟨by have := h.1; omega, ?_⟩
  obtain ⟨n, hn⟩ : ∃ n, s.rest.length = n + 1 := ⟨s.rest.length - 1, by omega⟩
  have h2 := h.2
  rw [hn] at h2
  exact Pl.small_le (small_behind _ h2) (by omega)
theorem Sc.fail_ok {s : Sc} (h : s.ok) (e p) : (s.fail e p).ok := by
  have := s.fail_rest e p
  unfold Sc.ok at *
  rw [this.1, this.2]
  exact h
theorem Sc.early_ok {s : Sc} (h : s.ok) (e p) : (s.early e p).ok := h

theorem class_spec {s : Sc} (h : s.ok) : callE T0 X0 f_glyph_scanner_class [.ptr (.b 0) 0 0] [s.obj] = some (.ret [.d (.int .i64 s.cls.1)] [s.cls.2.obj]) := by
  rw [callX_fun (af := a_glyph_scanner_class) rfl rfl rfl]
  have s1 := next_spec h
  have h1 := s.next_le
  unfold Sc.cls
  simp only [Sc.obj, Sc.cs] at s1 ⊢
  by_cases h0 : s.next.1 < 0
  · simp -implicitDefEqProofs (disch := omega) [a_glyph_scanner_class, s1]
  · simp -implicitDefEqProofs (disch := omega) [a_glyph_scanner_class, s1, cls_spec]
theorem pass_spec {s : Sc} (h : s.ok) (hr : s.rest ≠ []) : callE T0 X0 f_glyph_scanner_pass [.ptr (.b 0) 0 0] [s.obj] = some (.ret [] [s.pass.obj]) := by
  rw [callX_fun (af := a_glyph_scanner_pass) rfl rfl rfl]
  have h1 := h.1
  have h2 := h.2
  have hp : 0 < s.rest.length := List.length_pos_iff.2 hr
  have d1 := dec_ok s.rest hr
  have s1 := decode_spec s.rest (by omega)
  rw [decGo_eq hr] at s1
  have s2 := behind_spec (p := s.pos) (n := 0) (dec s.rest 0).1 (Pl.small_le h2 hp)
  simp only [Sc.obj, Sc.cs, Sc.pass, decGo_eq hr, Pl.cs] at *
  simp -implicitDefEqProofs (disch := omega) [a_glyph_scanner_pass, s1, s2]
  rw [List.take_of_length_le (by simp)]
end Go.Rf

/- glyph: the scanner's loops. -/
namespace Go.Rf

/-- A comment, up to the line's end. -/
def lineF : Nat → Sc → Sc
  | 0, s => s
  | f + 1, s => if 0 ≤ s.next.1 ∧ s.next.1 ≠ 10 then lineF f s.pass else s.next.2
theorem lineF_ok : ∀ f {s : Sc}, s.ok → (lineF f s).ok ∧ (lineF f s).rest.length ≤ s.rest.length
  | 0, s, h => ⟨h, Nat.le_refl _⟩
  | f + 1, s, h => by
    unfold lineF
    split
    · rename_i hc
      have hr := (s.next_same hc.1).2
      have hp := Sc.pass_len hr
      have := lineF_ok f (Sc.pass_ok h hr)
      exact ⟨this.1, by omega⟩
    · exact ⟨Sc.next_ok h, by rw [s.next_rest.1]; exact Nat.le_refl _⟩
theorem line_loop : ∀ f {s : Sc}, s.ok → s.rest.length < f →
    codeX T0 X0 1 a_glyph_scanner_blanks_l0 (some (.nrm, ⟨[(0, .ptr (.b 0) 0 0), (2, .d (.int .i64 s.next.1))], [s.next.2.obj]⟩)) = some (.exit 3, ⟨[(0, .ptr (.b 0) 0 0)], [(lineF f s).obj]⟩) := by
  intro f
  induction f with
  | zero => intro s _ h; omega
  | succ f ih =>
    intro s h hf
    rw [codeX_loop (l := a_glyph_scanner_blanks_l0) rfl]
    have hl := s.next_le
    unfold lineF
    by_cases hc : 0 ≤ s.next.1 ∧ s.next.1 ≠ 10
    · rw [if_pos hc]
      obtain ⟨e, hr⟩ := s.next_same hc.1
      have hp := Sc.pass_len hr
      have s1 := pass_spec h hr
      have s2 := next_spec (Sc.pass_ok h hr)
      have s3 := ih (s := s.pass) (Sc.pass_ok h hr) (by omega)
      rw [e]
      simp only [Sc.obj, Sc.cs] at s1 s2 s3 ⊢
      simp -implicitDefEqProofs (disch := omega) [a_glyph_scanner_blanks_b0, s1, s2, s3]
      done
    · rw [if_neg hc]
      simp only [Sc.obj, Sc.cs]
      by_cases h0 : s.next.1 < 0
      · simp -implicitDefEqProofs (disch := omega) [a_glyph_scanner_blanks_b0]
      · simp -implicitDefEqProofs (disch := omega) [a_glyph_scanner_blanks_b0]
        done

/-- Blanks and comments. -/
def blanksF : Nat → Sc → Sc
  | 0, s => s
  | f + 1, s => if s.cls.1 = 1 then blanksF f s.pass else if s.cls.1 = 6 then blanksF f (lineF (s.rest.length + 1) s) else s.cls.2
theorem lineF_lt {s : Sc} (h : s.ok) (hc : s.cls.1 = 6) : (lineF (s.rest.length + 1) s).rest.length < s.rest.length := by
  unfold Sc.cls at hc
  have h0 : ¬ s.next.1 < 0 := by intro h0; rw [if_pos h0] at hc; exact absurd hc (by simp)
  rw [if_neg h0] at hc
  simp only [] at hc
  have h10 : s.next.1 ≠ 10 := by
    intro e
    rw [e] at hc
    exact absurd hc (by decide)
  obtain ⟨_, hr⟩ := s.next_same (by omega)
  unfold lineF
  rw [if_pos ⟨by omega, h10⟩]
  have := (lineF_ok s.rest.length (Sc.pass_ok h hr)).2
  have := Sc.pass_len hr
  omega
theorem blanksF_ok : ∀ f {s : Sc}, s.ok → (blanksF f s).ok ∧ (blanksF f s).rest.length ≤ s.rest.length
  | 0, s, h => ⟨h, Nat.le_refl _⟩
  | f + 1, s, h => by
    unfold blanksF
    split
    · rename_i hc
      have hr := (s.cls_same (by omega)).2
      have hp := Sc.pass_len hr
      have := blanksF_ok f (Sc.pass_ok h hr)
      exact ⟨this.1, by omega⟩
    · split
      · rename_i hc
        have h1 := lineF_ok (s.rest.length + 1) h
        have h2 := blanksF_ok f h1.1
        exact ⟨h2.1, by omega⟩
      · exact ⟨Sc.cls_ok h, by rw [s.cls_rest.1]; exact Nat.le_refl _⟩
theorem blanks_loop : ∀ f {s : Sc}, s.ok → s.rest.length < f →
    codeX T0 X0 1 a_glyph_scanner_blanks_l1 (some (.nrm, ⟨[(0, .ptr (.b 0) 0 0)], [s.obj]⟩)) = some (.ret, ⟨[(0, .ptr (.b 0) 0 0), (9, .d (.bool false))], [(blanksF f s).obj]⟩) := by
  intro f
  induction f with
  | zero => intro s _ h; omega
  | succ f ih =>
    intro s h hf
    rw [codeX_loop (l := a_glyph_scanner_blanks_l1) rfl]
    have hl := s.cls_le
    have s0 := class_spec h
    unfold blanksF
    by_cases hc : s.cls.1 = 1
    · rw [if_pos hc]
      obtain ⟨e, hr⟩ := s.cls_same (by omega)
      have hp := Sc.pass_len hr
      have s1 := pass_spec h hr
      have s3 := ih (s := s.pass) (Sc.pass_ok h hr) (by omega)
      rw [e] at s0
      simp only [Sc.obj, Sc.cs] at s0 s1 s3 ⊢
      simp -implicitDefEqProofs (disch := omega) [a_glyph_scanner_blanks_b1, s0, s1, s3]
      done
    · rw [if_neg hc]
      by_cases hc : s.cls.1 = 6
      · rw [if_pos hc]
        obtain ⟨e, hr⟩ := s.cls_same (by omega)
        have hp := lineF_lt h hc
        have s1 := next_spec h
        have s2 := line_loop (s.rest.length + 1) h (by omega)
        have s3 := ih (lineF_ok (s.rest.length + 1) h).1 (by omega)
        rw [e] at s0
        simp only [Sc.obj, Sc.cs] at s0 s1 s2 s3 ⊢
        simp -implicitDefEqProofs (disch := omega) [a_glyph_scanner_blanks_b1, s0, s1, s2, s3]
        done
      · rw [if_neg hc]
        simp only [Sc.obj, Sc.cs] at s0 ⊢
        simp -implicitDefEqProofs (disch := omega) [a_glyph_scanner_blanks_b1, s0]
        done
def Sc.blanks (s : Sc) : Sc := blanksF (s.rest.length + 1) s
theorem blanks_spec {s : Sc} (h : s.ok) : callE T0 X0 f_glyph_scanner_blanks [.ptr (.b 0) 0 0] [s.obj] = some (.ret [] [s.blanks.obj]) := by
  rw [callX_fun (af := a_glyph_scanner_blanks) rfl rfl rfl]
  have s1 := blanks_loop (s.rest.length + 1) h (by omega)
  simp only [Sc.obj, Sc.cs, Sc.blanks] at s1 ⊢
  simp -implicitDefEqProofs (disch := omega) [a_glyph_scanner_blanks, s1]

/-! ### What a class of glyphs is told by -/
def inName (c : Int) : Bool := c == 2 || c == 3 || c == 4
def inNumber (c : Int) : Bool := c == 3
theorem token_1_spec (c : Int) : callE T0 X0 f_glyph_scanner_token_1 [.d (.int .i64 c)] [] = some (.ret [.d (.bool (inName c))] []) := by
  rw [callX_fun (af := a_glyph_scanner_token_1) rfl rfl rfl]
  by_cases h : c = 2 ∨ c = 3 ∨ c = 4
  · rcases h with rfl | rfl | rfl <;> simp -implicitDefEqProofs (disch := omega) [a_glyph_scanner_token_1, inName]
  · simp -implicitDefEqProofs (disch := omega) [a_glyph_scanner_token_1, inName]
theorem token_2_spec (c : Int) : callE T0 X0 f_glyph_scanner_token_2 [.d (.int .i64 c)] [] = some (.ret [.d (.bool (inNumber c))] []) := by
  rw [callX_fun (af := a_glyph_scanner_token_2) rfl rfl rfl]
  simp -implicitDefEqProofs (disch := omega) [a_glyph_scanner_token_2, inNumber]

def whileF (p : Int → Bool) : Nat → Sc → Sc
  | 0, s => s
  | f + 1, s => if 0 ≤ s.cls.1 ∧ p s.cls.1 = true then whileF p f s.pass else s.cls.2
theorem whileF_ok (p : Int → Bool) : ∀ f {s : Sc}, s.ok → (whileF p f s).ok ∧ (whileF p f s).rest.length ≤ s.rest.length
  | 0, s, h => ⟨h, Nat.le_refl _⟩
  | f + 1, s, h => by
    unfold whileF
    split
    · rename_i hc
      have hr := (s.cls_same (by omega)).2
      have hp := Sc.pass_len hr
      have := whileF_ok p f (Sc.pass_ok h hr)
      exact ⟨this.1, by omega⟩
    · exact ⟨Sc.cls_ok h, by rw [s.cls_rest.1]; exact Nat.le_refl _⟩
section
variable {p : Int → Bool} {g : FuncId} (hg : ∀ c, callE T0 X0 g [.d (.int .i64 c)] [] = some (.ret [.d (.bool (p c))] []))
include hg
theorem while_loop (from_ : List UInt8) (hf : from_.length ≤ 4096) : ∀ f {s : Sc}, s.ok → s.rest.length < f →
    codeX T0 X0 1 a_glyph_scanner_while_l0 (some (.nrm, ⟨[(0, .ptr (.b 0) 0 0), (1, .d (.fn g [])), (5, .d (.str from_)), (6, .d (.int .i64 s.cls.1))], [s.cls.2.obj]⟩)) = some (.exit 0, ⟨[(0, .ptr (.b 0) 0 0), (5, .d (.str from_))], [(whileF p f s).obj]⟩) := by
  intro f
  induction f with
  | zero => intro s _ h; omega
  | succ f ih =>
    intro s h hf
    rw [codeX_loop (l := a_glyph_scanner_while_l0) rfl]
    have hl := s.cls_le
    unfold whileF
    by_cases h0 : 0 ≤ s.cls.1
    · obtain ⟨e, hr⟩ := s.cls_same h0
      have hg1 := hg s.cls.1
      cases hp : p s.cls.1
      · rw [if_neg (by simp)]
        rw [hp] at hg1
        simp only [Sc.obj, Sc.cs]
        simp -implicitDefEqProofs (disch := omega) [a_glyph_scanner_while_b0, hg1]
        done
      · rw [if_pos ⟨h0, rfl⟩]
        rw [hp] at hg1
        have hp := Sc.pass_len hr
        have s1 := pass_spec h hr
        have s2 := class_spec (Sc.pass_ok h hr)
        have s3 := ih (s := s.pass) (Sc.pass_ok h hr) (by omega)
        rw [e]
        simp only [Sc.obj, Sc.cs] at s1 s2 s3 ⊢
        simp -implicitDefEqProofs (disch := omega) [a_glyph_scanner_while_b0, hg1, s1, s2, s3]
        done
    · rw [if_neg (fun x => h0 x.1)]
      simp only [Sc.obj, Sc.cs]
      simp -implicitDefEqProofs (disch := omega) [a_glyph_scanner_while_b0]
      done
theorem while_spec {s : Sc} (h : s.ok) : callE T0 X0 f_glyph_scanner_while [.ptr (.b 0) 0 0, .d (.fn g [])] [s.obj] =
    some (.ret [.d (.str (s.rest.take (s.rest.length - (whileF p (s.rest.length + 1) s).rest.length)))] [(whileF p (s.rest.length + 1) s).obj]) := by
  rw [callX_fun (af := a_glyph_scanner_while) rfl rfl rfl]
  have h1 := h.1
  have s1 := while_loop hg s.rest h.1 (s.rest.length + 1) h (by omega)
  have s2 := class_spec h
  have hw := (whileF_ok p (s.rest.length + 1) h).2
  have hr := s.cls_rest.1
  simp only [Sc.obj, Sc.cs] at s1 s2 ⊢
  simp -implicitDefEqProofs (disch := omega) [a_glyph_scanner_while, s1, s2]
end
end Go.Rf

/- glyph: tokens. -/
namespace Go.Rf

/-- How many glyphs a text has. -/
def rcF (s : List UInt8) : Nat → Nat → Nat → Nat
  | 0, _, k => k
  | f + 1, i, k => if i < s.length then rcF s f (i + (dec s i).2) (k + 1) else k
theorem rc_loop (s : List UInt8) (hs : s.length ≤ 1100000) : ∀ f i (k : Nat), s.length - i < f → i ≤ s.length → k ≤ i →
    codeX T0 X0 0 a_utf8_RuneCountInString_l0 (some (.nrm, ⟨[(2, .d (.int .i64 k)), (4, .iter (.b 0))], [.iter s i]⟩)) = some (.exit 0, ⟨[(2, .d (.int .i64 (rcF s f i k)))], []⟩) := by
  intro f
  induction f with
  | zero => intros; omega
  | succ f ih =>
    intro i k hf hi hk
    rw [codeX_loop (l := a_utf8_RuneCountInString_l0) rfl]
    unfold rcF
    by_cases h : i < s.length
    · rw [if_pos h]
      obtain ⟨d1, d2, _⟩ := dec_okp h
      rw [← ih (i + (dec s i).2) (k + 1) (by omega) (by omega) (by omega)]
      simp -implicitDefEqProofs (disch := omega) [a_utf8_RuneCountInString_b0]
    · rw [if_neg h]
      simp -implicitDefEqProofs (disch := omega) [a_utf8_RuneCountInString_b0]
def rc (s : List UInt8) : Nat := rcF s (s.length + 1) 0 0
theorem rc_spec {s : List UInt8} (hs : s.length ≤ 1100000) : callE T0 X0 f_utf8_RuneCountInString [.d (.str s)] [] = some (.ret [.d (.int .i64 (rc s))] []) := by
  rw [callX_fun (af := a_utf8_RuneCountInString) rfl rfl rfl]
  have s1 := rc_loop s hs (s.length + 1) 0 0 (by omega) (by omega) (by omega)
  simp only [Int.cast_ofNat_Int] at s1
  simp -implicitDefEqProofs (disch := omega) [a_utf8_RuneCountInString, s1, rc]
def enc (r : Int) : List UInt8 := (Utf8.encode r).data.toList
theorem enc_def (r : Int) : (Utf8.encode r).data.toList = enc r := rfl
theorem enc_size (r : Int) : (Utf8.encode r).size = (enc r).length := by
  rw [← enc_def, Array.length_toList]
  rfl
theorem enc_le (r : Int) : (enc r).length ≤ 4 := by
  rw [← enc_size]
  unfold Utf8.encode
  extract_lets c b
  split
  · exact show 1 ≤ 4 by omega
  · split
    · exact show 2 ≤ 4 by omega
    · split
      · exact show 3 ≤ 4 by omega
      · exact show 4 ≤ 4 by omega
def Sc.sign (s : Sc) : List UInt8 × Sc :=
  if s.next.1 = 8788 then ([58, 61], s.pass) else if s.next.1 = 8800 then ([33, 61], s.pass) else
  if s.next.1 = 58 ∨ s.next.1 = 33 then (if s.pass.next.1 ≠ 61 then ([], s.pass.next.2.early 41 s.pos) else (enc s.next.1 ++ [61], s.pass.pass)) else (enc (fold s.next.1), s.pass)
theorem sign_next {s : Sc} (h : s.cls.1 = 5) : 0 ≤ s.next.1 := by
  unfold Sc.cls at h
  by_cases h0 : s.next.1 < 0
  · rw [if_pos h0] at h; exact absurd h (by simp)
  · omega
theorem sign_sc_spec {s : Sc} (h : s.ok) (hn : 0 ≤ s.next.1) : callE T0 X0 f_glyph_scanner_sign [.ptr (.b 0) 0 0] [s.obj] = some (.ret [.d (.str s.sign.1)] [s.sign.2.obj]) := by
  rw [callX_fun (af := a_glyph_scanner_sign) rfl rfl rfl]
  have h1 := s.next_le
  obtain ⟨e, hr⟩ := s.next_same hn
  have s0 := next_spec h
  rw [e] at s0
  have s1 := pass_spec h hr
  unfold Sc.sign
  have hf : -1 ≤ fold s.next.1 ∧ fold s.next.1 ≤ 1114111 := by unfold fold; (repeat' split) <;> omega
  by_cases h2 : s.next.1 = 8788
  · rw [if_pos h2]
    simp only [Sc.obj, Sc.cs] at s0 s1 ⊢
    simp -implicitDefEqProofs (disch := omega) [a_glyph_scanner_sign, s0, s1]
    done
  rw [if_neg h2]
  by_cases h3 : s.next.1 = 8800
  · rw [if_pos h3]
    simp only [Sc.obj, Sc.cs] at s0 s1 ⊢
    simp -implicitDefEqProofs (disch := omega) [a_glyph_scanner_sign, s0, s1]
    done
  rw [if_neg h3]
  by_cases h4 : s.next.1 = 58 ∨ s.next.1 = 33
  · rw [if_pos h4]
    have hp := Sc.pass_ok h hr
    have s2 := next_spec hp
    by_cases h5 : s.pass.next.1 ≠ 61
    · rw [if_pos h5]
      have s3 := early_spec s.pass.next.2 41 s.pos
      simp only [Sc.obj, Sc.cs, Pl.cs] at s0 s1 s2 s3 ⊢
      rcases h4 with h4 | h4 <;> simp -implicitDefEqProofs (disch := omega) [a_glyph_scanner_sign, s0, s1, s2, s3]
      done
    · rw [if_neg h5]
      have h5 : s.pass.next.1 = 61 := by omega
      obtain ⟨e2, hr2⟩ := s.pass.next_same (by omega)
      rw [e2] at s2
      have s3 := pass_spec hp hr2
      simp only [Sc.obj, Sc.cs, Pl.cs] at s0 s1 s2 s3 ⊢
      have he := enc_le s.next.1
      rcases h4 with h4 | h4 <;> simp -implicitDefEqProofs (disch := omega) [a_glyph_scanner_sign, s0, s1, s2, s3, enc_def, enc_size]
      done
  · rw [if_neg h4]
    simp only [Sc.obj, Sc.cs, Pl.cs] at s0 s1 ⊢
    have s3 := fold_spec s.next.1
    simp -implicitDefEqProofs (disch := omega) [a_glyph_scanner_sign, s0, s1, s3, enc_def]
    done
end Go.Rf

/- glyph: a token. -/
namespace Go.Rf

theorem decV_lt (s : List UInt8) : ∀ f i v w, 0 ≤ v → decV s f i v = some w → w < (v + 1) * 10 ^ f
  | 0, _, v, w, _, e => by cases e; omega
  | f + 1, i, v, w, h, e => by
    have hp : (0 : Int) < 10 ^ f := Int.pow_pos (by decide)
    unfold decV at e
    split at e
    · split at e
      · cases e
      · rename_i hd
        have := decV_lt s f _ _ _ (by omega) e
        refine Int.lt_of_lt_of_le this ?_
        rw [Int.pow_succ, Int.mul_comm _ 10, ← Int.mul_assoc]
        exact Int.mul_le_mul_of_nonneg_right (by omega) (by omega)
    · cases e
      have h1 : (v + 1) * 1 ≤ (v + 1) * 10 ^ (f + 1) := Int.mul_le_mul_of_nonneg_left (by have := Int.pow_pos (n := 10) (m := f + 1) (by decide); omega) (by omega)
      omega
theorem p10_le {a b : Nat} (h : a ≤ b) : (10 : Int) ^ a ≤ 10 ^ b := by
  have := Nat.pow_le_pow_right (n := 10) (by decide) h
  exact_mod_cast this
theorem tens_pow : ∀ f, tens f = 10 ^ (9 * f)
  | 0 => rfl
  | f + 1 => by
    rw [tens, tens_pow f, Nat.mul_add, Int.pow_add]
    have : (10 : Int) ^ (9 * 1) = 1000000000 := by decide
    rw [this, Int.mul_comm]
/-- What a run of digits tells. -/
def numV (s : List UInt8) : Int := (parseV s).getD 0
theorem numV_ok {s : List UInt8} (hs : s.length ≤ 4096) : 0 ≤ numV s ∧ numV s < tens 456 := by
  unfold numV
  have ht := (tens_pw 456).1
  cases h : parseV s with
  | none => exact ⟨Int.le_refl _, ht⟩
  | some v =>
    show 0 ≤ v ∧ v < tens 456
    unfold parseV at h
    split at h
    · cases h
    · have h1 := decV_lt s _ _ _ _ (by omega) h
      have h2 := decV_nonneg s _ _ _ _ (by omega) h
      refine ⟨h2, Int.lt_of_lt_of_le h1 ?_⟩
      rw [tens_pow, Int.zero_add, Int.one_mul]
      exact p10_le (show s.length + 1 ≤ 9 * 456 by omega)
theorem parse_spec' {s : List UInt8} (hs : s.length ≤ 4096) : ∃ e, callE T0 X0 f_limbs_Parse [.d (.str s)] [] = some (.ret [.d (.sl (L (limbs (numV s)))), .d (.int .i64 e)] []) := by
  have := parse_spec (s := s) (by omega)
  unfold numV
  cases h : parseV s with
  | none => rw [h] at this; exact ⟨10, this⟩
  | some v => rw [h] at this; exact ⟨0, this⟩

structure Tok where
  kind : Int
  text : List UInt8
  pos : Pl
def Tok.cs (t : Tok) : List D := [.int .i64 t.kind, .str t.text, .int .i64 t.pos.b, .int .i64 t.pos.g, .int .i64 t.pos.l, .int .i64 t.pos.c]

def Sc.run (p : Int → Bool) (s : Sc) : Sc := whileF p (s.rest.length + 1) s
def Sc.ran (p : Int → Bool) (s : Sc) : List UInt8 := s.rest.take (s.rest.length - (s.run p).rest.length)
def Sc.token (s : Sc) : Tok × Sc :=
  if s.cls.1 = 2 then (⟨1, s.ran inName, s.pos⟩, if 16 < rc (s.ran inName) then (s.run inName).early 42 s.pos else s.run inName)
  else if s.cls.1 = 3 then (⟨2, textV 456 (numV (s.ran inNumber)), s.pos⟩, if 32 < (limbs (numV (s.ran inNumber))).length then (s.run inNumber).early 2 s.pos else s.run inNumber)
  else if s.cls.1 = 5 then (⟨3, s.sign.1, s.pos⟩, s.sign.2)
  else if s.cls.1 = -1 then (⟨0, [], s.pos⟩, s.cls.2)
  else (⟨0, [], s.pos⟩, s.cls.2.fail 41 s.cls.2.pos)

theorem rcF_le (s : List UInt8) : ∀ f i k, i ≤ s.length → k ≤ i → rcF s f i k ≤ s.length
  | 0, i, k, hi, hk => by unfold rcF; omega
  | f + 1, i, k, hi, hk => by
    unfold rcF
    split
    · rename_i h
      have := dec_okp h
      exact rcF_le s f _ _ (by omega) (by omega)
    · omega
theorem token_spec {s : Sc} (h : s.ok) : callE T0 X0 f_glyph_scanner_token [.ptr (.b 0) 0 0] [s.obj] = some (.ret [.d (.agg s.token.1.cs)] [s.token.2.obj]) := by
  rw [callX_fun (af := a_glyph_scanner_token) rfl rfl rfl]
  have hl := h.1
  have h1 := s.cls_le
  have s0 := class_spec h
  unfold Sc.token
  by_cases c2 : s.cls.1 = 2
  · rw [if_pos c2]
    obtain ⟨e, hr⟩ := s.cls_same (by omega)
    rw [e] at s0
    have s1 := while_spec token_1_spec h
    have h3 : (s.ran inName).length ≤ s.rest.length := by unfold Sc.ran; rw [List.length_take]; omega
    have s2 := rc_spec (s := s.ran inName) (by omega)
    have h2 : rc (s.ran inName) ≤ 4096 := by
      have := rcF_le (s.ran inName) ((s.ran inName).length + 1) 0 0 (by omega) (by omega)
      exact Nat.le_trans this (by omega)
    have s3 := early_spec (s.run inName) 42 s.pos
    change callE T0 X0 f_glyph_scanner_while _ _ = some (.ret [.d (.str (s.ran inName))] [(s.run inName).obj]) at s1
    by_cases h16 : 16 < rc (s.ran inName)
    · rw [if_pos h16]
      simp only [Sc.obj, Sc.cs, Pl.cs, Tok.cs] at s0 s1 s2 s3 ⊢
      simp -implicitDefEqProofs (disch := omega) [a_glyph_scanner_token, s0, s1, s2, s3]
      done
    · rw [if_neg h16]
      simp only [Sc.obj, Sc.cs, Pl.cs, Tok.cs] at s0 s1 s2 s3 ⊢
      simp -implicitDefEqProofs (disch := omega) [a_glyph_scanner_token, s0, s1, s2]
      done
  rw [if_neg c2]
  by_cases c3 : s.cls.1 = 3
  · rw [if_pos c3]
    obtain ⟨e, hr⟩ := s.cls_same (by omega)
    rw [e] at s0
    have s1 := while_spec token_2_spec h
    have h3 : (s.ran inNumber).length ≤ 4096 := by unfold Sc.ran; rw [List.length_take]; omega
    obtain ⟨er, s2⟩ := parse_spec' h3
    have hn := numV_ok h3
    have hk : (limbs (numV (s.ran inNumber))).length ≤ 456 := limbs_len hn.1 (by have := (tens_pw 456).2; omega)
    have s4 := text_spec (limbs_good (numV (s.ran inNumber))) 456 (by omega) (by omega) (by rw [limbs_nv hn.1]; exact hn.2)
    rw [limbs_nv hn.1] at s4
    have s3 := early_spec (s.run inNumber) 2 s.pos
    change callE T0 X0 f_glyph_scanner_while _ _ = some (.ret [.d (.str (s.ran inNumber))] [(s.run inNumber).obj]) at s1
    by_cases h32 : 32 < (limbs (numV (s.ran inNumber))).length
    · rw [if_pos h32]
      simp only [Sc.obj, Sc.cs, Pl.cs, Tok.cs] at s0 s1 s2 s3 ⊢
      simp -implicitDefEqProofs (disch := omega) [a_glyph_scanner_token, s0, s1, s2, s3, s4]
      done
    · rw [if_neg h32]
      simp only [Sc.obj, Sc.cs, Pl.cs, Tok.cs] at s0 s1 s2 s3 ⊢
      simp -implicitDefEqProofs (disch := omega) [a_glyph_scanner_token, s0, s1, s2, s4]
      done
  rw [if_neg c3]
  by_cases c5 : s.cls.1 = 5
  · rw [if_pos c5]
    obtain ⟨e, hr⟩ := s.cls_same (by omega)
    rw [e] at s0
    have s1 := sign_sc_spec h (sign_next c5)
    simp only [Sc.obj, Sc.cs, Pl.cs, Tok.cs] at s0 s1 ⊢
    simp -implicitDefEqProofs (disch := omega) [a_glyph_scanner_token, s0, s1]
    done
  rw [if_neg c5]
  by_cases c0 : s.cls.1 = -1
  · rw [if_pos c0]
    simp only [Sc.obj, Sc.cs, Pl.cs, Tok.cs] at s0 ⊢
    simp -implicitDefEqProofs (disch := omega) [a_glyph_scanner_token, s0]
    done
  · rw [if_neg c0]
    have s1 := fail_spec s.cls.2 41 s.cls.2.pos
    simp only [Sc.obj, Sc.cs, Pl.cs, Tok.cs] at s0 s1 ⊢
    simp -implicitDefEqProofs (disch := omega) [a_glyph_scanner_token, s0, s1]
    done
end Go.Rf

/- glyph: a text's tokens. -/
namespace Go.Rf

theorem Sc.sign_ok {s : Sc} (h : s.ok) (hn : 0 ≤ s.next.1) : s.sign.2.ok ∧ s.sign.2.rest.length < s.rest.length := by
  obtain ⟨e, hr⟩ := s.next_same hn
  have hp := Sc.pass_ok h hr
  have hl := Sc.pass_len hr
  unfold Sc.sign
  split
  · exact ⟨hp, hl⟩
  split
  · exact ⟨hp, hl⟩
  split
  · split
    · refine ⟨Sc.early_ok (Sc.next_ok hp) _ _, ?_⟩
      show s.pass.next.2.rest.length < _
      rw [s.pass.next_rest.1]; exact hl
    · rename_i h5
      have h5 : s.pass.next.1 = 61 := Classical.not_not.1 h5
      obtain ⟨e2, hr2⟩ := s.pass.next_same (by omega)
      have := Sc.pass_len hr2
      exact ⟨Sc.pass_ok hp hr2, Nat.lt_trans this hl⟩
  · exact ⟨hp, hl⟩
theorem run_lt (p : Int → Bool) {s : Sc} (h : s.ok) (h0 : 0 ≤ s.cls.1) (hp : p s.cls.1 = true) : (s.run p).ok ∧ (s.run p).rest.length < s.rest.length := by
  obtain ⟨e, hr⟩ := s.cls_same h0
  have hl := Sc.pass_len hr
  have := whileF_ok p s.rest.length (Sc.pass_ok h hr)
  unfold Sc.run whileF
  rw [if_pos ⟨h0, hp⟩]
  exact ⟨this.1, by omega⟩
/-- A token that is told, and not the end, takes something; else an error is told. -/
theorem token_ok {s : Sc} (h : s.ok) : s.token.2.ok ∧ (s.token.1.kind ≠ 0 → s.token.2.rest.length < s.rest.length) ∧ s.token.1.text.length ≤ 1100000 := by
  have hl := h.1
  unfold Sc.token
  split
  · rename_i c
    have := run_lt inName h (by omega) (by rw [c]; rfl)
    refine ⟨?_, fun _ => ?_, ?_⟩
    · simp only []; split
      · exact Sc.early_ok this.1 _ _
      · exact this.1
    · simp only []; split
      · exact this.2
      · exact this.2
    · show (s.ran inName).length ≤ _
      unfold Sc.ran; rw [List.length_take]; omega
  split
  · rename_i c
    have := run_lt inNumber h (by omega) (by rw [c]; rfl)
    refine ⟨?_, fun _ => ?_, ?_⟩
    · simp only []; split
      · exact Sc.early_ok this.1 _ _
      · exact this.1
    · simp only []; split
      · exact this.2
      · exact this.2
    · show (textV 456 _).length ≤ _
      unfold textV
      split
      · simp
      · rw [List.length_reverse]
        exact Nat.le_trans (backF_len 456 _) (by omega)
  split
  · rename_i c
    have := Sc.sign_ok h (sign_next c)
    refine ⟨this.1, fun _ => this.2, ?_⟩
    show s.sign.1.length ≤ _
    unfold Sc.sign
    have e1 := enc_le s.next.1
    have e2 := enc_le (fold s.next.1)
    (repeat' split) <;> simp <;> omega
  split
  · exact ⟨Sc.cls_ok h, fun h0 => absurd rfl h0, by simp⟩
  · exact ⟨Sc.fail_ok (Sc.cls_ok h) _ _, fun h0 => absurd rfl h0, by simp⟩

def scanF : Nat → Sc → List Tok → Option (List Tok) × Int × Pl
  | 0, _, out => (some out, 0, ⟨0, 0, 0, 0⟩)
  | f + 1, s, out =>
    if s.blanks.token.2.code ≠ 0 then (none, s.blanks.token.2.code, s.blanks.token.2.bad)
    else if s.blanks.token.1.kind = 0 then (some (out ++ [s.blanks.token.1]), 0, ⟨0, 0, 0, 0⟩)
    else scanF f s.blanks.token.2 (out ++ [s.blanks.token.1])
/-- Tokens in a row. -/
def LT (l : List Tok) : List D := l.map fun t => .agg t.cs
def VT (l : List Tok) : List V := l.map fun t => .d (.agg t.cs)
@[simp] theorem LT_len (l) : (LT l).length = l.length := by simp [LT]
@[simp] theorem VT_len (l) : (VT l).length = l.length := by simp [VT]
@[simp] theorem VT_nil : VT [] = [] := rfl
@[simp] theorem VT_take (l n) : (VT l).take n = VT (l.take n) := by simp [VT, List.map_take]
@[simp] theorem LT_take (l n) : (LT l).take n = LT (l.take n) := by simp [LT, List.map_take]
@[simp] theorem VT_app1 (l : List Tok) (k x a b c d) : VT l ++ [.d (.agg [.int .i64 k, .str x, .int .i64 a, .int .i64 b, .int .i64 c, .int .i64 d])] = VT (l ++ [⟨k, x, ⟨a, b, c, d⟩⟩]) := by simp [VT, Tok.cs]
@[simp] theorem tok_eta (t : Tok) : (⟨t.kind, t.text, ⟨t.pos.b, t.pos.g, t.pos.l, t.pos.c⟩⟩ : Tok) = t := rfl
@[simp] theorem LT_map (l) : (LT l).map V.d = VT l := by simp [LT, VT, Function.comp_def]
@[simp] theorem allD_VT (l) : allD (VT l) = some (LT l) := by rw [← LT_map]; exact allD_map _
@[simp] theorem rens_VT (al : Loc → Bool) (l : List Tok) (m : List Loc) : rens al (VT l) m = (VT l, m) := by rw [← LT_map]; exact rens_map ..
@[simp] theorem mapLs_VT (f : Loc → Loc) (l : List Tok) : mapLs f (VT l) = VT l := by
  induction l with
  | nil => rfl
  | cons x xs ih =>
    show V.mapL f (.d _) :: mapLs f (VT xs) = _
    rw [ih]
    rfl
@[simp] theorem frzL_VT (h : Loc → Option Obj) (k : Nat) (l : List Tok) : frzL (frz h (k + 1)) (VT l) = some (LT l, []) := by
  induction l with
  | nil => rfl
  | cons x xs ih =>
    show frzL (frz h (k + 1)) (.d _ :: VT xs) = _
    simp only [frzL, ih]
    rfl
theorem wl_LT (l : List Tok) : wl (LT l) ≤ 56 := by
  induction l with
  | nil => simp [LT, wl]
  | cons x xs ih =>
    show max (wt (.agg x.cs)) (wl (LT xs)) ≤ 56
    have : wt (.agg x.cs) = 56 := rfl
    omega
@[simp] theorem wl_LT56 (l) : (wl (LT l) ≤ 56) = True := eq_true (wl_LT l)
@[simp] theorem fit_LT {n : Nat} {l : List Tok} (h : n ≤ 1099511627) : (n * wl (LT l) ≤ lots) = True := eq_true (Nat.le_trans (Nat.mul_le_mul h (wl_LT l)) (by unfold lots; omega))
@[simp] theorem VT_cells (l) : (∀ x ∈ VT l, x.cells.length = 6) = True := eq_true (by
  intro x hx
  obtain ⟨n, _, rfl⟩ := List.mem_map.1 hx
  rfl)
@[simp] theorem LT_cells (l) : (∀ x ∈ LT l, x.cells.length = 6) = True := eq_true (by
  intro x hx
  obtain ⟨n, _, rfl⟩ := List.mem_map.1 hx
  rfl)
theorem LT_get {l : List Tok} {i : Nat} (h : i < l.length) : (LT l)[i]? = some (.agg (l[i]'h).cs) := by simp [LT, h]

theorem scanF_len : ∀ f (s : Sc) (out l : List Tok) e p, s.ok → scanF f s out = (some l, e, p) → l.length ≤ out.length + f
  | 0, s, out, l, e, p, _, h => by unfold scanF at h; cases h; omega
  | f + 1, s, out, l, e, p, hs, h => by
    unfold scanF at h
    split at h
    · cases h
    · split at h
      · cases h; simp
      · have := scanF_len f _ _ l e p (token_ok (blanksF_ok _ hs).1).1 h
        simp at this
        omega
def emptyPl : Pl := ⟨0, 0, 0, 0⟩
theorem scan_loop : ∀ f (s : Sc) (out : List Tok) (e : List (Nat × V)), s.ok → s.rest.length < f → out.length + s.rest.length ≤ 5000 →
    codeX T0 X0 0 a_glyph_Scan_l0 (some (.nrm, ⟨(4, .ptr (.b 0) 0 0) :: (5, .ptr (.b 1) 0 0) :: (6, .ref (.b 2) ⟨6, 56⟩ 0 out.length) :: e, [.arr [.d (.agg [.int .i64 0, .int .i64 0, .int .i64 0, .int .i64 0])] ⟨4, 0⟩, s.obj, .arr (VT out) ⟨6, 56⟩]⟩)) =
      some (.ret, match scanF f s out with
        | (none, c, p) => ⟨[(2, .d (.sl [])), (3, .d (.int .i64 c)), (4, .ptr (.b 0) 0 0)], [.arr [.d (.agg p.cs)] ⟨4, 0⟩]⟩
        | (some l, c, p) => ⟨[(2, .ref (.b 0) ⟨6, 56⟩ 0 l.length), (3, .d (.int .i64 c)), (4, .ptr (.b 1) 0 0)], [.arr (VT l) ⟨6, 56⟩, .arr [.d (.agg p.cs)] ⟨4, 0⟩]⟩) := by
  intro f
  induction f with
  | zero => intros; omega
  | succ f ih =>
    intro s out e h hf hb
    rw [codeX_loop (l := a_glyph_Scan_l0) rfl]
    have s1 := blanks_spec h
    have hb1 := blanksF_ok (s.rest.length + 1) h
    change s.blanks.ok ∧ s.blanks.rest.length ≤ s.rest.length at hb1
    have s2 := token_spec hb1.1
    have ht := token_ok hb1.1
    unfold scanF
    by_cases hc : s.blanks.token.2.code = 0
    · rw [if_neg (by simpa using hc)]
      by_cases hk : s.blanks.token.1.kind = 0
      · rw [if_pos hk]
        simp only [Sc.obj, Sc.cs, Tok.cs, Pl.cs] at s1 s2 ⊢
        simp -implicitDefEqProofs (disch := omega) [a_glyph_Scan_b0, s1, s2]
        done
      · rw [if_neg hk]
        have hlt := ht.2.1 hk
        have s3 := ih s.blanks.token.2 (out ++ [s.blanks.token.1]) [(39, .d (.bool false))] ht.1 (by omega) (by simp; omega)
        rw [← s3]
        simp only [Sc.obj, Sc.cs, Tok.cs, Pl.cs] at s1 s2 ⊢
        simp -implicitDefEqProofs (disch := omega) [a_glyph_Scan_b0, s1, s2]
        done
    · rw [if_pos hc]
      simp only [Sc.obj, Sc.cs, Tok.cs, Pl.cs] at s1 s2 ⊢
      simp -implicitDefEqProofs (disch := omega) [a_glyph_Scan_b0, s1, s2]
      done

/-- A text's tokens, or the error and its place. -/
def scan (s : List UInt8) : Option (List Tok) × Int × Pl := if 4096 < s.length then (none, 2, emptyPl) else scanF (s.length + 1) ⟨s, start, 0, emptyPl⟩ []
theorem scan_spec (s : List UInt8) (hs : s.length ≤ 1099511627776) : callE T0 X0 f_glyph_Scan [.d (.str s)] [] =
    some (.ret [.d (.sl (LT ((scan s).1.getD []))), .d (.int .i64 (scan s).2.1), .d (.agg (scan s).2.2.cs)] []) := by
  rw [callX_fun (af := a_glyph_Scan) rfl rfl rfl]
  unfold scan
  by_cases hl : 4096 < s.length
  · rw [if_pos hl]
    simp -implicitDefEqProofs (disch := omega) [a_glyph_Scan, Pl.cs, emptyPl, LT]
    done
  · rw [if_neg hl]
    have s0 := start_spec
    have hok : Sc.ok ⟨s, start, 0, emptyPl⟩ := ⟨by show s.length ≤ 4096; omega, by show Pl.small start s.length; unfold Pl.small start; simp only []; omega⟩
    have s1 := scan_loop (s.length + 1) ⟨s, start, 0, emptyPl⟩ [] [] hok (by show s.length < _; omega) (by show 0 + s.length ≤ _; omega)
    simp only [Sc.obj, Sc.cs, Tok.cs, Pl.cs, emptyPl, start, VT_nil, List.length_nil] at s0 s1 ⊢
    have hlen := scanF_len (s.length + 1) ⟨s, start, 0, emptyPl⟩ []
    simp only [emptyPl, start] at hlen
    generalize scanF (s.length + 1) ⟨s, ⟨0, 0, 1, 1⟩, 0, ⟨0, 0, 0, 0⟩⟩ [] = r at s1 hlen ⊢
    obtain ⟨o, c, p⟩ := r
    cases o with
    | none =>
      simp -implicitDefEqProofs (disch := omega) [a_glyph_Scan, s0, s1, LT]
      done
    | some l =>
      have hl2 := hlen l c p hok rfl
      simp at hl2
      have ht : l.take l.length = l := List.take_length
      simp -implicitDefEqProofs (disch := omega) [a_glyph_Scan, s0, s1]
      done
end Go.Rf

/- glyph.Name, affine.Names. -/
namespace Go.Rf

def isName (s : List UInt8) : Bool := match scan s with
  | (some [t, _], 0, _) => decide (t.kind = 1) && decide (t.text = s)
  | _ => false
theorem name_spec (s : List UInt8) (hs : s.length ≤ 1100000) : callE T0 X0 f_glyph_Name [.d (.str s)] [] = some (.ret [.d (.bool (isName s))] []) := by
  rw [callX_fun (af := a_glyph_Name) rfl rfl rfl]
  have s1 := scan_spec s (by omega)
  have hlen : ∀ l c p, scan s = (some l, c, p) → l.length ≤ 5000 := by
    intro l c p h
    unfold scan at h
    split at h
    · cases h
    · have := scanF_len _ _ _ l c p ⟨by show s.length ≤ 4096; omega, by show Pl.small start s.length; unfold Pl.small start; simp only []; omega⟩ h
      simp at this
      omega
  unfold isName
  generalize scan s = r at s1 hlen
  obtain ⟨o, c, p⟩ := r
  simp only [Pl.cs] at s1
  by_cases hc : c = 0
  · subst hc
    cases o with
    | none =>
      simp only [Option.getD_none, LT, List.map_nil] at s1
      simp -implicitDefEqProofs (disch := omega) [a_glyph_Name, s1]
      done
    | some l =>
      have hl := hlen l _ p rfl
      simp only [Option.getD_some] at s1
      by_cases h2 : l.length = 2
      · obtain ⟨a, b, rfl⟩ : ∃ a b, l = [a, b] := by
          match l, h2 with
          | [a, b], _ => exact ⟨a, b, rfl⟩
        simp only [LT, List.map_cons, List.map_nil, Tok.cs] at s1
        have w := wl_LT [a, b]
        simp only [LT, List.map_cons, List.map_nil, Tok.cs] at w
        by_cases h3 : a.kind = 1
        · simp -implicitDefEqProofs (disch := omega) [a_glyph_Name, s1, h3, wl, wt, wts]
          by_cases h : a.text = s <;> simp [h]
        · simp -implicitDefEqProofs (disch := omega) [a_glyph_Name, s1, h3, wl, wt, wts]
          done
      · have e : (match (some l, (0 : Int), p) with
            | (some [t, _], 0, _) => decide (t.kind = 1) && decide (t.text = s)
            | _ => false) = false := by
          match l, h2 with
          | [], _ => rfl
          | [_], _ => rfl
          | [_, _], h => exact absurd rfl h
          | _ :: _ :: _ :: _, _ => rfl
        rw [e]
        simp -implicitDefEqProofs (disch := omega) [a_glyph_Name, s1]
        done
  · have e : (match (o, c, p) with
          | (some [t, _], 0, _) => decide (t.kind = 1) && decide (t.text = s)
          | _ => false) = false := by
      split
      · rename_i h; simp at h; exact absurd h.2.1 hc
      · rfl
    rw [e]
    simp -implicitDefEqProofs (disch := omega) [a_glyph_Name, s1]
    done

/-- Texts. -/
def SL (vs : List (List UInt8)) : List D := vs.map .str
@[simp] theorem SL_len (vs) : (SL vs).length = vs.length := by simp [SL]
@[simp] theorem SL_take (vs n) : (SL vs).take n = SL (vs.take n) := by simp [SL, List.map_take]
def tx (vs : List (List UInt8)) (i : Nat) : List UInt8 := vs.getD i []
theorem SL_get {vs : List (List UInt8)} {i : Nat} (h : i < vs.length) : (SL vs)[i]? = some (.str (tx vs i)) := by simp [SL, tx, h]
attribute [simp] SL_get
theorem wl_SL (vs) : wl (SL vs) ≤ 16 := by
  induction vs with
  | nil => simp [SL, wl]
  | cons x xs ih =>
    show max 16 (wl (SL xs)) ≤ 16
    omega
@[simp] theorem wl_SL16 (vs) : (wl (SL vs) ≤ 16) = True := eq_true (wl_SL vs)
@[simp] theorem fit_SL {n : Nat} {vs} (h : n ≤ 1099511627) : (n * wl (SL vs) ≤ lots) = True := eq_true (Nat.le_trans (Nat.mul_le_mul h (wl_SL vs)) (by unfold lots; omega))
@[simp] theorem SL_cells (vs) : (∀ x ∈ SL vs, x.cells.length = 1) = True := eq_true (by
  intro x hx
  obtain ⟨n, _, rfl⟩ := List.mem_map.1 hx
  rfl)

/-- Are they names, no two of them one? -/
def seenF (vs : List (List UInt8)) (i : Nat) : Nat → Nat → Bool
  | 0, _ => false
  | d + 1, k => if tx vs k = tx vs i then true else seenF vs i d (k + 1)
def namesF (vs : List (List UInt8)) : Nat → Nat → Int
  | 0, _ => 0
  | f + 1, i => if isName (tx vs i) = false then 1 else if seenF vs i i 0 = true then 1 else namesF vs f (i + 1)
def names (vs : List (List UInt8)) : Int := if 16 < vs.length then 1 else namesF vs vs.length 0

theorem names_in (vs : List (List UInt8)) (i : Nat) (hl : vs.length ≤ 16) (hi : i < vs.length) (hb : ∀ k, (tx vs k).length ≤ 1100000) : ∀ d k (e : List (Nat × V)), d + k = i →
    codeX T0 X0 0 a_affine_Names_l0 (some (.nrm, ⟨(0, .d (.sl (SL vs))) :: (4, .d (.str (tx vs i))) :: (10, .d (.sl (SL vs))) :: (11, .d (.int .i64 vs.length)) :: (12, .d (.int .i64 i)) :: (22, .d (.sl (SL (vs.take i)))) :: (23, .d (.int .i64 i)) :: (24, .d (.int .i64 k)) :: e, []⟩)) =
      if seenF vs i d k = true then some (.ret, ⟨[(2, .d (.int .i64 1))], []⟩) else some (.exit 2, ⟨[(0, .d (.sl (SL vs))), (10, .d (.sl (SL vs))), (11, .d (.int .i64 vs.length)), (12, .d (.int .i64 i))], []⟩) := by
  intro d
  induction d with
  | zero =>
    intro k e hk
    have : k = i := by omega
    subst this
    rw [codeX_loop (l := a_affine_Names_l0) rfl, if_neg (by simp [seenF])]
    simp -implicitDefEqProofs (disch := omega) [a_affine_Names_b0]
    done
  | succ d ih =>
    intro k e hk
    rw [codeX_loop (l := a_affine_Names_l0) rfl]
    have ht : (SL (vs.take i))[k]? = some (.str (tx vs k)) := by simp [SL, tx, List.getElem?_take, show k < i by omega, show k < vs.length by omega]
    have h1 := hb k
    have h2 := hb i
    by_cases he : tx vs k = tx vs i
    · rw [seenF, if_pos he, if_pos rfl]
      simp -implicitDefEqProofs (disch := omega) [a_affine_Names_b0, ht, he]
      done
    · have s1 := ih (k + 1) [] (by omega)
      rw [seenF, if_neg he]
      rw [← s1]
      have he' : (tx vs i == tx vs k) = false := by simp; exact fun h => he h.symm
      simp -implicitDefEqProofs (disch := omega) [a_affine_Names_b0, ht, he']
      done
theorem names_out (vs : List (List UInt8)) (hl : vs.length ≤ 16) (hb : ∀ k, (tx vs k).length ≤ 1100000) : ∀ d i, d + i = vs.length →
    codeX T0 X0 0 a_affine_Names_l1 (some (.nrm, ⟨[(0, .d (.sl (SL vs))), (10, .d (.sl (SL vs))), (11, .d (.int .i64 vs.length)), (12, .d (.int .i64 i))], []⟩)) =
      if namesF vs d i = 0 then some (.exit 0, ⟨[], []⟩) else some (.ret, ⟨[(2, .d (.int .i64 1))], []⟩) := by
  intro d
  induction d with
  | zero =>
    intro i hk
    have : i = vs.length := by omega
    subst this
    rw [codeX_loop (l := a_affine_Names_l1) rfl, if_pos (show namesF vs 0 vs.length = 0 from rfl)]
    simp -implicitDefEqProofs (disch := omega) [a_affine_Names_b1]
  | succ d ih =>
    intro i hk
    rw [codeX_loop (l := a_affine_Names_l1) rfl]
    have s1 := name_spec (tx vs i) (hb i)
    have s2 := names_in vs i hl (by omega) hb i 0 [] (by omega)
    have h2 := hb i
    simp only [Int.cast_ofNat_Int] at s2
    cases hn : isName (tx vs i)
    · rw [hn] at s1
      rw [show namesF vs (d + 1) i = 1 by simp [namesF, hn], if_neg (by decide)]
      simp -implicitDefEqProofs (disch := omega) [a_affine_Names_b1, s1]
      done
    · rw [hn] at s1
      cases hs : seenF vs i i 0
      · rw [show namesF vs (d + 1) i = namesF vs d (i + 1) by simp [namesF, hn, hs]]
        rw [hs, if_neg (by simp)] at s2
        rw [← ih (i + 1) (by omega)]
        simp -implicitDefEqProofs (disch := omega) [a_affine_Names_b1, s1, s2]
        done
      · rw [show namesF vs (d + 1) i = 1 by simp [namesF, hn, hs], if_neg (by decide)]
        rw [hs, if_pos rfl] at s2
        simp -implicitDefEqProofs (disch := omega) [a_affine_Names_b1, s1, s2]
        done
theorem namesF_01 (vs) : ∀ f i, namesF vs f i = 0 ∨ namesF vs f i = 1
  | 0, _ => .inl rfl
  | f + 1, i => by
    unfold namesF
    split
    · exact .inr rfl
    · split
      · exact .inr rfl
      · exact namesF_01 vs f (i + 1)
theorem names_spec (vs : List (List UInt8)) (hv : vs.length ≤ 1099511627) (hb : ∀ k, (tx vs k).length ≤ 1100000) : callE T0 X0 f_affine_Names [.d (.sl (SL vs))] [] = some (.ret [.d (.int .i64 (names vs))] []) := by
  rw [callX_fun (af := a_affine_Names) rfl rfl rfl]
  unfold names
  by_cases hl : 16 < vs.length
  · rw [if_pos hl]
    simp -implicitDefEqProofs (disch := omega) [a_affine_Names]
  · rw [if_neg hl]
    have s1 := names_out vs (by omega) hb vs.length 0 rfl
    simp only [Int.cast_ofNat_Int] at s1
    rcases namesF_01 vs vs.length 0 with h | h
    · rw [h, if_pos rfl] at s1
      rw [h]
      simp -implicitDefEqProofs (disch := omega) [a_affine_Names, s1]
      done
    · rw [h, if_neg (by decide)] at s1
      rw [h]
      simp -implicitDefEqProofs (disch := omega) [a_affine_Names, s1]
      done
end Go.Rf
