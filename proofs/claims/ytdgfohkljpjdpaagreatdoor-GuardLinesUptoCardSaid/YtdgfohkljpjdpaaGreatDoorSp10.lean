/- Parts of the proof: SpU3, SpU4, SpU5, SpU6, SpU7, SpU8, SpU9, SpUA, SpUB, SpB1, SpB2, SpB4. -/
import Derived.Test.YtdgfohkljpjdpaaGreatDoorSp9

set_option linter.unusedSimpArgs false
set_option linter.unusedVariables false
set_option linter.unnecessarySimpa false
namespace Go.Rf
set_option maxHeartbeats 16000000
@[simp] theorem zdc (h n) (s : Sm) : loadV h n false (.d (.box s.d)) = val (.d s.d) := by cases s <;> simp only [Sm.d] <;> rfl
@[simp] theorem cells_sm (s : Sm) : D.cells s.d = [s.d] := s.cells
@[simp] theorem fitV_sm (s : Sm) : fitV (.d s.d) = true := by cases s <;> simp only [Sm.d] <;> rfl
@[simp] theorem qs9 (s : Sm) : fitC s.d = true := by cases s <;> simp only [Sm.d] <;> rfl
@[simp] theorem qnj (T cf i h) (s : Sm) : invY T cf [(qfu, qaa, none), (qah, qaa, some (0, 4, true)), (qes, qaa, some (0, 4, true)), (qao, qaa, some (0, 4, true)), (qaj, qaa, some (0, 4, true)), (qas, qaa, some (0, 4, true)), (qaz, qaa, some (0, 4, true)), (qay, qaa, some (0, 4, true)), (qa1, qaa, some (0, 4, true)), (qaw, qaa, some (0, 4, true))] i h [] (qgi (.d s.d)) = callA cf qaa i h (qcc h [(.d (.agg s.at_.cs), true)]) := by
  cases s <;> simp only [Sm.d, Sm.at_] <;> rfl
def inL : Lst Int := ⟨fun n => .int .i64 n, ⟨1, 8⟩, fun n => by simp [wt, IntKind.bits], fun n => rfl, by decide⟩
@[simp] theorem ziq (l) : (∀ x ∈ LW inL l, x.cells.length = 1) = True := qso inL l
@[simp] theorem wl_in (l) : (wl (LD inL l) ≤ 8) = True := q0q inL l
@[simp] theorem fit_in {n : Nat} (l) (h : n ≤ 1099511627776) : (n * wl (LD inL l) ≤ lots) = True := q2l inL l (by decide) h
@[simp] theorem LW_app_in (l n) : LW inL l ++ [.d (.int .i64 n)] = LW inL (l ++ [n]) := qwr inL l n
def wH (n : Nat) (w : Wk) (c : Bool) : List Obj := match c with
  | false => [.arr [.agg [.d (.int .i64 n), .d (.int .i64 w.line), .ref (.b 1) ⟨1, 8⟩ 0 w.hard.length, .d (.int .i64 w.bad.b), .d (.int .i64 w.bad.g), .d (.int .i64 w.bad.l), .d (.int .i64 w.bad.c)]] ⟨7, 0⟩, .arr (LW inL w.hard) ⟨1, 8⟩]
  | true => [.arr [.agg [.d (.int .i64 n), .d (.int .i64 w.line), .ref (.b 2) ⟨1, 8⟩ 0 w.hard.length, .d (.int .i64 w.bad.b), .d (.int .i64 w.bad.g), .d (.int .i64 w.bad.l), .d (.int .i64 w.bad.c)]] ⟨7, 0⟩, .dead, .arr (LW inL w.hard) ⟨1, 8⟩]
theorem wH_f (n w) : wH n w false = [.arr [.agg [.d (.int .i64 n), .d (.int .i64 w.line), .ref (.b 1) ⟨1, 8⟩ 0 w.hard.length, .d (.int .i64 w.bad.b), .d (.int .i64 w.bad.g), .d (.int .i64 w.bad.l), .d (.int .i64 w.bad.c)]] ⟨7, 0⟩, .arr (LW inL w.hard) ⟨1, 8⟩] := rfl
theorem wH_t (n w) : wH n w true = [.arr [.agg [.d (.int .i64 n), .d (.int .i64 w.line), .ref (.b 2) ⟨1, 8⟩ 0 w.hard.length, .d (.int .i64 w.bad.b), .d (.int .i64 w.bad.g), .d (.int .i64 w.bad.l), .d (.int .i64 w.bad.c)]] ⟨7, 0⟩, .dead, .arr (LW inL w.hard) ⟨1, 8⟩] := rfl
def chd (w w' : Wk) : Bool := decide (w.hard.length < w'.hard.length)
theorem qpk {a b c : Wk} {j k : Nat} (h : a.le b j) (g : b.le c k) : chd a c = (chd a b || chd b c) := by
  have := h.h0
  have := g.h0
  unfold chd
  by_cases h1 : a.hard.length < b.hard.length
  · simp [h1]; omega
  · by_cases h2 : b.hard.length < c.hard.length
    · simp [h2]; omega
    · simp [h1, h2]; omega
theorem ze6 (a b : Wk) : chd a b.nl = chd a b := rfl
def WinS (n : Nat) (s : Sm) : Prop := ∀ w : Wk, 0 ≤ w.line → w.line + s.sz ≤ 1000000 → w.hard.length + s.sz ≤ 1000000 →
  callE T0 X0 qkg [.ptr (.b 0) 0 0, .d s.d] (wH n w false) = some (.ret [] (wH n (s.within n w) (chd w (s.within n w))))
theorem q86 (s : Sm) : 1 ≤ s.sz := by cases s <;> simp only [Sm.sz] <;> omega
theorem zgh {vs : List (List UInt8)} {s : Sm} (hs : s.fit vs) (hn : vs.length ≤ 16) (ih : WinS vs.length s) (pre rest : List Sm) (w0 w : Wk) (e : List (Nat × V)) {j : Nat} (h0 : w0.le w j) (hl : 0 ≤ w.line) (h1 : w.line + s.sz < 1000000) (h2 : w.hard.length + s.sz < 1000000) (h3 : (pre ++ s :: rest).length ≤ 1000000) :
    codeX T0 X0 2 qcn (some (.nrm, ⟨(0, .ptr (.b 0) 0 0) :: (6, .d (.sl (LD smL (pre ++ s :: rest)))) :: (7, .d (.int .i64 (pre ++ s :: rest).length)) :: (8, .d (.int .i64 pre.length)) :: e, wH vs.length w (chd w0 w)⟩)) =
      some (.nrm, ⟨[(0, .ptr (.b 0) 0 0), (6, .d (.sl (LD smL (pre ++ s :: rest)))), (7, .d (.int .i64 (pre ++ s :: rest).length)), (8, .d (.int .i64 (pre.length + 1)))], wH vs.length (s.within vs.length (w.nl.see (s.simple vs.length) s.at_)) (chd w0 (s.within vs.length (w.nl.see (s.simple vs.length) s.at_)))⟩) := by
  have s1 := q3j hs hn
  have hpos := q86 s
  have g1 := Wk.see_le w (s.simple vs.length) s.at_
  have g2 := qut vs.length s (w.nl.see (s.simple vs.length) s.at_)
  have s2 := ih (w.nl.see (s.simple vs.length) s.at_) (by have := g1.l0; omega) (by have := g1.l1; omega) (by have := g1.h1; omega)
  have hget : (LD smL (pre ++ s :: rest))[pre.length]? = some s.d := by rw [qws smL _ (by simp)]; simp [smL]
  have hlt : pre.length < (pre ++ s :: rest).length := by simp
  have hc := qpk (h0.trans g1) g2
  have hplace : ∃ t x, s.d = .iface t x := by cases s <;> simp only [Sm.d] <;> exact ⟨_, _, rfl⟩
  have s3 := qjl s.at_
  rw [hc]
  clear hc
  generalize s.within vs.length (w.nl.see (s.simple vs.length) s.at_) = w3 at *
  generalize hw2 : w.nl.see (s.simple vs.length) s.at_ = w2 at *
  clear ih hplace g2
  have b1 := h0.h0
  have b2 := h0.l0
  have b3 := g1.h1
  generalize hc3 : chd w2 w3 = c3 at *
  generalize hc0 : chd w0 w = c0 at *
  have hch : chd w0 w2 = (c0 || chd w w2) := by rw [qpk h0 g1, hc0]
  rw [hch]
  cases hsi : s.simple vs.length
  · rw [hsi] at s1 hw2
    have e2 : w2 = { line := w.line + 1, bad := if w.hard.length = 0 then s.at_ else w.bad, hard := w.hard ++ [w.line + 1] } := hw2.symm
    have hcw : chd w w2 = true := by rw [e2]; simp [chd]
    rw [hcw]
    subst e2
    by_cases hz : w.hard.length = 0
    · simp only [if_pos hz] at s2 ⊢
      cases c0 <;> cases c3
      all_goals
        simp only [wH, Pl.cs, List.length_append, List.length_cons, List.length_nil, Nat.zero_add] at s2 s3 ⊢
        simp (maxSteps := 4000000) -implicitDefEqProofs (disch := omega) [qcn, s1, s2, s3, hget, -List.length_eq_zero_iff, Pl.cs]
    · simp only [if_neg hz] at s2 ⊢
      cases c0 <;> cases c3
      all_goals
        simp only [wH, Pl.cs, List.length_append, List.length_cons, List.length_nil, Nat.zero_add] at s2 s3 ⊢
        simp (maxSteps := 4000000) -implicitDefEqProofs (disch := omega) [qcn, s1, s2, s3, hget, -List.length_eq_zero_iff, Pl.cs]
  · rw [hsi] at s1 hw2
    have e2 : w2 = w.nl := hw2.symm
    have hcw : chd w w2 = false := by rw [e2]; simp [chd, Wk.nl]
    rw [hcw]
    subst e2
    cases c0 <;> cases c3
    all_goals
      simp only [wH, Pl.cs, Wk.nl] at s2 s3 ⊢
      simp (maxSteps := 4000000) -implicitDefEqProofs (disch := omega) [qcn, s1, s2, hget]
end Go.Rf

namespace Go.Rf
set_option maxHeartbeats 16000000
theorem q1b {vs : List (List UInt8)} (hn : vs.length ≤ 16) : ∀ (rest pre : List Sm) (w0 w : Wk) (e : List (Nat × V)) (j : Nat), Sms.fit vs rest → (∀ s ∈ rest, WinS vs.length s) → w0.le w j → 0 ≤ w.line → w.line + Sms.sz rest < 1000000 → w.hard.length + Sms.sz rest < 1000000 → (pre ++ rest).length ≤ 1000000 →
    codeX T0 X0 2 qe0 (some (.nrm, ⟨(0, .ptr (.b 0) 0 0) :: (6, .d (.sl (LD smL (pre ++ rest)))) :: (7, .d (.int .i64 (pre ++ rest).length)) :: (8, .d (.int .i64 pre.length)) :: e, wH vs.length w (chd w0 w)⟩)) =
      some (.exit 0, ⟨[], wH vs.length (Sms.walk vs.length rest w) (chd w0 (Sms.walk vs.length rest w))⟩)
  | [], pre, w0, w, e, j, _, _, _, _, _, _, hl => by
    rw [qac (l := qe0) rfl]
    simp only [Sms.walk, List.append_nil] at *
    generalize chd w0 w = c
    cases c
    all_goals
      simp only [wH]
      simp -implicitDefEqProofs (disch := omega) [qcn]
  | s :: rest, pre, w0, w, e, j, hf, hw, h0, h1, h2, h3, hl => by
    simp only [Sms.fit, Sms.sz, Sms.walk] at *
    have hp := q86 s
    have hs := hw s (List.mem_cons_self ..)
    have one := zgh hf.1 hn hs pre rest w0 w [] h0 h1 (by omega) (by omega) hl
    have g1 := (Wk.see_le w (s.simple vs.length) s.at_).trans (qut vs.length s (w.nl.see (s.simple vs.length) s.at_))
    have ih := q1b hn rest (pre ++ [s]) w0 (s.within vs.length (w.nl.see (s.simple vs.length) s.at_)) [] _ hf.2 (fun x hx => hw x (List.mem_cons_of_mem _ hx)) (h0.trans g1) (by have := g1.l0; omega) (by have := g1.l1; omega) (by have := g1.h1; omega) (by simpa using hl)
    have el : pre ++ [s] ++ rest = pre ++ s :: rest := by simp
    have e2 : (pre ++ [s]).length = pre.length + 1 := by simp
    rw [el, e2] at ih
    simp only [Int.natCast_add, Int.cast_ofNat_Int] at ih
    rw [qac (l := qe0) rfl]
    generalize s.within vs.length (w.nl.see (s.simple vs.length) s.at_) = w3 at *
    generalize wH vs.length (Sms.walk vs.length rest w3) (chd w0 (Sms.walk vs.length rest w3)) = hx at *
    generalize wH vs.length w3 (chd w0 w3) = hy at *
    rw [← ih]
    generalize (pre ++ s :: rest).length = N at *
    generalize chd w0 w = c at *
    cases c
    all_goals
      simp only [wH_f, wH_t] at one ⊢
      simp -implicitDefEqProofs (disch := omega) [one]
theorem qu6 {vs : List (List UInt8)} (hn : vs.length ≤ 16) {l : List Sm} (hf : Sms.fit vs l) (hw : ∀ s ∈ l, WinS vs.length s) (hl : l.length ≤ 1000000) : ∀ w : Wk, 0 ≤ w.line → w.line + Sms.sz l < 1000000 → w.hard.length + Sms.sz l < 1000000 →
    callE T0 X0 qbm [.ptr (.b 0) 0 0, .d (.sl (LD smL l))] (wH vs.length w false) = some (.ret [] (wH vs.length (Sms.walk vs.length l w) (chd w (Sms.walk vs.length l w)))) := by
  intro w h1 h2 h3
  have lp := q1b hn l [] w w [] 0 hf hw (Wk.le.refl _ _) h1 h2 h3 (by simpa using hl)
  rw [qab (af := qgq) rfl rfl rfl]
  have hc : chd w w = false := by simp [chd]
  rw [hc] at lp
  generalize Sms.walk vs.length l w = w' at *
  generalize chd w w' = c at *
  simp only [List.nil_append, List.length_nil] at lp
  cases c
  all_goals
    simp only [wH, Int.cast_ofNat_Int] at lp ⊢
    simp -implicitDefEqProofs (disch := omega) [qgq, lp]
theorem qe4 : ∀ l : List Sm, l.length ≤ Sms.sz l
  | [] => Nat.zero_le _
  | s :: l => by
    have := qe4 l
    have := q86 s
    simp only [Sms.sz, List.length_cons]
    omega
theorem q4s : ∀ l : List Bl, l.length ≤ Bls.sz l
  | [] => Nat.zero_le _
  | .mk p b :: l => by
    have := q4s l
    simp only [Bls.sz, Bl.sz, List.length_cons]
    omega
theorem bl_one {vs : List (List UInt8)} {p : Pl} {b : List Sm} (ih : ∀ w : Wk, 0 ≤ w.line → w.line + Sms.sz b < 1000000 → w.hard.length + Sms.sz b < 1000000 →
      callE T0 X0 qbm [.ptr (.b 0) 0 0, .d (.sl (LD smL b))] (wH vs.length w false) = some (.ret [] (wH vs.length (Sms.walk vs.length b w) (chd w (Sms.walk vs.length b w)))))
    (pre rest : List Bl) (w0 w : Wk) {j : Nat} (h0 : w0.le w j) (hl : 0 ≤ w.line) (h1 : w.line + Sms.sz b + 1 < 1000000) (h2 : w.hard.length + Sms.sz b < 1000000) (h3 : (pre ++ .mk p b :: rest).length ≤ 1000000) :
    codeX T0 X0 2 qcm (some (.nrm, ⟨[(0, .ptr (.b 0) 0 0), (15, .d (.sl (LD blL (pre ++ .mk p b :: rest)))), (16, .d (.int .i64 (pre ++ .mk p b :: rest).length)), (17, .d (.int .i64 pre.length))], wH vs.length w (chd w0 w)⟩)) =
      some (.nrm, ⟨[(0, .ptr (.b 0) 0 0), (15, .d (.sl (LD blL (pre ++ .mk p b :: rest)))), (16, .d (.int .i64 (pre ++ .mk p b :: rest).length)), (17, .d (.int .i64 (pre.length + 1)))],
        wH vs.length (Sms.walk vs.length b (if pre.length = 0 then w else w.nl)) (chd w0 (Sms.walk vs.length b (if pre.length = 0 then w else w.nl)))⟩) := by
  have hget : (LD blL (pre ++ .mk p b :: rest))[pre.length]? = some (.agg [.int .i64 p.b, .int .i64 p.g, .int .i64 p.l, .int .i64 p.c, .sl (LD smL b)]) := by
    rw [qws blL _ (by simp)]
    simp [blL, Bl.d, Sms.d_LD]
  have hlt : pre.length < (pre ++ .mk p b :: rest).length := by simp
  have hb5 := qe4 b
  by_cases hz : pre.length = 0
  · rw [if_pos hz]
    have g2 := qln vs.length b w
    have s2 := ih w hl (by omega) (by omega)
    rw [qpk h0 g2]
    generalize Sms.walk vs.length b w = w3 at *
    generalize (pre ++ .mk p b :: rest).length = N at *
    generalize chd w w3 = c3 at *
    generalize chd w0 w = c0 at *
    cases c0 <;> cases c3
    all_goals
      simp only [wH] at s2 ⊢
      simp (maxSteps := 4000000) -implicitDefEqProofs (disch := omega) [qcm, s2, hget, -List.length_eq_zero_iff]
  · rw [if_neg hz]
    have g1 := Wk.nl_le w
    have g2 := qln vs.length b w.nl
    have s2 := ih w.nl (by have := g1.l0; omega) (by have := g1.l1; omega) (by have := g1.h1; have : w.nl.hard = w.hard := rfl; rw [this]; omega)
    rw [qpk (h0.trans g1) g2, ze6]
    generalize Sms.walk vs.length b w.nl = w3 at *
    generalize (pre ++ .mk p b :: rest).length = N at *
    generalize chd w.nl w3 = c3 at *
    generalize chd w0 w = c0 at *
    cases c0 <;> cases c3
    all_goals
      simp only [wH, Wk.nl] at s2 ⊢
      simp (maxSteps := 4000000) -implicitDefEqProofs (disch := omega) [qcm, s2, hget, -List.length_eq_zero_iff]
theorem q6i {vs : List (List UInt8)} : ∀ (rest pre : List Bl) (w0 w : Wk) (j : Nat), (∀ p b, .mk p b ∈ rest → ∀ w : Wk, 0 ≤ w.line → w.line + Sms.sz b < 1000000 → w.hard.length + Sms.sz b < 1000000 →
      callE T0 X0 qbm [.ptr (.b 0) 0 0, .d (.sl (LD smL b))] (wH vs.length w false) = some (.ret [] (wH vs.length (Sms.walk vs.length b w) (chd w (Sms.walk vs.length b w))))) →
    w0.le w j → 0 ≤ w.line → w.line + Bls.sz rest < 1000000 → w.hard.length + Bls.sz rest < 1000000 → (pre ++ rest).length ≤ 1000000 →
    codeX T0 X0 2 qdy (some (.nrm, ⟨[(0, .ptr (.b 0) 0 0), (15, .d (.sl (LD blL (pre ++ rest)))), (16, .d (.int .i64 (pre ++ rest).length)), (17, .d (.int .i64 pre.length))], wH vs.length w (chd w0 w)⟩)) =
      some (.exit 1, ⟨[], wH vs.length (Bls.walk vs.length (decide (pre.length = 0)) rest w) (chd w0 (Bls.walk vs.length (decide (pre.length = 0)) rest w))⟩)
  | [], pre, w0, w, j, _, _, _, _, _, hl => by
    rw [qac (l := qdy) rfl]
    simp only [Bls.walk, List.append_nil] at *
    generalize chd w0 w = c
    cases c
    all_goals
      simp only [wH]
      simp -implicitDefEqProofs (disch := omega) [qcm]
  | .mk p b :: rest, pre, w0, w, j, hw, h0, h1, h2, h3, hl => by
    simp only [Bls.sz, Bl.sz, Bls.walk, Bl.walk] at *
    have one := bl_one (hw p b (List.mem_cons_self ..)) pre rest w0 w h0 h1 (by omega) (by omega) hl
    have hif : (if decide (pre.length = 0) = true then w else w.nl) = (if pre.length = 0 then w else w.nl) := by by_cases h : pre.length = 0 <;> simp [h]
    rw [hif]
    have g1 : w.le (Sms.walk vs.length b (if pre.length = 0 then w else w.nl)) (1 + Sms.sz b) := by
      split
      · exact (qln vs.length b w).to (by omega)
      · exact (Wk.nl_le w).trans (qln vs.length b w.nl)
    generalize Sms.walk vs.length b (if pre.length = 0 then w else w.nl) = w3 at *
    have ih := q6i rest (pre ++ [.mk p b]) w0 w3 _ (fun p' b' hx => hw p' b' (List.mem_cons_of_mem _ hx)) (h0.trans g1) (by have := g1.l0; omega) (by have := g1.l1; omega) (by have := g1.h1; omega) (by simpa using hl)
    have el : pre ++ [.mk p b] ++ rest = pre ++ .mk p b :: rest := by simp
    have e2 : (pre ++ [Bl.mk p b]).length = pre.length + 1 := by simp
    have e3 : decide (pre.length + 1 = 0) = false := by simp
    rw [el, e2, e3] at ih
    simp only [Int.natCast_add, Int.cast_ofNat_Int] at ih
    rw [qac (l := qdy) rfl]
    generalize wH vs.length (Bls.walk vs.length false rest w3) (chd w0 (Bls.walk vs.length false rest w3)) = hx at *
    generalize wH vs.length w3 (chd w0 w3) = hy at *
    rw [← ih]
    generalize (pre ++ .mk p b :: rest).length = N at *
    generalize chd w0 w = c at *
    cases c
    all_goals
      simp only [wH_f, wH_t] at one ⊢
      simp -implicitDefEqProofs (disch := omega) [one]
mutual
theorem q3f {vs : List (List UInt8)} (hn : vs.length ≤ 16) : ∀ s : Sm, s.fit vs → WinS vs.length s
  | .set .., h => fun w h1 h2 h3 => by
    rw [qab (af := qaf) rfl rfl rfl]
    have hc : chd w w = false := by simp [chd]
    simp only [Sm.within, hc, wH, Sm.d]
    simp (maxSteps := 4000000) -implicitDefEqProofs (disch := omega) [qaf, qah, qas, qao, qaw, qa1, qaz, qay, qaj]
  | .skip _, h => fun w h1 h2 h3 => by
    rw [qab (af := qaf) rfl rfl rfl]
    have hc : chd w w = false := by simp [chd]
    simp only [Sm.within, hc, wH, Sm.d]
    simp (maxSteps := 4000000) -implicitDefEqProofs (disch := omega) [qaf, qah, qas, qao, qaw, qa1, qaz, qay, qaj]
  | .stop _, h => fun w h1 h2 h3 => by
    rw [qab (af := qaf) rfl rfl rfl]
    have hc : chd w w = false := by simp [chd]
    simp only [Sm.within, hc, wH, Sm.d]
    simp (maxSteps := 4000000) -implicitDefEqProofs (disch := omega) [qaf, qah, qas, qao, qaw, qa1, qaz, qay, qaj]
  | .mark .., h => fun w h1 h2 h3 => by
    rw [qab (af := qaf) rfl rfl rfl]
    have hc : chd w w = false := by simp [chd]
    simp only [Sm.within, hc, wH, Sm.d]
    simp (maxSteps := 4000000) -implicitDefEqProofs (disch := omega) [qaf, qah, qas, qao, qaw, qa1, qaz, qay, qaj]
  | .loop p b, h => fun w h1 h2 h3 => by
    simp only [Sm.fit, Sm.sz] at h h2 h3
    have s1 := qu6 hn h (qkd hn b h) (by have := qe4 b; omega) w h1 (by omega) (by omega)
    have hb5 := qe4 b
    rw [qab (af := qaf) rfl rfl rfl]
    simp only [Sm.within]
    generalize Sms.walk vs.length b w = w' at *
    generalize chd w w' = c at *
    cases c
    all_goals
      simp only [wH, Sm.d, Sms.d_LD] at s1 ⊢
      simp (maxSteps := 4000000) -implicitDefEqProofs (disch := omega) [qaf, s1, qah, qas, qao, qaw, qa1, qaz, qay, qaj]
  | .ifs p x y q b, h => fun w h1 h2 h3 => by
    simp only [Sm.fit, Sm.sz] at h h2 h3
    have s1 := qu6 hn h.2.2 (qkd hn b h.2.2) (by have := qe4 b; omega) w h1 (by omega) (by omega)
    have hb5 := qe4 b
    rw [qab (af := qaf) rfl rfl rfl]
    simp only [Sm.within]
    generalize Sms.walk vs.length b w = w' at *
    generalize chd w w' = c at *
    cases c
    all_goals
      simp only [wH, Sm.d, Sms.d_LD] at s1 ⊢
      simp (maxSteps := 4000000) -implicitDefEqProofs (disch := omega) [qaf, s1, qah, qas, qao, qaw, qa1, qaz, qay, qaj]
  | .ife p x y q b pe e, h => fun w h1 h2 h3 => by
    simp only [Sm.fit, Sm.sz] at h h2 h3
    have s1 := qu6 hn h.2.2.1 (qkd hn b h.2.2.1) (by have := qe4 b; omega) w h1 (by omega) (by omega)
    have hb5 := qe4 b
    have hb6 := qe4 e
    have g1 := qln vs.length b w
    have g2 := Wk.nl_le (Sms.walk vs.length b w)
    have g3 := qln vs.length e (Sms.walk vs.length b w).nl
    have s2 := qu6 hn h.2.2.2 (qkd hn e h.2.2.2) (by omega) (Sms.walk vs.length b w).nl (by have := g1.l0; have := g2.l0; omega) (by have := g1.l1; have := g2.l1; omega) (by have := g1.h1; have := g2.h1; omega)
    have hln := g1.l1
    have hl0 := g1.l0
    rw [qab (af := qaf) rfl rfl rfl]
    simp only [Sm.within]
    rw [qpk (g1.trans g2) g3, ze6]
    generalize Sms.walk vs.length e (Sms.walk vs.length b w).nl = w3 at *
    generalize Sms.walk vs.length b w = w' at *
    clear g1 g2 g3
    generalize chd w w' = c at *
    generalize chd w'.nl w3 = c3 at *
    cases c <;> cases c3
    all_goals
      simp only [wH, Wk.nl, Sm.d, Sms.d_LD] at s1 s2 ⊢
      simp (maxSteps := 4000000) -implicitDefEqProofs (disch := omega) [qaf, s1, s2, qah, qas, qao, qaw, qa1, qaz, qay, qaj]
  | .while p x y q b, h => fun w h1 h2 h3 => by
    simp only [Sm.fit, Sm.sz] at h h2 h3
    have s1 := qu6 hn h.2.2 (qkd hn b h.2.2) (by have := qe4 b; omega) w h1 (by omega) (by omega)
    have hb5 := qe4 b
    rw [qab (af := qaf) rfl rfl rfl]
    simp only [Sm.within]
    generalize Sms.walk vs.length b w = w' at *
    generalize chd w w' = c at *
    cases c
    all_goals
      simp only [wH, Sm.d, Sms.d_LD] at s1 ⊢
      simp (maxSteps := 4000000) -implicitDefEqProofs (disch := omega) [qaf, s1, qah, qas, qao, qaw, qa1, qaz, qay, qaj]
  | .choose p bs, h => fun w h1 h2 h3 => by
    simp only [Sm.fit, Sm.sz] at h h2 h3
    have hb5 := q4s bs
    have lp := q6i bs [] w w 0 (qwi hn bs h.2) (Wk.le.refl _ _) h1 (by omega) (by omega) (by simp; omega)
    have hc : chd w w = false := by simp [chd]
    rw [hc] at lp
    rw [qab (af := qaf) rfl rfl rfl]
    simp only [Sm.within]
    simp only [List.nil_append, List.length_nil, decide_true] at lp
    generalize Bls.walk vs.length true bs w = w' at *
    generalize chd w w' = c at *
    cases c
    all_goals
      simp only [wH, Sm.d, Bls.d_LD, Int.cast_ofNat_Int] at lp ⊢
      simp (maxSteps := 4000000) -implicitDefEqProofs (disch := omega) [qaf, lp, ownD, qfw, qah, qas, qao, qaw, qa1, qaz, qay, qaj]
theorem qwi {vs : List (List UInt8)} (hn : vs.length ≤ 16) : ∀ l : List Bl, Bls.fit vs l → ∀ p b, .mk p b ∈ l → ∀ w : Wk, 0 ≤ w.line → w.line + Sms.sz b < 1000000 → w.hard.length + Sms.sz b < 1000000 →
      callE T0 X0 qbm [.ptr (.b 0) 0 0, .d (.sl (LD smL b))] (wH vs.length w false) = some (.ret [] (wH vs.length (Sms.walk vs.length b w) (chd w (Sms.walk vs.length b w))))
  | [], _, p, b, hs => by cases hs
  | .mk p' b' :: l, h, p, b, hs => by
    simp only [Bls.fit, Bl.fit] at h
    rcases List.mem_cons.1 hs with e | hs
    · cases e
      intro w h1 h2 h3
      exact qu6 hn h.1 (qkd hn b' h.1) (by have := qe4 b'; omega) w h1 h2 h3
    · exact qwi hn l h.2 p b hs
theorem qkd {vs : List (List UInt8)} (hn : vs.length ≤ 16) : ∀ l : List Sm, Sms.fit vs l → ∀ s ∈ l, WinS vs.length s
  | [], _, s, hs => by cases hs
  | x :: l, h, s, hs => by
    simp only [Sms.fit] at h
    rcases List.mem_cons.1 hs with e | hs
    · rw [e]; exact q3f hn x h.1
    · exact qkd hn l h.2 s hs
end
end Go.Rf

namespace Go.Rf
set_option maxHeartbeats 8000000
def Pg.d (g : Pg) : V := .d (.box (.agg g.cs))
def Pg.vs (g : Pg) : List (List UInt8) := g.bs.map Bg.name
def Pg.w (g : Pg) : Wk := Sms.walk g.vs.length g.body ⟨0, [], qam⟩
theorem ze9 {bs : List Bg} {i : Nat} (h : i < bs.length) : (LD bgL bs)[i]? = some (.agg (bs[i]).cs) := qws bgL bs h
theorem q8q (bs : List Bg) (hb : bs.length ≤ 1000) : ∀ d i (out : List (List UInt8)) (e : List (Nat × V)), d + i = bs.length → out = (bs.map Bg.name).take i →
    codeX T0 X0 0 qep (some (.nrm, ⟨(3, .ref (.b 0) ⟨1, 16⟩ 0 out.length) :: (9, .d (.sl (LD bgL bs))) :: (10, .d (.int .i64 bs.length)) :: (11, .d (.int .i64 i)) :: e, [.arr (SV out) ⟨1, 16⟩]⟩)) =
      some (.exit 0, ⟨[(3, .ref (.b 0) ⟨1, 16⟩ 0 bs.length)], [.arr (SV (bs.map Bg.name)) ⟨1, 16⟩]⟩) := by
  intro d
  induction d with
  | zero =>
    intro i out e hi ho
    have : i = bs.length := by omega
    subst this
    have ho : out = bs.map Bg.name := by rw [ho, List.take_of_length_le (by simp)]
    subst ho
    rw [qac (l := qep) rfl]
    simp -implicitDefEqProofs (disch := omega) [qgl]
  | succ d ih =>
    intro i out e hi ho
    have hlt : i < bs.length := by omega
    have hget := ze9 hlt
    have hlen : out.length = i := by rw [ho]; simp; omega
    have htk : out.take i = out := List.take_of_length_le (by omega)
    have hnx : out ++ [(bs[i]).name] = (bs.map Bg.name).take (i + 1) := by rw [ho, List.take_succ_eq_append_getElem (by simpa using hlt)]; simp
    rw [← ih (i + 1) (out ++ [(bs[i]).name]) [] (by omega) hnx]
    rw [qac (l := qep) rfl]
    generalize bs[i] = b at *
    simp only [Bg.cs] at hget
    simp -implicitDefEqProofs (disch := omega) [qgl, hget, hlen, htk]
theorem q0s (g : Pg) (hb : g.bs.length ≤ 1000) : callE T0 X0 qh6 [g.d] [] = some (.ret [.d (.sl (SL g.vs))] []) := by
  have s1 := q8q g.bs hb g.bs.length 0 [] [] rfl (by simp)
  rw [qab (af := qf3) rfl rfl rfl]
  unfold Pg.d Pg.vs Pg.cs
  simp only [Int.cast_ofNat_Int, List.length_nil, q6p] at s1
  generalize hm : g.bs.map Bg.name = m at *
  have hml : g.bs.length = m.length := by rw [← hm]; simp
  simp only [hml] at s1
  simp -implicitDefEqProofs (disch := omega) [qf3, s1, hml]
theorem zbc (g : Pg) (hb : g.body.length ≤ 1000000) : callE T0 X0 qlx [g.d] [] = some (.ret [.d (.sl (LD smL g.body))] []) := by
  rw [qab (af := qf4) rfl rfl rfl]
  unfold Pg.d Pg.cs
  simp -implicitDefEqProofs (disch := omega) [qf4]
theorem q8o {g : Pg} (h : Pok g) : (⟨0, [], qam⟩ : Wk).le g.w 5000 := (qln g.vs.length g.body ⟨0, [], qam⟩).to h.sz
theorem quu {g : Pg} (h : Pok g) : callE T0 X0 qm0 [g.d] [] = some (.ret [.d (.box (.agg [.int .i64 g.vs.length, .int .i64 g.w.line, .sl (LD inL g.w.hard), .int .i64 g.w.bad.b, .int .i64 g.w.bad.g, .int .i64 g.w.bad.l, .int .i64 g.w.bad.c]))] []) := by
  have hn := h.n
  have hv : g.vs.length ≤ 16 := by unfold Pg.vs; simp; omega
  have s1 := q0s g (by omega)
  have hl := qe4 g.body
  have hz := h.sz
  have s2 := zbc g (by omega)
  have s3 := qu6 hv h.fit (qkd hv g.body h.fit) (by omega) ⟨0, [], qam⟩ (Int.le_refl _) (by show (0 : Int) + _ < _; omega) (by show 0 + _ < _; omega)
  have hw := (q8o h).h1
  change callE _ _ _ _ _ = some (.ret [] (wH g.vs.length g.w (chd _ g.w))) at s3
  rw [qab (af := qka) rfl rfl rfl]
  have hw0 : g.w.hard.length ≤ 5000 := by simpa using hw
  unfold Pg.d at *
  generalize g.w = w at *
  generalize chd (⟨0, [], qam⟩ : Wk) w = c at *
  cases c
  all_goals
    simp only [wH, qam, zff, List.length_nil] at s3
    simp (maxSteps := 4000000) -implicitDefEqProofs (disch := omega) [qka, s1, s2, s3, ownD, qfw]
theorem zaf {g : Pg} (h : Pok g) : callE T0 X0 qt2 [g.d] [] = some (.ret [.d (.sl (LD inL g.w.hard))] []) := by
  have s1 := quu h
  have hw : g.w.hard.length ≤ 5000 := by simpa using (q8o h).h1
  rw [qab (af := qms) rfl rfl rfl]
  unfold Pg.d at *
  simp (maxSteps := 4000000) -implicitDefEqProofs (disch := omega) [qms, s1]
theorem q9m {g : Pg} (h : Pok g) : callE T0 X0 qt1 [g.d] [] = some (.ret [.d (.bool (decide (g.w.hard.length = 0))), .d (.agg g.w.bad.cs)] []) := by
  have s1 := quu h
  have hw : g.w.hard.length ≤ 5000 := by simpa using (q8o h).h1
  rw [qab (af := qmr) rfl rfl rfl]
  unfold Pg.d at *
  simp only [Pl.cs]
  simp (maxSteps := 4000000) -implicitDefEqProofs (disch := omega) [qmr, s1, -List.length_eq_zero_iff]
end Go.Rf

namespace Go.Rf
set_option maxHeartbeats 8000000
def textW (v : Int) : List UInt8 := if v < 0 then 45 :: textV 456 v.natAbs else textV 456 v
theorem q61 {v : Int} (h : nl v ≤ 32) : callE T0 X0 qmh [.d (Wd v)] [] = some (.ret [.d (.str (textW v))] []) := by
  unfold textW
  by_cases h0 : v < 0
  · rw [if_pos h0]
    have hl : (limbs (v.natAbs : Int)).length ≤ 32 := h
    have s1 := qux (qaq (v.natAbs : Int)) 456 (by omega) (by omega) (by rw [qbu (by omega)]; exact qq0 (by omega) hl)
    rw [qbu (by omega)] at s1
    have s2 := qyd (m := v) (by omega)
    have hs : v.sign = -1 := Int.sign_eq_neg_one_of_neg h0
    have ht := qor (v := (v.natAbs : Int))
    rw [qab (af := qij) rfl rfl rfl]
    have hd : decide (v < 0) = true := decide_eq_true h0
    simp only [Wd, hd, hs] at s2 ⊢
    simp -implicitDefEqProofs (disch := omega) [qij, s1, s2]
  · rw [if_neg h0]
    exact qw9 (by omega) (by unfold nl at h; rwa [Int.natAbs_of_nonneg (by omega)] at h)
def Bg.val (b : Bg) : List UInt8 := if b.any then [] else [32, 61, 32] ++ textW b.n
def decT : Bool → List Bg → List UInt8
  | _, [] => []
  | f, b :: l => (if f then [] else [44]) ++ ((32 :: b.name) ++ (b.val ++ decT false l))
theorem quy (v : Int) : (textW v).length ≤ 4105 := by
  unfold textW
  split
  · have := qor (v := (v.natAbs : Int)); simp; omega
  · have := qor (v := v); omega
theorem zdo {b : Bg} (hb : BgOk b) (pre rest : List Bg) (out : List UInt8) (ho : out.length ≤ 100000000) (hl : (pre ++ b :: rest).length ≤ 1000) :
    codeX T0 X0 0 qc9 (some (.nrm, ⟨[(3, .d (.str out)), (9, .d (.sl (LD bgL (pre ++ b :: rest)))), (10, .d (.int .i64 (pre ++ b :: rest).length)), (11, .d (.int .i64 pre.length))], []⟩)) =
      some (.nrm, ⟨[(3, .d (.str (out ++ ((if pre.length = 0 then [] else [44]) ++ ((32 :: b.name) ++ b.val))))), (9, .d (.sl (LD bgL (pre ++ b :: rest)))), (10, .d (.int .i64 (pre ++ b :: rest).length)), (11, .d (.int .i64 (pre.length + 1)))], []⟩) := by
  have hget : (LD bgL (pre ++ b :: rest))[pre.length]? = some (.agg b.cs) := by rw [ze9 (by simp)]; simp
  have hlt : pre.length < (pre ++ b :: rest).length := by simp
  have s1 := q61 hb.val
  have t1 := quy b.n
  have n1 := hb.name.l
  have hk : (limbs (b.n.natAbs : Int)).length ≤ 32 := hb.val
  unfold Bg.val
  generalize (pre ++ b :: rest).length = N at *
  generalize textW b.n = tw at *
  simp only [Wd] at s1
  simp only [Bg.cs] at hget
  by_cases hz : pre.length = 0
  case' pos => rw [if_pos hz]
  case' neg => rw [if_neg hz]
  all_goals
    cases ha : b.any
    all_goals
      rw [ha] at hget
      simp -implicitDefEqProofs (disch := omega) [qc9, hget, s1, -List.length_eq_zero_iff]
theorem q58 : ∀ (l : List Bg) (f : Bool), (∀ b ∈ l, BgOk b) → (decT f l).length ≤ 10000 * l.length
  | [], _, _ => by simp [decT]
  | b :: l, f, h => by
    have ih := q58 l false (fun x hx => h x (List.mem_cons_of_mem _ hx))
    have t1 := quy b.n
    have n1 := (h b (List.mem_cons_self ..)).name.l
    unfold decT Bg.val
    cases f <;> cases b.any <;> simp <;> omega
theorem qwb : ∀ (rest pre : List Bg) (out : List UInt8) (e : List (Nat × V)), (∀ b ∈ rest, BgOk b) → out.length ≤ 10 + 10000 * pre.length → (pre ++ rest).length ≤ 1000 →
    codeX T0 X0 0 qc8 (some (.nrm, ⟨(3, .d (.str out)) :: (9, .d (.sl (LD bgL (pre ++ rest)))) :: (10, .d (.int .i64 (pre ++ rest).length)) :: (11, .d (.int .i64 pre.length)) :: e, []⟩)) =
      some (.exit 0, ⟨[(3, .d (.str (out ++ decT (decide (pre.length = 0)) rest)))], []⟩)
  | [], pre, out, e, _, ho, hl => by
    rw [qac (l := qc8) rfl]
    simp only [decT, List.append_nil] at *
    simp -implicitDefEqProofs (disch := omega) [qc9]
  | b :: rest, pre, out, e, hb, ho, hl => by
    have hlb : pre.length ≤ 1000 := by simp at hl; omega
    have one := zdo (hb b (List.mem_cons_self ..)) pre rest out (by omega) hl
    have t1 := quy b.n
    have n1 := (hb b (List.mem_cons_self ..)).name.l
    have ih := qwb rest (pre ++ [b]) (out ++ ((if pre.length = 0 then [] else [44]) ++ ((32 :: b.name) ++ b.val))) [] (fun x hx => hb x (List.mem_cons_of_mem _ hx)) (by
      unfold Bg.val
      split <;> cases b.any <;> simp <;> omega) (by simpa using hl)
    have el : pre ++ [b] ++ rest = pre ++ b :: rest := by simp
    have e2 : (pre ++ [b]).length = pre.length + 1 := by simp
    have e3 : decide (pre.length + 1 = 0) = false := by simp
    rw [el, e2, e3] at ih
    have e4 : out ++ decT (decide (pre.length = 0)) (b :: rest) = out ++ ((if pre.length = 0 then [] else [44]) ++ ((32 :: b.name) ++ b.val)) ++ decT false rest := by
      rw [decT]
      by_cases hz : pre.length = 0 <;> simp [hz]
    rw [e4]
    simp only [Int.natCast_add, Int.cast_ofNat_Int] at ih
    generalize out ++ ((if pre.length = 0 then [] else [44]) ++ ((32 :: b.name) ++ b.val)) = out2 at *
    rw [← ih, qac (l := qc8) rfl]
    generalize (pre ++ b :: rest).length = N at *
    simp -implicitDefEqProofs (disch := omega) [one]
def Pg.first (g : Pg) : List UInt8 := [118, 97, 114, 115] ++ decT true g.bs
theorem q0e {g : Pg} (h : Pok g) : callE T0 X0 qit [g.d] [] = some (.ret [.d (.str g.first)] []) := by
  have hn := h.n
  have lp := qwb g.bs [] [118, 97, 114, 115] [] h.bs (by simp) (by simp; omega)
  rw [qab (af := qeb) rfl rfl rfl]
  unfold Pg.d Pg.cs Pg.first
  simp only [List.nil_append, List.length_nil, Int.cast_ofNat_Int, decide_true] at lp
  generalize ([118, 97, 114, 115] ++ decT true g.bs : List UInt8) = o at *
  simp -implicitDefEqProofs (disch := omega) [qeb, lp]
end Go.Rf

namespace Go.Rf
set_option maxHeartbeats 16000000
structure Ln where
  kind : Int
  depth : Int
  text : List UInt8
  at_ : Pl
def lnL : Lst Ln := ⟨fun x => .agg [.int .i64 x.kind, .int .i64 x.depth, .str x.text, .int .i64 x.at_.b, .int .i64 x.at_.g, .int .i64 x.at_.l, .int .i64 x.at_.c], ⟨7, 64⟩, fun x => by simp [wt, wts, IntKind.bits], fun x => by simp [V.cells], by decide⟩
@[simp] theorem zio (l) : (∀ x ∈ LW lnL l, x.cells.length = 7) = True := qso lnL l
@[simp] theorem wl_ln (l) : (wl (LD lnL l) ≤ 64) = True := q0q lnL l
@[simp] theorem fit_ln {n : Nat} (l) (h : n ≤ 1099511627776) : (n * wl (LD lnL l) ≤ lots) = True := q2l lnL l (by decide) h
theorem zbq (l : List Ln) (k d : Int) (t : List UInt8) (p : Pl) : LW lnL l ++ [.d (.agg [.int .i64 k, .int .i64 d, .str t, .int .i64 p.b, .int .i64 p.g, .int .i64 p.l, .int .i64 p.c])] = LW lnL (l ++ [⟨k, d, t, p⟩]) := qwr lnL l ⟨k, d, t, p⟩
@[simp] theorem zfz (l l' s s' o o' n n') : qd8 (.ref l s o n) 0 (.ref l' s' o' n') = some (.ref l' s' o' n') := rfl
theorem qgu (k d : Int) (t : List UInt8) (p : Pl) (out : List Ln) (ht : t.length ≤ 100000000) (ho : out.length ≤ 100000000) :
    callE T0 X0 qjy [.d (.int .i64 k), .d (.str t), .d (.agg p.cs), .ptr (.b 0) 0 0, .ptr (.b 1) 0 0] [.arr [.ref (.b 2) ⟨7, 64⟩ 0 out.length] ⟨1, 0⟩, .arr [.d (.int .i64 d)] ⟨1, 0⟩, .arr (LW lnL out) ⟨7, 64⟩] =
      some (.ret [] [.arr [.ref (.b 3) ⟨7, 64⟩ 0 (out.length + 1)] ⟨1, 0⟩, .arr [.d (.int .i64 d)] ⟨1, 0⟩, .dead, .arr (LW lnL (out ++ [⟨k, d, t, p⟩])) ⟨7, 64⟩]) := by
  rw [qab (af := qj9) rfl rfl rfl]
  simp only [Pl.cs]
  simp (maxSteps := 2000000) -implicitDefEqProofs (disch := omega) [qj9, zbq]
def orT : List UInt8 := [111, 114]
def elseT : List UInt8 := [101, 108, 115, 101]
mutual
def Sm.inner (d : Int) : Sm → List Ln
  | .choose _ bs => Bls.lines d true bs
  | .loop _ b => Sms.lines (d + 1) b
  | .ifs _ _ _ _ b => Sms.lines (d + 1) b
  | .ife _ _ _ _ b pe e => Sms.lines (d + 1) b ++ ⟨11, d, elseT, pe⟩ :: Sms.lines (d + 1) e
  | .while _ _ _ _ b => Sms.lines (d + 1) b
  | _ => []
def Sms.lines (d : Int) : List Sm → List Ln
  | [] => []
  | s :: l => ⟨s.kind, d, s.head, s.at_⟩ :: (Sm.inner d s ++ Sms.lines d l)
def Bls.lines (d : Int) (first : Bool) : List Bl → List Ln
  | [] => []
  | b :: l => Bl.lines d first b ++ Bls.lines d false l
def Bl.lines (d : Int) (first : Bool) : Bl → List Ln
  | .mk p b => (if first then [] else [⟨8, d, orT, p⟩]) ++ Sms.lines (d + 1) b
end
def lH (c : Bool) (d : Int) (out : List Ln) : List Obj := match c with
  | false => [.arr (LW lnL out) ⟨7, 64⟩, .arr [.ref (.b 0) ⟨7, 64⟩ 0 out.length] ⟨1, 0⟩, .arr [.d (.int .i64 d)] ⟨1, 0⟩]
  | true => [.dead, .arr [.ref (.b 3) ⟨7, 64⟩ 0 out.length] ⟨1, 0⟩, .arr [.d (.int .i64 d)] ⟨1, 0⟩, .arr (LW lnL out) ⟨7, 64⟩]
def lSt (c : Bool) (d : Int) (l : List Sm) (i : Nat) (out : List Ln) : St :=
  ⟨[(3, .ptr (.b 1) 0 0), (5, .ptr (.b 2) 0 0), (7, .fn qjy [.ptr (.b 1) 0 0, .ptr (.b 2) 0 0]), (17, .d (.sl (LD smL l))), (18, .d (.int .i64 l.length)), (19, .d (.int .i64 i))], lH c d out⟩
def lR (l : List Sm) (out : List Ln) : CRes := match l with
  | [] => .ret [.ref (.b 0) ⟨7, 64⟩ 0 out.length] [.arr (LW lnL out) ⟨7, 64⟩]
  | _ => .ret [.ref (.b 1) ⟨7, 64⟩ 0 out.length] [.dead, .arr (LW lnL out) ⟨7, 64⟩]
def LnS (d : Int) (l : List Sm) : Prop := ∀ out : List Ln, out.length + Sms.sz l ≤ 1000000 →
  callE T0 X0 qgw [.ref (.b 0) ⟨7, 64⟩ 0 out.length, .d (.sl (LD smL l)), .d (.int .i64 d)] [.arr (LW lnL out) ⟨7, 64⟩] = some (lR l (out ++ Sms.lines d l))
mutual
theorem q2h (d : Int) : ∀ s : Sm, (Sm.inner d s).length + 1 ≤ s.sz
  | .choose _ bs => by have := qtj d true bs; simp only [Sm.inner, Sm.sz]; omega
  | .loop _ b => by have := qdk (d + 1) b; simp only [Sm.inner, Sm.sz]; omega
  | .ifs _ _ _ _ b => by have := qdk (d + 1) b; simp only [Sm.inner, Sm.sz]; omega
  | .ife _ _ _ _ b _ e => by have := qdk (d + 1) b; have := qdk (d + 1) e; simp only [Sm.inner, Sm.sz, List.length_append, List.length_cons]; omega
  | .while _ _ _ _ b => by have := qdk (d + 1) b; simp only [Sm.inner, Sm.sz]; omega
  | .set .. => by simp [Sm.inner, Sm.sz]
  | .skip _ => by simp [Sm.inner, Sm.sz]
  | .stop _ => by simp [Sm.inner, Sm.sz]
  | .mark .. => by simp [Sm.inner, Sm.sz]
theorem qdk (d : Int) : ∀ l : List Sm, (Sms.lines d l).length ≤ Sms.sz l
  | [] => by simp [Sms.lines, Sms.sz]
  | s :: l => by have := q2h d s; have := qdk d l; simp only [Sms.lines, Sms.sz, List.length_append, List.length_cons]; omega
theorem qtj (d : Int) (f : Bool) : ∀ l : List Bl, (Bls.lines d f l).length ≤ Bls.sz l
  | [] => by simp [Bls.lines, Bls.sz]
  | .mk p b :: l => by
    have := qdk (d + 1) b
    have := qtj d false l
    simp only [Bls.lines, Bl.lines, Bls.sz, Bl.sz, List.length_append]
    cases f <;> simp <;> omega
end
theorem qpt {vs : List (List UInt8)} {s : Sm} (h : s.fit vs) : s.head.length ≤ 100000000 := by
  have w : ∀ {x : Nd}, Xok vs x → (wr x).length ≤ 20550000 := fun hx => by have := qog _ hx.pr; have := hx.sz; omega
  have c : ∀ {x y : Nd} {q}, Xok vs x → Xok vs y → (condT x y q).length ≤ 41200000 := fun hx hy => by
    have := w hx; have := w hy; unfold condT eqs; split <;> simp <;> omega
  cases s with
  | set p v s e =>
    simp only [Sm.fit] at h
    have := h.1.l
    cases e with
    | none => simp only [Sm.head, List.length_append, List.length_cons, List.length_nil]; omega
    | some x => have := w h.2.2.2.2; simp only [Sm.head, List.length_append, List.length_cons, List.length_nil]; omega
  | mark p s => simp only [Sm.fit] at h; have := h.1.l; simp only [Sm.head, List.length_append, List.length_cons, List.length_nil]; omega
  | ifs p x y q b => simp only [Sm.fit] at h; have := c (q := q) h.1 h.2.1; simp only [Sm.head, List.length_append, List.length_cons, List.length_nil]; omega
  | ife p x y q b pe e => simp only [Sm.fit] at h; have := c (q := q) h.1 h.2.1; simp only [Sm.head, List.length_append, List.length_cons, List.length_nil]; omega
  | «while» p x y q b => simp only [Sm.fit] at h; have := c (q := q) h.1 h.2.1; simp only [Sm.head, List.length_append, List.length_cons, List.length_nil]; omega
  | _ => simp [Sm.head]
end Go.Rf

namespace Go.Rf
set_option maxHeartbeats 16000000
def qqd (d : Int) (s : Sm) : Prop := ∀ (pre rest : List Sm) (c : Bool) (out : List Ln), out.length + s.sz ≤ 1000000 → (pre ++ s :: rest).length ≤ 1000000 →
  codeX T0 X0 1 qcx (some (.nrm, lSt c d (pre ++ s :: rest) pre.length out)) = some (.nrm, lSt true d (pre ++ s :: rest) (pre.length + 1) (out ++ ⟨s.kind, d, s.head, s.at_⟩ :: Sm.inner d s))
theorem qxu (pre rest : List Sm) (s : Sm) : (LD smL (pre ++ s :: rest))[pre.length]? = some s.d := by rw [qws smL _ (by simp)]; simp [smL]
theorem qpn {vs : List (List UInt8)} {d : Int} {s : Sm} (h : s.fit vs) (hp : (∃ p v n e, s = .set p v n e) ∨ (∃ p, s = .skip p) ∨ (∃ p, s = .stop p) ∨ ∃ p n, s = .mark p n) : qqd d s := by
  intro pre rest c out h1 h2
  have s1 := qlq s
  have s2 := qnl h
  have hl := qpt h
  have s3 := qjl s.at_
  have s4 := qgu s.kind d s.head s.at_ out hl (by omega)
  have hget := qxu pre rest s
  have hin : Sm.inner d s = [] := by rcases hp with ⟨_, _, _, _, rfl⟩ | ⟨_, rfl⟩ | ⟨_, rfl⟩ | ⟨_, _, rfl⟩ <;> simp only [Sm.inner]
  rw [hin]
  have hlt : pre.length < (pre ++ s :: rest).length := by simp
  generalize hk : s.kind = k at *
  generalize hh : s.head = t at *
  generalize ha : s.at_ = p at *
  have hsd : ∃ ty x, s.d = .iface ty x ∧ ty ≠ qah ∧ ty ≠ qao ∧ ty ≠ qaj ∧ ty ≠ qas := by
    rcases hp with ⟨_, _, _, _, rfl⟩ | ⟨_, rfl⟩ | ⟨_, rfl⟩ | ⟨_, _, rfl⟩ <;> simp only [Sm.d] <;> exact ⟨_, _, rfl, by decide, by decide, by decide, by decide⟩
  obtain ⟨ty, x, hd, n1, n2, n3, n4⟩ := hsd
  have hv := zdc
  generalize pre ++ s :: rest = l at *
  have e1 : out ++ [(⟨k, d, t, p⟩ : Ln)] = out ++ [⟨k, d, t, p⟩] := rfl
  generalize hN : l.length = N at *
  have hfc : fitC s.d = true := qs9 s
  have hcl : D.cells s.d = [s.d] := s.cells
  have inv : ∀ T cf i h, invY T cf [(qfu, qaa, none), (qah, qaa, some (0, 4, true)), (qes, qaa, some (0, 4, true)), (qao, qaa, some (0, 4, true)), (qaj, qaa, some (0, 4, true)), (qas, qaa, some (0, 4, true)), (qaz, qaa, some (0, 4, true)), (qay, qaa, some (0, 4, true)), (qa1, qaa, some (0, 4, true)), (qaw, qaa, some (0, 4, true))] i h [] (some (ty, V.d x)) = callA cf qaa i h (qcc h [(.d (.agg p.cs), true)]) := fun T cf i h => by
    have := qnj T cf i h s
    rw [hd, ha] at this
    exact this
  rw [hd] at hget s1 s2 hfc hcl
  have hlen : (out ++ [(⟨k, d, t, p⟩ : Ln)]).length = out.length + 1 := by simp
  generalize out ++ [(⟨k, d, t, p⟩ : Ln)] = o1 at *
  cases c
  all_goals
    simp only [lSt, lH, Pl.cs, hN, hlen] at s3 s4 ⊢
    simp (maxSteps := 4000000) -implicitDefEqProofs (disch := omega) [qcx, hget, s1, s2, s3, s4, inv, n1, n2, n3, n4, Pl.cs, hcl, hfc, -qnk]
end Go.Rf

namespace Go.Rf
set_option maxHeartbeats 16000000
theorem lR_or (b : List Sm) (out : List Ln) : lR b out = .ret [.ref (.b 0) ⟨7, 64⟩ 0 out.length] [.arr (LW lnL out) ⟨7, 64⟩] ∨ lR b out = .ret [.ref (.b 1) ⟨7, 64⟩ 0 out.length] [.dead, .arr (LW lnL out) ⟨7, 64⟩] := by
  cases b
  · exact .inl rfl
  · exact .inr rfl
theorem ty_ne : qao ≠ qah ∧ qaj ≠ qah ∧ qas ≠ qah ∧ qaj ≠ qao ∧ qas ≠ qao ∧ qas ≠ qaj := by decide
theorem q82 {vs : List (List UInt8)} {d : Int} {p : Pl} {b : List Sm} (h : (Sm.loop p b).fit vs) (hb : LnS (d + 1) b) (h0 : 0 ≤ d) (h9 : d ≤ 1000000) : qqd d (Sm.loop p b) := by
  intro pre rest c out h1 h2
  have s1 := qlq (Sm.loop p b)
  have s2 := qnl h
  have hl := qpt h
  have s3 := qjl p
  have s4 := qgu (Sm.loop p b).kind d (Sm.loop p b).head p out hl (by omega)
  have hget := qxu pre rest (Sm.loop p b)
  have hlt : pre.length < (pre ++ Sm.loop p b :: rest).length := by simp
  have hfc : fitC (Sm.loop p b).d = true := qs9 _
  have hcl : D.cells (Sm.loop p b).d = [(Sm.loop p b).d] := Sm.cells _
  have inv0 := fun T cf i h => qnj T cf i h (Sm.loop p b)
  simp only [Sm.sz] at h1
  have hat : (Sm.loop p b).at_ = p := rfl
  have e0 : out ++ (⟨(Sm.loop p b).kind, d, (Sm.loop p b).head, (Sm.loop p b).at_⟩ : Ln) :: Sm.inner d (Sm.loop p b) = (out ++ [⟨(Sm.loop p b).kind, d, (Sm.loop p b).head, p⟩]) ++ Sms.lines (d + 1) b := by rw [hat]; simp [Sm.inner]
  rw [e0]
  have hlen : (out ++ [(⟨(Sm.loop p b).kind, d, (Sm.loop p b).head, p⟩ : Ln)]).length = out.length + 1 := by simp
  have hb5 := qe4 b
  have hll := qdk (d + 1) b
  have s5 := hb (out ++ [⟨(Sm.loop p b).kind, d, (Sm.loop p b).head, p⟩]) (by simp; omega)
  have hd : (Sm.loop p b).d = .iface qao (.agg [.int .i64 p.b, .int .i64 p.g, .int .i64 p.l, .int .i64 p.c, .sl (LD smL b)]) := by simp only [Sm.d, Sms.d_LD, Bls.d_LD]
  generalize (Sm.loop p b).kind = k at *
  generalize (Sm.loop p b).head = t at *
  rw [hd] at hget s1 s2 hfc hcl
  have inv : ∀ T cf i h, invY T cf [(qfu, qaa, none), (qah, qaa, some (0, 4, true)), (qes, qaa, some (0, 4, true)), (qao, qaa, some (0, 4, true)), (qaj, qaa, some (0, 4, true)), (qas, qaa, some (0, 4, true)), (qaz, qaa, some (0, 4, true)), (qay, qaa, some (0, 4, true)), (qa1, qaa, some (0, 4, true)), (qaw, qaa, some (0, 4, true))] i h [] (some (qao, V.d (.agg [.int .i64 p.b, .int .i64 p.g, .int .i64 p.l, .int .i64 p.c, .sl (LD smL b)]))) = callA cf qaa i h (qcc h [(.d (.agg p.cs), true)]) := fun T cf i h => by
    have := inv0 T cf i h
    rw [hd] at this
    exact this
  clear inv0 hd e0 h hat
  generalize pre ++ Sm.loop p b :: rest = l at *
  generalize hN : l.length = N at *
  generalize out ++ [(⟨k, d, t, p⟩ : Ln)] = o1 at *
  have hne := ty_ne
  have hL : (o1 ++ Sms.lines (d + 1) b).length ≤ 2000000 := by rw [List.length_append]; omega
  generalize o1 ++ Sms.lines (d + 1) b = o2 at *
  rcases lR_or b o2 with hR | hR <;> rw [hR] at s5 <;> cases c
  all_goals
    simp only [lSt, lH, Pl.cs, hN, hlen] at s3 s4 s5 ⊢
    simp (maxSteps := 4000000) -implicitDefEqProofs (disch := omega) [qcx, hget, s1, s2, s3, s4, s5, inv, hne, hlen, Pl.cs, hcl, hfc, -qnk]
theorem q64 {vs : List (List UInt8)} {d : Int} {p : Pl} {x y : Nd} {q : Bool} {b : List Sm} (h : (Sm.while p x y q b).fit vs) (hb : LnS (d + 1) b) (h0 : 0 ≤ d) (h9 : d ≤ 1000000) : qqd d (Sm.while p x y q b) := by
  intro pre rest c out h1 h2
  have s1 := qlq (Sm.while p x y q b)
  have s2 := qnl h
  have hl := qpt h
  have s3 := qjl p
  have s4 := qgu (Sm.while p x y q b).kind d (Sm.while p x y q b).head p out hl (by omega)
  have hget := qxu pre rest (Sm.while p x y q b)
  have hlt : pre.length < (pre ++ Sm.while p x y q b :: rest).length := by simp
  have hfc : fitC (Sm.while p x y q b).d = true := qs9 _
  have hcl : D.cells (Sm.while p x y q b).d = [(Sm.while p x y q b).d] := Sm.cells _
  have inv0 := fun T cf i h => qnj T cf i h (Sm.while p x y q b)
  simp only [Sm.sz] at h1
  have hat : (Sm.while p x y q b).at_ = p := rfl
  have e0 : out ++ (⟨(Sm.while p x y q b).kind, d, (Sm.while p x y q b).head, (Sm.while p x y q b).at_⟩ : Ln) :: Sm.inner d (Sm.while p x y q b) = (out ++ [⟨(Sm.while p x y q b).kind, d, (Sm.while p x y q b).head, p⟩]) ++ Sms.lines (d + 1) b := by rw [hat]; simp [Sm.inner]
  rw [e0]
  have hlen : (out ++ [(⟨(Sm.while p x y q b).kind, d, (Sm.while p x y q b).head, p⟩ : Ln)]).length = out.length + 1 := by simp
  have hb5 := qe4 b
  have hll := qdk (d + 1) b
  have s5 := hb (out ++ [⟨(Sm.while p x y q b).kind, d, (Sm.while p x y q b).head, p⟩]) (by simp; omega)
  have hd : (Sm.while p x y q b).d = .iface qaj (.agg [.int .i64 p.b, .int .i64 p.g, .int .i64 p.l, .int .i64 p.c, x.d, y.d, .bool q, .sl (LD smL b)]) := by simp only [Sm.d, Sms.d_LD, Bls.d_LD]
  generalize (Sm.while p x y q b).kind = k at *
  generalize (Sm.while p x y q b).head = t at *
  rw [hd] at hget s1 s2 hfc hcl
  have inv : ∀ T cf i h, invY T cf [(qfu, qaa, none), (qah, qaa, some (0, 4, true)), (qes, qaa, some (0, 4, true)), (qao, qaa, some (0, 4, true)), (qaj, qaa, some (0, 4, true)), (qas, qaa, some (0, 4, true)), (qaz, qaa, some (0, 4, true)), (qay, qaa, some (0, 4, true)), (qa1, qaa, some (0, 4, true)), (qaw, qaa, some (0, 4, true))] i h [] (some (qaj, V.d (.agg [.int .i64 p.b, .int .i64 p.g, .int .i64 p.l, .int .i64 p.c, x.d, y.d, .bool q, .sl (LD smL b)]))) = callA cf qaa i h (qcc h [(.d (.agg p.cs), true)]) := fun T cf i h => by
    have := inv0 T cf i h
    rw [hd] at this
    exact this
  clear inv0 hd e0 h hat
  generalize pre ++ Sm.while p x y q b :: rest = l at *
  generalize hN : l.length = N at *
  generalize out ++ [(⟨k, d, t, p⟩ : Ln)] = o1 at *
  have hne := ty_ne
  have hL : (o1 ++ Sms.lines (d + 1) b).length ≤ 2000000 := by rw [List.length_append]; omega
  generalize o1 ++ Sms.lines (d + 1) b = o2 at *
  rcases lR_or b o2 with hR | hR <;> rw [hR] at s5 <;> cases c
  all_goals
    simp only [lSt, lH, Pl.cs, hN, hlen] at s3 s4 s5 ⊢
    simp (maxSteps := 4000000) -implicitDefEqProofs (disch := omega) [qcx, hget, s1, s2, s3, s4, s5, inv, hne, hlen, Pl.cs, hcl, hfc, -qnk]
theorem zch {vs : List (List UInt8)} {d : Int} {p : Pl} {x y : Nd} {q : Bool} {b : List Sm} (h : (Sm.ifs p x y q b).fit vs) (hb : LnS (d + 1) b) (h0 : 0 ≤ d) (h9 : d ≤ 1000000) : qqd d (Sm.ifs p x y q b) := by
  intro pre rest c out h1 h2
  have s1 := qlq (Sm.ifs p x y q b)
  have s2 := qnl h
  have hl := qpt h
  have s3 := qjl p
  have s4 := qgu (Sm.ifs p x y q b).kind d (Sm.ifs p x y q b).head p out hl (by omega)
  have hget := qxu pre rest (Sm.ifs p x y q b)
  have hlt : pre.length < (pre ++ Sm.ifs p x y q b :: rest).length := by simp
  have hfc : fitC (Sm.ifs p x y q b).d = true := qs9 _
  have hcl : D.cells (Sm.ifs p x y q b).d = [(Sm.ifs p x y q b).d] := Sm.cells _
  have inv0 := fun T cf i h => qnj T cf i h (Sm.ifs p x y q b)
  simp only [Sm.sz] at h1
  have hat : (Sm.ifs p x y q b).at_ = p := rfl
  have e0 : out ++ (⟨(Sm.ifs p x y q b).kind, d, (Sm.ifs p x y q b).head, (Sm.ifs p x y q b).at_⟩ : Ln) :: Sm.inner d (Sm.ifs p x y q b) = (out ++ [⟨(Sm.ifs p x y q b).kind, d, (Sm.ifs p x y q b).head, p⟩]) ++ Sms.lines (d + 1) b := by rw [hat]; simp [Sm.inner]
  rw [e0]
  have hlen : (out ++ [(⟨(Sm.ifs p x y q b).kind, d, (Sm.ifs p x y q b).head, p⟩ : Ln)]).length = out.length + 1 := by simp
  have hb5 := qe4 b
  have hll := qdk (d + 1) b
  have s5 := hb (out ++ [⟨(Sm.ifs p x y q b).kind, d, (Sm.ifs p x y q b).head, p⟩]) (by simp; omega)
  have hd : (Sm.ifs p x y q b).d = .iface qas (.agg [.int .i64 p.b, .int .i64 p.g, .int .i64 p.l, .int .i64 p.c, x.d, y.d, .bool q, .sl (LD smL b), .nilp]) := by simp only [Sm.d, Sms.d_LD, Bls.d_LD]
  generalize (Sm.ifs p x y q b).kind = k at *
  generalize (Sm.ifs p x y q b).head = t at *
  rw [hd] at hget s1 s2 hfc hcl
  have inv : ∀ T cf i h, invY T cf [(qfu, qaa, none), (qah, qaa, some (0, 4, true)), (qes, qaa, some (0, 4, true)), (qao, qaa, some (0, 4, true)), (qaj, qaa, some (0, 4, true)), (qas, qaa, some (0, 4, true)), (qaz, qaa, some (0, 4, true)), (qay, qaa, some (0, 4, true)), (qa1, qaa, some (0, 4, true)), (qaw, qaa, some (0, 4, true))] i h [] (some (qas, V.d (.agg [.int .i64 p.b, .int .i64 p.g, .int .i64 p.l, .int .i64 p.c, x.d, y.d, .bool q, .sl (LD smL b), .nilp]))) = callA cf qaa i h (qcc h [(.d (.agg p.cs), true)]) := fun T cf i h => by
    have := inv0 T cf i h
    rw [hd] at this
    exact this
  clear inv0 hd e0 h hat
  generalize pre ++ Sm.ifs p x y q b :: rest = l at *
  generalize hN : l.length = N at *
  generalize out ++ [(⟨k, d, t, p⟩ : Ln)] = o1 at *
  have hne := ty_ne
  have hL : (o1 ++ Sms.lines (d + 1) b).length ≤ 2000000 := by rw [List.length_append]; omega
  generalize o1 ++ Sms.lines (d + 1) b = o2 at *
  rcases lR_or b o2 with hR | hR <;> rw [hR] at s5 <;> cases c
  all_goals
    simp only [lSt, lH, Pl.cs, hN, hlen] at s3 s4 s5 ⊢
    simp (maxSteps := 4000000) -implicitDefEqProofs (disch := omega) [qcx, hget, s1, s2, s3, s4, s5, inv, hne, hlen, Pl.cs, hcl, hfc, -qnk]
theorem zci {vs : List (List UInt8)} {d : Int} {p : Pl} {x y : Nd} {q : Bool} {b : List Sm} {pe : Pl} {e : List Sm} (h : (Sm.ife p x y q b pe e).fit vs) (hb : LnS (d + 1) b) (he : LnS (d + 1) e) (h0 : 0 ≤ d) (h9 : d ≤ 1000000) : qqd d (Sm.ife p x y q b pe e) := by
  intro pre rest c out h1 h2
  have s1 := qlq (Sm.ife p x y q b pe e)
  have s2 := qnl h
  have hl := qpt h
  have s3 := qjl p
  have s4 := qgu (Sm.ife p x y q b pe e).kind d (Sm.ife p x y q b pe e).head p out hl (by omega)
  have hget := qxu pre rest (Sm.ife p x y q b pe e)
  have hlt : pre.length < (pre ++ Sm.ife p x y q b pe e :: rest).length := by simp
  have hfc : fitC (Sm.ife p x y q b pe e).d = true := qs9 _
  have hcl : D.cells (Sm.ife p x y q b pe e).d = [(Sm.ife p x y q b pe e).d] := Sm.cells _
  have inv0 := fun T cf i h => qnj T cf i h (Sm.ife p x y q b pe e)
  simp only [Sm.sz] at h1
  have hat : (Sm.ife p x y q b pe e).at_ = p := rfl
  have e0 : out ++ (⟨(Sm.ife p x y q b pe e).kind, d, (Sm.ife p x y q b pe e).head, (Sm.ife p x y q b pe e).at_⟩ : Ln) :: Sm.inner d (Sm.ife p x y q b pe e) = (out ++ [⟨(Sm.ife p x y q b pe e).kind, d, (Sm.ife p x y q b pe e).head, p⟩]) ++ (Sms.lines (d + 1) b ++ ⟨11, d, elseT, pe⟩ :: Sms.lines (d + 1) e) := by rw [hat]; simp [Sm.inner]
  rw [e0]
  have hlen : (out ++ [(⟨(Sm.ife p x y q b pe e).kind, d, (Sm.ife p x y q b pe e).head, p⟩ : Ln)]).length = out.length + 1 := by simp
  have hb5 := qe4 b
  have hb6 := qe4 e
  have hll := qdk (d + 1) b
  have hle := qdk (d + 1) e
  have s5 := hb (out ++ [⟨(Sm.ife p x y q b pe e).kind, d, (Sm.ife p x y q b pe e).head, p⟩]) (by simp; omega)
  have hd : (Sm.ife p x y q b pe e).d = .iface qas (.agg [.int .i64 p.b, .int .i64 p.g, .int .i64 p.l, .int .i64 p.c, x.d, y.d, .bool q, .sl (LD smL b), .box (.agg [.int .i64 pe.b, .int .i64 pe.g, .int .i64 pe.l, .int .i64 pe.c, .sl (LD smL e)])]) := by simp only [Sm.d, Sms.d_LD, Bls.d_LD]
  generalize (Sm.ife p x y q b pe e).kind = k at *
  generalize (Sm.ife p x y q b pe e).head = t at *
  rw [hd] at hget s1 s2 hfc hcl
  have inv : ∀ T cf i h, invY T cf [(qfu, qaa, none), (qah, qaa, some (0, 4, true)), (qes, qaa, some (0, 4, true)), (qao, qaa, some (0, 4, true)), (qaj, qaa, some (0, 4, true)), (qas, qaa, some (0, 4, true)), (qaz, qaa, some (0, 4, true)), (qay, qaa, some (0, 4, true)), (qa1, qaa, some (0, 4, true)), (qaw, qaa, some (0, 4, true))] i h [] (some (qas, V.d (.agg [.int .i64 p.b, .int .i64 p.g, .int .i64 p.l, .int .i64 p.c, x.d, y.d, .bool q, .sl (LD smL b), .box (.agg [.int .i64 pe.b, .int .i64 pe.g, .int .i64 pe.l, .int .i64 pe.c, .sl (LD smL e)])]))) = callA cf qaa i h (qcc h [(.d (.agg p.cs), true)]) := fun T cf i h => by
    have := inv0 T cf i h
    rw [hd] at this
    exact this
  clear inv0 hd e0 h hat
  generalize pre ++ Sm.ife p x y q b pe e :: rest = l at *
  generalize hN : l.length = N at *
  generalize out ++ [(⟨k, d, t, p⟩ : Ln)] = o1 at *
  have hne := ty_ne
  have hL : (o1 ++ Sms.lines (d + 1) b).length = out.length + 1 + (Sms.lines (d + 1) b).length := by rw [List.length_append]; omega
  have e1 : o1 ++ (Sms.lines (d + 1) b ++ (⟨11, d, elseT, pe⟩ : Ln) :: Sms.lines (d + 1) e) = (o1 ++ Sms.lines (d + 1) b ++ [⟨11, d, elseT, pe⟩]) ++ Sms.lines (d + 1) e := by simp
  rw [e1]
  clear e1
  generalize o1 ++ Sms.lines (d + 1) b = o2 at *
  have s6 := qgu 11 d elseT pe o2 (by decide) (by omega)
  have s7 := he (o2 ++ [⟨11, d, elseT, pe⟩]) (by simp; omega)
  have hl3 : (o2 ++ [(⟨11, d, elseT, pe⟩ : Ln)]).length = o2.length + 1 := by simp
  generalize o2 ++ [(⟨11, d, elseT, pe⟩ : Ln)] = o3 at *
  have hL4 : (o3 ++ Sms.lines (d + 1) e).length ≤ 2000000 := by rw [List.length_append]; omega
  generalize o3 ++ Sms.lines (d + 1) e = o4 at *
  rcases lR_or b o2 with hR | hR <;> rw [hR] at s5 <;> (rcases lR_or e o4 with hR2 | hR2 <;> rw [hR2] at s7 <;> cases c)
  all_goals
    simp only [lSt, lH, Pl.cs, hN, hlen, hl3, elseT] at s3 s4 s5 s6 s7 ⊢
    simp (maxSteps := 4000000) -implicitDefEqProofs (disch := omega) [qcx, hget, s1, s2, s3, s4, s5, s6, s7, inv, hne, hlen, hl3, Pl.cs, hcl, hfc, -qnk]
def bSt (d : Int) (l : List Sm) (i : Nat) (bs : List Bl) (j : Nat) (out : List Ln) : St :=
  ⟨[(3, .ptr (.b 1) 0 0), (5, .ptr (.b 2) 0 0), (7, .fn qjy [.ptr (.b 1) 0 0, .ptr (.b 2) 0 0]), (17, .d (.sl (LD smL l))), (18, .d (.int .i64 l.length)), (19, .d (.int .i64 i)), (36, .d (.sl (LD blL bs))), (37, .d (.int .i64 bs.length)), (38, .d (.int .i64 j))], lH true d out⟩
theorem zik {d : Int} {p : Pl} {b : List Sm} (hb : LnS (d + 1) b) (h0 : 0 ≤ d) (h9 : d ≤ 1000000) (l : List Sm) (i : Nat) (pre rest : List Bl) (out : List Ln) (h1 : out.length + 1 + Sms.sz b ≤ 1000000) (h2 : (pre ++ .mk p b :: rest).length ≤ 1000000) :
    codeX T0 X0 1 qg3 (some (.nrm, bSt d l i (pre ++ .mk p b :: rest) pre.length out)) = some (.nrm, bSt d l i (pre ++ .mk p b :: rest) (pre.length + 1) (out ++ Bl.lines d (decide (pre.length = 0)) (.mk p b))) := by
  have hget : (LD blL (pre ++ .mk p b :: rest))[pre.length]? = some (.agg [.int .i64 p.b, .int .i64 p.g, .int .i64 p.l, .int .i64 p.c, .sl (LD smL b)]) := by
    rw [qws blL _ (by simp)]
    simp [blL, Bl.d, Sms.d_LD]
  have hlt : pre.length < (pre ++ .mk p b :: rest).length := by simp
  have hb5 := qe4 b
  have hll := qdk (d + 1) b
  generalize pre ++ .mk p b :: rest = bs at *
  generalize hN : bs.length = N at *
  generalize hM : l.length = M at *
  by_cases hz : pre.length = 0
  · have e1 : out ++ Bl.lines d (decide (pre.length = 0)) (.mk p b) = out ++ Sms.lines (d + 1) b := by simp [Bl.lines, hz]
    rw [e1]
    clear e1
    have s5 := hb out (by omega)
    have hL : (out ++ Sms.lines (d + 1) b).length ≤ 2000000 := by rw [List.length_append]; omega
    generalize out ++ Sms.lines (d + 1) b = o2 at *
    rcases lR_or b o2 with hR | hR <;> rw [hR] at s5
    all_goals
      simp only [bSt, lH, hN, hM] at s5 ⊢
      simp (maxSteps := 4000000) -implicitDefEqProofs (disch := omega) [qg3, hget, s5, -List.length_eq_zero_iff]
  · have e1 : out ++ Bl.lines d (decide (pre.length = 0)) (.mk p b) = (out ++ [⟨8, d, orT, p⟩]) ++ Sms.lines (d + 1) b := by simp [Bl.lines, hz]
    rw [e1]
    clear e1
    have s4 := qgu 8 d orT p out (by decide) (by omega)
    have s5 := hb (out ++ [⟨8, d, orT, p⟩]) (by simp; omega)
    have hl3 : (out ++ [(⟨8, d, orT, p⟩ : Ln)]).length = out.length + 1 := by simp
    generalize out ++ [(⟨8, d, orT, p⟩ : Ln)] = o1 at *
    have hL : (o1 ++ Sms.lines (d + 1) b).length ≤ 2000000 := by rw [List.length_append]; omega
    generalize o1 ++ Sms.lines (d + 1) b = o2 at *
    rcases lR_or b o2 with hR | hR <;> rw [hR] at s5
    all_goals
      simp only [bSt, lH, hN, hM, hl3, orT, Pl.cs] at s4 s5 ⊢
      simp (maxSteps := 4000000) -implicitDefEqProofs (disch := omega) [qg3, hget, s4, s5, hl3, Pl.cs, -List.length_eq_zero_iff]
theorem q25 {d : Int} (h0 : 0 ≤ d) (h9 : d ≤ 1000000) (l : List Sm) (i : Nat) : ∀ (rest pre : List Bl) (out : List Ln), (∀ p b, .mk p b ∈ rest → LnS (d + 1) b) → out.length + Bls.sz rest ≤ 1000000 → (pre ++ rest).length ≤ 1000000 → l.length ≤ 1000000 →
    codeX T0 X0 1 qje (some (.nrm, bSt d l i (pre ++ rest) pre.length out)) = some (.exit 3, lSt true d l i (out ++ Bls.lines d (decide (pre.length = 0)) rest))
  | [], pre, out, _, h1, h2, h3 => by
    rw [qac (l := qje) rfl]
    simp only [Bls.lines, List.append_nil] at *
    simp only [bSt, lSt, lH]
    simp -implicitDefEqProofs (disch := omega) [qg3]
  | .mk p b :: rest, pre, out, hb, h1, h2, h3 => by
    simp only [Bls.sz, Bl.sz] at h1
    have one := zik (hb p b (List.mem_cons_self ..)) h0 h9 l i pre rest out (by omega) h2
    have hln : (Bl.lines d (decide (pre.length = 0)) (.mk p b)).length ≤ 1 + Sms.sz b := by
      have := qdk (d + 1) b
      by_cases hz : pre.length = 0 <;> simp [Bl.lines, hz] <;> omega
    have ih := q25 h0 h9 l i rest (pre ++ [.mk p b]) (out ++ Bl.lines d (decide (pre.length = 0)) (.mk p b)) (fun p' b' hx => hb p' b' (List.mem_cons_of_mem _ hx)) (by rw [List.length_append]; omega) (by simpa using h2) h3
    have el : pre ++ [.mk p b] ++ rest = pre ++ .mk p b :: rest := by simp
    have e2 : (pre ++ [Bl.mk p b]).length = pre.length + 1 := by simp
    have e3 : decide (pre.length + 1 = 0) = false := by simp
    rw [el, e2, e3] at ih
    have e4 : out ++ Bls.lines d (decide (pre.length = 0)) (.mk p b :: rest) = out ++ Bl.lines d (decide (pre.length = 0)) (.mk p b) ++ Bls.lines d false rest := by rw [Bls.lines]; simp
    rw [e4, ← ih]
    generalize bSt d l i (pre ++ .mk p b :: rest) (pre.length + 1) (out ++ Bl.lines d (decide (pre.length = 0)) (.mk p b)) = st2 at *
    clear ih e4
    rw [qac (l := qje) rfl]
    simp only [bSt, lH] at one ⊢
    generalize (pre ++ .mk p b :: rest).length = N at *
    simp -implicitDefEqProofs (disch := omega) [one]
end Go.Rf

namespace Go.Rf
set_option maxHeartbeats 16000000
theorem q3i {vs : List (List UInt8)} {d : Int} {p : Pl} {bs : List Bl} (h : (Sm.choose p bs).fit vs) (hb : ∀ p b, .mk p b ∈ bs → LnS (d + 1) b) (h0 : 0 ≤ d) (h9 : d ≤ 1000000) : qqd d (Sm.choose p bs) := by
  intro pre rest c out h1 h2
  have s1 := qlq (Sm.choose p bs)
  have s2 := qnl h
  have hl := qpt h
  have s3 := qjl p
  have s4 := qgu (Sm.choose p bs).kind d (Sm.choose p bs).head p out hl (by omega)
  have hget := qxu pre rest (Sm.choose p bs)
  have hlt : pre.length < (pre ++ Sm.choose p bs :: rest).length := by simp
  have hfc : fitC (Sm.choose p bs).d = true := qs9 _
  have hcl : D.cells (Sm.choose p bs).d = [(Sm.choose p bs).d] := Sm.cells _
  have inv0 := fun T cf i h => qnj T cf i h (Sm.choose p bs)
  simp only [Sm.sz] at h1
  have hat : (Sm.choose p bs).at_ = p := rfl
  have e0 : out ++ (⟨(Sm.choose p bs).kind, d, (Sm.choose p bs).head, (Sm.choose p bs).at_⟩ : Ln) :: Sm.inner d (Sm.choose p bs) = (out ++ [⟨(Sm.choose p bs).kind, d, (Sm.choose p bs).head, p⟩]) ++ Bls.lines d true bs := by rw [hat]; simp [Sm.inner]
  rw [e0]
  have hlen : (out ++ [(⟨(Sm.choose p bs).kind, d, (Sm.choose p bs).head, p⟩ : Ln)]).length = out.length + 1 := by simp
  have hb5 := q4s bs
  have hll := qtj d true bs
  have s5 := q25 h0 h9 (pre ++ Sm.choose p bs :: rest) pre.length bs [] (out ++ [⟨(Sm.choose p bs).kind, d, (Sm.choose p bs).head, p⟩]) hb (by simp; omega) (by simp; omega) h2
  simp only [List.nil_append, List.length_nil, decide_true] at s5
  have hd : (Sm.choose p bs).d = .iface qah (.agg [.int .i64 p.b, .int .i64 p.g, .int .i64 p.l, .int .i64 p.c, .sl (LD blL bs)]) := by simp only [Sm.d, Sms.d_LD, Bls.d_LD]
  generalize (Sm.choose p bs).kind = k at *
  generalize (Sm.choose p bs).head = t at *
  rw [hd] at hget s1 s2 hfc hcl
  have inv : ∀ T cf i h, invY T cf [(qfu, qaa, none), (qah, qaa, some (0, 4, true)), (qes, qaa, some (0, 4, true)), (qao, qaa, some (0, 4, true)), (qaj, qaa, some (0, 4, true)), (qas, qaa, some (0, 4, true)), (qaz, qaa, some (0, 4, true)), (qay, qaa, some (0, 4, true)), (qa1, qaa, some (0, 4, true)), (qaw, qaa, some (0, 4, true))] i h [] (some (qah, V.d (.agg [.int .i64 p.b, .int .i64 p.g, .int .i64 p.l, .int .i64 p.c, .sl (LD blL bs)]))) = callA cf qaa i h (qcc h [(.d (.agg p.cs), true)]) := fun T cf i h => by
    have := inv0 T cf i h
    rw [hd] at this
    exact this
  clear inv0 hd e0 h hat
  generalize pre ++ Sm.choose p bs :: rest = l at *
  generalize hN : l.length = N at *
  generalize out ++ [(⟨k, d, t, p⟩ : Ln)] = o1 at *
  generalize o1 ++ Bls.lines d true bs = o2 at *
  cases c
  all_goals
    simp only [lSt, bSt, lH, Pl.cs, hN, hlen, Int.cast_ofNat_Int] at s3 s4 s5 ⊢
    simp (maxSteps := 4000000) -implicitDefEqProofs (disch := omega) [qcx, hget, s1, s2, s3, s4, s5, inv, hlen, Pl.cs, hcl, hfc, -qnk, ownD, qfw]
@[simp] theorem mkFn_ptr2 (f l a b l2 a2 b2) : mkFn f [.ptr l a b, .ptr l2 a2 b2] = .fn f [.ptr l a b, .ptr l2 a2 b2] := rfl
theorem qxv {vs : List (List UInt8)} {d : Int} : ∀ (rest pre : List Sm) (c : Bool) (out : List Ln), Sms.fit vs rest → (∀ s ∈ rest, qqd d s) → out.length + Sms.sz rest ≤ 1000000 → (pre ++ rest).length ≤ 1000000 →
    codeX T0 X0 1 qjd (some (.nrm, lSt c d (pre ++ rest) pre.length out)) = some (.exit 0, ⟨[(3, .ptr (.b 1) 0 0)], (match (c || !rest.isEmpty) with
      | false => [.arr (LW lnL (out ++ Sms.lines d rest)) ⟨7, 64⟩, .arr [.ref (.b 0) ⟨7, 64⟩ 0 (out ++ Sms.lines d rest).length] ⟨1, 0⟩]
      | true => [.dead, .arr [.ref (.b 2) ⟨7, 64⟩ 0 (out ++ Sms.lines d rest).length] ⟨1, 0⟩, .arr (LW lnL (out ++ Sms.lines d rest)) ⟨7, 64⟩])⟩)
  | [], pre, c, out, _, _, h1, h2 => by
    rw [qac (l := qjd) rfl]
    simp only [Sms.lines, List.append_nil, List.isEmpty_nil, Bool.not_true, Bool.or_false] at *
    cases c
    all_goals
      simp only [lSt, lH]
      simp -implicitDefEqProofs (disch := omega) [qcx]
  | s :: rest, pre, c, out, hf, hs, h1, h2 => by
    simp only [Sms.fit, Sms.sz] at hf h1
    have one := hs s (List.mem_cons_self ..) pre rest c out (by omega) h2
    have hin := q2h d s
    have ih := qxv (d := d) rest (pre ++ [s]) true (out ++ ⟨s.kind, d, s.head, s.at_⟩ :: Sm.inner d s) hf.2 (fun x hx => hs x (List.mem_cons_of_mem _ hx)) (by rw [List.length_append, List.length_cons]; omega) (by simpa using h2)
    have el : pre ++ [s] ++ rest = pre ++ s :: rest := by simp
    have e2 : (pre ++ [s]).length = pre.length + 1 := by simp
    rw [el, e2] at ih
    have e4 : out ++ Sms.lines d (s :: rest) = out ++ (⟨s.kind, d, s.head, s.at_⟩ :: Sm.inner d s) ++ Sms.lines d rest := by rw [Sms.lines]; simp
    have e5 : (c || !(s :: rest).isEmpty) = (true || !rest.isEmpty) := by simp
    rw [e4, e5, ← ih]
    generalize lSt true d (pre ++ s :: rest) (pre.length + 1) (out ++ ⟨s.kind, d, s.head, s.at_⟩ :: Sm.inner d s) = st2 at *
    clear ih e4 e5
    rw [qac (l := qjd) rfl]
    generalize hN : (pre ++ s :: rest).length = N at *
    cases c
    all_goals
      simp only [lSt, lH, hN] at one ⊢
      simp -implicitDefEqProofs (disch := omega) [one]
theorem qvw {vs : List (List UInt8)} {d : Int} {l : List Sm} (hf : Sms.fit vs l) (hs : ∀ s ∈ l, qqd d s) (h0 : 0 ≤ d) (h9 : d ≤ 1000000) : LnS d l := by
  intro out h1
  have hlen := qe4 l
  have lp := qxv (d := d) l [] false out hf hs h1 (by simp; omega)
  rw [qab (af := qkq) rfl rfl rfl]
  simp only [List.nil_append, List.length_nil, Bool.false_or] at lp
  have hL : (out ++ Sms.lines d l).length ≤ 2000000 := by have := qdk d l; rw [List.length_append]; omega
  cases l with
  | nil =>
    generalize out ++ Sms.lines d [] = o2 at *
    simp only [lSt, lH, lR, Int.cast_ofNat_Int, List.isEmpty_nil, Bool.not_true, List.length_nil, LD_nil] at lp ⊢
    simp -implicitDefEqProofs (disch := omega) [qkq, lp, wl]
  | cons s l =>
    have e : (!(s :: l).isEmpty) = true := rfl
    rw [e] at lp
    have hR : ∀ o, lR (s :: l) o = .ret [.ref (.b 1) ⟨7, 64⟩ 0 o.length] [.dead, .arr (LW lnL o) ⟨7, 64⟩] := fun _ => rfl
    rw [hR]
    generalize out ++ Sms.lines d (s :: l) = o2 at *
    generalize s :: l = l at *
    simp only [lSt, lH, Int.cast_ofNat_Int] at lp ⊢
    simp -implicitDefEqProofs (disch := omega) [qkq, lp]
mutual
theorem q7s {vs : List (List UInt8)} : ∀ (s : Sm) (d : Int), s.fit vs → 0 ≤ d → d + s.sz ≤ 1000000 → qqd d s
  | .set p v n e, d, h, _, _ => qpn h (.inl ⟨_, _, _, _, rfl⟩)
  | .skip p, d, h, _, _ => qpn h (.inr (.inl ⟨_, rfl⟩))
  | .stop p, d, h, _, _ => qpn h (.inr (.inr (.inl ⟨_, rfl⟩)))
  | .mark p n, d, h, _, _ => qpn h (.inr (.inr (.inr ⟨_, _, rfl⟩)))
  | .loop p b, d, h, h0, h9 => by
    have hf := h
    simp only [Sm.fit, Sm.sz] at hf h9
    exact q82 h (qvw hf (qgt b (d + 1) hf (by omega) (by omega)) (by omega) (by omega)) h0 (by omega)
  | .ifs p x y q b, d, h, h0, h9 => by
    have hf := h
    simp only [Sm.fit, Sm.sz] at hf h9
    exact zch h (qvw hf.2.2 (qgt b (d + 1) hf.2.2 (by omega) (by omega)) (by omega) (by omega)) h0 (by omega)
  | .while p x y q b, d, h, h0, h9 => by
    have hf := h
    simp only [Sm.fit, Sm.sz] at hf h9
    exact q64 h (qvw hf.2.2 (qgt b (d + 1) hf.2.2 (by omega) (by omega)) (by omega) (by omega)) h0 (by omega)
  | .ife p x y q b pe e, d, h, h0, h9 => by
    have hf := h
    simp only [Sm.fit, Sm.sz] at hf h9
    exact zci h (qvw hf.2.2.1 (qgt b (d + 1) hf.2.2.1 (by omega) (by omega)) (by omega) (by omega)) (qvw hf.2.2.2 (qgt e (d + 1) hf.2.2.2 (by omega) (by omega)) (by omega) (by omega)) h0 (by omega)
  | .choose p bs, d, h, h0, h9 => by
    have hf := h
    simp only [Sm.fit, Sm.sz] at hf h9
    exact q3i h (qtu bs d hf.2 h0 (by omega)) h0 (by omega)
theorem qtu {vs : List (List UInt8)} : ∀ (l : List Bl) (d : Int), Bls.fit vs l → 0 ≤ d → d + 1 + Bls.sz l ≤ 1000000 → ∀ p b, .mk p b ∈ l → LnS (d + 1) b
  | [], d, _, _, _, p, b, hs => by cases hs
  | .mk p' b' :: l, d, h, h0, h9, p, b, hs => by
    simp only [Bls.fit, Bl.fit, Bls.sz, Bl.sz] at h h9
    rcases List.mem_cons.1 hs with e | hs
    · cases e
      exact qvw h.1 (qgt b' (d + 1) h.1 (by omega) (by omega)) (by omega) (by omega)
    · exact qtu l d h.2 h0 (by omega) p b hs
theorem qgt {vs : List (List UInt8)} : ∀ (l : List Sm) (d : Int), Sms.fit vs l → 0 ≤ d → d + Sms.sz l ≤ 1000000 → ∀ s ∈ l, qqd d s
  | [], d, _, _, _, s, hs => by cases hs
  | x :: l, d, h, h0, h9, s, hs => by
    simp only [Sms.fit, Sms.sz] at h h9
    rcases List.mem_cons.1 hs with e | hs
    · rw [e]; exact q7s x d h.1 h0 (by omega)
    · exact qgt l d h.2 h0 (by omega) s hs
end
def Pg.lines (g : Pg) : List Ln := ⟨1, 0, g.first, g.at_⟩ :: Sms.lines 0 g.body
theorem q8e {g : Pg} (h : Pok g) : callE T0 X0 qk3 [g.d] [] = some (.ret [.d (.sl (LD lnL g.lines))] []) := by
  have s1 := q0e h
  have hz := h.sz
  have hl := qe4 g.body
  have hd := q58 g.bs true h.bs
  have hn := h.n
  have s2 := qvw h.fit (qgt g.body 0 h.fit (Int.le_refl _) (by omega)) (Int.le_refl _) (by omega) [⟨1, 0, g.first, g.at_⟩] (by simp; omega)
  have hf : g.first.length ≤ 100000000 := by unfold Pg.first; simp; omega
  have hL := qdk 0 g.body
  have e1 : LW lnL [⟨1, 0, g.first, g.at_⟩] = [.d (.agg [.int .i64 1, .int .i64 0, .str g.first, .int .i64 g.at_.b, .int .i64 g.at_.g, .int .i64 g.at_.l, .int .i64 g.at_.c])] := rfl
  rw [e1] at s2
  rw [qab (af := qfe) rfl rfl rfl]
  unfold Pg.lines
  have e2 : [(⟨1, 0, g.first, g.at_⟩ : Ln)] ++ Sms.lines 0 g.body = ⟨1, 0, g.first, g.at_⟩ :: Sms.lines 0 g.body := rfl
  rw [e2] at s2
  have hlen : ((⟨1, 0, g.first, g.at_⟩ : Ln) :: Sms.lines 0 g.body).length ≤ 6000 := by simp; omega
  generalize (⟨1, 0, g.first, g.at_⟩ : Ln) :: Sms.lines 0 g.body = L at *
  unfold Pg.d Pg.cs at *
  generalize g.first = t at *
  rcases lR_or g.body L with hR | hR <;> rw [hR] at s2
  all_goals
    simp only [List.length_cons, List.length_nil, Nat.zero_add] at s2
    simp (maxSteps := 2000000) -implicitDefEqProofs (disch := omega) [qfe, s1, s2]
end Go.Rf

namespace Go.Rf
structure Tg where
  ln : Ln
  hd : Bool
mutual
def Sm.tin (d : Int) (n : Nat) : Sm → List Tg
  | .choose _ bs => Bls.tags d n true bs
  | .loop _ b => Sms.tags (d + 1) n b
  | .ifs _ _ _ _ b => Sms.tags (d + 1) n b
  | .ife _ _ _ _ b pe e => Sms.tags (d + 1) n b ++ ⟨⟨11, d, elseT, pe⟩, false⟩ :: Sms.tags (d + 1) n e
  | .while _ _ _ _ b => Sms.tags (d + 1) n b
  | _ => []
def Sms.tags (d : Int) (n : Nat) : List Sm → List Tg
  | [] => []
  | s :: l => ⟨⟨s.kind, d, s.head, s.at_⟩, !s.simple n⟩ :: (Sm.tin d n s ++ Sms.tags d n l)
def Bls.tags (d : Int) (n : Nat) (first : Bool) : List Bl → List Tg
  | [] => []
  | b :: l => Bl.tags d n first b ++ Bls.tags d n false l
def Bl.tags (d : Int) (n : Nat) (first : Bool) : Bl → List Tg
  | .mk p b => (if first then [] else [⟨⟨8, d, orT, p⟩, false⟩]) ++ Sms.tags (d + 1) n b
end
mutual
theorem tin_ln (d : Int) (n : Nat) : ∀ s : Sm, (Sm.tin d n s).map Tg.ln = Sm.inner d s
  | .choose _ bs => by simp only [Sm.tin, Sm.inner]; exact q6h d n true bs
  | .loop _ b => by simp only [Sm.tin, Sm.inner]; exact qot (d + 1) n b
  | .ifs _ _ _ _ b => by simp only [Sm.tin, Sm.inner]; exact qot (d + 1) n b
  | .ife _ _ _ _ b pe e => by simp only [Sm.tin, Sm.inner, List.map_append, List.map_cons, qot (d + 1) n b, qot (d + 1) n e]
  | .while _ _ _ _ b => by simp only [Sm.tin, Sm.inner]; exact qot (d + 1) n b
  | .set .. => by simp [Sm.tin, Sm.inner]
  | .skip _ => by simp [Sm.tin, Sm.inner]
  | .stop _ => by simp [Sm.tin, Sm.inner]
  | .mark .. => by simp [Sm.tin, Sm.inner]
theorem qot (d : Int) (n : Nat) : ∀ l : List Sm, (Sms.tags d n l).map Tg.ln = Sms.lines d l
  | [] => by simp [Sms.tags, Sms.lines]
  | s :: l => by simp only [Sms.tags, Sms.lines, List.map_append, List.map_cons, tin_ln d n s, qot d n l]
theorem q6h (d : Int) (n : Nat) (f : Bool) : ∀ l : List Bl, (Bls.tags d n f l).map Tg.ln = Bls.lines d f l
  | [] => by simp [Bls.tags, Bls.lines]
  | .mk p b :: l => by
    simp only [Bls.tags, Bl.tags, Bls.lines, Bl.lines, List.map_append, qot (d + 1) n b, q6h d n false l]
    cases f <;> simp
end
def pos : Int → List Tg → List Int
  | _, [] => []
  | k, t :: l => if t.hd then k :: pos (k + 1) l else pos (k + 1) l
def fstAt (p : Pl) : List Tg → Pl
  | [] => p
  | t :: l => if t.hd then t.ln.at_ else fstAt p l
theorem qvb : ∀ (a b : List Tg) (k : Int), pos k (a ++ b) = pos k a ++ pos (k + a.length) b
  | [], b, k => by simp [pos]
  | t :: a, b, k => by
    have e : k + ((t :: a).length : Nat) = k + 1 + (a.length : Nat) := by simp; omega
    rw [e]
    simp only [List.cons_append, pos, qvb a b (k + 1)]
    split <;> simp
theorem q4j : ∀ (a b : List Tg) (p : Pl), fstAt p (a ++ b) = if pos 0 a = [] then fstAt p b else fstAt p a
  | [], b, p => by simp [pos, fstAt]
  | t :: a, b, p => by
    have := q4j a b p
    have hz : ∀ k j, pos k a = [] ↔ pos j a = [] := by
      intro k j
      have g : ∀ (l : List Tg) k j, pos k l = [] → pos j l = [] := by
        intro l
        induction l with
        | nil => intros; rfl
        | cons t l ih => intro k j h; unfold pos at h ⊢; split at h; cases h; rename_i c; rw [if_neg c]; exact ih _ _ h
      exact ⟨g a k j, g a j k⟩
    simp only [List.cons_append, fstAt, pos]
    split
    · simp
    · rw [this]; simp only [hz 0 (0 + 1)]
theorem q9o (l : List Tg) (k j : Int) (h : pos k l = []) : pos j l = [] := by
  induction l generalizing k j with
  | nil => rfl
  | cons t l ih => unfold pos at h ⊢; split at h; cases h; rename_i c; rw [if_neg c]; exact ih _ _ h
theorem q5z {p : Pl} : ∀ (l : List Tg) (k : Int), pos k l = [] → fstAt p l = p
  | [], _, _ => rfl
  | t :: l, k, h => by unfold pos at h; split at h; cases h; rename_i c; unfold fstAt; rw [if_neg c]; exact q5z l _ h
def Wk.go (w : Wk) (T : List Tg) : Wk := ⟨w.line + T.length, w.hard ++ pos (w.line + 1) T, if w.hard = [] then fstAt w.bad T else w.bad⟩
theorem qx0 (w : Wk) : w.go [] = w := by unfold Wk.go; simp [pos, fstAt]
theorem qv1 (w : Wk) (a b : List Tg) : w.go (a ++ b) = (w.go a).go b := by
  unfold Wk.go
  simp only [qvb, List.length_append, Wk.mk.injEq]
  refine ⟨by omega, by rw [List.append_assoc]; congr 2; congr 1; omega, ?_⟩
  by_cases h : w.hard = []
  · simp only [h, if_true, List.nil_append, q4j]
    by_cases h2 : pos 0 a = []
    · have h3 := q9o a 0 (w.line + 1) h2
      rw [if_pos h2, if_pos h3, q5z a _ h2]
    · have h3 : pos (w.line + 1) a ≠ [] := fun h => h2 (q9o a _ 0 h)
      rw [if_neg h2, if_neg h3]
  · simp [h]
theorem zah (w : Wk) (b : Bool) (x : Ln) : w.go [⟨x, !b⟩] = w.nl.see b x.at_ := by
  unfold Wk.go Wk.see Wk.nl
  cases b
  · simp [pos, fstAt]
  · simp [pos, fstAt]
mutual
theorem q8m (d : Int) (n : Nat) : ∀ (s : Sm) (w : Wk), s.within n w = w.go (Sm.tin d n s)
  | .choose _ bs, w => by simp only [Sm.within, Sm.tin]; exact zbe d n true bs w
  | .loop _ b, w => by simp only [Sm.within, Sm.tin]; exact qrl (d + 1) n b w
  | .ifs _ _ _ _ b, w => by simp only [Sm.within, Sm.tin]; exact qrl (d + 1) n b w
  | .ife _ _ _ _ b pe e, w => by
    simp only [Sm.within, Sm.tin]
    rw [show (Sms.tags (d + 1) n b ++ (⟨⟨11, d, elseT, pe⟩, false⟩ : Tg) :: Sms.tags (d + 1) n e) = (Sms.tags (d + 1) n b ++ [⟨⟨11, d, elseT, pe⟩, !true⟩]) ++ Sms.tags (d + 1) n e by simp, qv1, qv1, zah, ← qrl (d + 1) n b w, ← qrl (d + 1) n e]
    rfl
  | .while _ _ _ _ b, w => by simp only [Sm.within, Sm.tin]; exact qrl (d + 1) n b w
  | .set .., w => by simp only [Sm.within, Sm.tin]; exact (qx0 w).symm
  | .skip _, w => by simp only [Sm.within, Sm.tin]; exact (qx0 w).symm
  | .stop _, w => by simp only [Sm.within, Sm.tin]; exact (qx0 w).symm
  | .mark .., w => by simp only [Sm.within, Sm.tin]; exact (qx0 w).symm
theorem qrl (d : Int) (n : Nat) : ∀ (l : List Sm) (w : Wk), Sms.walk n l w = w.go (Sms.tags d n l)
  | [], w => by simp only [Sms.walk, Sms.tags]; exact (qx0 w).symm
  | s :: l, w => by
    simp only [Sms.walk, Sms.tags]
    rw [show ((⟨⟨s.kind, d, s.head, s.at_⟩, !s.simple n⟩ : Tg) :: (Sm.tin d n s ++ Sms.tags d n l)) = ([⟨⟨s.kind, d, s.head, s.at_⟩, !s.simple n⟩] ++ Sm.tin d n s) ++ Sms.tags d n l by simp, qv1, qv1, zah, ← q8m d n s, ← qrl d n l]
theorem zbe (d : Int) (n : Nat) (f : Bool) : ∀ (l : List Bl) (w : Wk), Bls.walk n f l w = w.go (Bls.tags d n f l)
  | [], w => by simp only [Bls.walk, Bls.tags]; exact (qx0 w).symm
  | .mk p b :: l, w => by
    simp only [Bls.walk, Bl.walk, Bls.tags, Bl.tags]
    cases f
    · simp only [Bool.false_eq_true, if_false]
      rw [qv1, qv1, show ([⟨⟨8, d, orT, p⟩, false⟩] : List Tg) = [⟨⟨8, d, orT, p⟩, !true⟩] from rfl, zah, ← qrl (d + 1) n b, ← zbe d n false l]
      rfl
    · simp only [if_true, List.nil_append]
      rw [qv1, ← qrl (d + 1) n b, ← zbe d n false l]
end
end Go.Rf

namespace Go.Rf
theorem q7t {u : Int} (h : 0 < u) : limbs u = (u % 4294967296) :: limbs (u / 4294967296) := by
  have q0 : 0 ≤ u / 4294967296 := by omega
  have hv : nv ((u % 4294967296) :: limbs (u / 4294967296)) = u := by simp only [nv, qbu q0]; omega
  have hc : Can ((u % 4294967296) :: limbs (u / 4294967296)) := by
    right
    rw [hv]
    rcases qf8 (u / 4294967296) with e | e
    · rw [e]; simp [pw]; omega
    · by_cases hl : (limbs (u / 4294967296)).length = 0
      · simp [hl, pw]; omega
      · have := qox ((limbs (u / 4294967296)).length - 1)
        rw [show (limbs (u / 4294967296)).length - 1 + 1 = (limbs (u / 4294967296)).length by omega] at this
        rw [qbu q0] at e
        simp only [List.length_cons, Nat.add_sub_cancel]
        omega
  have := quk (qf9.2 ⟨by omega, qaq _⟩) hc
  rw [hv] at this
  exact this.symm
theorem q66 (n : Int) : ∀ m (u : Int) (out : List Int) (e : List (Nat × V)), u.toNat = m → 0 ≤ u → u < 18446744073709551616 → out.length + (limbs u).length ≤ 2 → Good out →
    codeX T0 X0 0 qgj (some (.nrm, ⟨(0, .d (.int .i64 n)) :: (2, .ptr (.b 0) 0 0) :: (3, .d (.int .u64 u)) :: (4, .ref (.b 1) ⟨1, 4⟩ 0 out.length) :: e, [.arr [.d (Wd 0)] ⟨2, 0⟩, .arr (LV out) ⟨1, 4⟩]⟩)) =
      some (.exit 0, ⟨[(0, .d (.int .i64 n)), (2, .ptr (.b 0) 0 0), (4, .ref (.b 1) ⟨1, 4⟩ 0 (out ++ limbs u).length)], [.arr [.d (Wd 0)] ⟨2, 0⟩, .arr (LV (out ++ limbs u)) ⟨1, 4⟩]⟩) := by
  intro m
  induction m using Nat.strongRecOn with
  | _ m ih =>
    intro u out e hm h0 h1 hl hg
    rw [qac (l := qgj) rfl]
    by_cases hu : u = 0
    · subst hu
      simp -implicitDefEqProofs (disch := omega) [qgk]
    · rw [q7t (by omega)] at hl ⊢
      simp only [List.length_cons] at hl
      have s1 := fun e => ih (u / 4294967296).toNat (by omega) (u / 4294967296) (out ++ [u % 4294967296]) e rfl (by omega) (by omega) (by simp; omega) (qun.2 ⟨hg, qf9.2 ⟨by omega, Good.nil⟩⟩)
      simp only [List.append_assoc, List.singleton_append, List.length_append, List.length_cons, List.length_nil, Nat.zero_add] at s1 ⊢
      have ht : out.take out.length = out := List.take_length
      simp -implicitDefEqProofs (disch := omega) [qgk, s1, ht]
theorem q4b {n : Int} (h : -9223372036854775808 ≤ n ∧ n ≤ 9223372036854775807) : callE T0 X0 qlw [.d (.int .i64 n)] [] = some (.ret [.d (Wd n)] []) := by
  have hl := qa7 (n := n.natAbs) (k := 2) (by omega) (by simp only [pw]; omega)
  have lp := fun e => q66 n _ (n.natAbs : Int) [] e rfl (by omega) (by omega) (by simpa using hl) Good.nil
  simp only [List.length_nil, Int.cast_ofNat_Int, q6q, List.nil_append] at lp
  rw [qab (af := qen) rfl rfl rfl]
  have vc0 : (V.d (Wd 0)).cells = [.d (.bool false), .d (.sl [])] := rfl
  have sp : ∀ a l w o k, qd8 (.d (Wd 0)) 0 (.agg [.d (.bool a), .ref l w o k]) = some (.agg [.d (.bool a), .ref l w o k]) := fun _ _ _ _ _ => rfl
  have ht : (limbs (n.natAbs : Int)).take (limbs (n.natAbs : Int)).length = limbs (n.natAbs : Int) := List.take_length
  by_cases hn : n < 0
  · have e1 : IntKind.wrap .u64 n = n + 18446744073709551616 := by rw [qfq]; omega
    have e2 : IntKind.wrap .u64 (-(n + 18446744073709551616)) = n.natAbs := by rw [qfq]; omega
    simp -implicitDefEqProofs (disch := omega) [qen, e1, e2, lp, ht, vc0, sp, Wd]
  · have e1 : IntKind.wrap .u64 n = n.natAbs := by rw [qfq]; omega
    simp -implicitDefEqProofs (disch := omega) [qen, e1, lp, ht, vc0, sp, Wd]
def IL (l : List Int) : List D := l.map fun n => .int .i64 n
@[simp] theorem IL_len (l) : (IL l).length = l.length := by simp [IL]
theorem IL_get {l : List Int} {i : Nat} (h : i < l.length) : (IL l)[i]? = some (.int .i64 (nth l i)) := by simp [IL, nth, h]
attribute [simp] IL_get
theorem wl_IL (l) : wl (IL l) ≤ 8 := by
  induction l with
  | nil => simp [IL, wl]
  | cons x xs ih =>
    show max 8 (wl (IL xs)) ≤ 8
    omega
@[simp] theorem fit_IL {n : Nat} {l : List Int} (h : n ≤ 1099511627) : (n * wl (IL l) ≤ lots) = True := eq_true (Nat.le_trans (Nat.mul_le_mul h (wl_IL l)) (by unfold lots; omega))
@[simp] theorem IL_cells (l) : (∀ x ∈ IL l, x.cells.length = 1) = True := eq_true (by
  intro x hx
  obtain ⟨n, _, rfl⟩ := List.mem_map.1 hx
  rfl)
theorem zct (ns : List Int) (hn : ns.length ≤ 1000) (hb : ∀ i, -9223372036854775808 ≤ nth ns i ∧ nth ns i ≤ 9223372036854775807) : ∀ d i (out : List Int) (e : List (Nat × V)), d + i = ns.length → out.length = i →
    codeX T0 X0 0 qfd (some (.nrm, ⟨(0, .d (.sl (IL ns))) :: (3, .ref (.b 0) ⟨2, 32⟩ 0 i) :: (4, .d (.int .i64 i)) :: e, [.arr (WV out) ⟨2, 32⟩]⟩)) =
      some (.exit 0, ⟨[(3, .ref (.b 0) ⟨2, 32⟩ 0 ns.length)], [.arr (WV (out ++ ns.drop i)) ⟨2, 32⟩]⟩) := by
  intro d
  induction d with
  | zero =>
    intro i out e hd ho
    rw [qac (l := qfd) rfl]
    have h1 : ns.drop i = [] := List.drop_eq_nil_of_le (by omega)
    have h2 : i = ns.length := by omega
    subst h2
    rw [h1]
    simp -implicitDefEqProofs (disch := omega) [qhk]
  | succ d ih =>
    intro i out e hd ho
    rw [qac (l := qfd) rfl]
    have hi : i < ns.length := by omega
    have h1 : ns.drop i = nth ns i :: ns.drop (i + 1) := qgn hi
    have hbi := hb i
    have s1 := q4b hbi
    have s2 := fun e => ih (i + 1) (out ++ [nth ns i]) e (by omega) (by simp [ho])
    have ht : out.take i = out := by rw [← ho]; exact List.take_length
    simp only [Int.natCast_add, Int.cast_ofNat_Int, List.append_assoc, List.singleton_append] at s2
    rw [h1]
    simp -implicitDefEqProofs (disch := omega) [qhk, s1, s2, ht]
theorem zba {ns : List Int} (hn : ns.length ≤ 1000) (hb : ∀ i, -9223372036854775808 ≤ nth ns i ∧ nth ns i ≤ 9223372036854775807) : callE T0 X0 qnn [.d (.sl (IL ns))] [] = some (.ret [.d (.sl (WL ns))] []) := by
  have lp := fun e => zct ns hn hb ns.length 0 [] e rfl rfl
  simp only [Int.cast_ofNat_Int, zfc, List.nil_append, List.drop_zero] at lp
  rw [qab (af := qg9) rfl rfl rfl]
  have ht : ns.take ns.length = ns := List.take_length
  simp -implicitDefEqProofs (disch := omega) [qg9, lp, ht]
theorem q69 (as bs : List Int) (hl : as.length = bs.length) (hs : as.length ≤ 1099511627) : ∀ d i (e : List (Nat × V)), d + i = as.length →
    codeX T0 X0 0 qc5 (some (.nrm, ⟨(0, .d (.sl (L as))) :: (1, .d (.sl (L bs))) :: (5, .d (.int .i64 i)) :: e, []⟩)) =
      some (if as.drop i = bs.drop i then (.exit 0, ⟨[], []⟩) else (.ret, ⟨[(4, .d (.bool false))], []⟩)) := by
  intro d
  induction d with
  | zero =>
    intro i e hd
    rw [qac (l := qc5) rfl]
    have h1 : as.drop i = [] := List.drop_eq_nil_of_le (by omega)
    have h2 : bs.drop i = [] := List.drop_eq_nil_of_le (by omega)
    rw [h1, h2]
    simp -implicitDefEqProofs (disch := omega) [qc6]
  | succ d ih =>
    intro i e hd
    rw [qac (l := qc5) rfl]
    have s1 := fun e => ih (i + 1) e (by omega)
    rw [qgn (xs := as) (i := i) (by omega), qgn (xs := bs) (i := i) (by omega)]
    simp only [Int.natCast_add, Int.cast_ofNat_Int, List.cons.injEq] at s1 ⊢
    by_cases hc : nth as i = nth bs i
    · simp only [hc, true_and]
      simp -implicitDefEqProofs (disch := omega) [qc6, s1, hc]
    · simp only [hc, false_and, if_false]
      simp -implicitDefEqProofs (disch := omega) [qc6, hc]
theorem q68 {as bs : List Int} (ha : as.length ≤ 1099511627) (hb : bs.length ≤ 1099511627) : callE T0 X0 qip [.d (.sl (L as)), .d (.sl (L bs))] [] = some (.ret [.d (.bool (decide (as = bs)))] []) := by
  rw [qab (af := qb2) rfl rfl rfl]
  by_cases hl : as.length = bs.length
  · have lp := fun e => q69 as bs hl ha as.length 0 e rfl
    simp only [Int.cast_ofNat_Int, List.drop_zero] at lp
    by_cases hc : as = bs
    · subst hc
      simp only [if_true] at lp
      simp -implicitDefEqProofs (disch := omega) [qb2, lp]
    · simp only [if_neg hc] at lp
      simp -implicitDefEqProofs (disch := omega) [qb2, lp, hl, hc]
  · have hc : ¬ as = bs := fun h => hl (by rw [h])
    simp -implicitDefEqProofs (disch := omega) [qb2, hl, hc]
theorem q9b {p q : Bool} {as bs : List Int} (ha : as.length ≤ 1099511627) (hb : bs.length ≤ 1099511627) : callE T0 X0 qfx [.d (.agg [.bool p, .sl (L as)]), .d (.agg [.bool q, .sl (L bs)])] [] = some (.ret [.d (.bool (p == q && decide (as = bs)))] []) := by
  have s1 := q68 ha hb
  rw [qab (af := qd9) rfl rfl rfl]
  cases p <;> cases q <;> simp -implicitDefEqProofs (disch := omega) [qd9, s1]
theorem zf2 {m n : Int} (hm : nl m ≤ 1073741824) (hn : nl n ≤ 1073741824) : callE T0 X0 qfx [.d (Wd m), .d (Wd n)] [] = some (.ret [.d (.bool (decide (m = n)))] []) := by
  have s1 := q9b (p := decide (m < 0)) (q := decide (n < 0)) (as := limbs m.natAbs) (bs := limbs n.natAbs) (by unfold nl at hm; omega) (by unfold nl at hn; omega)
  have e : (decide (m < 0) == decide (n < 0) && decide (limbs m.natAbs = limbs n.natAbs)) = decide (m = n) := by
    by_cases h : m = n
    · subst h; simp
    · have : decide (m = n) = false := decide_eq_false h
      rw [this]
      by_cases h1 : limbs m.natAbs = limbs n.natAbs
      · have h2 := congrArg nv h1
        rw [qng, qng] at h2
        by_cases h3 : m < 0 <;> by_cases h4 : n < 0 <;> simp [h1, h3, h4] <;> omega
      · simp [h1]
  rw [e] at s1
  exact s1
theorem q3m (f g : List Int) (hl : f.length = g.length) (hs : f.length ≤ 1000) (hf : ∀ i, nl (nth f i) ≤ 1073741824) (hg : ∀ i, nl (nth g i) ≤ 1073741824) : ∀ d i (e : List (Nat × V)), d + i = f.length →
    codeX T0 X0 0 qcu (some (.nrm, ⟨(0, .d (.sl (WL f))) :: (1, .d (.sl (WL g))) :: (5, .d (.int .i64 i)) :: e, []⟩)) =
      some (if f.drop i = g.drop i then (.exit 0, ⟨[], []⟩) else (.ret, ⟨[(4, .d (.bool false))], []⟩)) := by
  intro d
  induction d with
  | zero =>
    intro i e hd
    rw [qac (l := qcu) rfl]
    have h1 : f.drop i = [] := List.drop_eq_nil_of_le (by omega)
    have h2 : g.drop i = [] := List.drop_eq_nil_of_le (by omega)
    rw [h1, h2]
    simp -implicitDefEqProofs (disch := omega) [qcv]
  | succ d ih =>
    intro i e hd
    rw [qac (l := qcu) rfl]
    have s1 := fun e => ih (i + 1) e (by omega)
    have hfi := hf i
    have hgi := hg i
    have s2 := zf2 hfi hgi
    rw [qgn (xs := f) (i := i) (by omega), qgn (xs := g) (i := i) (by omega)]
    simp only [Int.natCast_add, Int.cast_ofNat_Int, List.cons.injEq] at s1 ⊢
    by_cases hc : nth f i = nth g i
    · rw [decide_eq_true hc] at s2
      simp only [hc, true_and]
      rw [hc] at s2
      simp -implicitDefEqProofs (disch := omega) [qcv, s1, s2, hc]
    · rw [decide_eq_false hc] at s2
      simp only [hc, false_and, if_false]
      simp -implicitDefEqProofs (disch := omega) [qcv, s2, hc]
theorem q3l {f g : List Int} (h1 : f.length ≤ 1000) (h2 : g.length ≤ 1000) (hf : ∀ i, nl (nth f i) ≤ 1073741824) (hg : ∀ i, nl (nth g i) ≤ 1073741824) : callE T0 X0 qie [.d (.sl (WL f)), .d (.sl (WL g))] [] = some (.ret [.d (.bool (decide (f = g)))] []) := by
  rw [qab (af := qbw) rfl rfl rfl]
  by_cases hl : f.length = g.length
  · have lp := fun e => q3m f g hl h1 hf hg f.length 0 e rfl
    simp only [Int.cast_ofNat_Int, List.drop_zero] at lp
    by_cases hc : f = g
    · subst hc
      simp only [if_true] at lp
      simp -implicitDefEqProofs (disch := omega) [qbw, lp]
    · simp only [if_neg hc] at lp
      simp -implicitDefEqProofs (disch := omega) [qbw, lp, hl, hc]
  · have hc : ¬ f = g := fun h => hl (by rw [h])
    simp -implicitDefEqProofs (disch := omega) [qbw, hl, hc]
end Go.Rf

namespace Go.Rf
end Go.Rf

namespace Go.Rf
def q28 : List UInt8 := [50, 42, 40, 120, 43, 51, 42, 121, 41, 45, 120]
def q6j : List UInt8 := [120, 42, 121]
def xy : List (List UInt8) := [[120], [121]]
theorem q4z : (qf0 q28 xy).1 = [1, 6, 0] ∧ (qf0 q28 xy).2.1 = true ∧ (qf0 q28 xy).2.2.1 = 0 := by decide +kernel
theorem zbk : (qf0 q6j xy).2.1 = false ∧ (qf0 q6j xy).2.2.1 = 0 := by decide +kernel
theorem xy_tx (k : Nat) : (tx xy k).length ≤ 1100000 := by
  match k with
  | 0 => decide
  | 1 => decide
  | k + 2 => simp [tx, xy]
theorem q8b : callE T0 X0 qlv [] [] = some (.ret [.d (.bool true)] []) := by
  have s1 := qre (s := q28) (vs := xy) (by decide) (by decide) xy_tx
  have s2 := qre (s := q6j) (vs := xy) (by decide) (by decide) xy_tx
  rw [q4z.1, q4z.2.1, q4z.2.2] at s1
  rw [zbk.1, zbk.2] at s2
  have s3 := zba (ns := [1, 6, 0]) (by decide) (fun i => by
    match i with
    | 0 => decide
    | 1 => decide
    | 2 => decide
    | i + 3 => simp [nth])
  have hn : ∀ i, nl (nth [1, 6, 0] i) ≤ 1073741824 := fun i => by
    match i with
    | 0 => decide
    | 1 => decide
    | 2 => decide
    | i + 3 => simp [nth]
  have s4 := q3l (f := [1, 6, 0]) (g := [1, 6, 0]) (by decide) (by decide) hn hn
  have hw1 : wl [D.str [120], D.str [121]] = 16 := rfl
  have hw2 : wl [D.int .i64 1, D.int .i64 6, D.int .i64 0] = 8 := rfl
  have hlot : ∀ n, n ≤ 1000 → (n ≤ lots) = True := fun n h => eq_true (by unfold lots; omega)
  rw [qab (af := qf1) rfl rfl rfl]
  simp only [q28, q6j, xy, SL, IL, List.map, Pl.cs, decide_true] at s1 s2 s3 s4
  generalize hz : (qf0 [120, 42, 121] [[120], [121]]).1 = z at *
  simp -implicitDefEqProofs (disch := omega) [qf1, s1, s2, s3, s4, hw1, hw2, hlot]
end Go.Rf
