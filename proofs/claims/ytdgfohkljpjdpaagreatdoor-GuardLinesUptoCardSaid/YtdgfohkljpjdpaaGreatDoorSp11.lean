/- Parts of the proof: SpUC, SpUD, SpUE, SpUF, SpUG. -/
import Derived.Test.YtdgfohkljpjdpaaGreatDoorSp10

set_option linter.unusedSimpArgs false
set_option linter.unusedVariables false
set_option linter.unnecessarySimpa false
namespace Go.Rf
structure TgOk (vs : List (List UInt8)) (t : Tg) : Prop where
  h : t.hd = true → t.ln.kind = 2 ∨ t.ln.kind = 10 ∨ t.ln.kind = 12
  b : t.ln.kind = 10 ∨ t.ln.kind = 12 → t.hd = true
  s : t.ln.kind = 2 → ∃ s x, t.ln.text = s ++ ([32, 58, 61, 32] ++ wr x) ∧ NameOk s ∧ Xok vs x ∧ t.hd = !(formV vs.length x).2
theorem zfq {vs : List (List UInt8)} {s : Sm} (h : s.fit vs) (d : Int) : TgOk vs ⟨⟨s.kind, d, s.head, s.at_⟩, !s.simple vs.length⟩ := by
  cases s with
  | set p v s e =>
    simp only [Sm.fit] at h
    cases e with
    | none => exact ⟨by simp [Sm.simple], by simp [Sm.kind], by simp [Sm.kind]⟩
    | some x => exact ⟨fun _ => .inl rfl, by simp [Sm.kind], fun _ => ⟨s, x, rfl, h.1, h.2.2.2.2, rfl⟩⟩
  | _ => exact ⟨by simp [Sm.simple, Sm.kind], by simp [Sm.simple, Sm.kind], by simp [Sm.kind]⟩
theorem tg_no {vs : List (List UInt8)} (k d : Int) (t : List UInt8) (p : Pl) (h : k ≠ 2 ∧ k ≠ 10 ∧ k ≠ 12) : TgOk vs ⟨⟨k, d, t, p⟩, false⟩ := ⟨by simp, fun c => by rcases c with c | c; exact absurd c h.2.1; exact absurd c h.2.2, fun c => absurd c h.1⟩
mutual
theorem tin_ok {vs : List (List UInt8)} (d : Int) : ∀ s : Sm, s.fit vs → ∀ t ∈ Sm.tin d vs.length s, TgOk vs t
  | .choose _ bs, h, t, m => by simp only [Sm.tin, Sm.fit] at h m; exact q6g d true bs h.2 t m
  | .loop _ b, h, t, m => by simp only [Sm.tin, Sm.fit] at h m; exact qos (d + 1) b h t m
  | .ifs _ _ _ _ b, h, t, m => by simp only [Sm.tin, Sm.fit] at h m; exact qos (d + 1) b h.2.2 t m
  | .ife _ _ _ _ b _ e, h, t, m => by
    simp only [Sm.tin, Sm.fit] at h m
    rcases List.mem_append.1 m with m | m
    · exact qos (d + 1) b h.2.2.1 t m
    · rcases List.mem_cons.1 m with rfl | m
      · exact tg_no _ _ _ _ (by decide)
      · exact qos (d + 1) e h.2.2.2 t m
  | .while _ _ _ _ b, h, t, m => by simp only [Sm.tin, Sm.fit] at h m; exact qos (d + 1) b h.2.2 t m
  | .set .., _, t, m => by simp [Sm.tin] at m
  | .skip _, _, t, m => by simp [Sm.tin] at m
  | .stop _, _, t, m => by simp [Sm.tin] at m
  | .mark .., _, t, m => by simp [Sm.tin] at m
theorem qos {vs : List (List UInt8)} (d : Int) : ∀ l : List Sm, Sms.fit vs l → ∀ t ∈ Sms.tags d vs.length l, TgOk vs t
  | [], _, t, m => by simp [Sms.tags] at m
  | s :: l, h, t, m => by
    simp only [Sms.tags, Sms.fit] at h m
    rcases List.mem_cons.1 m with rfl | m
    · exact zfq h.1 d
    · rcases List.mem_append.1 m with m | m
      · exact tin_ok d s h.1 t m
      · exact qos d l h.2 t m
theorem q6g {vs : List (List UInt8)} (d : Int) (f : Bool) : ∀ l : List Bl, Bls.fit vs l → ∀ t ∈ Bls.tags d vs.length f l, TgOk vs t
  | [], _, t, m => by simp [Bls.tags] at m
  | .mk p b :: l, h, t, m => by
    simp only [Bls.tags, Bl.tags, Bls.fit, Bl.fit] at h m
    rcases List.mem_append.1 m with m | m
    · rcases List.mem_append.1 m with m | m
      · cases f
        · simp only [Bool.false_eq_true, if_false, List.mem_singleton] at m
          subst m
          exact tg_no _ _ _ _ (by decide)
        · simp at m
      · exact qos (d + 1) b h.1 t m
    · exact q6g d false l h.2 t m
end
def Pg.tags (g : Pg) : List Tg := ⟨⟨1, 0, g.first, g.at_⟩, false⟩ :: Sms.tags 0 g.vs.length g.body
theorem q5i (g : Pg) : g.tags.map Tg.ln = g.lines := by unfold Pg.tags Pg.lines; simp [qot]
theorem zgy {g : Pg} (h : Pok g) : ∀ t ∈ g.tags, TgOk g.vs t := by
  intro t m
  unfold Pg.tags at m
  rcases List.mem_cons.1 m with rfl | m
  · exact tg_no _ _ _ _ (by decide)
  · exact qos 0 g.body h.fit t m
theorem pg_w (g : Pg) : g.w.hard = pos 0 g.tags ∧ g.w.bad = fstAt qam g.tags := by
  unfold Pg.w Pg.tags
  rw [qrl 0]
  simp [Wk.go, pos, fstAt]
theorem q0g {s t : List UInt8} {i : Nat} (hs : NameOk s) (h : i ≤ s.length) : (s ++ ([32, 58, 61, 32] ++ t))[i]? ≠ some 58 ∧ (s ++ ([32, 58, 61, 32] ++ t))[s.length + 1]? = some 58 ∧ (s ++ ([32, 58, 61, 32] ++ t)).drop (s.length + 3) = 32 :: t := by
  refine ⟨?_, ?_, ?_⟩
  · by_cases hi : i < s.length
    · rw [List.getElem?_append_left hi, List.getElem?_eq_getElem hi]
      intro e
      exact hs.no58 _ (List.getElem_mem hi) (Option.some.inj e)
    · have : i = s.length := by omega
      subst this
      rw [List.getElem?_append_right (Nat.le_refl _)]
      simp
  · rw [List.getElem?_append_right (by omega)]
    simp
  · rw [List.drop_append]
    simp
theorem zd0 {vs : List (List UInt8)} {x : Nd} (hx : Xok vs x) (hb : ∀ k, (tx vs k).length ≤ 1100000) (he : (qf0 (32 :: wr x) vs).2.2.1 = 0) : (qf0 (32 :: wr x) vs).2.1 = (formV vs.length x).2 := by
  unfold qf0 at *
  cases hv : exprV (32 :: wr x) vs with
  | mk o ep =>
    obtain ⟨e, p⟩ := ep
    rw [hv] at he
    cases o with
    | none => exact absurd he (q0b hv)
    | some y =>
      have hv0 := hv
      have hn : names vs = 0 := by
        unfold exprV at hv
        split at hv
        · cases hv
        · rename_i c; exact Classical.not_not.1 c
      have hl : (32 :: wr x).length ≤ 4096 := by
        unfold exprV at hv
        rw [if_neg (by rw [hn]; simp)] at hv
        refine Nat.le_of_not_lt fun c => ?_
        unfold scan at hv
        rw [if_pos c] at hv
        cases hv
      have h1 := zfk x hx.pr [] [] tl_nil .nil
      simp only [List.append_nil] at h1
      have h2 := zhr hl (.space h1) (pt_ok x hx.pr).s hx.dp hn hb
      rw [hv0] at h2
      cases h2
      simp only []
      split
      · rename_i c; rw [c]
      · rename_i c; simpa using Eq.symm (by simpa using c)
theorem q8d {s : List UInt8} {vs : List (List UInt8)} (hs : s.length ≤ 100000000) (hv : vs.length ≤ 1099511627) (hb : ∀ k, (tx vs k).length ≤ 1100000) :
    callE T0 X0 qge [.d (.str s), .d (.sl (SL vs))] [] = some (.ret [.d (.sl (WL (qf0 s vs).1)), .d (.bool (qf0 s vs).2.1), .d (.int .i64 (qf0 s vs).2.2.1), .d (.agg (qf0 s vs).2.2.2.cs)] []) := by
  by_cases c : s.length ≤ 1100000
  · exact qre c hv hb
  have hsc : scan s = (none, 2, qam) := by unfold scan; rw [if_pos (by omega)]
  have s0 := qxo vs (by omega) hb
  have s1 : callE T0 X0 qis [.d (.str s), .d (.sl (SL vs))] [] = some (.ret [.d (oD (exprV s vs).1), .d (.int .i64 (exprV s vs).2.1), .d (.agg (exprV s vs).2.2.cs)] []) := by
    rw [qab (af := qb1) rfl rfl rfl]
    unfold exprV
    rw [hsc]
    by_cases hn : names vs = 0
    · have s2 : callE T0 X0 qjp [.d (.str s), .d (.sl (SL vs)), .fn qfm [.ptr (.b 0) 0 0]] [.arr [.d .nili] ⟨1, 0⟩] = some (.ret [.d (.int .i64 (scan s).2.1), .d (.agg (scan s).2.2.cs)] [.arr [.d .nili] ⟨1, 0⟩]) := by
        rw [qpl (r := qbt) rfl rfl rfl]
        unfold recG
        have s1 := qm5 s (by omega)
        rw [hsc] at s1 ⊢
        simp only [qwf]
        simp only [Pl.cs] at s1 ⊢
        simp -implicitDefEqProofs (disch := omega) [qbt, qbn, s1]
      rw [hsc] at s2
      rw [hn] at s0 ⊢
      simp only [oD, Pl.cs, qam, ne_eq, not_true_eq_false, if_false] at s2 ⊢
      simp -implicitDefEqProofs (disch := omega) [qb1, s0, s2]
    · have hn1 : names vs = 1 := by
        unfold names at hn ⊢
        split
        · rfl
        · rename_i c
          rw [if_neg c] at hn
          rcases qr6 vs vs.length 0 with h | h
          · exact absurd h hn
          · exact h
      rw [hn1] at s0 ⊢
      simp only [oD, qam, Pl.cs]
      simp -implicitDefEqProofs (disch := omega) [qb1, s0]
  rw [qab (af := qef) rfl rfl rfl]
  unfold qf0
  cases he : exprV s vs with
  | mk o ep =>
    obtain ⟨e, p⟩ := ep
    rw [he] at s1
    have ho : o = none := by
      unfold exprV at he
      rw [hsc] at he
      split at he <;> cases he <;> rfl
    subst ho
    have hne := q0b he
    simp only [oD, Pl.cs] at s1 ⊢
    simp -implicitDefEqProofs (disch := omega) [qef, s1, hne]
theorem qp6 (p q : Pl) : callE T0 X0 qio [.d (.agg p.cs), .d (.agg q.cs)] [] = some (.ret [.d (.bool (decide (p = q)))] []) := by
  have e : decide (p = q) = (decide (p.b = q.b) && (decide (p.g = q.g) && (decide (p.l = q.l) && decide (p.c = q.c)))) := by
    obtain ⟨a, b, c, d⟩ := p
    obtain ⟨a', b', c', d'⟩ := q
    simp only [Pl.mk.injEq, Bool.decide_and]
  rw [qab (af := qea) rfl rfl rfl, e]
  simp only [Pl.cs]
  by_cases h1 : p.b = q.b <;> by_cases h2 : p.g = q.g <;> by_cases h3 : p.l = q.l <;> simp -implicitDefEqProofs (disch := omega) [qea, h1, h2, h3]
end Go.Rf

namespace Go.Rf
set_option maxHeartbeats 16000000
def glE (g : Pg) (L : List Ln) (H : List Int) (nx i : Nat) (e : List (Nat × V)) : List (Nat × V) := (3, .d (.box (.agg g.cs))) :: (6, .d (.sl (LD lnL L))) :: (7, .d (.sl (LD inL H))) :: (9, .ptr (.b 0) 0 0) :: (10, .d (.int .i64 nx)) :: (11, .d (.int .i64 i)) :: e
def plH (p : Pl) : List Obj := [.arr [.d (.agg [.int .i64 p.b, .int .i64 p.g, .int .i64 p.l, .int .i64 p.c])] ⟨4, 0⟩]
theorem qzz {L : List Ln} {i : Nat} {x : Ln} (h : L[i]? = some x) : (LD lnL L)[i]? = some (.agg [.int .i64 x.kind, .int .i64 x.depth, .str x.text, .int .i64 x.at_.b, .int .i64 x.at_.g, .int .i64 x.at_.l, .int .i64 x.at_.c]) := by
  obtain ⟨hi, e⟩ := List.getElem?_eq_some_iff.1 h
  rw [qws lnL L hi, e]
  rfl
theorem q74 {g : Pg} {L : List Ln} {H : List Int} {nx i : Nat} {b : Bool} {p : Pl} {x : Ln} {s t : List UInt8} (hL : L.length ≤ 6000) (hx : L[i]? = some x) (ht : x.text = s ++ ([32, 58, 61, 32] ++ t)) (hs : NameOk s) : ∀ d k, d + k = s.length + 1 →
    codeX T0 X0 0 qct (some (.nrm, ⟨glE g L H nx i [(12, .d (.bool b)), (14, .d (.int .i64 k))], plH p⟩)) =
      some (.exit 2, ⟨glE g L H nx i [(12, .d (.bool b)), (14, .d (.int .i64 (s.length + 1 : Nat)))], plH p⟩) := by
  have hg := qzz hx
  have hi : i < L.length := (List.getElem?_eq_some_iff.1 hx).1
  have hsl := hs.l
  have htl : x.text.length = s.length + (4 + t.length) := by rw [ht]; simp; omega
  intro d
  induction d with
  | zero =>
    intro k hk
    have : k = s.length + 1 := by omega
    subst this
    have h58 := (q0g (t := t) hs (Nat.zero_le _)).2.1
    rw [← ht] at h58
    rw [qac (l := qct) rfl]
    generalize x.text = w at *
    simp only [glE, plH] at *
    generalize hK : s.length + 1 = K at *
    have hKl : K < w.length := by omega
    have hc : ((w[K]'hKl).toNat : Int) = 58 := by
      have := List.getElem?_eq_getElem hKl
      rw [h58] at this
      rw [← Option.some.inj this]
      rfl
    simp -implicitDefEqProofs (disch := omega) [qem, hg, hc]
  | succ d ih =>
    intro k hk
    have hne := (q0g (t := t) hs (show k ≤ s.length by omega)).1
    rw [← ht] at hne
    have hlt : k < x.text.length := by omega
    rw [← ih (k + 1) (by omega)]
    rw [qac (l := qct) rfl]
    generalize x.text = w at *
    have hget := List.getElem?_eq_getElem hlt
    have hne : w[k] ≠ 58 := fun e => hne (by rw [hget, e])
    have hci : ¬ ((w[k]'hlt).toNat : Int) = 58 := fun e => hne (by rw [← UInt8.toNat_inj]; show (w[k]'hlt).toNat = 58; omega)
    simp only [glE, plH] at *
    simp -implicitDefEqProofs (disch := omega) [qem, hg, hci]
end Go.Rf

namespace Go.Rf
set_option maxHeartbeats 16000000
theorem qz4 {H : List Int} {n : Nat} {v : Int} (h : H[n]? = some v) : (LD inL H)[n]? = some (.int .i64 v) := by
  obtain ⟨hi, e⟩ := List.getElem?_eq_some_iff.1 h
  rw [qws inL H hi, e]
  rfl
theorem zdz {vs : List (List UInt8)} {x : Nd} (hx : Xok vs x) (hb : ∀ k, (tx vs k).length ≤ 1100000) (hv : vs.length ≤ 1099511627) (hd : Bool) (hh : hd = !(formV vs.length x).2) :
    ∃ f ok e p, callE T0 X0 qge [.d (.str (32 :: wr x)), .d (.sl (SL vs))] [] = some (.ret [.d (.sl (WL f)), .d (.bool ok), .d (.int .i64 e), .d (.agg (Pl.cs p))] []) ∧ (e = 0 → ok = !hd) := by
  have := qog x hx.pr
  have := hx.sz
  exact ⟨_, _, _, _, q8d (by simp only [List.length_cons]; omega) hv hb, fun e => by rw [zd0 hx hb e, hh]; simp⟩
theorem zhj {g : Pg} {L : List Ln} {H : List Int} {nx i : Nat} {p : Pl} {x : Ln} (hL : L.length ≤ 6000) (hHl : H.length ≤ 6000) (hx : L[i]? = some x) (hH : H[nx]? = some (i : Int)) (hp : nx = 0 → p = x.at_) (hk : x.kind = 10 ∨ x.kind = 12) :
    codeX T0 X0 0 qak (some (.nrm, ⟨glE g L H nx i [], plH p⟩)) = codeX T0 X0 0 qak (some (.nrm, ⟨glE g L H (nx + 1) (i + 1) [], plH p⟩)) := by
  have hg := qzz hx
  have hi : i < L.length := (List.getElem?_eq_some_iff.1 hx).1
  have hn : nx < H.length := (List.getElem?_eq_some_iff.1 hH).1
  have hh := qz4 hH
  have s1 := qp6 p x.at_
  conv => lhs; rw [qac (l := qak) rfl]
  by_cases h0 : nx = 0
  · have := hp h0
    subst this h0
    simp only [glE, plH, Pl.cs, decide_true] at *
    rcases hk with hk | hk
    all_goals
      rw [hk] at hg
      simp (maxSteps := 2000000) -implicitDefEqProofs (disch := omega) [qag, hg, hh, s1]
  · simp only [glE, plH, Pl.cs] at *
    have h0 : ¬ (nx : Int) = 0 := by omega
    rcases hk with hk | hk
    all_goals
      rw [hk] at hg
      simp (maxSteps := 2000000) -implicitDefEqProofs (disch := omega) [qag, hg, hh, h0]
end Go.Rf

namespace Go.Rf
set_option maxHeartbeats 16000000
theorem zhi {g : Pg} {L : List Ln} {H : List Int} {nx i : Nat} {p : Pl} {x : Ln} (hL : L.length ≤ 6000) (hHl : H.length ≤ 6000) (hx : L[i]? = some x) (hH : H.length = nx ∨ ∃ v, H[nx]? = some v ∧ v ≠ (i : Int)) (hk : x.kind ≠ 2 ∧ x.kind ≠ 10 ∧ x.kind ≠ 12) :
    codeX T0 X0 0 qak (some (.nrm, ⟨glE g L H nx i [], plH p⟩)) = codeX T0 X0 0 qak (some (.nrm, ⟨glE g L H nx (i + 1) [], plH p⟩)) := by
  have hg := qzz hx
  have hi : i < L.length := (List.getElem?_eq_some_iff.1 hx).1
  obtain ⟨k1, k2, k3⟩ := hk
  conv => lhs; rw [qac (l := qak) rfl]
  rcases hH with hH | ⟨v, hH, hne⟩
  · simp only [glE, plH]
    simp (maxSteps := 2000000) -implicitDefEqProofs (disch := omega) [qag, hg, hH, k1, k2, k3]
  · have hn : nx < H.length := (List.getElem?_eq_some_iff.1 hH).1
    have hh := qz4 hH
    simp only [glE, plH]
    simp (maxSteps := 2000000) -implicitDefEqProofs (disch := omega) [qag, hg, hh, hne, k1, k2, k3]
theorem gl_set {g : Pg} {L : List Ln} {H : List Int} {nx i : Nat} {p : Pl} {x : Ln} (hn8 : g.bs.length ≤ 8) (hb : ∀ k, (tx g.vs k).length ≤ 1100000) (hL : L.length ≤ 6000) (hHl : H.length ≤ 6000) (hx : L[i]? = some x) {hd : Bool} (hH : if hd then H[nx]? = some (i : Int) ∧ (nx = 0 → p = x.at_) else H.length = nx ∨ ∃ v, H[nx]? = some v ∧ v ≠ (i : Int)) (hk : x.kind = 2) {s : List UInt8} {y : Nd} (ht : x.text = s ++ ([32, 58, 61, 32] ++ wr y)) (hs : NameOk s) (hy : Xok g.vs y) (hh : hd = !(formV g.vs.length y).2) :
    codeX T0 X0 0 qak (some (.nrm, ⟨glE g L H nx i [], plH p⟩)) = codeX T0 X0 0 qak (some (.nrm, ⟨glE g L H (if hd then nx + 1 else nx) (i + 1) [], plH p⟩)) := by
  have hg := qzz hx
  have hi : i < L.length := (List.getElem?_eq_some_iff.1 hx).1
  have hv : g.vs.length ≤ 8 := by unfold Pg.vs; simpa using hn8
  have s2 := q0s g (by omega)
  unfold Pg.d at s2
  obtain ⟨f, ok, e, q, s3, h3⟩ := zdz hy hb (by omega) hd hh
  have hcl := (q0g (t := wr y) hs (Nat.zero_le _)).2.2
  rw [← ht] at hcl
  have hsl := hs.l
  have htl : x.text.length = s.length + (4 + (wr y).length) := by rw [ht]; simp; omega
  have lp := fun nx b => q74 (g := g) (H := H) (nx := nx) (b := b) (p := p) hL hx ht hs (s.length + 1) 0 rfl
  have s1 := qp6 p x.at_
  conv => lhs; rw [qac (l := qak) rfl]
  clear ht hh
  generalize hK : s.length + 1 = K at *
  have hKe : s.length + 3 = K + 2 := by omega
  rw [hKe] at hcl
  have hKl : K + 2 ≤ x.text.length := by omega
  have hwl := qog y hy.pr
  have hyz := hy.sz
  have hlg : (x.text.length ≤ long + ((K : Int) + 2).toNat) = True := eq_true (by unfold long; omega)
  have e2 : ((K : Int) + 2).toNat = K + 2 := by omega
  have hcl : List.take (x.text.length - ((K : Int) + 2).toNat) (List.drop ((K : Int) + 2).toNat x.text) = 32 :: wr y := by rw [e2, hcl, List.take_of_length_le (by simp only [List.length_cons]; omega)]
  have hd0 : e = 0 → ok = !hd := h3
  cases hd
  · simp only [Bool.false_eq_true, if_false, Bool.not_false] at hH hd0 ⊢
    rw [hk] at hg
    have lp := lp nx false
    rcases hH with hH | ⟨v, hH, hne⟩
    · by_cases he : e = 0
      · have hok := hd0 he
        subst he hok
        simp only [glE, plH, Int.cast_ofNat_Int, Pl.cs] at *
        simp (maxSteps := 4000000) -implicitDefEqProofs (disch := omega) [qag, hg, hH, lp, s2, s3, hcl, hlg]
      · simp only [glE, plH, Int.cast_ofNat_Int, Pl.cs] at *
        simp (maxSteps := 4000000) -implicitDefEqProofs (disch := omega) [qag, hg, hH, lp, s2, s3, hcl, hlg, he]
    · have hn : nx < H.length := (List.getElem?_eq_some_iff.1 hH).1
      have hh := qz4 hH
      by_cases he : e = 0
      · have hok := hd0 he
        subst he hok
        simp only [glE, plH, Int.cast_ofNat_Int, Pl.cs] at *
        simp (maxSteps := 4000000) -implicitDefEqProofs (disch := omega) [qag, hg, hh, hne, lp, s2, s3, hcl, hlg]
      · simp only [glE, plH, Int.cast_ofNat_Int, Pl.cs] at *
        simp (maxSteps := 4000000) -implicitDefEqProofs (disch := omega) [qag, hg, hh, hne, lp, s2, s3, hcl, hlg, he]
  · simp only [if_true, Bool.not_true] at hH hd0 ⊢
    obtain ⟨hH, hp⟩ := hH
    have hn : nx < H.length := (List.getElem?_eq_some_iff.1 hH).1
    have hh := qz4 hH
    rw [hk] at hg
    have lp := lp (nx + 1) true
    by_cases h0 : nx = 0
    · have hp := hp h0
      subst hp h0
      by_cases he : e = 0
      · have hok := hd0 he
        subst he hok
        simp only [glE, plH, Nat.zero_add, Int.cast_ofNat_Int, Pl.cs, decide_true] at *
        simp (maxSteps := 4000000) -implicitDefEqProofs (disch := omega) [qag, hg, hh, s1, lp, s2, s3, hcl, hlg]
      · simp only [glE, plH, Nat.zero_add, Int.cast_ofNat_Int, Pl.cs, decide_true] at *
        simp (maxSteps := 4000000) -implicitDefEqProofs (disch := omega) [qag, hg, hh, s1, lp, s2, s3, hcl, hlg, he]
    · have h0 : ¬ (nx : Int) = 0 := by omega
      by_cases he : e = 0
      · have hok := hd0 he
        subst he hok
        simp only [glE, plH, Int.cast_ofNat_Int, Pl.cs, Int.natCast_add] at *
        simp (maxSteps := 4000000) -implicitDefEqProofs (disch := omega) [qag, hg, hh, h0, lp, s2, s3, hcl, hlg]
      · simp only [glE, plH, Int.cast_ofNat_Int, Pl.cs, Int.natCast_add] at *
        simp (maxSteps := 4000000) -implicitDefEqProofs (disch := omega) [qag, hg, hh, h0, lp, s2, s3, hcl, hlg, he]
end Go.Rf

namespace Go.Rf
set_option maxHeartbeats 16000000
theorem q9p : ∀ (l : List Tg) (k : Int), ∀ v ∈ pos k l, k ≤ v
  | [], _, _, h => by simp [pos] at h
  | t :: l, k, v, h => by
    unfold pos at h
    split at h
    · rcases List.mem_cons.1 h with rfl | h
      · exact Int.le_refl _
      · have := q9p l (k + 1) v h; omega
    · have := q9p l (k + 1) v h; omega
theorem qyp : ∀ (l : List Tg) (k : Int), (pos k l).length ≤ l.length
  | [], _ => by simp [pos]
  | t :: l, k => by
    have := qyp l (k + 1)
    unfold pos
    split <;> simp <;> omega
theorem zaj {g : Pg} {H : List Int} {p : Pl} (hn8 : g.bs.length ≤ 8) (hb : ∀ k, (tx g.vs k).length ≤ 1100000) : ∀ (rest pre : List Tg), (∀ t ∈ rest, TgOk g.vs t) → H = pos 0 (pre ++ rest) → p = fstAt qam (pre ++ rest) → (pre ++ rest).length ≤ 6000 →
    codeX T0 X0 0 qak (some (.nrm, ⟨glE g ((pre ++ rest).map Tg.ln) H (pos 0 pre).length pre.length [], plH p⟩)) = some (.exit 0, ⟨[(7, .d (.sl (LD inL H))), (10, .d (.int .i64 H.length))], []⟩)
  | [], pre, _, hH, hp, hl => by
    rw [List.append_nil] at *
    rw [← hH, qac (l := qak) rfl]
    have hHl : H.length ≤ 6000 := by have := qyp pre 0; rw [hH]; omega
    simp only [glE, plH]
    simp -implicitDefEqProofs (disch := omega) [qag]
  | t :: rest, pre, ht, hH, hp, hl => by
    have e0 : pre ++ t :: rest = (pre ++ [t]) ++ rest := by simp
    have ih := zaj (H := H) (p := p) hn8 hb rest (pre ++ [t]) (fun x hx => ht x (List.mem_cons_of_mem _ hx)) (by rw [← e0]; exact hH) (by rw [← e0]; exact hp) (by rw [← e0]; exact hl)
    rw [← e0] at ih
    have e1 : (pre ++ [t]).length = pre.length + 1 := by simp
    have e2 : (pos 0 (pre ++ [t])).length = if t.hd then (pos 0 pre).length + 1 else (pos 0 pre).length := by
      rw [qvb]
      simp only [pos]
      split <;> simp
    rw [e1, e2] at ih
    rw [← ih]
    clear ih
    have hok := ht t (List.mem_cons_self ..)
    have hHl : H.length ≤ 6000 := by have := qyp (pre ++ t :: rest) 0; rw [hH]; omega
    have hx : ((pre ++ t :: rest).map Tg.ln)[pre.length]? = some t.ln := by simp
    have hL : ((pre ++ t :: rest).map Tg.ln).length ≤ 6000 := by simpa using hl
    have hH1 : t.hd = true → H[(pos 0 pre).length]? = some (pre.length : Int) := fun h => by
      rw [hH, qvb]
      simp [pos, h]
    have hp1 : t.hd = true → (pos 0 pre).length = 0 → p = t.ln.at_ := fun h h2 => by
      rw [hp, q4j, if_pos (List.length_eq_zero_iff.1 h2)]
      simp [fstAt, h]
    have hH2 : t.hd = false → H.length = (pos 0 pre).length ∨ ∃ v, H[(pos 0 pre).length]? = some v ∧ v ≠ (pre.length : Int) := fun h => by
      have e3 : H = pos 0 pre ++ pos (pre.length + 1) rest := by rw [hH, qvb]; simp [pos, h]
      rw [e3]
      cases hr : pos ((pre.length : Int) + 1) rest with
      | nil => left; simp
      | cons v r =>
        right
        refine ⟨v, by simp, ?_⟩
        have := q9p rest (pre.length + 1) v (by rw [hr]; exact List.mem_cons_self ..)
        omega
    by_cases h2 : t.ln.kind = 2
    · obtain ⟨s, y, h3, h4, h5, h6⟩ := hok.s h2
      refine gl_set hn8 hb hL hHl hx ?_ h2 h3 h4 h5 h6
      split
      · rename_i c; exact ⟨hH1 c, hp1 c⟩
      · rename_i c; exact hH2 (by simpa using c)
    · cases c : t.hd with
      | true =>
        rw [if_pos rfl]
        exact zhj hL hHl hx (hH1 c) (hp1 c) ((hok.h c).resolve_left h2)
      | false =>
        rw [if_neg (by simp)]
        refine zhi hL hHl hx (hH2 c) ⟨h2, fun h => ?_, fun h => ?_⟩
        · have := hok.b (.inl h); rw [c] at this; cases this
        · have := hok.b (.inr h); rw [c] at this; cases this
theorem zhh (s : List UInt8) (hs : s.length ≤ 1100000) : callE T0 X0 qnm [.d (.str s)] [] = some (.ret [.d (.bool true)] []) := by
  have s0 := q8b
  have s1 := q1k s hs
  have hpok := fun g => zc1 (s := s) (g := g)
  rw [qab (af := qck) rfl rfl rfl]
  generalize progV s = q at *
  obtain ⟨o, e, p⟩ := q
  cases o with
  | none =>
    simp only [oG, Pl.cs] at s1
    simp -implicitDefEqProofs (disch := omega) [qck, s0, s1]
  | some g =>
    have hg := hpok g rfl
    have s2 := q8e hg
    have s3 := zaf hg
    have s4 := q9m hg
    obtain ⟨w1, w2⟩ := pg_w g
    rw [← q5i] at s2
    have hb : ∀ k, (tx g.vs k).length ≤ 1100000 := fun k => by
      by_cases hk : k < g.vs.length
      · have : tx g.vs k = g.vs[k] := by simp [tx, hk]
        rw [this]
        have hm : g.vs[k] ∈ g.vs := List.getElem_mem hk
        unfold Pg.vs at hm
        obtain ⟨b, hb, e⟩ := List.mem_map.1 hm
        have := (hg.bs b hb).name.l
        unfold Pg.vs at *
        rw [← e]; omega
      · have : tx g.vs k = [] := by simp [tx, List.getD_eq_getElem?_getD, List.getElem?_eq_none (Nat.le_of_not_lt hk)]
        rw [this]; simp
    have hl : g.tags.length ≤ 6000 := by
      have e : g.tags.length = (g.tags.map Tg.ln).length := by simp
      have := qdk 0 g.body
      have := hg.sz
      rw [e, q5i]
      unfold Pg.lines
      simp only [List.length_cons]
      omega
    have lp := zaj (g := g) (H := g.w.hard) (p := g.w.bad) hg.n hb g.tags [] (zgy hg) w1 w2 hl
    have hw : g.w.hard.length ≤ 6000 := by have := qyp g.tags 0; rw [w1]; omega
    simp only [List.nil_append, pos, List.length_nil] at lp
    have hLl : (g.tags.map Tg.ln).length ≤ 6000 := by simpa using hl
    generalize g.tags.map Tg.ln = L at *
    clear w1 w2 hl
    generalize g.w.hard = H at *
    generalize g.w.bad = P at *
    unfold Pg.d at s2 s3 s4
    simp only [oG, Pl.cs, glE, plH, Int.cast_ofNat_Int] at s1 s2 s3 s4 lp
    simp -implicitDefEqProofs (disch := omega) [qck, s0, s1, s2, s3, s4, lp, -List.length_eq_zero_iff]
end Go.Rf
