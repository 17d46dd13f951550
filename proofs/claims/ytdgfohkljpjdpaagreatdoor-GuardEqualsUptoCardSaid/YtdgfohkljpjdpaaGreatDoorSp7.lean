/- Parts of the proof: SpC2, SpC3, SpC4, SpC5, SpC6, SpC8, SpE1, SpE2, SpE3. -/
import Derived.Test.YtdgfohkljpjdpaaGreatDoorSp6

/- Scanning a text that is made of names, numbers, signs and spaces. -/
namespace Go.Rf

theorem broken_app {w t : List UInt8} (h : w ≠ []) (hb : broken w (dec w 0).1 = false) : dec (w ++ t) 0 = dec w 0 ∧ broken (w ++ t) (dec w 0).1 = false := by
  have hne : ¬ ((dec w 0).1 = 65533 ∧ (dec w 0).2 = 1) := by
    intro hc
    unfold broken at hb
    rw [decGo_eq h] at hb
    simp [hc.1, hc.2] at hb
  have e := dec_app (t := t) h (show dec w 0 = ((dec w 0).1, (dec w 0).2) from rfl) hne
  refine ⟨e, ?_⟩
  unfold broken at *
  rw [decGo_eq (by simp [h]), e]
  rw [decGo_eq h] at hb
  exact hb
theorem frontS {s : Sc} {w t : List UInt8} (hr : s.rest = w ++ t) (h : w ≠ []) (hb : broken w (dec w 0).1 = false) :
    s.next = (((dec w 0).1 : Int), s) ∧ s.cls = (cls (dec w 0).1, s) ∧ s.pass.rest = w.drop (dec w 0).2 ++ t ∧ s.pass.code = s.code ∧ s.pass.bad = s.bad := by
  obtain ⟨e1, e2⟩ := broken_app (t := t) h hb
  have hn : s.rest ≠ [] := by rw [hr]; simp [h]
  have hnext : s.next = (((dec w 0).1 : Int), s) := by
    unfold Sc.next
    rw [if_neg hn, hr, e1, e2]
    simp
  refine ⟨hnext, ?_, ?_, rfl, rfl⟩
  · unfold Sc.cls
    rw [hnext]
    rw [if_neg (by simp only []; omega)]
  · unfold Sc.pass
    simp only []
    rw [decGo_eq hn, hr, e1]
    have hl := dec_ok w h
    rw [List.drop_append_of_le_length hl.2.1]
theorem front_ascii {s : Sc} {b : UInt8} {t : List UInt8} (hr : s.rest = b :: t) (hb : b.toNat < 128) : s.next = ((b.toNat : Int), s) ∧ s.cls = (cls b.toNat, s) ∧ s.pass.rest = t ∧ s.pass.code = s.code ∧ s.pass.bad = s.bad := by
  have e := dec_ascii (s := []) hb
  have hbr : broken [b] (dec [b] 0).1 = false := by
    rw [e]
    unfold broken
    have : ¬ ((b.toNat : Int) = 65533) := by omega
    simp [this]
  have := frontS (w := [b]) (t := t) hr (by simp) hbr
  rw [e] at this
  simpa using this
theorem front_nil {s : Sc} (hr : s.rest = []) : s.cls = (-1, s) := by
  have : s.next = (-1, s) := by unfold Sc.next; rw [if_pos hr]
  unfold Sc.cls
  rw [this]
  rfl

theorem stop_while {p : Int → Bool} {s : Sc} (h : Stops p s.rest) (f : Nat) : whileF p f s = s := by
  cases f with
  | zero => rfl
  | succ f =>
    unfold whileF
    cases hr : s.rest with
    | nil =>
      rw [front_nil hr, if_neg (by simp)]
    | cons b t =>
      rw [hr] at h
      obtain ⟨_, e, _⟩ := front_ascii hr h.1
      rw [e]
      rw [if_neg (by simp [h.2])]
theorem while_runs {p : Int → Bool} {t : List UInt8} (ht : Stops p t) : ∀ (f F : Nat) (w : List UInt8) (s : Sc), runs p f w = true → w.length < F → s.rest = w ++ t → (whileF p F s).rest = t ∧ (whileF p F s).code = s.code ∧ (whileF p F s).bad = s.bad
  | f, F, [], s, _, _, hr => by
    rw [stop_while (by rw [hr]; exact ht)]
    exact ⟨by simpa using hr, rfl, rfl⟩
  | 0, F, b :: w, s, h, _, _ => by simp [runs] at h
  | f + 1, 0, b :: w, s, _, hF, _ => by omega
  | f + 1, F + 1, b :: w, s, h, hF, hr => by
    unfold runs at h
    simp only [Bool.and_eq_true, Bool.not_eq_true'] at h
    obtain ⟨_, e2, e3, e4, e5⟩ := frontS hr (by simp) h.1.1
    have hl := dec_ok (b :: w) (by simp)
    unfold whileF
    rw [e2]
    have hc : -1 ≤ cls (dec (b :: w) 0).1 ∧ 0 ≤ cls (dec (b :: w) 0).1 := by unfold cls; (repeat' split) <;> omega
    rw [if_pos ⟨hc.2, h.1.2⟩]
    have := while_runs ht f F _ s.pass h.2 (by rw [List.length_drop]; simp only [List.length_cons] at *; omega) e3
    rw [e4, e5] at this
    exact this
theorem ran_runs {p : Int → Bool} {t w : List UInt8} {s : Sc} {f : Nat} (ht : Stops p t) (h : runs p f w = true) (hr : s.rest = w ++ t) : s.ran p = w ∧ (s.run p).rest = t ∧ (s.run p).code = s.code := by
  have := while_runs ht f (s.rest.length + 1) w s h (by rw [hr]; simp; omega) hr
  refine ⟨?_, this.1, this.2.1⟩
  unfold Sc.ran Sc.run
  rw [this.1, hr]
  simp
theorem token_name {w t : List UInt8} {s : Sc} {f : Nat} (h0 : s.code = 0) (hw : w ≠ []) (hc : cls (dec w 0).1 = 2) (h : runs inName f w = true) (hrc : rc w ≤ 16) (ht : Stops inName t) (hr : s.rest = w ++ t) :
    s.blanks = s ∧ s.token.1.kind = 1 ∧ s.token.1.text = w ∧ s.token.2.rest = t ∧ s.token.2.code = 0 := by
  have hbr : broken w (dec w 0).1 = false := by
    cases w with
    | nil => exact absurd rfl hw
    | cons b w =>
      cases f with
      | zero => simp [runs] at h
      | succ f =>
        unfold runs at h
        simp only [Bool.and_eq_true, Bool.not_eq_true'] at h
        exact h.1.1
  obtain ⟨_, e2, _⟩ := frontS hr hw hbr
  obtain ⟨r1, r2, r3⟩ := ran_runs ht h hr
  refine ⟨?_, ?_⟩
  · unfold Sc.blanks blanksF
    rw [e2]
    simp [hc]
  · have e : s.token = (⟨1, w, s.pos⟩, s.run inName) := by
      unfold Sc.token
      rw [e2]
      simp only [hc, if_true, r1]
      rw [if_neg (by omega)]
    rw [e]
    exact ⟨rfl, rfl, r2, by rw [r3, h0]⟩
theorem token_numb {w t : List UInt8} {s : Sc} {f : Nat} (h0 : s.code = 0) (hw : w ≠ []) (hc : cls (dec w 0).1 = 3) (h : runs inNumber f w = true) (hv : textV 456 (numV w) = w) (hl : (limbs (numV w)).length ≤ 32) (ht : Stops inNumber t) (hr : s.rest = w ++ t) :
    s.blanks = s ∧ s.token.1.kind = 2 ∧ s.token.1.text = w ∧ s.token.2.rest = t ∧ s.token.2.code = 0 := by
  have hbr : broken w (dec w 0).1 = false := by
    cases w with
    | nil => exact absurd rfl hw
    | cons b w =>
      cases f with
      | zero => simp [runs] at h
      | succ f =>
        unfold runs at h
        simp only [Bool.and_eq_true, Bool.not_eq_true'] at h
        exact h.1.1
  obtain ⟨_, e2, _⟩ := frontS hr hw hbr
  obtain ⟨r1, r2, r3⟩ := ran_runs ht h hr
  refine ⟨?_, ?_⟩
  · unfold Sc.blanks blanksF
    rw [e2]
    simp [hc]
  · have e : s.token = (⟨2, textV 456 (numV w), s.pos⟩, s.run inNumber) := by
      unfold Sc.token
      rw [e2]
      simp only [hc, r1]
      rw [if_neg (by decide), if_pos trivial, if_neg (by omega)]
    rw [e]
    exact ⟨rfl, hv, r2, by rw [r3, h0]⟩
/-- The signs of expressions. -/
def signs : List UInt8 := [43, 45, 42, 47, 37, 40, 41, 61, 123, 125, 44, 59, 63, 64]
theorem token_sign {c : UInt8} {t : List UInt8} {s : Sc} (h0 : s.code = 0) (hc : c ∈ signs) (hr : s.rest = c :: t) :
    s.blanks = s ∧ s.token.1.kind = 3 ∧ s.token.1.text = [c] ∧ s.token.2.rest = t ∧ s.token.2.code = 0 := by
  have h128 : c.toNat < 128 := by
    simp only [signs, List.mem_cons, List.not_mem_nil, or_false] at hc
    rcases hc with rfl | rfl | rfl | rfl | rfl | rfl | rfl | rfl | rfl | rfl | rfl | rfl | rfl | rfl <;> decide
  obtain ⟨e1, e2, e3, e4, _⟩ := front_ascii hr h128
  have hcl : cls c.toNat = 5 ∧ fold c.toNat = c.toNat ∧ enc c.toNat = [c] ∧ ¬ ((c.toNat : Int) = 58 ∨ (c.toNat : Int) = 33) := by
    simp only [signs, List.mem_cons, List.not_mem_nil, or_false] at hc
    rcases hc with rfl | rfl | rfl | rfl | rfl | rfl | rfl | rfl | rfl | rfl | rfl | rfl | rfl | rfl <;> decide
  refine ⟨?_, ?_⟩
  · unfold Sc.blanks blanksF
    rw [e2]
    simp [hcl.1]
  · have es : s.sign = ([c], s.pass) := by
      unfold Sc.sign
      rw [e1]
      simp only []
      rw [if_neg (by omega), if_neg (by omega), if_neg hcl.2.2.2, hcl.2.1, hcl.2.2.1]
    have e : s.token = (⟨3, [c], s.pos⟩, s.pass) := by
      unfold Sc.token
      rw [e2]
      simp only [hcl.1]
      rw [if_neg (by decide), if_neg (by decide), if_pos trivial, es]
    rw [e]
    exact ⟨rfl, rfl, e3, by rw [e4, h0]⟩
theorem token_mark {c : UInt8} {t : List UInt8} {s : Sc} (h0 : s.code = 0) (hc : c = 33 ∨ c = 58) (hr : s.rest = c :: 61 :: t) :
    s.blanks = s ∧ s.token.1.kind = 3 ∧ s.token.1.text = [c, 61] ∧ s.token.2.rest = t ∧ s.token.2.code = 0 := by
  have h128 : c.toNat < 128 := by rcases hc with rfl | rfl <;> decide
  obtain ⟨e1, e2, e3, e4, _⟩ := front_ascii hr h128
  obtain ⟨f1, f2, f3, f4, _⟩ := front_ascii (s := s.pass) e3 (by decide)
  have hcl : cls c.toNat = 5 ∧ enc c.toNat = [c] ∧ ((c.toNat : Int) = 58 ∨ (c.toNat : Int) = 33) := by
    rcases hc with rfl | rfl <;> decide
  have f61 : (((61 : UInt8).toNat : Nat) : Int) = 61 := rfl
  rw [f61] at f1
  refine ⟨?_, ?_⟩
  · unfold Sc.blanks blanksF
    rw [e2]
    simp [hcl.1]
  · have es : s.sign = ([c, 61], s.pass.pass) := by
      unfold Sc.sign
      rw [e1]
      simp only []
      rw [if_neg (by omega), if_neg (by omega), if_pos hcl.2.2, f1, hcl.2.1]
      simp
    have e : s.token = (⟨3, [c, 61], s.pos⟩, s.pass.pass) := by
      unfold Sc.token
      rw [e2]
      simp only [hcl.1]
      rw [if_neg (by decide), if_neg (by decide), if_pos trivial, es]
    rw [e]
    exact ⟨rfl, rfl, f3, by rw [f4, e4, h0]⟩
theorem token_end {s : Sc} (h0 : s.code = 0) (hr : s.rest = []) : s.blanks = s ∧ s.token.1.kind = 0 ∧ s.token.1.text = [] ∧ s.token.2.code = 0 := by
  have e := front_nil hr
  refine ⟨?_, ?_⟩
  · unfold Sc.blanks blanksF
    rw [e]
    simp
  · unfold Sc.token
    rw [e]
    simp [h0]
theorem blank_space {s : Sc} {t : List UInt8} (hr : s.rest = 32 :: t) : s.blanks = s.pass.blanks ∧ s.pass.rest = t ∧ s.pass.code = s.code := by
  obtain ⟨_, e2, e3, e4, _⟩ := front_ascii hr (by decide)
  refine ⟨?_, e3, e4⟩
  unfold Sc.blanks
  rw [hr]
  conv => lhs; unfold blanksF
  rw [e2, e3]
  have : cls ((32 : UInt8).toNat) = 1 := by decide
  rw [if_pos this]
  rfl
def kt (t : Tok) : Int × List UInt8 := (t.kind, t.text)
/-- A text that is so many tokens. -/
inductive Rend : List UInt8 → List (Int × List UInt8) → Prop where
  | nil : Rend [] []
  | space {t l} : Rend t l → Rend (32 :: t) l
  | sign {c t l} : c ∈ signs → Rend t l → Rend (c :: t) ((3, [c]) :: l)
  | mark {c t l} : c = 33 ∨ c = 58 → Rend t l → Rend (c :: 61 :: t) ((3, [c, 61]) :: l)
  | num {w f t l} : w ≠ [] → cls (dec w 0).1 = 3 → runs inNumber f w = true → textV 456 (numV w) = w → (limbs (numV w)).length ≤ 32 → Stops inNumber t → Rend t l → Rend (w ++ t) ((2, w) :: l)
  | name {w f t l} : w ≠ [] → cls (dec w 0).1 = 2 → runs inName f w = true → rc w ≤ 16 → Stops inName t → Rend t l → Rend (w ++ t) ((1, w) :: l)
theorem scan_cons {F : Nat} {s : Sc} {out : List Tok} {k : Int} {w t : List UInt8} {l : List (Int × List UInt8)} (hk : k ≠ 0) (h : s.blanks = s ∧ s.token.1.kind = k ∧ s.token.1.text = w ∧ s.token.2.rest = t ∧ s.token.2.code = 0)
    (ih : ∃ ts p, scanF F s.token.2 (out ++ [s.token.1]) = (some (out ++ [s.token.1] ++ ts), 0, p) ∧ ts.map kt = l ++ [(0, [])]) :
    ∃ ts p, scanF (F + 1) s out = (some (out ++ ts), 0, p) ∧ ts.map kt = (k, w) :: l ++ [(0, [])] := by
  obtain ⟨ts, p, e1, e2⟩ := ih
  refine ⟨s.token.1 :: ts, p, ?_, ?_⟩
  · unfold scanF
    rw [h.1]
    rw [if_neg (by rw [h.2.2.2.2]; simp), if_neg (by rw [h.2.1]; exact hk), e1]
    simp
  · simp [kt, h.2.1, h.2.2.1, e2]
theorem rend_scan {t : List UInt8} {l : List (Int × List UInt8)} (h : Rend t l) : ∀ (F : Nat) (s : Sc) (out : List Tok), s.rest = t → s.code = 0 → t.length < F → ∃ ts p, scanF F s out = (some (out ++ ts), 0, p) ∧ ts.map kt = l ++ [(0, [])] := by
  induction h with
  | nil =>
    intro F s out hr h0 hF
    obtain ⟨F, rfl⟩ : ∃ n, F = n + 1 := ⟨F - 1, by simp at hF; omega⟩
    have h := token_end h0 hr
    refine ⟨[s.token.1], ⟨0, 0, 0, 0⟩, ?_, ?_⟩
    · unfold scanF
      rw [h.1, if_neg (by rw [h.2.2.2]; simp), if_pos h.2.1]
    · simp [kt, h.2.1, h.2.2.1]
  | space _ ih =>
    intro F s out hr h0 hF
    obtain ⟨F, rfl⟩ : ∃ n, F = n + 1 := ⟨F - 1, by simp at hF; omega⟩
    obtain ⟨e1, e2, e3⟩ := blank_space hr
    obtain ⟨ts, p, e4, e5⟩ := ih (F + 1) s.pass out e2 (by rw [e3, h0]) (by simp at hF; omega)
    refine ⟨ts, p, ?_, e5⟩
    rw [← e4]
    unfold scanF
    rw [e1]
  | sign hc _ ih =>
    intro F s out hr h0 hF
    obtain ⟨F, rfl⟩ : ∃ n, F = n + 1 := ⟨F - 1, by simp at hF; omega⟩
    have h := token_sign h0 hc hr
    exact scan_cons (by decide) h (ih F _ _ h.2.2.2.1 h.2.2.2.2 (by simp at hF; omega))
  | mark hc _ ih =>
    intro F s out hr h0 hF
    obtain ⟨F, rfl⟩ : ∃ n, F = n + 1 := ⟨F - 1, by simp at hF; omega⟩
    have h := token_mark h0 hc hr
    exact scan_cons (by decide) h (ih F _ _ h.2.2.2.1 h.2.2.2.2 (by simp at hF; omega))
  | num hw hc hrun hv hl hs _ ih =>
    intro F s out hr h0 hF
    obtain ⟨F, rfl⟩ : ∃ n, F = n + 1 := ⟨F - 1, by omega⟩
    have h := token_numb h0 hw hc hrun hv hl hs hr
    have := List.length_pos_iff.2 hw
    exact scan_cons (by decide) h (ih F _ _ h.2.2.2.1 h.2.2.2.2 (by rw [List.length_append] at hF; omega))
  | name hw hc hrun hrc hs _ ih =>
    intro F s out hr h0 hF
    obtain ⟨F, rfl⟩ : ∃ n, F = n + 1 := ⟨F - 1, by omega⟩
    have h := token_name h0 hw hc hrun hrc hs hr
    have := List.length_pos_iff.2 hw
    exact scan_cons (by decide) h (ih F _ _ h.2.2.2.1 h.2.2.2.2 (by rw [List.length_append] at hF; omega))
theorem rend_all {t : List UInt8} {l : List (Int × List UInt8)} (h : Rend t l) (hl : t.length ≤ 4096) : ∃ ts p, scan t = (some ts, 0, p) ∧ ts.map kt = l ++ [(0, [])] := by
  unfold scan
  rw [if_neg (by omega)]
  obtain ⟨ts, p, e1, e2⟩ := rend_scan h (t.length + 1) ⟨t, start, 0, emptyPl⟩ [] rfl rfl (by omega)
  exact ⟨ts, p, by simpa using e1, e2⟩
end Go.Rf

/- Numbers and names as texts: read again they are the same. -/
namespace Go.Rf

/-- All digits. -/
def Digs (w : List UInt8) : Prop := ∀ c ∈ w, 48 ≤ c.toNat ∧ c.toNat ≤ 57
theorem cls_dig {c : Int} (h : 48 ≤ c ∧ c ≤ 57) : cls c = 3 := by
  have : c = 48 ∨ c = 49 ∨ c = 50 ∨ c = 51 ∨ c = 52 ∨ c = 53 ∨ c = 54 ∨ c = 55 ∨ c = 56 ∨ c = 57 := by omega
  rcases this with rfl | rfl | rfl | rfl | rfl | rfl | rfl | rfl | rfl | rfl <;> decide
theorem broken_ascii {b : UInt8} {w : List UInt8} (h : b.toNat < 128) : broken (b :: w) (dec (b :: w) 0).1 = false := by
  rw [dec_ascii h]
  unfold broken
  have : ¬ ((b.toNat : Int) = 65533) := by omega
  simp [this]
theorem runs_digs : ∀ (f : Nat) (w : List UInt8), Digs w → w.length ≤ f → runs inNumber f w = true
  | f, [], _, _ => by cases f <;> rfl
  | 0, b :: w, _, h => by simp at h
  | f + 1, b :: w, h, hf => by
    have hb := h b (List.mem_cons_self ..)
    unfold runs
    rw [broken_ascii (by omega), dec_ascii (by omega)]
    rw [cls_dig (by simp only []; omega)]
    have := runs_digs f w (fun c hc => h c (List.mem_cons_of_mem _ hc)) (by simp only [List.length_cons] at hf; omega)
    simp only [List.drop_succ_cons, List.drop_zero, this]
    decide
def dfold : Int → List UInt8 → Int
  | v, [] => v
  | v, c :: r => dfold (10 * v + ((c.toNat : Int) - 48)) r
def lval : List UInt8 → Int
  | [] => 0
  | c :: r => ((c.toNat : Int) - 48) + 10 * lval r
theorem dfold_app : ∀ (a b : List UInt8) (v : Int), dfold v (a ++ b) = dfold (dfold v a) b
  | [], _, _ => rfl
  | _ :: a, b, v => dfold_app a b _
theorem dfold_rev : ∀ l : List UInt8, dfold 0 l.reverse = lval l
  | [] => rfl
  | c :: r => by
    rw [List.reverse_cons, dfold_app, dfold_rev r]
    show 10 * lval r + _ = _ + 10 * lval r
    omega
theorem dec_at {s : List UInt8} {i : Nat} (h : i < s.length) (hb : (s.getD i 0).toNat < 128) : dec s i = ((s.getD i 0).toNat, 1) := by
  unfold dec Utf8.decode
  have e : ((ByteArray.mk s.toArray).get! (i + 0)) = s.getD i 0 := by
    simp only [ByteArray.get!, Nat.add_zero]
    simp [h]
  simp only [e]
  rw [if_pos hb]
theorem decV_digs {s : List UInt8} (hs : Digs s) : ∀ (f i : Nat) (v : Int), s.length - i < f → i ≤ s.length → decV s f i v = some (dfold v (s.drop i))
  | 0, i, v, h, _ => by omega
  | f + 1, i, v, h, hi => by
    unfold decV
    by_cases c : i < s.length
    · have hg : s.getD i 0 = s[i] := by simp [c]
      have hd := hs s[i] (List.getElem_mem c)
      rw [if_pos c, dec_at c (by rw [hg]; omega), hg, if_neg (by omega), List.drop_eq_getElem_cons c]
      exact decV_digs hs f (i + 1) _ (by omega) (by omega)
    · rw [if_neg c, List.drop_eq_nil_of_le (by omega)]
      rfl
theorem lval_app : ∀ a b : List UInt8, lval (a ++ b) = lval a + 10 ^ a.length * lval b
  | [], b => by simp [lval]
  | c :: a, b => by
    show _ + 10 * lval (a ++ b) = _
    rw [lval_app a b, List.length_cons, Int.pow_succ]
    show _ = _ + 10 * lval a + _
    rw [Int.mul_add, Int.mul_comm (10 ^ a.length) 10, Int.mul_assoc]
    omega
theorem inF_val : ∀ (f : Nat) (r : Int) (more : Bool), 0 ≤ r → r < 10 ^ f → lval (inF f r more) = r ∧ (more = true → (inF f r more).length = f)
  | 0, r, more, h0, h => by
    simp at h
    exact ⟨by show (0 : Int) = r; omega, fun _ => rfl⟩
  | f + 1, r, more, h0, h => by
    unfold inF
    have hd := dig_eq h0
    have ih := inF_val f (r / 10) more (by omega) (by rw [Int.pow_succ] at h; omega)
    split
    · refine ⟨?_, fun hm => by rw [List.length_cons, ih.2 hm]⟩
      show ((dig r).toNat : Int) - 48 + 10 * lval (inF f (r / 10) more) = r
      rw [ih.1]; omega
    · rename_i c
      exact ⟨by show (0 : Int) = r; omega, fun hm => absurd (.inr hm) c⟩
theorem backF_val : ∀ (f : Nat) (n : Int), 0 ≤ n → n < tens f → lval (backF f n) = n
  | 0, n, h0, h => by
    have : n < 1 := h
    show (0 : Int) = n
    omega
  | f + 1, n, h0, h => by
    unfold backF
    split
    · show (0 : Int) = n; omega
    · rw [tens] at h
      have hm : n % 1000000000 < 10 ^ 9 := by omega
      have i1 := inF_val 9 (n % 1000000000) (decide (0 < n / 1000000000)) (by omega) hm
      have i2 := backF_val f (n / 1000000000) (by omega) (by omega)
      rw [lval_app, i1.1, i2]
      by_cases c : 0 < n / 1000000000
      · rw [i1.2 (by simp [c])]
        have : (10 : Int) ^ 9 = 1000000000 := by decide
        rw [this]; omega
      · have : n / 1000000000 = 0 := by omega
        rw [this]; omega
theorem textV_digs {f : Nat} {n : Int} : Digs (textV f n) := fun c hc => textV_dig f n c hc
theorem numV_text {v : Int} (h0 : 0 ≤ v) (h : v < tens 456) : textV 456 v ≠ [] ∧ numV (textV 456 v) = v := by
  have hd : dfold 0 (textV 456 v) = v := by
    unfold textV
    split
    · rename_i e; rw [e]; rfl
    · rw [dfold_rev, backF_val _ _ h0 h]
  have hne : textV 456 v ≠ [] := by
    unfold textV
    split
    · simp
    · rename_i e
      intro hc
      have : backF 456 v = [] := by simpa using hc
      have h2 := backF_val 456 v h0 h
      rw [this] at h2
      exact e h2.symm
  refine ⟨hne, ?_⟩
  unfold numV parseV
  rw [if_neg hne, decV_digs textV_digs _ _ _ (by omega) (by omega), List.drop_zero, hd]
  rfl
theorem lt_tens {v : Int} (h0 : 0 ≤ v) (h : (limbs v).length ≤ 32) : v < tens 456 := by
  have h1 := (nv_bounds (limbs_good v)).2
  rw [limbs_nv h0] at h1
  have h2 := pw_le h
  have h3 := pw32
  have h4 : tens 35 ≤ tens 456 := by
    rw [tens_pow, tens_pow]
    exact p10_le (by decide)
  omega
/-- A number's text, in front of what is no digit. -/
theorem rend_num {v : Int} {t : List UInt8} {l : List (Int × List UInt8)} (h0 : 0 ≤ v) (h : (limbs v).length ≤ 32) (hs : Stops inNumber t) (hr : Rend t l) : Rend (textV 456 v ++ t) ((2, textV 456 v) :: l) := by
  obtain ⟨hne, hv⟩ := numV_text h0 (lt_tens h0 h)
  refine .num hne ?_ (runs_digs _ _ textV_digs (Nat.le_refl _)) (by rw [hv]) (by rw [hv]; exact h) hs hr
  cases hw : textV 456 v with
  | nil => exact absurd hw hne
  | cons b w =>
    have := textV_digs (f := 456) (n := v) b (by rw [hw]; exact List.mem_cons_self ..)
    rw [dec_ascii (by omega)]
    exact cls_dig (by simp only []; omega)

theorem runs_of {p : Int → Bool} : ∀ (F : Nat) (s : Sc), (whileF p F s).rest = [] → runs p F s.rest = true
  | 0, s, h => by
    have : s.rest = [] := h
    rw [this]; rfl
  | F + 1, s, h => by
    unfold whileF at h
    split at h
    · rename_i c
      have hr := (s.cls_same (by omega)).2
      have ih := runs_of F s.pass h
      have hn : 0 ≤ s.next.1 := by
        unfold Sc.cls at c
        by_cases h0 : s.next.1 < 0
        · rw [if_pos h0] at c; exact absurd c.1 (by simp)
        · omega
      have hnx : broken s.rest (dec s.rest 0).1 = false ∧ s.next.1 = (dec s.rest 0).1 := by
        unfold Sc.next at hn ⊢
        rw [if_neg hr] at hn ⊢
        by_cases hb : broken s.rest (dec s.rest 0).1 = true
        · rw [if_pos hb] at hn; exact absurd hn (by simp)
        · rw [if_neg hb]
          exact ⟨by simpa using hb, rfl⟩
      have hcl : s.cls.1 = cls (dec s.rest 0).1 := by
        unfold Sc.cls
        rw [if_neg (by omega), hnx.2]
      have hp : s.pass.rest = s.rest.drop (dec s.rest 0).2 := by
        unfold Sc.pass
        rw [decGo_eq hr]
      cases hw : s.rest with
      | nil => exact absurd hw hr
      | cons b w =>
        rw [hw] at hnx hcl hp
        rw [hp] at ih
        unfold runs
        rw [hnx.1, ih, ← hcl, c.2]
        rfl
    · rw [s.cls_rest.1] at h
      rw [h]; cases F <;> rfl
structure NameOk (w : List UInt8) : Prop where
  ne : w ≠ []
  c : cls (dec w 0).1 = 2
  r : ∃ f, runs inName f w = true
  n : rc w ≤ 16
  l : w.length ≤ 4096
theorem scanF_first : ∀ (F : Nat) (s : Sc) (out l : List Tok) (e : Int) (p : Pl), scanF F s out = (some l, e, p) → ∃ r, l = out ++ r
  | 0, s, out, l, e, p, h => by unfold scanF at h; cases h; exact ⟨[], by simp⟩
  | F + 1, s, out, l, e, p, h => by
    unfold scanF at h
    split at h
    · cases h
    split at h
    · cases h; exact ⟨_, rfl⟩
    · obtain ⟨r, hr⟩ := scanF_first F _ _ _ _ _ h
      exact ⟨_, by rw [hr, List.append_assoc]⟩
theorem name_ok {w : List UInt8} (h : isName w = true) : NameOk w := by
  unfold isName at h
  split at h
  · rename_i t t2 p hs
    simp only [Bool.and_eq_true, decide_eq_true_eq] at h
    obtain ⟨hk, htx⟩ := h
    unfold scan at hs
    split at hs
    · cases hs
    rename_i hl
    have hok : Sc.ok ⟨w, start, 0, emptyPl⟩ := ⟨by show w.length ≤ 4096; omega, by show Pl.small start w.length; unfold Pl.small start; simp only []; omega⟩
    have hb := blanksF_ok (w.length + 1) hok
    change (Sc.blanks ⟨w, start, 0, emptyPl⟩).ok ∧ (Sc.blanks ⟨w, start, 0, emptyPl⟩).rest.length ≤ w.length at hb
    unfold scanF at hs
    split at hs
    · cases hs
    rename_i hc
    have hc : (Sc.blanks ⟨w, start, 0, emptyPl⟩).token.2.code = 0 := Classical.not_not.1 hc
    have ht : (Sc.blanks ⟨w, start, 0, emptyPl⟩).token.1 = t := by
      split at hs
      · cases hs
      · obtain ⟨r, hr⟩ := scanF_first _ _ _ _ _ _ hs
        rw [List.nil_append] at hr
        cases hr; rfl
    rw [← ht] at hk htx
    generalize Sc.blanks ⟨w, start, 0, emptyPl⟩ = s at *
    have hcl : s.cls.1 = 2 := by
      by_cases c : s.cls.1 = 2
      · exact c
      · unfold Sc.token at hk
        rw [if_neg c] at hk
        repeat' split at hk
        all_goals cases hk
    have e : s.token = (⟨1, s.ran inName, s.pos⟩, if 16 < rc (s.ran inName) then (s.run inName).early 42 s.pos else s.run inName) := by
      unfold Sc.token; rw [if_pos hcl]
    rw [e] at htx hc
    have htx : s.ran inName = w := htx
    rw [htx] at hc
    have hrl : s.rest.length - (s.run inName).rest.length = w.length ∧ (s.run inName).rest.length ≤ s.rest.length := by
      refine ⟨?_, (whileF_ok inName _ hb.1).2⟩
      have := congrArg List.length htx
      unfold Sc.ran at this
      rw [List.length_take] at this
      omega
    have hrest0 : (s.run inName).rest = [] ∨ w = [] := by
      by_cases hz : (s.run inName).rest.length = 0
      · exact .inl (List.length_eq_zero_iff.1 hz)
      · omega
    have hsame := (s.cls_same (by omega)).2
    have hrest : (s.run inName).rest = [] := by
      rcases hrest0 with h | h
      · exact h
      · exact List.length_eq_zero_iff.1 (by
          have := hb.2
          have h2 := List.length_pos_iff.2 hsame
          rw [h] at this
          simp at this
          exact absurd this hsame)
    have hsr : s.rest = w := by
      rw [← htx]
      unfold Sc.ran
      rw [hrest]
      simp
    have hnx : s.next.1 = (dec s.rest 0).1 := by
      unfold Sc.next
      rw [if_neg hsame]
      by_cases hbr : broken s.rest (dec s.rest 0).1 = true
      · exfalso
        unfold Sc.cls Sc.next at hcl
        rw [if_neg hsame, if_pos hbr, if_pos (show (-1 : Int) < 0 by decide)] at hcl
        cases hcl
      · rw [if_neg hbr]
    refine ⟨hsr ▸ hsame, ?_, ⟨s.rest.length + 1, ?_⟩, ?_, by omega⟩
    · rw [← hsr, ← hnx]
      unfold Sc.cls at hcl
      by_cases h0 : s.next.1 < 0
      · rw [if_pos h0] at hcl; cases hcl
      · rw [if_neg h0] at hcl; exact hcl
    · rw [← hsr]; exact runs_of _ _ hrest
    · by_cases h16 : 16 < rc w
      · rw [if_pos h16] at hc
        cases hc
      · omega
  · cases h
theorem rend_name {w t : List UInt8} {l : List (Int × List UInt8)} (h : NameOk w) (hs : Stops inName t) (hr : Rend t l) : Rend (w ++ t) ((1, w) :: l) := by
  obtain ⟨f, hf⟩ := h.r
  exact .name h.ne h.c hf h.n hs hr
end Go.Rf

/- Tokens that are an expression, and reading them. -/
namespace Go.Rf

abbrev Tk := Int × List UInt8
mutual
/-- A factor, with at most so many brackets about a thing. -/
inductive Un (vs : List (List UInt8)) : Nat → List Tk → Nd → Prop where
  | num {e w} : Un vs e [(2, w)] (.num (numV w))
  | name {e w v} : varF vs w vs.length 0 = v → 0 ≤ v → isWord w = false → Un vs e [(1, w)] (.name v w)
  | minus {e l x} : Un vs e l x → Un vs e ((3, [45]) :: l) (.minus x)
  | par {e l x} : Su vs e l x → Un vs (e + 1) ((3, [40]) :: (l ++ [(3, [41])])) x
  | weak {e l x} : Un vs e l x → Un vs (e + 1) l x
inductive Pr (vs : List (List UInt8)) : Nat → List Tk → Nd → Prop where
  | one {e l x} : Un vs e l x → Pr vs e l x
  | mul {e l l' x y c op} : Pr vs e l x → Un vs e l' y → (c = 42 ∧ op = 42 ∨ c = 47 ∧ op = 47 ∨ c = 37 ∧ op = 37) → Pr vs e (l ++ (3, [c]) :: l') (.two op x y)
inductive Su (vs : List (List UInt8)) : Nat → List Tk → Nd → Prop where
  | one {e l x} : Pr vs e l x → Su vs e l x
  | add {e l l' x y c op} : Su vs e l x → Pr vs e l' y → (c = 43 ∧ op = 43 ∨ c = 45 ∧ op = 45) → Su vs e (l ++ (3, [c]) :: l') (.two op x y)
end

def Rd.kts (r : Rd) : List Tk := (r.ts.drop r.i).map kt
theorem kts_head {r : Rd} (h : r.ok) {k : Int} {w : List UInt8} {l : List Tk} (e : r.kts = (k, w) :: l) : r.tok.kind = k ∧ r.tok.text = w ∧ (k ≠ 0 → r.next.kts = l ∧ r.next.i = r.i + 1) := by
  have hi := h.i
  have e2 : r.ts.drop r.i = r.tok :: r.ts.drop (r.i + 1) := by
    rw [List.drop_eq_getElem_cons hi]
    unfold Rd.tok
    simp [hi]
  unfold Rd.kts at e
  rw [e2] at e
  simp only [List.map_cons, List.cons.injEq, kt, Prod.mk.injEq] at e
  refine ⟨e.1.1, e.1.2, fun hk => ?_⟩
  have hn : r.next = { r with i := r.i + 1 } := by
    unfold Rd.next
    rw [if_neg (by rw [e.1.1]; exact hk)]
  rw [hn]
  exact ⟨e.2, rfl⟩
theorem isT_eq {r : Rd} {k : Int} {w : List UInt8} (hk : r.tok.kind = k) (hw : r.tok.text = w) (s : List UInt8) : r.isT s = decide (w = s ∧ (k = 3 ∨ k = 1)) := by
  unfold Rd.isT
  rw [hk, hw]
/-- No sign of a product stands in front. -/
def nm : List Tk → Prop
  | (k, w) :: _ => ¬ ((k = 3 ∨ k = 1) ∧ (w = [42] ∨ w = [47] ∨ w = [37]))
  | [] => True
def ns : List Tk → Prop
  | (k, w) :: _ => ¬ ((k = 3 ∨ k = 1) ∧ (w = [43] ∨ w = [45]))
  | [] => True
theorem nm_c {c : UInt8} {l : List Tk} (h : c ≠ 42 ∧ c ≠ 47 ∧ c ≠ 37) : nm ((3, [c]) :: l) := fun ⟨_, hw⟩ => by
  rcases hw with e | e | e <;> simp only [List.cons.injEq, and_true] at e
  · exact h.1 e
  · exact h.2.1 e
  · exact h.2.2 e
theorem ns_c {c : UInt8} {l : List Tk} (h : c ≠ 43 ∧ c ≠ 45) : ns ((3, [c]) :: l) := fun ⟨_, hw⟩ => by
  rcases hw with e | e <;> simp only [List.cons.injEq, and_true] at e
  · exact h.1 e
  · exact h.2 e
theorem lp_end {r : Rd} (h : r.ok) {x : Nd} {n : Nat} (hn : 1 ≤ n) (hm : nm r.kts) : rd n (.lp x) r = .ok x r := by
  obtain ⟨n, rfl⟩ : ∃ m, n = m + 1 := ⟨n - 1, by omega⟩
  cases hk : r.kts with
  | nil =>
    have := h.i
    have : r.kts.length = r.ts.length - r.i := by simp [Rd.kts]
    rw [hk] at this
    simp at this
    omega
  | cons p l =>
    obtain ⟨k, w⟩ := p
    obtain ⟨a, b, _⟩ := kts_head h hk
    rw [hk] at hm
    unfold nm at hm
    unfold rd
    rw [isT_eq a b, isT_eq a b, isT_eq a b]
    rw [if_neg (fun hd => hm ⟨(of_decide_eq_true hd).2, .inl (of_decide_eq_true hd).1⟩), if_neg (fun hd => hm ⟨(of_decide_eq_true hd).2, .inr (.inl (of_decide_eq_true hd).1)⟩), if_neg (fun hd => hm ⟨(of_decide_eq_true hd).2, .inr (.inr (of_decide_eq_true hd).1)⟩)]
theorem ls_end {r : Rd} (h : r.ok) {x : Nd} {n : Nat} (hn : 1 ≤ n) (hm : ns r.kts) : rd n (.ls x) r = .ok x r := by
  obtain ⟨n, rfl⟩ : ∃ m, n = m + 1 := ⟨n - 1, by omega⟩
  cases hk : r.kts with
  | nil =>
    have := h.i
    have : r.kts.length = r.ts.length - r.i := by simp [Rd.kts]
    rw [hk] at this
    simp at this
    omega
  | cons p l =>
    obtain ⟨k, w⟩ := p
    obtain ⟨a, b, _⟩ := kts_head h hk
    rw [hk] at hm
    unfold ns at hm
    unfold rd
    rw [isT_eq a b, isT_eq a b]
    rw [if_neg (fun hd => hm ⟨(of_decide_eq_true hd).2, .inl (of_decide_eq_true hd).1⟩), if_neg (fun hd => hm ⟨(of_decide_eq_true hd).2, .inr (of_decide_eq_true hd).1⟩)]

/-- What is read of a list of tokens. -/
def GoU (l : List Tk) (x : Nd) (e : Nat) (vs : List (List UInt8)) : Prop := ∀ (r : Rd) (rest : List Tk) (n : Nat), r.ok → r.vs = vs → r.kts = l ++ rest → r.op + e ≤ 16 → 4 * (r.ts.length - r.i) + 1 ≤ n →
  ∃ r', rd n .u r = .ok x r' ∧ Kept r r' ∧ r.i < r'.i ∧ r'.kts = rest
def GoP (l : List Tk) (x : Nd) (e : Nat) (vs : List (List UInt8)) : Prop := ∀ (r : Rd) (rest : List Tk) (n : Nat), r.ok → r.vs = vs → r.kts = l ++ rest → r.op + e ≤ 16 → 4 * (r.ts.length - r.i) + 2 ≤ n →
  ∃ n' r', rd n .p r = rd n' (.lp x) r' ∧ Kept r r' ∧ r.i < r'.i ∧ r'.kts = rest ∧ 4 * (r'.ts.length - r'.i) + 1 ≤ n'
def GoS (l : List Tk) (x : Nd) (e : Nat) (vs : List (List UInt8)) : Prop := ∀ (r : Rd) (rest : List Tk) (n : Nat), r.ok → r.vs = vs → r.kts = l ++ rest → r.op + e ≤ 16 → nm rest → 4 * (r.ts.length - r.i) + 3 ≤ n →
  ∃ n' r', rd n .s r = rd n' (.ls x) r' ∧ Kept r r' ∧ r.i < r'.i ∧ r'.kts = rest ∧ 4 * (r'.ts.length - r'.i) + 1 ≤ n'

theorem goP_one {l : List Tk} {x : Nd} {e : Nat} {vs : List (List UInt8)} (h : GoU l x e vs) : GoP l x e vs := by
  intro r rest n hr hv hk ho hn
  obtain ⟨n, rfl⟩ : ∃ m, n = m + 1 := ⟨n - 1, by omega⟩
  obtain ⟨r', h1, h2, h3, h4⟩ := h r rest n hr hv hk ho (by omega)
  have hi := h2.ok.i
  refine ⟨n, r', ?_, h2, h3, h4, by rw [h2.ts] at hi ⊢; omega⟩
  conv => lhs; unfold rd
  rw [h1]
  rfl
theorem goP_mul {l l' : List Tk} {x y : Nd} {e : Nat} {vs : List (List UInt8)} {c : UInt8} {op : Int} (hc : c = 42 ∧ op = 42 ∨ c = 47 ∧ op = 47 ∨ c = 37 ∧ op = 37) (h : GoP l x e vs) (h' : GoU l' y e vs) : GoP (l ++ (3, [c]) :: l') (.two op x y) e vs := by
  intro r rest n hr hv hk ho hn
  obtain ⟨n1, r1, a1, a2, a3, a4, a5⟩ := h r ((3, [c]) :: (l' ++ rest)) n hr hv (by rw [hk]; simp) ho hn
  obtain ⟨m, rfl⟩ : ∃ m, n1 = m + 1 := ⟨n1 - 1, by omega⟩
  obtain ⟨k1, k2, k3⟩ := kts_head a2.ok a4
  obtain ⟨k3, k4⟩ := k3 (by decide)
  have kn := Kept.next a2.ok
  have hi1 := kn.ok.i
  obtain ⟨r2, b1, b2, b3, b4⟩ := h' r1.next rest m kn.ok (by rw [kn.vs, a2.vs, hv]) k3 (by rw [kn.op, a2.op]; exact ho) (by rw [kn.ts] at hi1 ⊢; omega)
  have hi2 := b2.ok.i
  refine ⟨m, r2, ?_, a2.trans (kn.trans b2), by omega, b4, by rw [b2.ts, kn.ts] at hi2 ⊢; rw [kn.ts] at hi1; omega⟩
  rw [a1]
  conv => lhs; unfold rd
  rw [isT_eq k1 k2, isT_eq k1 k2, isT_eq k1 k2]
  rcases hc with ⟨rfl, rfl⟩ | ⟨rfl, rfl⟩ | ⟨rfl, rfl⟩
  · rw [if_pos (by decide), b1]; rfl
  · rw [if_neg (by decide), if_pos (by decide), b1]; rfl
  · rw [if_neg (by decide), if_neg (by decide), if_pos (by decide), b1]; rfl
theorem goS_one {l : List Tk} {x : Nd} {e : Nat} {vs : List (List UInt8)} (h : GoP l x e vs) : GoS l x e vs := by
  intro r rest n hr hv hk ho hm hn
  obtain ⟨n, rfl⟩ : ∃ m, n = m + 1 := ⟨n - 1, by omega⟩
  obtain ⟨n1, r1, a1, a2, a3, a4, a5⟩ := h r rest n hr hv hk ho (by omega)
  have hi := a2.ok.i
  refine ⟨n, r1, ?_, a2, a3, a4, by rw [a2.ts] at hi ⊢; omega⟩
  conv => lhs; unfold rd
  rw [a1, lp_end a2.ok (by omega) (by rw [a4]; exact hm)]
  rfl
theorem goS_add {l l' : List Tk} {x y : Nd} {e : Nat} {vs : List (List UInt8)} {c : UInt8} {op : Int} (hc : c = 43 ∧ op = 43 ∨ c = 45 ∧ op = 45) (h : GoS l x e vs) (h' : GoP l' y e vs) : GoS (l ++ (3, [c]) :: l') (.two op x y) e vs := by
  intro r rest n hr hv hk ho hm hn
  obtain ⟨n1, r1, a1, a2, a3, a4, a5⟩ := h r ((3, [c]) :: (l' ++ rest)) n hr hv (by rw [hk]; simp) ho (by
    rcases hc with ⟨rfl, _⟩ | ⟨rfl, _⟩ <;> exact nm_c (by decide)) hn
  obtain ⟨m, rfl⟩ : ∃ m, n1 = m + 1 := ⟨n1 - 1, by omega⟩
  obtain ⟨k1, k2, k3⟩ := kts_head a2.ok a4
  obtain ⟨k3, k4⟩ := k3 (by decide)
  have kn := Kept.next a2.ok
  have hi1 := kn.ok.i
  obtain ⟨n2, r2, b1, b2, b3, b4, b5⟩ := h' r1.next rest m kn.ok (by rw [kn.vs, a2.vs, hv]) k3 (by rw [kn.op, a2.op]; exact ho) (by rw [kn.ts] at hi1 ⊢; omega)
  have hi2 := b2.ok.i
  refine ⟨m, r2, ?_, a2.trans (kn.trans b2), by omega, b4, by rw [b2.ts, kn.ts] at hi2 ⊢; rw [kn.ts] at hi1; omega⟩
  rw [a1]
  conv => lhs; unfold rd
  rw [isT_eq k1 k2, isT_eq k1 k2]
  have e2 := lp_end (x := y) b2.ok (show 1 ≤ n2 by omega) (by rw [b4]; exact hm)
  rcases hc with ⟨rfl, rfl⟩ | ⟨rfl, rfl⟩
  · rw [if_pos (by decide), b1, e2]; rfl
  · rw [if_neg (by decide), if_pos (by decide), b1, e2]; rfl
theorem goU_par {l : List Tk} {x : Nd} {e : Nat} {vs : List (List UInt8)} (h : GoS l x e vs) : GoU ((3, [40]) :: (l ++ [(3, [41])])) x (e + 1) vs := by
  intro r rest n hr hv hk ho hn
  obtain ⟨n, rfl⟩ : ∃ m, n = m + 1 := ⟨n - 1, by omega⟩
  obtain ⟨k1, k2, k3⟩ := kts_head hr (show r.kts = (3, [40]) :: (l ++ (3, [41]) :: rest) by rw [hk]; simp)
  obtain ⟨k3, k4⟩ := k3 (by decide)
  have hop : r.op < 16 := by omega
  have ho' := Rd.opened_ok hr hop
  have kn := Kept.next ho'
  have hk3 : r.opened.next.kts = l ++ (3, [41]) :: rest ∧ r.opened.next.i = r.i + 1 := by
    have e0 : r.opened.kts = (3, [40]) :: (l ++ (3, [41]) :: rest) := by
      show r.kts = _
      rw [hk]; simp
    exact (kts_head ho' e0).2.2 (by decide)
  have hi1 := kn.ok.i
  have hts : r.opened.next.ts = r.ts := kn.ts
  obtain ⟨n1, r1, a1, a2, a3, a4, a5⟩ := h r.opened.next ((3, [41]) :: rest) n kn.ok (by rw [kn.vs]; exact hv) hk3.1 (by rw [kn.op]; show r.op + 1 + e ≤ 16; omega) (nm_c (by decide)) (by rw [hts] at hi1 ⊢; omega)
  obtain ⟨q1, q2, q3⟩ := kts_head a2.ok a4
  obtain ⟨q3, q4⟩ := q3 (by decide)
  have kn4 := Kept.next a2.ok
  have hpos : 0 < r1.next.op := by
    rw [kn4.op, a2.op, kn.op]
    have := hr.op
    show 0 < r.op + 1
    omega
  have hts2 := kn4.ts.trans (a2.ts.trans hts)
  refine ⟨r1.next.closed, ?_, ⟨Rd.closed_ok kn4.ok hpos, hts2, kn4.vs.trans (a2.vs.trans kn.vs), ?_, ?_⟩, ?_, q3⟩
  · unfold rd
    rw [isT_eq k1 k2, if_neg (by decide), if_neg (by rw [k1]; decide)]
    have hnn : r.isName = false := by
      unfold Rd.isName
      rw [k1]
      rfl
    rw [if_neg (by rw [hnn]; decide)]
    have hin : r.into [40] = none := by
      unfold Rd.into
      rw [if_pos ⟨k1, k2⟩, if_pos hop]
    rw [hin]
    simp only []
    rw [a1, ls_end a2.ok (by omega) (by rw [a4]; exact ns_c (by decide))]
    show (if r1.isT [41] = true then Rs.ok x r1.next.closed else _) = _
    rw [isT_eq q1 q2, if_pos (by decide)]
  · show r1.next.op - 1 = r.op
    rw [kn4.op, a2.op, kn.op]
    show r.op + 1 - 1 = r.op
    omega
  · show r.i ≤ r1.next.i
    omega
  · show r.i < r1.next.i
    omega
theorem goU_minus {l : List Tk} {x : Nd} {e : Nat} {vs : List (List UInt8)} (h : GoU l x e vs) : GoU ((3, [45]) :: l) (.minus x) e vs := by
  intro r rest n hr hv hk ho hn
  obtain ⟨n, rfl⟩ : ∃ m, n = m + 1 := ⟨n - 1, by omega⟩
  obtain ⟨k1, k2, k3⟩ := kts_head hr (show r.kts = (3, [45]) :: (l ++ rest) by rw [hk]; simp)
  obtain ⟨k3, k4⟩ := k3 (by decide)
  have kn := Kept.next hr
  have hi1 := kn.ok.i
  obtain ⟨r1, a1, a2, a3, a4⟩ := h r.next rest n kn.ok (by rw [kn.vs, hv]) k3 (by rw [kn.op]; exact ho) (by rw [kn.ts] at hi1 ⊢; omega)
  refine ⟨r1, ?_, kn.trans a2, by omega, a4⟩
  unfold rd
  rw [isT_eq k1 k2, if_pos (by decide), a1]
  rfl
theorem goU_num {w : List UInt8} {e : Nat} {vs : List (List UInt8)} : GoU [(2, w)] (.num (numV w)) e vs := by
  intro r rest n hr hv hk ho hn
  obtain ⟨n, rfl⟩ : ∃ m, n = m + 1 := ⟨n - 1, by omega⟩
  obtain ⟨k1, k2, k3⟩ := kts_head hr (show r.kts = (2, w) :: rest by rw [hk]; rfl)
  obtain ⟨k3, k4⟩ := k3 (by decide)
  refine ⟨r.next, ?_, Kept.next hr, by omega, k3⟩
  unfold rd
  rw [isT_eq k1 k2, if_neg (by simp), if_pos k1, k2]
theorem goU_name {w : List UInt8} {v : Int} {e : Nat} {vs : List (List UInt8)} (h1 : varF vs w vs.length 0 = v) (h2 : 0 ≤ v) (h3 : isWord w = false) (hw : w ≠ [45]) : GoU [(1, w)] (.name v w) e vs := by
  intro r rest n hr hv hk ho hn
  obtain ⟨n, rfl⟩ : ∃ m, n = m + 1 := ⟨n - 1, by omega⟩
  obtain ⟨k1, k2, k3⟩ := kts_head hr (show r.kts = (1, w) :: rest by rw [hk]; rfl)
  obtain ⟨k3, k4⟩ := k3 (by decide)
  refine ⟨r.next, ?_, Kept.next hr, by omega, k3⟩
  have hvar : r.var w = v := by unfold Rd.var; rw [hv, h1]
  have hnn : r.isName = true := by
    unfold Rd.isName
    rw [k1, k2, h3]
    rfl
  unfold rd
  rw [isT_eq k1 k2, if_neg (by simp [hw]), if_neg (by rw [k1]; decide), if_pos hnn, k2, hvar, if_pos h2]
mutual
theorem go_un {vs : List (List UInt8)} (hvs : ∀ w, varF vs w vs.length 0 ≥ 0 → w ≠ [45]) : ∀ {e l x}, Un vs e l x → GoU l x e vs
  | _, _, _, .num => goU_num
  | _, _, _, .name h1 h2 h3 => goU_name h1 h2 h3 (hvs _ (by rw [h1]; exact h2))
  | _, _, _, .minus h => goU_minus (go_un hvs h)
  | _, _, _, .par h => goU_par (go_su hvs h)
  | _, _, _, .weak h => fun r rest n hr hv hk ho hn => go_un hvs h r rest n hr hv hk (by omega) hn
theorem go_pr {vs : List (List UInt8)} (hvs : ∀ w, varF vs w vs.length 0 ≥ 0 → w ≠ [45]) : ∀ {e l x}, Pr vs e l x → GoP l x e vs
  | _, _, _, .one h => goP_one (go_un hvs h)
  | _, _, _, .mul h h' hc => goP_mul hc (go_pr hvs h) (go_un hvs h')
theorem go_su {vs : List (List UInt8)} (hvs : ∀ w, varF vs w vs.length 0 ≥ 0 → w ≠ [45]) : ∀ {e l x}, Su vs e l x → GoS l x e vs
  | _, _, _, .one h => goS_one (go_pr hvs h)
  | _, _, _, .add h h' hc => goS_add hc (go_su hvs h) (go_pr hvs h')
end
end Go.Rf

/- An expression as it is written: its tokens, and reading it again. -/
namespace Go.Rf

theorem varF_tx (vs : List (List UInt8)) (s : List UInt8) : ∀ d i, 0 ≤ varF vs s d i → ∃ j, j < i + d ∧ varF vs s d i = (j : Int) ∧ tx vs j = s
  | 0, i, h => by exact absurd h (by show ¬ (0 : Int) ≤ -1; decide)
  | d + 1, i, h => by
    unfold varF at h ⊢
    split at h
    · rename_i c
      rw [if_pos c]
      exact ⟨i, by omega, rfl, c.symm⟩
    · rename_i c
      rw [if_neg c]
      obtain ⟨j, a, b, e⟩ := varF_tx vs s d (i + 1) h
      exact ⟨j, by omega, b, e⟩
theorem namesF_all (vs : List (List UInt8)) : ∀ f i, namesF vs f i = 0 → ∀ j, i ≤ j → j < i + f → isName (tx vs j) = true
  | 0, i, _, j, h1, h2 => by omega
  | f + 1, i, h, j, h1, h2 => by
    unfold namesF at h
    split at h
    · cases h
    · rename_i c
      split at h
      · cases h
      · by_cases e : j = i
        · subst e; simpa using c
        · exact namesF_all vs f (i + 1) h j (by omega) (by omega)
theorem names_all {vs : List (List UInt8)} (h : names vs = 0) : vs.length ≤ 16 ∧ ∀ j, j < vs.length → isName (tx vs j) = true := by
  unfold names at h
  split at h
  · cases h
  · exact ⟨by omega, fun j hj => namesF_all vs _ 0 h j (by omega) (by omega)⟩
theorem var_name {vs : List (List UInt8)} (h : names vs = 0) {w : List UInt8} (hv : 0 ≤ varF vs w vs.length 0) : NameOk w := by
  obtain ⟨j, a, _, e⟩ := varF_tx vs w _ _ hv
  rw [← e]
  exact name_ok ((names_all h).2 j (by omega))

theorem expr_of {s : List UInt8} {l : List Tk} {x : Nd} {e : Nat} {vs : List (List UInt8)} (hl : s.length ≤ 4096) (hr : Rend s l) (hx : Su vs e l x) (he : e ≤ 16) (hn : names vs = 0) (hb : ∀ k, (tx vs k).length ≤ 1100000) : exprV s vs = (some x, 0, emptyPl) := by
  obtain ⟨hv16, hnm⟩ := names_all hn
  obtain ⟨ts, p, hs, hk⟩ := rend_all hr hl
  obtain ⟨_, ht⟩ := scan_some hs
  have hok := ht.rd vs hv16 hb
  have hvs : ∀ w, varF vs w vs.length 0 ≥ 0 → w ≠ [45] := fun w hw e => by
    have := (var_name hn hw).c
    rw [e] at this
    exact absurd this (by decide)
  have hk0 : (rd0 ts vs).kts = l ++ [(0, [])] := hk
  obtain ⟨n', r', h1, h2, h3, h4, h5⟩ := go_su hvs hx (rd0 ts vs) [(0, [])] (rd0 ts vs).fuel hok rfl hk0 (by show (0 : Int) + e ≤ 16; omega) (fun ⟨h, _⟩ => by rcases h with h | h <;> cases h) (Nat.le_refl _)
  have e1 := ls_end (x := x) h2.ok (show 1 ≤ n' by omega) (by rw [h4]; exact fun ⟨h, _⟩ => by rcases h with h | h <;> cases h)
  have hk2 := (kts_head h2.ok h4).1
  unfold exprV
  rw [if_neg (by rw [hn]; simp), hs]
  simp only []
  rw [h1, e1]
  simp only []
  rw [if_pos hk2]

def sumOp (op : Int) : Bool := op == 43 || op == 45
def Nd.adds : Nd → Bool
  | .two op _ _ => sumOp op
  | _ => false
def Nd.single : Nd → Bool
  | .two _ _ _ => false
  | _ => true
def opc (op : Int) : UInt8 := UInt8.ofNat op.toNat
def wrB (b : Bool) (w : List UInt8) : List UInt8 := if b then 40 :: (w ++ [41]) else w
def ptB (b : Bool) (l : List Tk) : List Tk := if b then (3, [40]) :: (l ++ [(3, [41])]) else l
def dpB (b : Bool) (d : Nat) : Nat := if b then d + 1 else d
/-- An expression as it is written. -/
def wr : Nd → List UInt8
  | .num k => textV 456 k
  | .name _ s => s
  | .minus x => 45 :: wrB (!x.single) (wr x)
  | .two op x y => wrB (!sumOp op && x.adds) (wr x) ++ 32 :: opc op :: 32 :: wrB (sumOp op && y.adds || !sumOp op && !y.single) (wr y)
def pt : Nd → List Tk
  | .num k => [(2, textV 456 k)]
  | .name _ s => [(1, s)]
  | .minus x => (3, [45]) :: ptB (!x.single) (pt x)
  | .two op x y => ptB (!sumOp op && x.adds) (pt x) ++ (3, [opc op]) :: ptB (sumOp op && y.adds || !sumOp op && !y.single) (pt y)
def dp : Nd → Nat
  | .num _ => 0
  | .name _ _ => 0
  | .minus x => dpB (!x.single) (dp x)
  | .two op x y => max (dpB (!sumOp op && x.adds) (dp x)) (dpB (sumOp op && y.adds || !sumOp op && !y.single) (dp y))
/-- What an expression that was read is like. -/
def Nd.pr (vs : List (List UInt8)) : Nd → Prop
  | .num k => 0 ≤ k ∧ (limbs k).length ≤ 32
  | .name v s => NameOk s ∧ varF vs s vs.length 0 = v ∧ 0 ≤ v ∧ isWord s = false
  | .minus x => x.pr vs
  | .two op x y => (op = 43 ∨ op = 45 ∨ op = 42 ∨ op = 47 ∨ op = 37) ∧ x.pr vs ∧ y.pr vs

theorem un_le {vs : List (List UInt8)} {e l x} (h : Un vs e l x) : ∀ k, Un vs (e + k) l x
  | 0 => h
  | k + 1 => .weak (un_le h k)
theorem pr_le {vs : List (List UInt8)} (k : Nat) : ∀ {e l x}, Pr vs e l x → Pr vs (e + k) l x
  | _, _, _, .one h => .one (un_le h k)
  | _, _, _, .mul h h' hc => .mul (pr_le k h) (un_le h' k) hc
theorem su_le {vs : List (List UInt8)} (k : Nat) : ∀ {e l x}, Su vs e l x → Su vs (e + k) l x
  | _, _, _, .one h => .one (pr_le k h)
  | _, _, _, .add h h' hc => .add (su_le k h) (pr_le k h') hc
theorem un_to {vs : List (List UInt8)} {e f : Nat} {l x} (h : Un vs e l x) (hf : e ≤ f) : Un vs f l x := by
  have := un_le h (f - e)
  rwa [show e + (f - e) = f by omega] at this
theorem pr_to {vs : List (List UInt8)} {e f : Nat} {l x} (h : Pr vs e l x) (hf : e ≤ f) : Pr vs f l x := by
  have := pr_le (f - e) h
  rwa [show e + (f - e) = f by omega] at this
theorem su_to {vs : List (List UInt8)} {e f : Nat} {l x} (h : Su vs e l x) (hf : e ≤ f) : Su vs f l x := by
  have := su_le (f - e) h
  rwa [show e + (f - e) = f by omega] at this

theorem opc_eq {op : Int} (h : op = 43 ∨ op = 45 ∨ op = 42 ∨ op = 47 ∨ op = 37) : opc op ∈ signs ∧ (sumOp op = true → (opc op = 43 ∧ op = 43 ∨ opc op = 45 ∧ op = 45)) ∧ (sumOp op = false → (opc op = 42 ∧ op = 42 ∨ opc op = 47 ∧ op = 47 ∨ opc op = 37 ∧ op = 37)) := by
  rcases h with rfl | rfl | rfl | rfl | rfl <;> decide
structure PtOk (vs : List (List UInt8)) (x : Nd) : Prop where
  s : Su vs (dp x) (pt x) x
  p : x.adds = false → Pr vs (dp x) (pt x) x
  u : x.single = true → Un vs (dp x) (pt x) x
theorem PtOk.ub {vs x} (h : PtOk vs x) (b : Bool) (hb : b = !x.single) : Un vs (dpB b (dp x)) (ptB b (pt x)) x := by
  subst hb
  cases hs : x.single with
  | true => exact h.u hs
  | false => exact .par h.s
theorem PtOk.pb {vs x} (h : PtOk vs x) (b : Bool) (hb : b = x.adds) : Pr vs (dpB b (dp x)) (ptB b (pt x)) x := by
  subst hb
  cases hs : x.adds with
  | true => exact .one (.par h.s)
  | false => exact h.p hs
theorem pt_ok {vs : List (List UInt8)} : ∀ x : Nd, x.pr vs → PtOk vs x
  | .num k, h => by
    have hv := (numV_text h.1 (lt_tens h.1 h.2)).2
    have hu : Un vs 0 [(2, textV 456 k)] (.num k) := by
      conv => arg 4; rw [← hv]
      exact .num
    exact ⟨.one (.one hu), fun _ => .one hu, fun _ => hu⟩
  | .name v s, h => by
    have hu : Un vs 0 [(1, s)] (.name v s) := .name h.2.1 h.2.2.1 h.2.2.2
    exact ⟨.one (.one hu), fun _ => .one hu, fun _ => hu⟩
  | .minus x, h => by
    have ih := pt_ok x h
    have hu : Un vs (dp (.minus x)) (pt (.minus x)) (.minus x) := .minus (ih.ub _ rfl)
    exact ⟨.one (.one hu), fun _ => .one hu, fun _ => hu⟩
  | .two op x y, h => by
    have i1 := pt_ok x h.2.1
    have i2 := pt_ok y h.2.2
    obtain ⟨_, o1, o2⟩ := opc_eq h.1
    cases hs : sumOp op with
    | true =>
      have e1 : (!sumOp op && x.adds) = false := by rw [hs]; rfl
      have e2 : (sumOp op && y.adds || !sumOp op && !y.single) = y.adds := by rw [hs]; simp
      have hsu : Su vs (dp (.two op x y)) (pt (.two op x y)) (.two op x y) := by
        unfold dp pt
        rw [e1, e2]
        exact .add (su_to i1.s (Nat.le_max_left ..)) (pr_to (i2.pb _ rfl) (Nat.le_max_right ..)) (o1 hs)
      refine ⟨hsu, fun ha => ?_, fun ha => ?_⟩
      · have ha : sumOp op = false := ha
        rw [hs] at ha; cases ha
      · cases ha
    | false =>
      have e1 : (!sumOp op && x.adds) = x.adds := by rw [hs]; rfl
      have e2 : (sumOp op && y.adds || !sumOp op && !y.single) = !y.single := by rw [hs]; simp
      have hp : Pr vs (dp (.two op x y)) (pt (.two op x y)) (.two op x y) := by
        unfold dp pt
        rw [e1, e2]
        exact .mul (pr_to (i1.pb _ rfl) (Nat.le_max_left ..)) (un_to (i2.ub _ rfl) (Nat.le_max_right ..)) (o2 hs)
      exact ⟨.one hp, fun _ => hp, fun ha => by cases ha⟩

/-- What may stand behind a name or a number. -/
def Tl (t : List UInt8) : Prop := Stops inName t ∧ Stops inNumber t
theorem tl_nil : Tl [] := ⟨trivial, trivial⟩
theorem tl_space (t) : Tl (32 :: t) := ⟨⟨by decide, by decide⟩, ⟨by decide, by decide⟩⟩
theorem tl_close (t) : Tl (41 :: t) := ⟨⟨by decide, by decide⟩, ⟨by decide, by decide⟩⟩
theorem wr_rend {vs : List (List UInt8)} : ∀ x : Nd, x.pr vs → ∀ (t : List UInt8) (l : List Tk), Tl t → Rend t l → Rend (wr x ++ t) (pt x ++ l) := by
  have brk : ∀ (b : Bool) (w : List UInt8) (q : List Tk), (∀ t l, Tl t → Rend t l → Rend (w ++ t) (q ++ l)) → ∀ t l, Tl t → Rend t l → Rend (wrB b w ++ t) (ptB b q ++ l) := by
    intro b w q h t l ht hr
    cases b with
    | false => exact h t l ht hr
    | true =>
      have h1 := h (41 :: t) ((3, [41]) :: l) (tl_close t) (.sign (by decide) hr)
      have h2 := Rend.sign (c := 40) (by decide) h1
      simpa [wrB, ptB] using h2
  intro x
  induction x with
  | num k => intro h t l ht hr; exact rend_num h.1 h.2 ht.2 hr
  | name v s => intro h t l ht hr; exact rend_name h.1 ht.1 hr
  | minus x ih =>
    intro h t l ht hr
    have h1 := brk (!x.single) (wr x) (pt x) (ih h) t l ht hr
    exact .sign (by decide) h1
  | two op x y ih1 ih2 =>
    intro h t l ht hr
    obtain ⟨o0, _, _⟩ := opc_eq h.1
    have h2 := brk (sumOp op && y.adds || !sumOp op && !y.single) (wr y) (pt y) (ih2 h.2.2) t l ht hr
    have h1 := brk (!sumOp op && x.adds) (wr x) (pt x) (ih1 h.2.1) _ _ (tl_space _) (.space (.sign o0 (.space h2)))
    simpa [wr, pt] using h1
end Go.Rf

/- What was read is like what is written; how deep it is. -/
namespace Go.Rf

theorem scanF_num : ∀ f (s : Sc) (out l : List Tok) e p, (∀ t ∈ out, t.kind = 2 → ∃ v : Int, 0 ≤ v ∧ (limbs v).length ≤ 32 ∧ t.text = textV 456 v) → s.ok → scanF f s out = (some l, e, p) →
    ∀ t ∈ l, t.kind = 2 → ∃ v : Int, 0 ≤ v ∧ (limbs v).length ≤ 32 ∧ t.text = textV 456 v
  | 0, s, out, l, e, p, h, _, hs => by unfold scanF at hs; cases hs; exact h
  | f + 1, s, out, l, e, p, h, hok, hs => by
    have hb := blanksF_ok (s.rest.length + 1) hok
    change s.blanks.ok ∧ s.blanks.rest.length ≤ s.rest.length at hb
    have hto := token_ok hb.1
    unfold scanF at hs
    split at hs
    · cases hs
    rename_i hc
    have hc : s.blanks.token.2.code = 0 := Classical.not_not.1 hc
    have key : s.blanks.token.1.kind = 2 → ∃ v : Int, 0 ≤ v ∧ (limbs v).length ≤ 32 ∧ s.blanks.token.1.text = textV 456 v := by
      intro hk
      generalize s.blanks = z at *
      unfold Sc.token at hk hc ⊢
      by_cases c2 : z.cls.1 = 2
      · rw [if_pos c2] at hk; cases hk
      · rw [if_neg c2] at hk hc ⊢
        by_cases c3 : z.cls.1 = 3
        · rw [if_pos c3] at hk hc ⊢
          have h3 : (z.ran inNumber).length ≤ 4096 := by have := hb.1.1; unfold Sc.ran; rw [List.length_take]; omega
          have hn := numV_ok h3
          by_cases h32 : 32 < (limbs (numV (z.ran inNumber))).length
          · simp only [if_pos h32] at hc
            cases hc
          · exact ⟨_, hn.1, by omega, rfl⟩
        · rw [if_neg c3] at hk
          by_cases c5 : z.cls.1 = 5
          · rw [if_pos c5] at hk; cases hk
          · rw [if_neg c5] at hk
            by_cases c1 : z.cls.1 = -1
            · rw [if_pos c1] at hk; cases hk
            · rw [if_neg c1] at hk; cases hk
    have hout : ∀ t ∈ out ++ [s.blanks.token.1], t.kind = 2 → ∃ v : Int, 0 ≤ v ∧ (limbs v).length ≤ 32 ∧ t.text = textV 456 v := by
      intro t ht
      rcases List.mem_append.1 ht with ht | ht
      · exact h t ht
      · rw [List.mem_singleton.1 ht]; exact key
    split at hs
    · cases hs; exact hout
    · exact scanF_num f _ _ l e p hout hto.1 hs
theorem scan_num {s : List UInt8} {ts e p} (h : scan s = (some ts, e, p)) : ∀ t ∈ ts, t.kind = 2 → ∃ v : Int, 0 ≤ v ∧ (limbs v).length ≤ 32 ∧ t.text = textV 456 v := by
  unfold scan at h
  split at h
  · cases h
  rename_i hl
  have hok : Sc.ok ⟨s, start, 0, emptyPl⟩ := ⟨by show s.length ≤ 4096; omega, by show Pl.small start s.length; unfold Pl.small start; simp only []; omega⟩
  exact scanF_num _ _ _ _ _ _ (fun t ht => by cases ht) hok h

/-- What holds of all that is made in reading. -/
def QOk (Q : Nd → Prop) : Rs → Prop
  | .ok x _ => Q x
  | .bad _ _ _ => True
def Md.q (Q : Nd → Prop) : Md → Prop
  | .lp x => Q x
  | .ls x => Q x
  | _ => True
theorem rd_all {vs : List (List UInt8)} {ts : List Tok} (Q : Nd → Prop) (hnum : ∀ t ∈ ts, t.kind = 2 → NumTx t.text) (qn : ∀ t ∈ ts, t.kind = 2 → Q (.num (numV t.text))) (qv : ∀ w, 0 ≤ varF vs w vs.length 0 → isWord w = false → Q (.name (varF vs w vs.length 0) w))
    (qm : ∀ x, Q x → Q (.minus x)) (qt : ∀ op x y, (op = 43 ∨ op = 45 ∨ op = 42 ∨ op = 47 ∨ op = 37) → Q x → Q y → Q (.two op x y)) :
    ∀ n m (r : Rd), r.ok → r.ts = ts → r.vs = vs → m.fine vs.length → m.q Q → QOk Q (rd n m r) := by
  intro n
  induction n with
  | zero => intro m r _ _ _ _ _; trivial
  | succ n ih =>
    intro m r h hts hvs hf hm
    have kn := Kept.next h
    have rk := fun (md : Md) (r2 : Rd) (h2 : r2.ok) (e1 : r2.ts = ts) (e2 : r2.vs = vs) (hf2 : md.fine vs.length) => rd_ok n md r2 h2 (by rw [e1]; exact hnum) (by rw [e2]; exact hf2)
    have bnd : ∀ (md : Md) (r2 : Rd) (f : Nd → Rd → Rs), r2.ok → r2.ts = ts → r2.vs = vs → md.fine vs.length → md.q Q → (∀ x r3, Kept r2 r3 → x.fine vs.length → Q x → QOk Q (f x r3)) → QOk Q ((rd n md r2).bind f) := by
      intro md r2 f h2 e1 e2 hf2 hq2 g
      have a := ih md r2 h2 e1 e2 hf2 hq2
      have b := rk md r2 h2 e1 e2 hf2
      cases hb : rd n md r2 with
      | bad e p r3 => trivial
      | ok x r3 =>
        rw [hb] at a b
        exact g x r3 b.1 (by rw [← e2]; exact b.2.1) a
    have two : ∀ (op : Int) (x : Nd) (md : Md) (m2 : Nd → Md), (op = 43 ∨ op = 45 ∨ op = 42 ∨ op = 47 ∨ op = 37) → md.fine vs.length → md.q Q → x.fine vs.length → Q x → (∀ y, (∀ k, y.fine k → (m2 y).fine k) ∧ (Q y → (m2 y).q Q)) →
        QOk Q ((rd n md r.next).bind fun y r => rd n (m2 (.two op x y)) r) := by
      intro op x md m2 hop hf2 hq2 hx hqx h2
      refine bnd md r.next _ kn.ok (kn.ts.trans hts) (kn.vs.trans hvs) hf2 hq2 fun y r3 k3 fy qy => ?_
      exact ih _ r3 k3.ok (k3.ts.trans (kn.ts.trans hts)) (k3.vs.trans (kn.vs.trans hvs)) ((h2 _).1 _ ⟨hop, hx, fy⟩) ((h2 _).2 (qt op x y hop hqx qy))
    have seq : ∀ (md : Md) (m2 : Nd → Md), md.fine vs.length → md.q Q → (∀ y, (∀ k, y.fine k → (m2 y).fine k) ∧ (Q y → (m2 y).q Q)) → QOk Q ((rd n md r).bind fun y r => rd n (m2 y) r) := by
      intro md m2 hf2 hq2 h2
      refine bnd md r _ h hts hvs hf2 hq2 fun y r3 k3 fy qy => ?_
      exact ih _ r3 k3.ok (k3.ts.trans hts) (k3.vs.trans hvs) ((h2 _).1 _ fy) ((h2 _).2 qy)
    cases m with
    | p => unfold rd; exact seq .u .lp trivial trivial (fun _ => ⟨fun _ h => h, fun h => h⟩)
    | s => unfold rd; exact seq .p .ls trivial trivial (fun _ => ⟨fun _ h => h, fun h => h⟩)
    | lp x =>
      unfold rd
      split
      · exact two 42 x .u .lp (by omega) trivial trivial hf hm (fun _ => ⟨fun _ h => h, fun h => h⟩)
      split
      · exact two 47 x .u .lp (by omega) trivial trivial hf hm (fun _ => ⟨fun _ h => h, fun h => h⟩)
      split
      · exact two 37 x .u .lp (by omega) trivial trivial hf hm (fun _ => ⟨fun _ h => h, fun h => h⟩)
      exact hm
    | ls x =>
      unfold rd
      split
      · exact two 43 x .p .ls (by omega) trivial trivial hf hm (fun _ => ⟨fun _ h => h, fun h => h⟩)
      split
      · exact two 45 x .p .ls (by omega) trivial trivial hf hm (fun _ => ⟨fun _ h => h, fun h => h⟩)
      exact hm
    | u =>
      unfold rd
      split
      · exact bnd .u r.next _ kn.ok (kn.ts.trans hts) (kn.vs.trans hvs) trivial trivial fun y r3 _ _ qy => qm y qy
      split
      · rename_i c
        exact qn _ (hts ▸ tok_in h) c
      split
      · rename_i c
        split
        · rename_i c2
          unfold Rd.isName at c
          simp only [Bool.and_eq_true, Bool.not_eq_true'] at c
          unfold Rd.var at c2 ⊢
          rw [hvs] at c2 ⊢
          exact qv _ c2 c.2
        · trivial
      split
      · trivial
      · rename_i hin
        have hop : r.op < 16 := by
          unfold Rd.into at hin
          split at hin
          · split at hin
            · assumption
            · cases hin
          · cases hin
        have ho := Rd.opened_ok h hop
        have kn2 := Kept.next ho
        refine bnd .s r.opened.next _ kn2.ok (kn2.ts.trans hts) (kn2.vs.trans hvs) trivial trivial fun y r3 _ _ qy => ?_
        split
        · exact qy
        · trivial
theorem expr_pr {s vs x e p} (hb : ∀ k, (tx vs k).length ≤ 1100000) (h : exprV s vs = (some x, e, p)) : names vs = 0 ∧ x.pr vs := by
  unfold exprV at h
  split at h
  · cases h
  rename_i hn
  have hn : names vs = 0 := Classical.not_not.1 hn
  refine ⟨hn, ?_⟩
  split at h
  · cases h
  rename_i ts e' p' hs
  obtain ⟨_, ht⟩ := scan_some hs
  have hq := rd_all (Nd.pr vs) ht.num (fun t hm hk => by
      obtain ⟨v, h0, h32, hv⟩ := scan_num hs t hm hk
      rw [hv, (numV_text h0 (lt_tens h0 h32)).2]
      exact ⟨h0, h32⟩) (fun w hw hd => ⟨var_name hn hw, rfl, hw, hd⟩) (fun _ h => h) (fun _ _ _ ho hx hy => ⟨ho, hx, hy⟩) (rd0 ts vs).fuel .s (rd0 ts vs) (ht.rd vs (names_all hn).1 hb) rfl rfl trivial trivial
  split at h
  · cases h
  rename_i y r' he
  rw [he] at hq
  split at h
  · cases h; exact hq
  · cases h

/-- How many brackets are open, and were at most. -/
def dF : Int × Int → List UInt8 → Int × Int
  | p, [] => p
  | (o, m), c :: r => dF (if c = 40 then o + 1 else if c = 41 then o - 1 else o, max m (if c = 40 then o + 1 else if c = 41 then o - 1 else o)) r
theorem dF_app : ∀ (a b : List UInt8) (p : Int × Int), dF p (a ++ b) = dF (dF p a) b
  | [], _, _ => rfl
  | c :: a, b, (o, m) => dF_app a b _
theorem dF_plain : ∀ (w : List UInt8) (o m : Int), (∀ c ∈ w, c ≠ 40 ∧ c ≠ 41) → w ≠ [] → dF (o, m) w = (o, max m o)
  | [], _, _, _, h => absurd rfl h
  | c :: w, o, m, h, _ => by
    have hc := h c (List.mem_cons_self ..)
    unfold dF
    rw [if_neg hc.1, if_neg hc.2]
    cases w with
    | nil => rfl
    | cons b w =>
      rw [dF_plain (b :: w) o _ (fun d hd => h d (List.mem_cons_of_mem _ hd)) (by simp)]
      congr 1
      omega
theorem dec_bytes {w : List UInt8} {r n : Nat} (h : w ≠ []) (e : dec w 0 = (r, n)) (hb : ¬ (r = 65533 ∧ n = 1)) (h1 : 128 ≤ (w.getD 0 0).toNat) : ∀ k, k < n → 128 ≤ (w.getD k 0).toNat := by
  have hl : 0 < w.length := List.length_pos_iff.2 h
  have g : ∀ k, (ByteArray.mk w.toArray).get! (0 + k) = w.getD k 0 := by
    intro k
    simp only [ByteArray.get!, Nat.zero_add]
    by_cases hk : k < w.length
    · simp [hk]
    · simp [List.getD_eq_getElem?_getD, List.getElem?_eq_none (Nat.le_of_not_lt hk), Array.getElem!_eq_getD, Array.getD, hk]
      rfl
  unfold dec Utf8.decode at e
  extract_lets a1 c1 b1 x1 x2 x3 at e
  have ha : ∀ k, a1 k = (w.getD k 0).toNat := fun k => congrArg UInt8.toNat (g k)
  have hc : ∀ k, c1 k = true → 128 ≤ (w.getD k 0).toNat := by
    intro k hk
    simp only [c1, Bool.and_eq_true, decide_eq_true_eq, beq_iff_eq] at hk
    rw [ha k] at hk
    omega
  have hb1 : b1 = (w.getD 0 0).toNat := ha 0
  clear_value x1 x2 x3
  clear_value c1 b1
  rw [if_neg (by omega)] at e
  have fin1 : ∀ {q : Nat}, (q, 1) = (r, n) → q = Utf8.runeError → ∀ k, k < n → 128 ≤ (w.getD k 0).toNat := fun hq hv => by
    cases hq
    exact absurd ⟨hv, rfl⟩ hb
  split at e
  · rename_i k1
    simp only [Bool.and_eq_true] at k1
    split at e
    · cases e
      intro k hk
      rcases (show k = 0 ∨ k = 1 by omega) with rfl | rfl
      · exact h1
      · exact hc 1 k1.2
    · exact fin1 e rfl
  split at e
  · rename_i k1
    simp only [Bool.and_eq_true] at k1
    split at e
    · cases e
      intro k hk
      rcases (show k = 0 ∨ k = 1 ∨ k = 2 by omega) with rfl | rfl | rfl
      · exact h1
      · exact hc 1 k1.1.2
      · exact hc 2 k1.2
    · exact fin1 e rfl
  split at e
  · rename_i k1
    simp only [Bool.and_eq_true] at k1
    split at e
    · cases e
      intro k hk
      rcases (show k = 0 ∨ k = 1 ∨ k = 2 ∨ k = 3 by omega) with rfl | rfl | rfl | rfl
      · exact h1
      · exact hc 1 k1.1.1.2
      · exact hc 2 k1.1.2
      · exact hc 3 k1.2
    · exact fin1 e rfl
  · exact fin1 e rfl
theorem runs_plain : ∀ (f : Nat) (w : List UInt8), runs inName f w = true → ∀ c ∈ w, c ≠ 40 ∧ c ≠ 41
  | _, [], _, c, h => by cases h
  | 0, b :: w, h, _, _ => by simp [runs] at h
  | f + 1, b :: w, h, c, hm => by
    unfold runs at h
    simp only [Bool.and_eq_true, Bool.not_eq_true'] at h
    have ih := runs_plain f _ h.2
    have hl := dec_ok (b :: w) (by simp)
    by_cases hb : b.toNat < 128
    · rw [dec_ascii hb] at h ih
      rcases List.mem_cons.1 hm with e | e
      · subst e
        refine ⟨fun e => ?_, fun e => ?_⟩ <;> subst e <;> exact absurd h.1.2 (by decide)
      · exact ih c (by simpa using e)
    · have hne : ¬ ((dec (b :: w) 0).1 = 65533 ∧ (dec (b :: w) 0).2 = 1) := by
        intro hc
        have := h.1.1
        unfold broken at this
        rw [decGo_eq (by simp)] at this
        simp [hc.1, hc.2] at this
      have hby := dec_bytes (w := b :: w) (by simp) (show dec (b :: w) 0 = ((dec (b :: w) 0).1, (dec (b :: w) 0).2) from rfl) hne (by simpa using hb)
      rw [← List.take_append_drop (dec (b :: w) 0).2 (b :: w)] at hm
      rcases List.mem_append.1 hm with e | e
      · obtain ⟨k, hk, rfl⟩ := List.getElem_of_mem e
        rw [List.length_take] at hk
        have := hby k (by omega)
        have e2 : ((b :: w).take (dec (b :: w) 0).2)[k] = (b :: w).getD k 0 := by
          rw [List.getElem_take, List.getD_eq_getElem?_getD, List.getElem?_eq_getElem (by omega)]
          rfl
        rw [e2]
        refine ⟨fun e => ?_, fun e => ?_⟩ <;> rw [e] at this <;> exact absurd this (by decide)
      · exact ih c e
theorem wr_deep {vs : List (List UInt8)} : ∀ x : Nd, x.pr vs → ∀ o m : Int, dF (o, m) (wr x) = (o, max m (o + dp x)) := by
  have brk : ∀ (b : Bool) (w : List UInt8) (d : Nat), (∀ o m : Int, dF (o, m) w = (o, max m (o + d))) → ∀ o m : Int, dF (o, m) (wrB b w) = (o, max m (o + dpB b d)) := by
    intro b w d h o m
    cases b with
    | false => exact h o m
    | true =>
      show dF (o, m) (40 :: (w ++ [41])) = (o, max m (o + ((d + 1 : Nat) : Int)))
      unfold dF
      rw [if_pos rfl, dF_app, h]
      show (o + 1 - 1, max (max (max m (o + 1)) (o + 1 + d)) (o + 1 - 1)) = _
      rw [Int.add_sub_cancel]
      congr 1
      omega
  intro x
  induction x with
  | num k =>
    intro h o m
    have hne := (numV_text h.1 (lt_tens h.1 h.2)).1
    have := dF_plain (textV 456 k) o m (fun c hc => by
      have := textV_digs c hc
      refine ⟨fun e => ?_, fun e => ?_⟩ <;> rw [e] at this <;> exact absurd this (by decide)) hne
    simpa [wr, dp] using this
  | name v s =>
    intro h o m
    obtain ⟨f, hf⟩ := h.1.r
    have := dF_plain s o m (runs_plain f s hf) h.1.ne
    simpa [wr, dp] using this
  | minus x ih =>
    intro h o m
    show dF (o, m) (45 :: wrB (!x.single) (wr x)) = _
    unfold dF
    rw [if_neg (by decide), if_neg (by decide), brk _ _ _ (ih h)]
    congr 1
    show _ = max m (o + dpB (!x.single) (dp x))
    omega
  | two op x y ih1 ih2 =>
    intro h o m
    have ho : opc op ≠ 40 ∧ opc op ≠ 41 := by
      rcases h.1 with rfl | rfl | rfl | rfl | rfl <;> decide
    show dF (o, m) (wrB (!sumOp op && x.adds) (wr x) ++ 32 :: opc op :: 32 :: wrB (sumOp op && y.adds || !sumOp op && !y.single) (wr y)) = _
    rw [dF_app, brk _ _ _ (ih1 h.2.1)]
    unfold dF
    rw [if_neg (by decide), if_neg (by decide)]
    unfold dF
    rw [if_neg ho.1, if_neg ho.2]
    unfold dF
    rw [if_neg (by decide), if_neg (by decide), brk _ _ _ (ih2 h.2.2)]
    congr 1
    show _ = max m (o + ((max (dpB (!sumOp op && x.adds) (dp x)) (dpB (sumOp op && y.adds || !sumOp op && !y.single) (dp y)) : Nat) : Int))
    omega
end Go.Rf

/- How many parts an expression that was read has; how long it is as it is written. -/
namespace Go.Rf

def Nd.sz : Nd → Nat
  | .num _ => 1
  | .name _ _ => 1
  | .minus x => x.sz + 1
  | .two _ x y => x.sz + y.sz + 1
/-- What was read is like this: its numbers' limbs by the tokens that it took. -/
def RdSz (r : Rd) (a : Nat) : Rs → Prop
  | .ok x r' => Kept r r' ∧ x.fine r.vs.length ∧ x.sz + r.i ≤ a + r'.i
  | .bad _ _ _ => True
theorem RdSz.bind {r r0 : Rd} {a c : Nat} {b : Rs} {f : Nd → Rd → Rs} (h : RdSz r0 a b) (g : ∀ x r', Kept r0 r' → x.fine r0.vs.length → x.sz + r0.i ≤ a + r'.i → RdSz r c (f x r')) : RdSz r c (b.bind f) := by
  cases b with
  | bad e p r' => trivial
  | ok x r' => exact g x r' h.1 h.2.1 h.2.2
theorem RdSz.from {r r' : Rd} {a c : Nat} {b : Rs} (h : RdSz r' c b) (k : Kept r r') (hw : c + r.i ≤ a + r'.i) : RdSz r a b := by
  cases b with
  | bad e p r2 => trivial
  | ok x r2 =>
    obtain ⟨h1, h2, h3⟩ := h
    exact ⟨k.trans h1, by rw [← k.vs]; exact h2, by omega⟩
def Md.sz : Md → Nat
  | .lp x => x.sz
  | .ls x => x.sz
  | _ => 0
theorem rd_sz : ∀ n m r, Rd.ok r → (∀ t ∈ r.ts, t.kind = 2 → NumTx t.text) → m.fine r.vs.length → RdSz r m.sz (rd n m r) := by
  intro n
  induction n with
  | zero => intro m r _ _ _; trivial
  | succ n ih =>
    intro m r h hnum hm
    have hno := r.next_op
    have kn := Kept.next h
    have two : ∀ (op : Int) (x : Nd) (md : Md) (m2 : Nd → Md), (op = 43 ∨ op = 45 ∨ op = 42 ∨ op = 47 ∨ op = 37) → r.tok.kind ≠ 0 → md.sz = 0 → md.fine r.vs.length → x.fine r.vs.length → (∀ y, (m2 y).sz = y.sz ∧ ∀ k, y.fine k → (m2 y).fine k) →
        RdSz r x.sz ((rd n md r.next).bind fun y r => rd n (m2 (.two op x y)) r) := by
      intro op x md m2 hop hk h0 hf hx h2
      have hi := next_i hk
      have a := ih md r.next (Rd.next_ok h) (by rw [hno.2.1]; exact hnum) (by rw [hno.2.2]; exact hf)
      rw [h0] at a
      refine a.bind fun y r' k1 fy wy => ?_
      have k2 := kn.trans k1
      have b := ih (m2 (.two op x y)) r' k1.ok (by rw [k2.ts]; exact hnum) ((h2 _).2 _ (by rw [k2.vs]; exact ⟨hop, hx, by rw [← hno.2.2]; exact fy⟩))
      rw [(h2 _).1] at b
      exact b.from k2 (by show x.sz + y.sz + 1 + _ ≤ _; omega)
    have seq : ∀ (md : Md) (m2 : Nd → Md), md.sz = 0 → md.fine r.vs.length → (∀ y, (m2 y).sz = y.sz ∧ ∀ k, y.fine k → (m2 y).fine k) → RdSz r 0 ((rd n md r).bind fun y r => rd n (m2 y) r) := by
      intro md m2 h0 hf h2
      have a := ih md r h hnum hf
      rw [h0] at a
      refine a.bind fun y r' k1 fy wy => ?_
      have b := ih (m2 y) r' k1.ok (by rw [k1.ts]; exact hnum) ((h2 _).2 _ (by rw [k1.vs]; exact fy))
      rw [(h2 _).1] at b
      exact b.from k1 (by omega)
    have self : ∀ x : Nd, x.fine r.vs.length → RdSz r x.sz (.ok x r) := fun x hx => ⟨Kept.refl h, hx, Nat.le_refl _⟩
    cases m with
    | p => unfold rd; exact seq .u .lp rfl trivial (fun _ => ⟨rfl, fun _ h => h⟩)
    | s => unfold rd; exact seq .p .ls rfl trivial (fun _ => ⟨rfl, fun _ h => h⟩)
    | lp x =>
      unfold rd
      split
      · rename_i c; exact two 42 x .u .lp (by omega) (isT_kind c) rfl trivial hm (fun _ => ⟨rfl, fun _ h => h⟩)
      split
      · rename_i c; exact two 47 x .u .lp (by omega) (isT_kind c) rfl trivial hm (fun _ => ⟨rfl, fun _ h => h⟩)
      split
      · rename_i c; exact two 37 x .u .lp (by omega) (isT_kind c) rfl trivial hm (fun _ => ⟨rfl, fun _ h => h⟩)
      exact self x hm
    | ls x =>
      unfold rd
      split
      · rename_i c; exact two 43 x .p .ls (by omega) (isT_kind c) rfl trivial hm (fun _ => ⟨rfl, fun _ h => h⟩)
      split
      · rename_i c; exact two 45 x .p .ls (by omega) (isT_kind c) rfl trivial hm (fun _ => ⟨rfl, fun _ h => h⟩)
      exact self x hm
    | u =>
      unfold rd
      split
      · rename_i c
        have hi := next_i (isT_kind c)
        have a := ih .u r.next (Rd.next_ok h) (by rw [hno.2.1]; exact hnum) trivial
        refine a.bind fun y r' k1 fy wy => ?_
        refine ⟨kn.trans k1, by rw [← hno.2.2]; exact fy, ?_⟩
        show y.sz + 1 + _ ≤ _
        have : Md.sz .u = 0 := rfl
        omega
      split
      · rename_i c
        have hi := next_i (r := r) (by omega)
        refine ⟨kn, trivial, ?_⟩
        show 1 + _ ≤ 0 + _
        omega
      split
      · rename_i c
        have hk : r.tok.kind = 1 := by
          unfold Rd.isName at c
          simp only [Bool.and_eq_true, decide_eq_true_eq] at c
          exact c.1
        have hi := next_i (r := r) (by omega)
        split
        · rename_i c2
          have hv := varF_le r.vs r.tok.text r.vs.length 0 (by omega)
          refine ⟨kn, ⟨c2, by unfold Rd.var; omega, tok_mem h⟩, ?_⟩
          show 1 + _ ≤ 0 + _
          omega
        · trivial
      split
      · trivial
      · rename_i hin
        have hop : r.op < 16 := by
          unfold Rd.into at hin
          split at hin
          · split at hin
            · assumption
            · cases hin
          · cases hin
        have ho := Rd.opened_ok h hop
        have kn2 := Kept.next ho
        have hno2 := r.opened.next_op
        have a := ih .s r.opened.next (Rd.next_ok ho) (by rw [hno2.2.1]; exact hnum) trivial
        refine a.bind fun y r' k1 fy wy => ?_
        have k3 := kn2.trans k1
        split
        · have kn4 := Kept.next k3.ok
          have hpos : 0 < r'.next.op := by
            rw [kn4.op, k3.op]
            have := h.op
            show 0 < r.op + 1
            omega
          have hi4 := kn4.i
          have hi5 : r.i ≤ r.opened.next.i := kn2.i
          have hi6 := k1.i
          refine ⟨⟨Rd.closed_ok kn4.ok hpos, ?_, ?_, ?_, ?_⟩, ?_, ?_⟩
          · exact kn4.ts.trans k3.ts
          · exact kn4.vs.trans k3.vs
          · show r'.next.op - 1 = r.op
            rw [kn4.op, k3.op]
            show r.op + 1 - 1 = r.op
            omega
          · show r.i ≤ r'.next.i
            omega
          · have : r.opened.next.vs = r.vs := hno2.2.2
            rw [← this]; exact fy
          · have : Md.sz .s = 0 := rfl
            show y.sz + _ ≤ 0 + r'.next.i
            omega
        · trivial

theorem expr_sz {s vs x e p} (hb : ∀ k, (tx vs k).length ≤ 1100000) (h : exprV s vs = (some x, e, p)) : x.sz ≤ 5000 := by
  unfold exprV at h
  split at h
  · cases h
  rename_i hn
  have hn : names vs = 0 := Classical.not_not.1 hn
  split at h
  · cases h
  rename_i ts e' p' hs
  obtain ⟨_, ht⟩ := scan_some hs
  have hr := rd_sz (rd0 ts vs).fuel .s (rd0 ts vs) (ht.rd vs (names_all hn).1 hb) ht.num trivial
  split at h
  · cases h
  rename_i y r' he
  rw [he] at hr
  split at h
  · cases h
    obtain ⟨k, f, w⟩ := hr
    have hi := k.ok.i
    have hl := k.ok.n
    have : Md.sz .s = 0 := rfl
    omega
  · cases h
theorem textV_len {v : Int} : (textV 456 v).length ≤ 4104 := by
  unfold textV
  split
  · simp
  · rw [List.length_reverse]
    exact Nat.le_trans (backF_len 456 _) (by omega)
theorem wr_len {vs : List (List UInt8)} : ∀ x : Nd, x.pr vs → (wr x).length ≤ 4110 * x.sz := by
  have brk : ∀ (b : Bool) (w : List UInt8), (wrB b w).length ≤ w.length + 2 := by
    intro b w
    cases b <;> simp [wrB]
  intro x
  induction x with
  | num k => intro _; have := textV_len (v := k); show (textV 456 k).length ≤ 4110 * 1; omega
  | name v s => intro h; have := h.1.l; show s.length ≤ 4110 * 1; omega
  | minus x ih =>
    intro h
    have := ih h
    have := brk (!x.single) (wr x)
    show (45 :: wrB (!x.single) (wr x)).length ≤ 4110 * (x.sz + 1)
    rw [List.length_cons]
    omega
  | two op x y ih1 ih2 =>
    intro h
    have a1 := ih1 h.2.1
    have a2 := ih2 h.2.2
    have b1 := brk (!sumOp op && x.adds) (wr x)
    have b2 := brk (sumOp op && y.adds || !sumOp op && !y.single) (wr y)
    show (wrB (!sumOp op && x.adds) (wr x) ++ 32 :: opc op :: 32 :: wrB (sumOp op && y.adds || !sumOp op && !y.single) (wr y)).length ≤ 4110 * (x.sz + y.sz + 1)
    rw [List.length_append, List.length_cons, List.length_cons, List.length_cons]
    omega
end Go.Rf

/- strings.Builder; lang.Write. -/
namespace Go.Rf

/-- A builder that nothing was written to, and one with a text. -/
def bld0 : List Obj := [.arr [.agg [.d .nilp, .ref (.b 1) ⟨1, 1000005⟩ 0 0]] ⟨2, 1000120⟩, .arr (B8 []) ⟨1, 1000005⟩]
def bld (s : List UInt8) : List Obj := [.arr [.agg [.ptr (.b 0) 0 0, .ref (.b 1) ⟨1, 1000005⟩ 0 s.length]] ⟨2, 1000120⟩, .arr (B8 s) ⟨1, 1000005⟩]
/-- What a call that writes leaves: another buffer. -/
def bldR (s : List UInt8) : List Obj := [.arr [.agg [.ptr (.b 0) 0 0, .ref (.b 2) ⟨1, 1000005⟩ 0 s.length]] ⟨2, 1000120⟩, .dead, .arr (B8 s) ⟨1, 1000005⟩]
theorem cc0 : callE T0 X0 f_strings_Builder_copyCheck [.ptr (.b 0) 0 0] bld0 = some (.ret [] (bld [])) := callE_of (n := 1) rfl
theorem cc1 (s : List UInt8) : callE T0 X0 f_strings_Builder_copyCheck [.ptr (.b 0) 0 0] (bld s) = some (.ret [] (bld s)) := callE_of (n := 1) rfl
@[simp] theorem B8_app (a b : List UInt8) : B8 a ++ B8 b = B8 (a ++ b) := by simp [B8]
@[simp] theorem B8_map (s : List UInt8) : (s.map fun b => V.d (D.int .u8 b.toNat)) = B8 s := rfl
theorem fitK {n : Nat} (h : n ≤ 100000000) : (n * 1000005 ≤ lots) = True := eq_true (by unfold lots; omega)
attribute [simp] fitK
@[simp] theorem fitK1 : (1000005 ≤ lots) = True := eq_true (by unfold lots; omega)
theorem ws0 (t : List UInt8) (h : t.length ≤ 100000000) : callE T0 X0 f_strings_Builder_WriteString [.ptr (.b 0) 0 0, .d (.str t)] bld0 = some (.ret [.d (.int .i64 t.length), .d .nili] (bldR t)) := by
  have s1 := cc0
  rw [callX_fun (af := a_strings_Builder_WriteString) rfl rfl rfl]
  simp only [bld0, bld, bldR, List.length_nil, B8_nil] at s1 ⊢
  simp -implicitDefEqProofs (disch := omega) [a_strings_Builder_WriteString, s1]
  done
theorem ws1 (s t : List UInt8) (h : s.length + t.length ≤ 100000000) : callE T0 X0 f_strings_Builder_WriteString [.ptr (.b 0) 0 0, .d (.str t)] (bld s) = some (.ret [.d (.int .i64 t.length), .d .nili] (bldR (s ++ t))) := by
  have s1 := cc1 s
  rw [callX_fun (af := a_strings_Builder_WriteString) rfl rfl rfl]
  have ht : s.take s.length = s := List.take_length
  simp only [bld, bldR, List.length_append] at s1 ⊢
  simp -implicitDefEqProofs (disch := omega) [a_strings_Builder_WriteString, s1, ht]
  done
theorem wb0 (c : UInt8) : callE T0 X0 f_strings_Builder_WriteByte [.ptr (.b 0) 0 0, .d (.int .u8 c.toNat)] bld0 = some (.ret [.d .nili] (bldR [c])) := by
  have s1 := cc0
  rw [callX_fun (af := a_strings_Builder_WriteByte) rfl rfl rfl]
  have e : B8 [c] = [V.d (D.int .u8 c.toNat)] := rfl
  simp only [bld0, bld, bldR, List.length_nil, B8_nil, e] at s1 ⊢
  simp -implicitDefEqProofs (disch := omega) [a_strings_Builder_WriteByte, s1]
  done
theorem wb1 (s : List UInt8) (c : UInt8) (h : s.length + 1 ≤ 100000000) : callE T0 X0 f_strings_Builder_WriteByte [.ptr (.b 0) 0 0, .d (.int .u8 c.toNat)] (bld s) = some (.ret [.d .nili] (bldR (s ++ [c]))) := by
  have s1 := cc1 s
  rw [callX_fun (af := a_strings_Builder_WriteByte) rfl rfl rfl]
  have ht : s.take s.length = s := List.take_length
  simp only [bld, bldR, List.length_append] at s1 ⊢
  simp -implicitDefEqProofs (disch := omega) [a_strings_Builder_WriteByte, s1, ht]
  done
end Go.Rf

/- lang.write, part, Write, Expr. -/
namespace Go.Rf

theorem wtext_spec {v : Int} (h0 : 0 ≤ v) (h : (limbs v).length ≤ 32) : callE T0 X0 f_whole_Text [.d (Wd v)] [] = some (.ret [.d (.str (textV 456 v))] []) := by
  have e : ((v.natAbs : Nat) : Int) = v := by omega
  have s1 := text_spec (limbs_good v) 456 (by omega) (by omega) (by rw [limbs_nv h0]; exact lt_tens h0 h)
  rw [limbs_nv h0] at s1
  have s2 := wsign_W (m := v) (by unfold nl; rw [e]; omega)
  have hs : 0 ≤ v.sign := by
    rcases Int.lt_or_eq_of_le h0 with h | h
    · rw [Int.sign_eq_one_of_pos h]; decide
    · rw [← h]; decide
  rw [callX_fun (af := a_whole_Text) rfl rfl rfl]
  have hd : decide (v < 0) = false := decide_eq_false (by omega)
  simp only [Wd, e, hd] at s2 ⊢
  simp -implicitDefEqProofs (disch := omega) [a_whole_Text, s1, s2]
  done
theorem lsum_spec (op : Int) : callE T0 X0 f_lang_sum [.d (.int .u8 op)] [] = some (.ret [.d (.bool (sumOp op))] []) := by
  rw [callX_fun (af := a_lang_sum) rfl rfl rfl]
  unfold sumOp
  by_cases h : op = 43
  · subst h
    simp -implicitDefEqProofs (disch := omega) [a_lang_sum]
  · by_cases h2 : op = 45
    · subst h2
      simp -implicitDefEqProofs (disch := omega) [a_lang_sum]
    · simp -implicitDefEqProofs (disch := omega) [a_lang_sum, h, h2]
theorem single_spec (x : Nd) : callE T0 X0 f_lang_single [.d x.d] [] = some (.ret [.d (.bool x.single)] []) := by
  rw [callX_fun (af := a_lang_single) rfl rfl rfl]
  cases x <;> simp only [Nd.d, Nd.single] <;> simp -implicitDefEqProofs (disch := omega) [a_lang_single]
theorem adds_spec (x : Nd) : callE T0 X0 f_lang_adds [.d x.d] [] = some (.ret [.d (.bool x.adds)] []) := by
  rw [callX_fun (af := a_lang_adds) rfl rfl rfl]
  cases x with
  | two op x y =>
    have s1 := lsum_spec op
    simp only [Nd.d, Nd.adds]
    simp -implicitDefEqProofs (disch := omega) [a_lang_adds, s1]
    done
  | num k => simp only [Nd.d, Nd.adds]; simp -implicitDefEqProofs (disch := omega) [a_lang_adds]
  | name v s => simp only [Nd.d, Nd.adds]; simp -implicitDefEqProofs (disch := omega) [a_lang_adds]
  | minus x => simp only [Nd.d, Nd.adds]; simp -implicitDefEqProofs (disch := omega) [a_lang_adds]

/-- What writing w comes to. -/
structure Wrote (f : FuncId) (a : List V) (w : List UInt8) : Prop where
  z : w.length ≤ 100000000 → callE T0 X0 f (.ptr (.b 0) 0 0 :: a) bld0 = some (.ret [] (bldR w))
  s : ∀ s : List UInt8, s.length + w.length ≤ 100000000 → callE T0 X0 f (.ptr (.b 0) 0 0 :: a) (bld s) = some (.ret [] (bldR (s ++ w)))
theorem part_ok {x : Nd} {w : List UInt8} (h : Wrote f_lang_write [.d x.d] w) (b : Bool) : Wrote f_lang_part [.d x.d, .d (.bool b)] (wrB b w) := by
  refine ⟨fun hl => ?_, fun s hl => ?_⟩
  · rw [callX_fun (af := a_lang_part) rfl rfl rfl]
    cases b with
    | false =>
      have s1 := h.z hl
      simp only [wrB, bld0, bld, bldR, B8_nil, Bool.false_eq_true, if_false] at s1 ⊢
      simp -implicitDefEqProofs (disch := omega) [a_lang_part, s1]
      done
    | true =>
      have hl2 : w.length + 2 ≤ 100000000 := by simpa [wrB] using hl
      have s1 := wb0 40
      have s2 := h.s [40] (by simp; omega)
      have s3 := wb1 ([40] ++ w) 41 (by simp; omega)
      have e : [40] ++ w ++ [41] = wrB true w := by simp [wrB]
      rw [e] at s3
      simp only [bld0, bld, bldR, B8_nil] at s1 s2 s3 ⊢
      generalize wrB true w = w2 at *
      generalize ([40] : List UInt8) = w0 at s1 s2 s3
      generalize w0 ++ w = w1 at *
      simp only [show (((40 : UInt8).toNat : Nat) : Int) = 40 from rfl, show (((41 : UInt8).toNat : Nat) : Int) = 41 from rfl] at s1 s3
      simp -implicitDefEqProofs (disch := omega) [a_lang_part, s1, s2, s3]
      done
  · rw [callX_fun (af := a_lang_part) rfl rfl rfl]
    cases b with
    | false =>
      have s1 := h.s s hl
      simp only [wrB, bld, bldR, Bool.false_eq_true, if_false] at s1 ⊢
      simp -implicitDefEqProofs (disch := omega) [a_lang_part, s1]
      done
    | true =>
      have hl2 : s.length + w.length + 2 ≤ 100000000 := by have := hl; simp [wrB] at this; omega
      have s1 := wb1 s 40 (by omega)
      have s2 := h.s (s ++ [40]) (by simp; omega)
      have s3 := wb1 (s ++ [40] ++ w) 41 (by simp; omega)
      have e : s ++ [40] ++ w ++ [41] = s ++ wrB true w := by simp [wrB]
      rw [e] at s3
      simp only [bld, bldR] at s1 s2 s3 ⊢
      generalize s ++ wrB true w = w3 at *
      generalize (s ++ [40] ++ w : List UInt8) = w2 at *
      generalize (s ++ [40] : List UInt8) = w1 at *
      simp only [show (((40 : UInt8).toNat : Nat) : Int) = 40 from rfl, show (((41 : UInt8).toNat : Nat) : Int) = 41 from rfl] at s1 s3
      simp -implicitDefEqProofs (disch := omega) [a_lang_part, s1, s2, s3]
      done
end Go.Rf

/- lang.write, Write, Expr: the walks. -/
namespace Go.Rf

theorem write_num {v : Int} (h0 : 0 ≤ v) (h : (limbs v).length ≤ 32) : Wrote f_lang_write [.d (Nd.num v).d] (textV 456 v) := by
  have s1 := wtext_spec h0 h
  have hn : nl v < 1099511627776 := by
    have e : ((v.natAbs : Nat) : Int) = v := by omega
    unfold nl; rw [e]; omega
  have hl := textV_len (v := v)
  refine ⟨fun hl2 => ?_, fun s hl2 => ?_⟩
  · have s2 := ws0 (textV 456 v) (by omega)
    rw [callX_fun (af := a_lang_write) rfl rfl rfl]
    simp only [Nd.d, bld0, bld, bldR, B8_nil] at s2 ⊢
    generalize textV 456 v = w at *
    simp -implicitDefEqProofs (disch := omega) [a_lang_write, s1, s2]
    done
  · have s2 := ws1 s (textV 456 v) (by omega)
    rw [callX_fun (af := a_lang_write) rfl rfl rfl]
    simp only [Nd.d, bld, bldR] at s2 ⊢
    generalize textV 456 v = w at *
    generalize s ++ w = w2 at *
    simp -implicitDefEqProofs (disch := omega) [a_lang_write, s1, s2]
    done
theorem write_name {v : Int} {t : List UInt8} (ht : t.length ≤ 4096) : Wrote f_lang_write [.d (Nd.name v t).d] t := by
  refine ⟨fun hl2 => ?_, fun s hl2 => ?_⟩
  · have s2 := ws0 t (by omega)
    rw [callX_fun (af := a_lang_write) rfl rfl rfl]
    simp only [Nd.d, bld0, bld, bldR, B8_nil] at s2 ⊢
    simp -implicitDefEqProofs (disch := omega) [a_lang_write, s2]
    done
  · have s2 := ws1 s t (by omega)
    rw [callX_fun (af := a_lang_write) rfl rfl rfl]
    simp only [Nd.d, bld, bldR] at s2 ⊢
    generalize s ++ t = w2 at *
    simp -implicitDefEqProofs (disch := omega) [a_lang_write, s2]
    done
theorem write_minus {x : Nd} {w : List UInt8} (h : Wrote f_lang_write [.d x.d] w) : Wrote f_lang_write [.d (Nd.minus x).d] (45 :: wrB (!x.single) w) := by
  have p := part_ok h (!x.single)
  have s0 := single_spec x
  generalize wrB (!x.single) w = w1 at *
  refine ⟨fun hl2 => ?_, fun s hl2 => ?_⟩
  · rw [List.length_cons] at hl2
    have s1 := wb0 45
    have s2 := p.s [45] (by simp; omega)
    have e : [45] ++ w1 = 45 :: w1 := rfl
    rw [e] at s2
    rw [callX_fun (af := a_lang_write) rfl rfl rfl]
    simp only [Nd.d, bld0, bld, bldR, B8_nil] at s1 s2 ⊢
    simp only [show (((45 : UInt8).toNat : Nat) : Int) = 45 from rfl] at s1
    generalize ([45] : List UInt8) = w0 at s1 s2
    generalize 45 :: w1 = w2 at *
    simp -implicitDefEqProofs (disch := omega) [a_lang_write, s0, s1, s2]
    done
  · rw [List.length_cons] at hl2
    have s1 := wb1 s 45 (by omega)
    have s2 := p.s (s ++ [45]) (by simp; omega)
    have e : s ++ [45] ++ w1 = s ++ 45 :: w1 := by simp
    rw [e] at s2
    rw [callX_fun (af := a_lang_write) rfl rfl rfl]
    simp only [Nd.d, bld, bldR] at s1 s2 ⊢
    simp only [show (((45 : UInt8).toNat : Nat) : Int) = 45 from rfl] at s1
    generalize s ++ [45] = w0 at s1 s2
    generalize s ++ 45 :: w1 = w2 at *
    simp -implicitDefEqProofs (disch := omega) [a_lang_write, s0, s1, s2]
    done
theorem enc_op {op : Int} (h : op = 43 ∨ op = 45 ∨ op = 42 ∨ op = 47 ∨ op = 37) : enc op = [opc op] ∧ 0 ≤ op ∧ op < 128 := by
  rcases h with rfl | rfl | rfl | rfl | rfl <;> decide
theorem two_z {op : Int} {x y : Nd} {so bx sy by_ : Bool} {u1 q r1 r : List UInt8} (o0 : 0 ≤ op) (o1 : op < 128)
    (s0 : callE T0 X0 f_lang_sum [.d (.int .u8 op)] [] = some (.ret [.d (.bool so)] []))
    (s1 : callE T0 X0 f_lang_adds [.d x.d] [] = some (.ret [.d (.bool bx)] []))
    (s2 : callE T0 X0 f_lang_adds [.d y.d] [] = some (.ret [.d (.bool by_)] []))
    (s3 : callE T0 X0 f_lang_single [.d y.d] [] = some (.ret [.d (.bool sy)] []))
    (el : (enc op).length = 1) (ql : q.length = 3) (hq : (32 :: (enc op ++ [32]) : List UInt8) = q)
    (t1 : callE T0 X0 f_lang_part [.ptr (.b 0) 0 0, .d x.d, .d (.bool (!so && bx))] bld0 = some (.ret [] (bldR u1)))
    (t2 : callE T0 X0 f_strings_Builder_WriteString [.ptr (.b 0) 0 0, .d (.str q)] (bld u1) = some (.ret [.d (.int .i64 q.length), .d .nili] (bldR r1)))
    (t3 : callE T0 X0 f_lang_part [.ptr (.b 0) 0 0, .d y.d, .d (.bool (so && by_ || !so && !sy))] (bld r1) = some (.ret [] (bldR r))) :
    callE T0 X0 f_lang_write [.ptr (.b 0) 0 0, .d (Nd.two op x y).d] bld0 = some (.ret [] (bldR r)) := by
  rw [callX_fun (af := a_lang_write) rfl rfl rfl]
  simp only [Nd.d, bld0, bld, bldR, B8_nil] at t1 t2 t3 ⊢
  cases so
  · cases bx <;> cases sy <;> simp only [Bool.not_true, Bool.not_false, Bool.true_and, Bool.false_and, Bool.and_true, Bool.and_false, Bool.or_false, Bool.false_or, Bool.true_or, Bool.or_true] at t1 t3 <;> simp -implicitDefEqProofs (disch := omega) [a_lang_write, s0, s1, s2, s3, t1, t2, t3, enc_def, el, ql, hq]
  · cases by_ <;> simp only [Bool.not_true, Bool.not_false, Bool.true_and, Bool.false_and, Bool.and_true, Bool.and_false, Bool.or_false, Bool.false_or, Bool.true_or, Bool.or_true] at t1 t3 <;> simp -implicitDefEqProofs (disch := omega) [a_lang_write, s0, s1, s2, s3, t1, t2, t3, enc_def, el, ql, hq]
end Go.Rf
