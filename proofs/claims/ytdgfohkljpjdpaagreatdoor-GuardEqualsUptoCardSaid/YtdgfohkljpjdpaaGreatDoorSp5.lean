/- Parts of the proof: SpR6, SpR8, SpR7, SpD1, SpD2, SpD3, SpD4, SpD5, SpD6, SpA1, SpA2. -/
import Derived.Test.YtdgfohkljpjdpaaGreatDoorSp4

/- lang: reading an expression out of a text. -/
namespace Go.Rf

@[simp] theorem setPart_nd (x : Nd) : setPart (.d .nili) 0 (.d x.d) = some (.d x.d) := by cases x <;> rfl
/-- The reader's objects with what the reading is told to, between them. -/
def Rd.heap3 (r : Rd) (c : D) : List Obj := [.arr [.agg [.d (.sl (LT r.ts)), .d (.int .i64 r.i), .d (.sl (SL r.vs)), .d (.int .i64 r.op), .map (.b 2)]] ⟨5, 0⟩, .arr [.d c] ⟨1, 0⟩, .map []]
def Rd.fuel (r : Rd) : Nat := 4 * (r.ts.length - r.i) + 3
def rx1R : Rs → Option CRes
  | .ok x r => some (.ret [] (r.heap3 x.d))
  | .bad e p r => some (.pan (.d (faultD e p)) (r.heap3 .nili))
theorem rx1_spec {r : Rd} (h : r.ok) (hnum : ∀ t ∈ r.ts, t.kind = 2 → NumTx t.text) : callE T0 X0 f_lang_ReadExpr_1 [.ptr (.b 0) 0 0, .ptr (.b 1) 0 0] (r.heap3 .nili) = rx1R (rd r.fuel .s r) := by
  rw [callX_fun (af := a_lang_ReadExpr_1) rfl rfl rfl]
  obtain ⟨s1, f1⟩ := (reads hnum r.fuel).s r h rfl (Nat.le_refl _)
  cases hb : rd r.fuel .s r with
  | bad e p r' =>
    rw [hb] at s1
    simp only [Rs.out, rx1R, Rd.heap, Rd.heap3, faultD] at *
    simp -implicitDefEqProofs (disch := omega) [a_lang_ReadExpr_1, s1]
    done
  | ok x r' =>
    rw [hb] at s1
    simp only [Rs.out, rx1R, Rd.heap, Rd.heap3] at *
    simp -implicitDefEqProofs (disch := omega) [a_lang_ReadExpr_1, s1]
    done
end Go.Rf

/- What tokens are like. -/
namespace Go.Rf

theorem backF_len' : ∀ f k (n : Int), n < tens k → (backF f n).length ≤ 9 * k
  | 0, k, n, _ => by simp [backF]
  | f + 1, 0, n, h => by
    unfold backF
    rw [if_pos (by simp only [tens] at h; omega)]
    simp
  | f + 1, k + 1, n, h => by
    unfold backF
    split
    · simp
    · have h1 := inF_len 9 (n % 1000000000) (decide (0 < n / 1000000000))
      have h2 := backF_len' f k (n / 1000000000) (by simp only [tens] at h; omega)
      simp only [List.length_append]; omega
theorem dig_le (r : Int) : 48 ≤ (dig r).toNat ∧ (dig r).toNat ≤ 57 := by
  unfold dig
  have : (r % 10).toNat < 10 := by omega
  rw [UInt8.toNat_ofNat', Nat.mod_eq_of_lt (by omega)]
  omega
theorem inF_dig : ∀ f r b, ∀ c ∈ inF f r b, 48 ≤ c.toNat ∧ c.toNat ≤ 57
  | 0, _, _, c, h => by cases h
  | f + 1, r, b, c, h => by
    unfold inF at h
    split at h
    · rcases List.mem_cons.1 h with rfl | h
      · exact dig_le r
      · exact inF_dig f _ _ c h
    · cases h
theorem backF_dig : ∀ f n, ∀ c ∈ backF f n, 48 ≤ c.toNat ∧ c.toNat ≤ 57
  | 0, _, c, h => by cases h
  | f + 1, n, c, h => by
    unfold backF at h
    split at h
    · cases h
    · rcases List.mem_append.1 h with h | h
      · exact inF_dig _ _ _ c h
      · exact backF_dig f _ c h
theorem textV_dig (f n) : ∀ c ∈ textV f n, 48 ≤ c.toNat ∧ c.toNat ≤ 57 := by
  intro c h
  unfold textV at h
  split at h
  · rw [List.mem_singleton] at h; subst h; decide
  · exact backF_dig f n c (List.mem_reverse.1 h)
theorem pw32 : pw 32 ≤ tens 35 := by decide +kernel
theorem numTx_text {v : Int} (h0 : 0 ≤ v) (h : (limbs v).length ≤ 32) : NumTx (textV 456 v) := by
  have hv : v < tens 35 := by
    have h1 := (nv_bounds (limbs_good v)).2
    rw [limbs_nv h0] at h1
    exact Int.lt_of_lt_of_le (Int.lt_of_lt_of_le h1 (pw_le h)) pw32
  have hd := textV_dig 456 v
  refine ⟨?_, ?_⟩
  · unfold textV
    split
    · simp
    · rw [List.length_reverse]
      exact Nat.le_trans (backF_len' 456 35 v hv) (by omega)
  · cases ht : textV 456 v with
    | nil => decide
    | cons c s =>
      rw [ht] at hd
      have := hd c (List.mem_cons_self ..)
      rw [dec_ascii (by omega)]
      simp only []
      omega

theorem token_num {s : Sc} (h : s.ok) (hc : s.token.2.code = 0) (hk : s.token.1.kind = 2) : NumTx s.token.1.text := by
  unfold Sc.token at *
  split at hk
  · cases hk
  rename_i c2
  rw [if_neg c2] at hc ⊢
  split at hk
  · rename_i c3
    rw [if_pos c3] at hc ⊢
    have hl := h.1
    have h3 : (s.ran inNumber).length ≤ 4096 := by unfold Sc.ran; rw [List.length_take]; omega
    have hn := numV_ok h3
    by_cases h32 : 32 < (limbs (numV (s.ran inNumber))).length
    · simp only [if_pos h32] at hc
      cases hc
    · exact numTx_text hn.1 (by omega)
  split at hk
  · cases hk
  split at hk
  · cases hk
  · cases hk
structure Pre (out : List Tok) : Prop where
  k : ∀ t ∈ out, t.kind ≠ 0
  tx : ∀ t ∈ out, t.text.length ≤ 1100000
  nm : ∀ t ∈ out, t.kind = 2 → NumTx t.text
theorem scanF_ok : ∀ f (s : Sc) (out l : List Tok) e p, s.ok → s.rest.length < f → Pre out → scanF f s out = (some l, e, p) →
    ∃ o t, l = o ++ [t] ∧ Pre o ∧ t.kind = 0 ∧ t.text.length ≤ 1100000 ∧ e = 0
  | 0, s, out, l, e, p, _, hf, _, _ => by omega
  | f + 1, s, out, l, e, p, hs, hf, hp, h => by
    have hb := blanksF_ok (s.rest.length + 1) hs
    change s.blanks.ok ∧ s.blanks.rest.length ≤ s.rest.length at hb
    have ht := token_ok hb.1
    unfold scanF at h
    split at h
    · cases h
    · rename_i hc
      have hc : s.blanks.token.2.code = 0 := Classical.not_not.1 hc
      split at h
      · rename_i hk
        cases h
        exact ⟨out, _, rfl, hp, hk, ht.2.2, rfl⟩
      · rename_i hk
        have hlt := ht.2.1 hk
        refine scanF_ok f _ _ l e p ht.1 (by omega) ⟨fun t hm => ?_, fun t hm => ?_, fun t hm => ?_⟩ h
        · rcases List.mem_append.1 hm with hm | hm
          · exact hp.k t hm
          · rw [List.mem_singleton] at hm; subst hm; exact hk
        · rcases List.mem_append.1 hm with hm | hm
          · exact hp.tx t hm
          · rw [List.mem_singleton] at hm; subst hm; exact ht.2.2
        · rcases List.mem_append.1 hm with hm | hm
          · exact hp.nm t hm
          · rw [List.mem_singleton] at hm; subst hm; exact token_num hb.1 hc
end Go.Rf

/- lang.read: with its handler. -/
namespace Go.Rf

theorem codeE_X (T X p a st) : codeE T X p a st = codeX T X p a (some (.nrm, st)) := rfl
section
variable (p : Nat) (res : List (ARes × Bool))
@[simp] theorem pEnd_nrm (k st) : pEnd p res k (some (.nrm, st)) = k st := rfl
@[simp] theorem pEnd_ret (k st) : pEnd p res k (some (.ret, st)) = finish p res st := rfl
@[simp] theorem hEnd_nrm (env st) : hEnd p res env (some (.nrm, st)) = finish p res { env, heap := st.heap } := rfl
@[simp] theorem hEnd_ret (env st) : hEnd p res env (some (.ret, st)) = finish p res { env, heap := st.heap } := rfl
@[simp] theorem bEnd_nrm (k st) : bEnd k (some (.nrm, st)) = k (.d .nili) st.heap := rfl
@[simp] theorem bEnd_ret (k st) : bEnd k (some (.ret, st)) = k (.d .nili) st.heap := rfl
@[simp] theorem bEnd_pan (k t x st) : bEnd k (some (.pan (.d (.iface t x)), st)) = k (.d (.iface t x)) st.heap := rfl
end
theorem read_err (s : List UInt8) (hs : s.length ≤ 1100000) (vs : List (List UInt8)) (hv : vs.length ≤ 16) (he : (scan s).2.1 ≠ 0) :
    callE T0 X0 f_lang_read [.d (.str s), .d (.sl (SL vs)), .fn f_lang_ReadExpr_1 [.ptr (.b 0) 0 0]] [.arr [.d .nili] ⟨1, 0⟩] = some (.ret [.d (.int .i64 (scan s).2.1), .d (.agg (scan s).2.2.cs)] [.arr [.d .nili] ⟨1, 0⟩]) := by
  rw [callE_rec (r := r_lang_read) rfl rfl rfl]
  unfold recG
  have s1 := scan_spec s (by omega)
  simp only [codeE_X]
  simp only [Pl.cs] at s1 ⊢
  simp -implicitDefEqProofs (disch := omega) [r_lang_read, r_lang_read_pre, s1]
def rd0 (ts : List Tok) (vs : List (List UInt8)) : Rd := ⟨ts, 0, vs, 0⟩
def readR (r : Rs) : Int × Pl × D := match r with
  | .bad e q _ => (e, q, .nili)
  | .ok x r' => if r'.tok.kind = 0 then (0, emptyPl, x.d) else (80, r'.tok.pos, x.d)
theorem read_go (s : List UInt8) (hs : s.length ≤ 1100000) (vs : List (List UInt8)) (hv : vs.length ≤ 16) {ts : List Tok} {p : Pl} (he : scan s = (some ts, 0, p)) (h : (rd0 ts vs).ok) (hn : ts.length ≤ 5000) (hnum : ∀ t ∈ ts, t.kind = 2 → NumTx t.text) {b : Rs} (hb : rd (rd0 ts vs).fuel .s (rd0 ts vs) = b) :
    callE T0 X0 f_lang_read [.d (.str s), .d (.sl (SL vs)), .fn f_lang_ReadExpr_1 [.ptr (.b 0) 0 0]] [.arr [.d .nili] ⟨1, 0⟩] = some (.ret [.d (.int .i64 (readR b).1), .d (.agg (readR b).2.1.cs)] [.arr [.d (readR b).2.2] ⟨1, 0⟩]) := by
  rw [callE_rec (r := r_lang_read) rfl rfl rfl]
  unfold recG
  have s1 := scan_spec s (by omega)
  rw [he] at s1
  have s2 := rx1_spec h hnum
  have kk := (reads hnum (rd0 ts vs).fuel).s (rd0 ts vs) h rfl (Nat.le_refl _)
  simp only [codeE_X]
  rw [hb] at s2 kk
  cases b with
  | bad e q r' =>
    simp only [Pl.cs, rx1R, Rd.heap3, rd0, faultD, Option.getD_some, Int.cast_ofNat_Int, readR] at s1 s2 ⊢
    simp -implicitDefEqProofs (disch := omega) [r_lang_read, r_lang_read_pre, r_lang_read_body, r_lang_read_hand, s1, s2, slotsV, recEnv, bnd_some, ARes.slot]
    done
  | ok x r' =>
    have h' : r'.ok := kk.2.1.ok
    have s3 := here_spec h'
    have s4 := need_true r' 80
    have s5 := need_false h' 80
    simp only [readR]
    by_cases hk : r'.tok.kind = 0
    · rw [if_pos hk]
      simp only [Pl.cs, Tok.cs, rx1R, Rd.heap, Rd.heap3, rd0, faultD, emptyPl, Option.getD_some, Int.cast_ofNat_Int] at s1 s2 s3 s4 s5 ⊢
      generalize r'.tok = t at *
      simp -implicitDefEqProofs (disch := omega) [r_lang_read, r_lang_read_pre, r_lang_read_body, r_lang_read_hand, s1, s2, s3, s4, hk, slotsV, recEnv, bnd_some, ARes.slot]
      done
    · rw [if_neg hk]
      simp only [Pl.cs, Tok.cs, rx1R, Rd.heap, Rd.heap3, rd0, faultD, emptyPl, Option.getD_some, Int.cast_ofNat_Int] at s1 s2 s3 s4 s5 ⊢
      generalize r'.tok = t at *
      simp -implicitDefEqProofs (disch := omega) [r_lang_read, r_lang_read_pre, r_lang_read_body, r_lang_read_hand, s1, s2, s3, s5, hk, slotsV, recEnv, bnd_some, ARes.slot]
      done
end Go.Rf

/- limbs: take (a step of the long division). -/
namespace Go.Rf

theorem pw_succ (n : Nat) : pw (n + 1) = 4294967296 * pw n := by rw [pw]
theorem nv_take_drop {xs : List Int} {j : Nat} (h : j ≤ xs.length) : nv xs = nv (xs.take j) + pw j * nv (xs.drop j) := by
  conv => lhs; rw [← List.take_append_drop j xs]
  rw [nv_app, List.length_take, Nat.min_eq_left h]
/-- Limbs from k on are nothing: the number is less than that. -/
theorem nv_lt_pw {xs : List Int} (hg : Good xs) {k : Nat} (h : ∀ i, k ≤ i → nth xs i = 0) : nv xs < pw k := by
  by_cases hk : xs.length ≤ k
  · exact Int.lt_of_lt_of_le (nv_bounds hg).2 (pw_le hk)
  · have e := nv_take_drop (xs := xs) (j := k) (by omega)
    have z : ∀ l : List Int, (∀ i, nth l i = 0) → nv l = 0 := by
      intro l
      induction l with
      | nil => intro _; rfl
      | cons x l ih =>
        intro hl
        have h0 := hl 0
        rw [nth_cons_zero] at h0
        have h1 := ih (fun i => by have := hl (i + 1); rwa [nth_cons_succ] at this)
        simp only [nv, h0, h1]
        rfl
    have e2 : nv (xs.drop k) = 0 := z _ (fun i => by
      have := h (k + i) (by omega)
      simpa [nth, List.getD_eq_getElem?_getD, List.getElem?_drop] using this)
    rw [e2, Int.mul_zero, Int.add_zero] at e
    have := (nv_bounds (hg.take k)).2
    rw [List.length_take, Nat.min_eq_left (by omega)] at this
    omega
theorem nth_zero_of {xs : List Int} (hg : Good xs) {k : Nat} (h : nv xs < pw k) : ∀ i, k ≤ i → nth xs i = 0 := by
  intro i hi
  by_cases hl : i < xs.length
  · have e := nv_take_drop (xs := xs) (j := i) (by omega)
    rw [drop_nth hl, nv] at e
    have b1 := (nv_bounds (hg.take i)).1
    have b2 := (nv_bounds (hg.drop (i + 1))).1
    have b3 := hg.nth i
    have p1 := pw_pos i
    have p2 := pw_le hi
    by_cases hz : nth xs i = 0
    · exact hz
    · exfalso
      have : pw i * 1 ≤ pw i * (nth xs i + 4294967296 * nv (xs.drop (i + 1))) := Int.mul_le_mul_of_nonneg_left (by omega) (by omega)
      omega
  · exact nth_out (by omega)

theorem take_loop (vs us : List Int) (j : Nat) (g : Int) (hs : us.length ≤ 1099511627776) (hj : j + vs.length < us.length) (hv : Good vs) (hg : 0 ≤ g ∧ g < 4294967296) : ∀ d i (out : List Int) (c b : Int), d + i = vs.length → out.length = us.length → Good out → 0 ≤ c → c < 4294967296 → 0 ≤ b → b ≤ 1 →
    (∀ k, j + i ≤ k → nth out k = nth us k) → nv out = nv us - pw j * (g * nv (vs.take i)) + pw (j + i) * (c + b) →
    ∃ out' c' b', codeX T0 X0 2 a_limbs_take_l0 (some (.nrm, ⟨[(0, .ref (.b 0) ⟨1, 4⟩ j (vs.length + 1)), (1, .ref (.b 1) ⟨1, 4⟩ 0 vs.length), (2, .d (.int .u64 g)), (7, .d (.int .u64 c)), (8, .d (.int .u64 b)), (14, .d (.int .i64 vs.length)), (15, .d (.int .i64 i))], [.arr (LV out) ⟨1, 4⟩, .arr (LV vs) ⟨1, 4⟩]⟩)) =
        some (.exit 0, ⟨[(0, .ref (.b 0) ⟨1, 4⟩ j (vs.length + 1)), (1, .ref (.b 1) ⟨1, 4⟩ 0 vs.length), (2, .d (.int .u64 g)), (7, .d (.int .u64 c')), (8, .d (.int .u64 b'))], [.arr (LV out') ⟨1, 4⟩, .arr (LV vs) ⟨1, 4⟩]⟩) ∧
      out'.length = us.length ∧ Good out' ∧ 0 ≤ c' ∧ c' < 4294967296 ∧ 0 ≤ b' ∧ b' ≤ 1 ∧ (∀ k, j + vs.length ≤ k → nth out' k = nth us k) ∧ nv out' = nv us - pw j * (g * nv vs) + pw (j + vs.length) * (c' + b') := by
  intro d
  induction d with
  | zero =>
    intro i out c b hd ho hgo hc hc1 hb hb1 hk hn
    have : i = vs.length := by omega
    subst this
    refine ⟨out, c, b, ?_, ho, hgo, hc, hc1, hb, hb1, hk, by rw [hn, List.take_length]⟩
    rw [codeX_loop (l := a_limbs_take_l0) rfl]
    simp -implicitDefEqProofs (disch := omega) [a_limbs_take_b0]
    done
  | succ d ih =>
    intro i out c b hd ho hgo hc hc1 hb hb1 hk hn
    have n1 := hv.nth i
    have n2 := hgo.nth (j + i)
    have n3 := mul_lt hg n1
    rw [codeX_loop (l := a_limbs_take_l0) rfl]
    have hx : 0 ≤ c + g * nth vs i ∧ c + g * nth vs i < 18446744073709551616 := by omega
    have e1 : (nth out (j + i) - (c + g * nth vs i) % 4294967296 - b) % 18446744073709551616 % 4294967296 = (nth out (j + i) - (c + g * nth vs i) % 4294967296 - b) % 4294967296 := by omega
    have e2 : (nth out (j + i) - (c + g * nth vs i) % 4294967296 - b) % 18446744073709551616 / 9223372036854775808 = -((nth out (j + i) - (c + g * nth vs i) % 4294967296 - b) / 4294967296) := by omega
    have step := ih (i + 1) (out.set (j + i) ((nth out (j + i) - (c + g * nth vs i) % 4294967296 - b) % 4294967296)) ((c + g * nth vs i) / 4294967296) (-((nth out (j + i) - (c + g * nth vs i) % 4294967296 - b) / 4294967296)) (by omega) (by simp [ho]) (good_set hgo _ (by omega)) (by omega) (by omega) (by omega) (by omega) (by
      intro k hk'
      rw [nth_set (by omega), if_neg (by omega)]
      exact hk k (by omega)) (by
      rw [nv_take_succ', nv_set (by omega), hn]
      have s1 := pw_split (j + i) (c + g * nth vs i)
      have s2 := pw_split (j + i) (nth out (j + i) - (c + g * nth vs i) % 4294967296 - b)
      have s3 : pw j * (g * (nv (vs.take i) + pw i * nth vs i)) = pw j * (g * nv (vs.take i)) + pw (j + i) * (g * nth vs i) := by
        rw [Nat.add_comm j i, pw_add j i, Int.mul_add, Int.mul_add, ← Int.mul_assoc g (pw i), Int.mul_comm g (pw i)]
        simp only [Int.mul_assoc, Int.mul_left_comm]
      rw [s3, ← Nat.add_assoc]
      generalize (nth out (j + i) - (c + g * nth vs i) % 4294967296 - b) % 4294967296 = y at *
      generalize (nth out (j + i) - (c + g * nth vs i) % 4294967296 - b) / 4294967296 = z at *
      generalize (c + g * nth vs i) % 4294967296 = m at *
      generalize (c + g * nth vs i) / 4294967296 = q at *
      simp only [Int.mul_sub, Int.mul_add, Int.mul_neg] at s1 s2 ⊢
      omega)
    obtain ⟨out', c', b', h1, h2⟩ := step
    refine ⟨out', c', b', ?_, h2⟩
    rw [← h1]
    simp -implicitDefEqProofs (disch := omega) [a_limbs_take_b0, wrap_u64_mod, e1, e2, Int.emod_eq_of_lt hx.1 hx.2]
    done
theorem back_loop (vs us : List Int) (j : Nat) (g : Int) (hs : us.length ≤ 1099511627776) (hj : j + vs.length < us.length) (hv : Good vs) : ∀ d i (out : List Int) (c : Int), d + i = vs.length → out.length = us.length → Good out → 0 ≤ c → c ≤ 1 →
    (∀ k, j + i ≤ k → nth out k = nth us k) → nv out = nv us + pw j * nv (vs.take i) - pw (j + i) * c →
    ∃ out' c', codeX T0 X0 2 a_limbs_take_l1 (some (.nrm, ⟨[(0, .ref (.b 0) ⟨1, 4⟩ j (vs.length + 1)), (1, .ref (.b 1) ⟨1, 4⟩ 0 vs.length), (2, .d (.int .u64 g)), (7, .d (.int .u64 c)), (70, .d (.int .i64 vs.length)), (71, .d (.int .i64 i))], [.arr (LV out) ⟨1, 4⟩, .arr (LV vs) ⟨1, 4⟩]⟩)) =
        some (.exit 2, ⟨[(0, .ref (.b 0) ⟨1, 4⟩ j (vs.length + 1)), (1, .ref (.b 1) ⟨1, 4⟩ 0 vs.length), (2, .d (.int .u64 g)), (7, .d (.int .u64 c'))], [.arr (LV out') ⟨1, 4⟩, .arr (LV vs) ⟨1, 4⟩]⟩) ∧
      out'.length = us.length ∧ Good out' ∧ 0 ≤ c' ∧ c' ≤ 1 ∧ (∀ k, j + vs.length ≤ k → nth out' k = nth us k) ∧ nv out' = nv us + pw j * nv vs - pw (j + vs.length) * c' := by
  intro d
  induction d with
  | zero =>
    intro i out c hd ho hgo hc hc1 hk hn
    have : i = vs.length := by omega
    subst this
    refine ⟨out, c, ?_, ho, hgo, hc, hc1, hk, by rw [hn, List.take_length]⟩
    rw [codeX_loop (l := a_limbs_take_l1) rfl]
    simp -implicitDefEqProofs (disch := omega) [a_limbs_take_b1]
    done
  | succ d ih =>
    intro i out c hd ho hgo hc hc1 hk hn
    have n1 := hv.nth i
    have n2 := hgo.nth (j + i)
    rw [codeX_loop (l := a_limbs_take_l1) rfl]
    have step := ih (i + 1) (out.set (j + i) ((c + (nth out (j + i) + nth vs i)) % 4294967296)) ((c + (nth out (j + i) + nth vs i)) / 4294967296) (by omega) (by simp [ho]) (good_set hgo _ (by omega)) (by omega) (by omega) (by
      intro k hk'
      rw [nth_set (by omega), if_neg (by omega)]
      exact hk k (by omega)) (by
      rw [nv_take_succ', nv_set (by omega), hn]
      have s1 := pw_split (j + i) (c + (nth out (j + i) + nth vs i))
      have s3 : pw j * (nv (vs.take i) + pw i * nth vs i) = pw j * nv (vs.take i) + pw (j + i) * nth vs i := by
        rw [Nat.add_comm j i, pw_add j i, Int.mul_add]
        simp only [Int.mul_assoc, Int.mul_left_comm]
      rw [s3, ← Nat.add_assoc]
      generalize (c + (nth out (j + i) + nth vs i)) % 4294967296 = m at *
      generalize (c + (nth out (j + i) + nth vs i)) / 4294967296 = q at *
      simp only [Int.mul_sub, Int.mul_add, Int.mul_neg] at s1 ⊢
      omega)
    obtain ⟨out', c', h1, h2⟩ := step
    refine ⟨out', c', ?_, h2⟩
    rw [← h1]
    simp -implicitDefEqProofs (disch := omega) [a_limbs_take_b1]
    done

theorem low_eq {p a b x y : Int} (hx : 0 ≤ x ∧ x < p) (hy : 0 ≤ y ∧ y < p) (h : p * a + x = p * b + y) : a = b ∧ x = y := by
  have e1 : (p * a + x) / p = a := by rw [Int.add_comm, Int.add_mul_ediv_left _ _ (by omega), Int.ediv_eq_zero_of_lt hx.1 hx.2, Int.zero_add]
  have e2 : (p * b + y) / p = b := by rw [Int.add_comm, Int.add_mul_ediv_left _ _ (by omega), Int.ediv_eq_zero_of_lt hy.1 hy.2, Int.zero_add]
  rw [h, e2] at e1
  subst e1
  exact ⟨rfl, by omega⟩
theorem div_eq {a b q : Int} (hb : 0 < b) (h0 : q * b ≤ a) (h1 : a < (q + 1) * b) : a / b = q := by
  have h2 := Int.le_ediv_of_mul_le hb h0
  have h3 := Int.ediv_lt_of_lt_mul hb h1
  omega
theorem take_spec {vs us : List Int} {j : Nat} {g : Int} (hs : us.length ≤ 1099511627776) (hj : j + vs.length < us.length) (hv : Good vs) (hu : Good us) (hg : 0 ≤ g ∧ g < 4294967296)
    (hz : ∀ i, j + vs.length + 1 ≤ i → nth us i = 0) (hp : 0 < nv vs) (h1 : (g - 1) * nv vs ≤ nv (us.drop j)) (h2 : nv (us.drop j) < (g + 1) * nv vs) :
    ∃ out, callE T0 X0 f_limbs_take [.ref (.b 0) ⟨1, 4⟩ j (vs.length + 1), .ref (.b 1) ⟨1, 4⟩ 0 vs.length, .d (.int .u64 g)] [.arr (LV us) ⟨1, 4⟩, .arr (LV vs) ⟨1, 4⟩] = some (.ret [.d (.int .u32 (nv (us.drop j) / nv vs))] [.arr (LV out) ⟨1, 4⟩, .arr (LV vs) ⟨1, 4⟩]) ∧
      out.length = us.length ∧ Good out ∧ nv out = nv us - pw j * ((nv (us.drop j) / nv vs) * nv vs) := by
  obtain ⟨o1, c, b, l1, ho1, hg1, hc0, hc1, hb0, hb1, hk1, hn1⟩ := take_loop vs us j g hs hj hv hg vs.length 0 us 0 0 (by omega) rfl hu (by omega) (by omega) (by omega) (by omega) (fun _ _ => rfl) (by simp [nv])
  rw [callX_fun (af := a_limbs_take) rfl rfl rfl]
  simp only [Int.cast_ofNat_Int] at l1
  have n1 := hg1.nth (j + vs.length)
  have hd := nv_take_drop (xs := us) (j := j) (by omega)
  have hlo := nv_bounds (hu.take j)
  rw [List.length_take, Nat.min_eq_left (by omega)] at hlo
  have pp := pw_pos j
  have ps := pw_succ (j + vs.length)
  generalize hW : nv (us.drop j) = W at *
  generalize hV : nv vs = Vv at *
  generalize hx : nth o1 (j + vs.length) - c - b = x
  have fin : ∀ {o : List Int}, Good o → o.length = us.length → (∀ k, j + vs.length + 1 ≤ k → nth o k = 0) → 0 ≤ nv o ∧ nv o < pw (j + vs.length + 1) := fun h _ hk => ⟨(nv_bounds h).1, nv_lt_pw h hk⟩
  by_cases hneg : x < 0
  · have hx1 : x % 18446744073709551616 % 4294967296 = x + 4294967296 := by omega
    have hx2 : x % 18446744073709551616 / 9223372036854775808 = 1 := by omega
    have go2 : Good (o1.set (j + vs.length) (x + 4294967296)) := good_set hg1 _ (by omega)
    have v2 : nv (o1.set (j + vs.length) (x + 4294967296)) = nv us - pw j * (g * Vv) + pw (j + vs.length + 1) := by
      rw [nv_set (by omega), hn1, ps]
      have : x + 4294967296 - nth o1 (j + vs.length) = 4294967296 - (c + b) := by omega
      rw [this, Int.mul_sub, Int.mul_comm (pw (j + vs.length)) 4294967296]
      omega
    have z2 : ∀ k, j + vs.length + 1 ≤ k → nth (o1.set (j + vs.length) (x + 4294967296)) k = 0 := fun k hk => by
      rw [nth_set (by omega), if_neg (by omega), hk1 k (by omega)]
      exact hz k hk
    have f2 := fin go2 (by simp [ho1]) z2
    have hlt : W < g * Vv := by
      have : pw j * W < pw j * (g * Vv) := by omega
      exact Int.lt_of_mul_lt_mul_left this (by omega)
    obtain ⟨o3, c3, l3, ho3, hg3, hc30, hc31, hk3, hn3⟩ := back_loop vs (o1.set (j + vs.length) (x + 4294967296)) j g (by simpa [ho1] using hs) (by simpa [ho1] using hj) hv vs.length 0 _ 0 (by omega) rfl go2 (by omega) (by omega) (fun _ _ => rfl) (by simp [nv])
    simp only [Int.cast_ofNat_Int] at l3
    have n3 := hg3.nth (j + vs.length)
    have ho3' : o3.length = us.length := by simpa [ho1] using ho3
    have e3 : nth o3 (j + vs.length) = x + 4294967296 := by rw [hk3 _ (Nat.le_refl _), nth_set (by omega), if_pos rfl]
    have hq : W / Vv = g - 1 := div_eq hp h1 (by rw [Int.sub_add_cancel]; exact hlt)
    have g1 : 1 ≤ g := by
      by_cases h : 1 ≤ g
      · exact h
      · have : g = 0 := by omega
        subst this
        have := (nv_bounds (hu.drop j)).1
        omega
    have gm : (g - 1) % 18446744073709551616 % 4294967296 = g - 1 := by omega
    have go4 : Good (o3.set (j + vs.length) ((nth o3 (j + vs.length) + c3) % 4294967296)) := good_set hg3 _ (by omega)
    have z4 : ∀ k, j + vs.length + 1 ≤ k → nth (o3.set (j + vs.length) ((nth o3 (j + vs.length) + c3) % 4294967296)) k = 0 := fun k hk => by
      rw [nth_set (by omega), if_neg (by omega), hk3 k (by omega)]
      exact z2 k hk
    have f4 := fin go4 (by simp [ho3']) z4
    have v4 : nv (o3.set (j + vs.length) ((nth o3 (j + vs.length) + c3) % 4294967296)) = nv us - pw j * ((g - 1) * Vv) := by
      rw [nv_set (by omega)] at f4 ⊢
      rw [hn3, v2, hV] at f4 ⊢
      have s1 := pw_split (j + vs.length) (nth o3 (j + vs.length) + c3)
      have e5 : pw j * ((g - 1) * Vv) = pw j * (g * Vv) - pw j * Vv := by rw [Int.sub_mul, Int.one_mul, Int.mul_sub]
      have e6 : pw j * ((g - 1) * Vv) ≤ pw j * W := Int.mul_le_mul_of_nonneg_left h1 (by omega)
      have ht : (nth o3 (j + vs.length) + c3) / 4294967296 = 0 ∨ (nth o3 (j + vs.length) + c3) / 4294967296 = 1 := by omega
      generalize (nth o3 (j + vs.length) + c3) % 4294967296 = m at *
      generalize (nth o3 (j + vs.length) + c3) / 4294967296 = q at *
      simp only [Int.mul_sub, Int.mul_add] at s1 f4 ⊢
      rcases ht with ht | ht
      · subst ht
        exfalso
        omega
      · subst ht
        omega
    refine ⟨_, ?_, by simp [ho3'], go4, by rw [hq]; exact v4⟩
    rw [hq]
    have hxx : nth o1 (j + vs.length) - c - b = x := hx
    simp -implicitDefEqProofs (disch := omega) [a_limbs_take, l1, l3, hxx, hx1, hx2, wrap_u64_mod, gm]
    done
  · have hx1 : x % 18446744073709551616 % 4294967296 = x := by omega
    have hx2 : x % 18446744073709551616 / 9223372036854775808 = 0 := by omega
    have go2 : Good (o1.set (j + vs.length) x) := good_set hg1 _ (by omega)
    have v2 : nv (o1.set (j + vs.length) x) = nv us - pw j * (g * Vv) := by
      rw [nv_set (by omega), hn1]
      have : x - nth o1 (j + vs.length) = - (c + b) := by omega
      rw [this, Int.mul_neg]
      omega
    have hge : g * Vv ≤ W := by
      have h0 := (nv_bounds go2).1
      have : pw j * (g * Vv) < pw j * (W + 1) := by rw [Int.mul_add]; omega
      have := Int.lt_of_mul_lt_mul_left this (by omega)
      omega
    have hq : W / Vv = g := div_eq hp hge h2
    refine ⟨_, ?_, by simp [ho1], go2, by rw [hq]; exact v2⟩
    rw [hq]
    have hgm : g % 4294967296 = g := by omega
    have hxx : nth o1 (j + vs.length) - c - b = x := hx
    simp -implicitDefEqProofs (disch := omega) [a_limbs_take, l1, hxx, hx1, hx2, wrap_u64_mod, hgm]
    done
end Go.Rf

/- limbs: moved, Right (by less than a limb). -/
namespace Go.Rf

theorem p2_pos (s : Nat) : 0 < (2 : Int) ^ s := Int.pow_pos (by decide)
theorem p2_le {s : Nat} (h : s < 32) : (2 : Int) ^ s ≤ 2147483648 := by
  have h1 : (2 : Nat) ^ s ≤ 2 ^ 31 := Nat.pow_le_pow_right (by decide) (by omega)
  have h2 : ((2 ^ s : Nat) : Int) = (2 : Int) ^ s := by simp
  omega
/-- Nothing in common: 'or' is 'plus'. -/
theorem or_lo {c a : Int} {s : Nat} (hs : s < 32) (hc : 0 ≤ c ∧ c < 2 ^ s) (ha : 0 ≤ a ∧ a < 4294967296) : orK .u64 c (a * 2 ^ s) = c + a * 2 ^ s := by
  obtain ⟨x, rfl⟩ := Int.eq_ofNat_of_zero_le hc.1
  obtain ⟨y, rfl⟩ := Int.eq_ofNat_of_zero_le ha.1
  have hp := p2_le hs
  have h2 : ((2 ^ s : Nat) : Int) = (2 : Int) ^ s := by simp
  have h3 : (y : Int) * 2 ^ s ≤ 4294967295 * 2 ^ s := Int.mul_le_mul_of_nonneg_right (by omega) (by have := p2_pos s; omega)
  have h5 : 2 ^ s * y ≤ 9223372034707292160 := by
    have : ((2 ^ s * y : Nat) : Int) ≤ 9223372034707292160 := by
      rw [Int.natCast_mul, h2, Int.mul_comm]; omega
    omega
  unfold orK
  rw [BitVec.toNat_or]
  have e1 : (BitVec.ofInt IntKind.u64.bits ((y : Int) * 2 ^ s)).toNat = 2 ^ s * y := by
    rw [show ((y : Int) * 2 ^ s) = ((2 ^ s * y : Nat) : Int) by rw [Int.natCast_mul, h2, Int.mul_comm], BitVec.ofInt_natCast, BitVec.toNat_ofNat]
    exact Nat.mod_eq_of_lt (by show _ < 2 ^ 64; omega)
  have e2 : (BitVec.ofInt IntKind.u64.bits (x : Int)).toNat = x := by
    rw [BitVec.ofInt_natCast, BitVec.toNat_ofNat]
    exact Nat.mod_eq_of_lt (by show _ < 2 ^ 64; omega)
  rw [e1, e2, Nat.or_comm, ← Nat.two_pow_add_eq_or_of_lt (by omega), wrap_u64 ⟨by omega, by omega⟩, Int.natCast_add, Int.natCast_mul, h2, Int.mul_comm, Int.add_comm]
theorem orK_comm (k : IntKind) (x y : Int) : orK k x y = orK k y x := by
  unfold orK
  rw [BitVec.or_comm]

theorem moved_loop (as : List Int) (s n : Nat) (hs : s < 32) (hn : n ≤ 1099511627776) (ha : Good as) (hl : as.length ≤ n) : ∀ d i (out : List Int) (c : Int), d + i = n → out.length = n → Good out → 0 ≤ c → c < 2 ^ s →
    nv (out.take i) + pw i * c = nv (as.take i) * 2 ^ s →
    ∃ out' c', codeX T0 X0 0 a_limbs_moved_l0 (some (.nrm, ⟨[(0, .d (.sl (L as))), (1, .d (.int .i64 s)), (7, .ref (.b 0) ⟨1, 4⟩ 0 n), (8, .d (.int .u64 c)), (13, .d (.int .i64 n)), (14, .d (.int .i64 i))], [.arr (LV out) ⟨1, 4⟩]⟩)) =
        some (.exit 0, ⟨[(7, .ref (.b 0) ⟨1, 4⟩ 0 n)], [.arr (LV out') ⟨1, 4⟩]⟩) ∧
      out'.length = n ∧ Good out' ∧ 0 ≤ c' ∧ nv out' + pw n * c' = nv as * 2 ^ s := by
  have p0 := p2_pos s
  have p1 := p2_le hs
  have hm : min s 64 = s := by omega
  intro d
  induction d with
  | zero =>
    intro i out c hd ho hg hc hc1 hv
    have : i = n := by omega
    subst this
    refine ⟨out, c, ?_, ho, hg, hc, by rw [List.take_of_length_le (by omega), List.take_of_length_le (by omega)] at hv; exact hv⟩
    rw [codeX_loop (l := a_limbs_moved_l0) rfl]
    simp -implicitDefEqProofs (disch := omega) [a_limbs_moved_b0]
    done
  | succ d ih =>
    intro i out c hd ho hg hc hc1 hv
    have n1 := ha.nth i
    rw [codeX_loop (l := a_limbs_moved_l0) rfl]
    have hy : 0 ≤ nth as i * 2 ^ s ∧ nth as i * 2 ^ s ≤ 4294967295 * 2 ^ s := ⟨Int.mul_nonneg n1.1 (by omega), Int.mul_le_mul_of_nonneg_right (by omega) (by omega)⟩
    have ho1 := or_lo hs ⟨hc, hc1⟩ n1
    obtain ⟨out', c', h1, h2⟩ := ih (i + 1) (out.set i ((c + nth as i * 2 ^ s) % 4294967296)) ((c + nth as i * 2 ^ s) / 4294967296) (by omega) (by simp [ho]) (good_set hg _ (by omega)) (by omega) (by omega) (by
      rw [nv_set_take (by omega), nv_take_succ', Int.add_mul, ← hv, Int.mul_assoc]
      have s1 := pw_split i (c + nth as i * 2 ^ s)
      rw [Int.mul_add (pw i) c] at s1
      omega)
    refine ⟨out', c', ?_, h2⟩
    rw [← h1]
    by_cases hi : i < as.length
    · generalize hz : nth as i * 2 ^ s = z at *
      simp -implicitDefEqProofs (disch := omega) [a_limbs_moved_b0, hm, hz, ho1]
      done
    · have e : nth as i = 0 := nth_out (by omega)
      have ec : c % 4294967296 = c := by omega
      simp -implicitDefEqProofs (disch := omega) [a_limbs_moved_b0, e, ec]
      done
theorem moved_spec {as : List Int} {s n : Nat} (hs : s < 32) (hn : n ≤ 1099511627776) (ha : Good as) (hl : as.length ≤ n) (hb : nv as * 2 ^ s < pw n) :
    ∃ out, callE T0 X0 f_limbs_moved [.d (.sl (L as)), .d (.int .i64 s), .d (.int .i64 n)] [] = some (.ret [.ref (.b 0) ⟨1, 4⟩ 0 n] [.arr (LV out) ⟨1, 4⟩]) ∧ out.length = n ∧ Good out ∧ nv out = nv as * 2 ^ s := by
  obtain ⟨out, c, h1, ho, hg, hc, hv⟩ := moved_loop as s n hs hn ha hl n 0 (List.replicate n 0) 0 (by omega) (by simp) (good_rep _) (by omega) (p2_pos s) (by simp [nv])
  rw [callX_fun (af := a_limbs_moved) rfl rfl rfl]
  have h0 := (nv_bounds hg).1
  have hc0 : c = 0 := by
    by_cases h : c = 0
    · exact h
    · have := pw_pos n
      have : pw n * 1 ≤ pw n * c := Int.mul_le_mul_of_nonneg_left (by omega) (by omega)
      omega
  subst hc0
  refine ⟨out, ?_, ho, hg, by omega⟩
  simp only [Int.cast_ofNat_Int] at h1
  simp -implicitDefEqProofs (disch := omega) [a_limbs_moved, h1]
  done

theorem right_limb {a b : Int} {s : Nat} (hs : s < 32) (ha : 0 ≤ a ∧ a < 4294967296) (hb : 0 ≤ b ∧ b < 4294967296) : 2 ^ s * (((b * 4294967296 + a) / 2 ^ s) % 4294967296) = a - a % 2 ^ s + 4294967296 * (b % 2 ^ s) := by
  obtain ⟨t, ht⟩ : ∃ t : Nat, s + t = 32 := ⟨32 - s, by omega⟩
  have p0 := p2_pos s
  have hQ : (2 : Int) ^ s * 2 ^ t = 4294967296 := by rw [← Int.pow_add, ht]; rfl
  have q0 := p2_pos t
  generalize (2 : Int) ^ s = P at *
  generalize (2 : Int) ^ t = Q at *
  have e1 := Int.mul_ediv_add_emod a P
  have e2 := Int.mul_ediv_add_emod b P
  have r1 := Int.emod_nonneg a (show P ≠ 0 by omega)
  have r2 := Int.emod_lt_of_pos a p0
  have t1 := Int.emod_nonneg b (show P ≠ 0 by omega)
  have t2 := Int.emod_lt_of_pos b p0
  have u0 : 0 ≤ a / P := Int.ediv_nonneg ha.1 (by omega)
  have u1 : a / P < Q := Int.ediv_lt_of_lt_mul p0 (by rw [Int.mul_comm, hQ]; exact ha.2)
  generalize a / P = u at *
  generalize a % P = r at *
  generalize b / P = w at *
  generalize b % P = t at *
  have ex : b * 4294967296 + a = r + P * (u + Q * t + 4294967296 * w) := by
    rw [← e1, ← e2, Int.mul_add P, Int.mul_add P, ← Int.mul_assoc P Q, hQ, Int.add_mul, Int.mul_comm t, Int.mul_comm (P * w), Int.mul_left_comm P]
    omega
  have ey : (b * 4294967296 + a) / P = u + Q * t + 4294967296 * w := by
    rw [ex, Int.add_mul_ediv_left _ _ (by omega), Int.ediv_eq_zero_of_lt r1 r2, Int.zero_add]
  have hq : Q * t ≤ Q * (P - 1) := Int.mul_le_mul_of_nonneg_left (by omega) (by omega)
  rw [Int.mul_sub, Int.mul_comm Q P, hQ, Int.mul_one] at hq
  have hq0 : 0 ≤ Q * t := Int.mul_nonneg (by omega) t1
  have em : (u + Q * t + 4294967296 * w) % 4294967296 = u + Q * t := by rw [Int.add_mul_emod_self_left]; exact Int.emod_eq_of_lt (by omega) (by omega)
  rw [ey, em, Int.mul_add, ← Int.mul_assoc, hQ]
  omega
theorem right_loop (as : List Int) (s : Nat) (hs : s < 32) (hn : as.length ≤ 1099511627776) (ha : Good as) : ∀ d i (out : List Int), d + i = as.length → out.length = as.length → Good out →
    2 ^ s * nv (out.take i) + nth as 0 % 2 ^ s = nv (as.take i) + pw i * (nth as i % 2 ^ s) →
    ∃ out', codeX T0 X0 0 a_limbs_Right_l0 (some (.nrm, ⟨[(0, .d (.sl (L as))), (1, .d (.int .i64 s)), (6, .ref (.b 0) ⟨1, 4⟩ 0 as.length), (26, .d (.int .i64 as.length)), (27, .d (.int .i64 i))], [.arr (LV out) ⟨1, 4⟩]⟩)) =
        some (.exit 0, ⟨[(6, .ref (.b 0) ⟨1, 4⟩ 0 as.length)], [.arr (LV out') ⟨1, 4⟩]⟩) ∧
      out'.length = as.length ∧ Good out' ∧ 2 ^ s * nv out' + nth as 0 % 2 ^ s = nv as := by
  have p0 := p2_pos s
  have p1 := p2_le hs
  have hm : min s 64 = s := by omega
  have hsm : (s : Int) % 32 = s := by omega
  intro d
  induction d with
  | zero =>
    intro i out hd ho hg hv
    have : i = as.length := by omega
    subst this
    refine ⟨out, ?_, ho, hg, ?_⟩
    · rw [codeX_loop (l := a_limbs_Right_l0) rfl]
      simp -implicitDefEqProofs (disch := omega) [a_limbs_Right_b0]
      done
    · rw [nth_out (Nat.le_refl _), List.take_of_length_le (by omega), List.take_of_length_le (by omega)] at hv
      simpa using hv
  | succ d ih =>
    intro i out hd ho hg hv
    have n1 := ha.nth i
    have n2 := ha.nth (i + 1)
    rw [codeX_loop (l := a_limbs_Right_l0) rfl]
    have hr := right_limb hs n1 n2
    obtain ⟨out', h1, h2⟩ := ih (i + 1) (out.set i (((nth as (i + 1) * 4294967296 + nth as i) / 2 ^ s) % 4294967296)) (by omega) (by simp [ho]) (good_set hg _ (by omega)) (by
      rw [nv_set_take (by omega), nv_take_succ', Int.mul_add, Int.mul_left_comm, hr, pw_succ]
      simp only [Int.mul_add, Int.mul_sub]
      rw [Int.mul_left_comm (pw i), Int.mul_assoc]
      omega)
    refine ⟨out', ?_, h2⟩
    rw [← h1]
    have ho1 : orK .u64 (nth as i) (nth as (i + 1) * 4294967296) = nth as (i + 1) * 4294967296 + nth as i := by rw [orK_comm]; exact or64 n2.1 n1 n2.2
    by_cases hi : i + 1 < as.length
    · simp -implicitDefEqProofs (disch := omega) [a_limbs_Right_b0, hm, hsm, ho1]
      done
    · have e : nth as (i + 1) = 0 := nth_out (by omega)
      simp -implicitDefEqProofs (disch := omega) [a_limbs_Right_b0, hm, hsm, e]
      done
theorem right_spec {xs : List Int} {s : Nat} (hs : s < 32) (hn : xs.length ≤ 1099511627776) (hx : Good xs) :
    callE T0 X0 f_limbs_Right [.d (.sl (L xs)), .d (.int .i64 s)] [] = some (.ret [.d (.sl (L (limbs (nv xs / 2 ^ s)))), .d (.int .i64 0)] []) := by
  rw [callX_fun (af := a_limbs_Right) rfl rfl rfl]
  have s1 := short_spec hx (by omega)
  have h1 := limbs_nv (nv_bounds hx).1
  have l1 : (limbs (nv xs)).length ≤ xs.length := limbs_len (nv_bounds hx).1 (nv_bounds hx).2
  have hg := limbs_good (nv xs)
  generalize limbs (nv xs) = as at *
  rw [← h1]
  have hd : (s : Int) / 32 = 0 := by omega
  by_cases h0 : as.length = 0
  · have : as = [] := List.length_eq_zero_iff.1 h0
    subst this
    have e : (nv [] / 2 ^ s : Int) = 0 := by simp [nv]
    rw [e]
    simp -implicitDefEqProofs (disch := omega) [a_limbs_Right, s1, hd]
    done
  · obtain ⟨out, l2, ho, hgo, hv⟩ := right_loop as s hs (by omega) hg as.length 0 (List.replicate as.length 0) (by omega) (by simp) (good_rep _) (by simp [nv, pw])
    have s2 := short_spec hgo (by omega)
    have p0 := p2_pos s
    have e : nv as / 2 ^ s = nv out := by
      rw [← hv, Int.add_comm, Int.add_mul_ediv_left _ _ (by omega), Int.ediv_eq_zero_of_lt (Int.emod_nonneg _ (by omega)) (Int.emod_lt_of_pos _ p0), Int.zero_add]
    rw [e]
    have ht : out.take as.length = out := List.take_of_length_le (by omega)
    simp only [Int.cast_ofNat_Int] at l2
    simp -implicitDefEqProofs (disch := omega) [-List.length_eq_zero_iff, a_limbs_Right, s1, hd, l2, s2, ht]
    done
end Go.Rf

/- limbs: long division. -/
namespace Go.Rf

/-- What guessing a limb by the two top limbs rests on. -/
theorem guess_facts {Vv W Bn f1 f2 top u2 : Int} (hBn : 0 < Bn) (hf1 : 1 ≤ f1) (hf2 : 0 ≤ f2 ∧ f2 < 4294967296) (hu2 : 0 ≤ u2 ∧ u2 < 4294967296) (ht : 0 ≤ top)
    (hV1 : (f1 * 4294967296 + f2) * Bn ≤ Vv) (hV2 : Vv < (f1 * 4294967296 + f2 + 1) * Bn) (hW1 : (top * 4294967296 + u2) * Bn ≤ W) (hW2 : W < (top * 4294967296 + u2 + 1) * Bn) (hWB : W < 4294967296 * Vv) :
    (∀ g rest, g * f1 + rest = top → 0 ≤ g → g < 4294967296 → (4294967296 ≤ rest ∨ g * f2 ≤ rest * 4294967296 + u2) → (g - 1) * Vv ≤ W) ∧
    (∀ g rest, g * f1 + rest = top → 0 ≤ g → (4294967296 ≤ g ∨ rest * 4294967296 + u2 < g * f2) → W < g * Vv) ∧
    (∀ g rest, g * f1 + rest = top → 4294967296 ≤ g → rest < 4294967296) ∧ W < (top / f1 + 1) * Vv := by
  have hm : ∀ g rest : Int, g * f1 + rest = top → g * (f1 * 4294967296 + f2) = (top - rest) * 4294967296 + g * f2 := fun g rest h => by
    rw [Int.mul_add, ← Int.mul_assoc, ← h, Int.add_sub_cancel]
  have hV0 : 0 < Vv := Int.lt_of_lt_of_le (Int.mul_pos (by omega) hBn) hV1
  have key : ∀ g, 0 ≤ g → top * 4294967296 + u2 < g * (f1 * 4294967296 + f2) → W < g * Vv := fun g h0 h => by
    have e1 : (top * 4294967296 + u2 + 1) * Bn ≤ g * (f1 * 4294967296 + f2) * Bn := Int.mul_le_mul_of_nonneg_right (by omega) (by omega)
    have e2 : g * ((f1 * 4294967296 + f2) * Bn) ≤ g * Vv := Int.mul_le_mul_of_nonneg_left hV1 h0
    rw [← Int.mul_assoc] at e2
    omega
  refine ⟨fun g rest h h0 h1 hc => ?_, fun g rest h h0 hc => ?_, fun g rest h hc => ?_, ?_⟩
  · have hc2 : g * f2 ≤ rest * 4294967296 + u2 := by
      rcases hc with hc | hc
      · have := mul_lt ⟨h0, h1⟩ hf2
        omega
      · exact hc
    have e0 := hm g rest h
    have e1 : g * Vv ≤ g * ((f1 * 4294967296 + f2 + 1) * Bn) := Int.mul_le_mul_of_nonneg_left (by omega) h0
    have e2 : g * ((f1 * 4294967296 + f2 + 1) * Bn) = g * (f1 * 4294967296 + f2) * Bn + g * Bn := by
      rw [← Int.mul_assoc, Int.mul_add g _ 1, Int.mul_one, Int.add_mul]
    have e3 : g * (f1 * 4294967296 + f2) * Bn ≤ (top * 4294967296 + u2) * Bn := Int.mul_le_mul_of_nonneg_right (by omega) (by omega)
    have e4 : g * Bn ≤ (f1 * 4294967296 + f2) * Bn := Int.mul_le_mul_of_nonneg_right (by omega) (by omega)
    rw [Int.sub_mul, Int.one_mul]
    omega
  · rcases hc with hc | hc
    · have : 4294967296 * Vv ≤ g * Vv := Int.mul_le_mul_of_nonneg_right hc (by omega)
      omega
    · exact key g h0 (by rw [hm g rest h]; omega)
  · have e1 : (top * 4294967296 + u2) * Bn < 4294967296 * (f1 * 4294967296 + f2 + 1) * Bn := by
      rw [Int.mul_assoc 4294967296]
      omega
    have e2 := Int.lt_of_mul_lt_mul_right e1 (by omega)
    have e3 : 4294967296 * f1 ≤ g * f1 := Int.mul_le_mul_of_nonneg_right hc (by omega)
    omega
  · have e0 := Int.lt_ediv_add_one_mul_self top (show 0 < f1 by omega)
    have e1 : 0 ≤ top / f1 := Int.ediv_nonneg ht (by omega)
    refine key _ (by omega) ?_
    have e2 : 0 ≤ (top / f1 + 1) * f2 := Int.mul_nonneg (by omega) hf2.1
    rw [Int.mul_add, ← Int.mul_assoc]
    omega

theorem guess_loop (us qs vs : List Int) (s j : Nat) {Vv W f1 f2 top : Int} (hl : us.length ≤ 1099511627776) (hj : j + vs.length < us.length) (hv : 2 ≤ vs.length) (hq : qs.length ≤ 1099511627776) (hu : Good us)
    (hf1 : 1 ≤ f1 ∧ f1 < 4294967296) (hf2 : 0 ≤ f2 ∧ f2 < 4294967296) (ht : 0 ≤ top ∧ top < 18446744073709551616)
    (k1 : ∀ g rest, g * f1 + rest = top → 0 ≤ g → g < 4294967296 → (4294967296 ≤ rest ∨ g * f2 ≤ rest * 4294967296 + nth us (j + vs.length - 2)) → (g - 1) * Vv ≤ W)
    (k2 : ∀ g rest, g * f1 + rest = top → 0 ≤ g → (4294967296 ≤ g ∨ rest * 4294967296 + nth us (j + vs.length - 2) < g * f2) → W < g * Vv)
    (k3 : ∀ g rest, g * f1 + rest = top → 4294967296 ≤ g → rest < 4294967296) :
    ∀ m g rest, (4294967296 - rest).toNat = m → g * f1 + rest = top → 0 ≤ g → g < 18446744073709551616 → 0 ≤ rest → rest < 8589934592 → W < (g + 1) * Vv →
    ∃ g', codeX T0 X0 0 a_limbs_long_l0 (some (.nrm, ⟨[(4, .ref (.b 0) ⟨1, 4⟩ 0 qs.length), (6, .d (.int .i64 s)), (7, .ref (.b 1) ⟨1, 4⟩ 0 us.length), (8, .ref (.b 2) ⟨1, 4⟩ 0 vs.length), (9, .d (.int .i64 vs.length)), (10, .d (.int .u64 f1)), (11, .d (.int .u64 f2)), (12, .d (.int .i64 j)), (14, .d (.int .u64 g)), (15, .d (.int .u64 rest))], [.arr (LV qs) ⟨1, 4⟩, .arr (LV us) ⟨1, 4⟩, .arr (LV vs) ⟨1, 4⟩]⟩)) =
        some (.exit 2, ⟨[(4, .ref (.b 0) ⟨1, 4⟩ 0 qs.length), (6, .d (.int .i64 s)), (7, .ref (.b 1) ⟨1, 4⟩ 0 us.length), (8, .ref (.b 2) ⟨1, 4⟩ 0 vs.length), (9, .d (.int .i64 vs.length)), (10, .d (.int .u64 f1)), (11, .d (.int .u64 f2)), (12, .d (.int .i64 j)), (14, .d (.int .u64 g'))], [.arr (LV qs) ⟨1, 4⟩, .arr (LV us) ⟨1, 4⟩, .arr (LV vs) ⟨1, 4⟩]⟩) ∧
      0 ≤ g' ∧ g' < 4294967296 ∧ (g' - 1) * Vv ≤ W ∧ W < (g' + 1) * Vv := by
  intro m
  induction m using Nat.strongRecOn with
  | _ m ih =>
    intro g rest hm hg h0 h64 hr0 hr1 hW
    have n2 := hu.nth (j + vs.length - 2)
    rw [codeX_loop (l := a_limbs_long_l0) rfl]
    by_cases hr : rest < 4294967296
    · have hor := or64 hr0 n2 hr
      have hdec : ∀ hc : 4294967296 ≤ g ∨ rest * 4294967296 + nth us (j + vs.length - 2) < g * f2, 1 ≤ g →
        ∃ g', codeX T0 X0 0 a_limbs_long_l0 (some (.nrm, ⟨[(4, .ref (.b 0) ⟨1, 4⟩ 0 qs.length), (6, .d (.int .i64 s)), (7, .ref (.b 1) ⟨1, 4⟩ 0 us.length), (8, .ref (.b 2) ⟨1, 4⟩ 0 vs.length), (9, .d (.int .i64 vs.length)), (10, .d (.int .u64 f1)), (11, .d (.int .u64 f2)), (12, .d (.int .i64 j)), (14, .d (.int .u64 (g - 1))), (15, .d (.int .u64 (rest + f1)))], [.arr (LV qs) ⟨1, 4⟩, .arr (LV us) ⟨1, 4⟩, .arr (LV vs) ⟨1, 4⟩]⟩)) =
            some (.exit 2, ⟨[(4, .ref (.b 0) ⟨1, 4⟩ 0 qs.length), (6, .d (.int .i64 s)), (7, .ref (.b 1) ⟨1, 4⟩ 0 us.length), (8, .ref (.b 2) ⟨1, 4⟩ 0 vs.length), (9, .d (.int .i64 vs.length)), (10, .d (.int .u64 f1)), (11, .d (.int .u64 f2)), (12, .d (.int .i64 j)), (14, .d (.int .u64 g'))], [.arr (LV qs) ⟨1, 4⟩, .arr (LV us) ⟨1, 4⟩, .arr (LV vs) ⟨1, 4⟩]⟩) ∧
          0 ≤ g' ∧ g' < 4294967296 ∧ (g' - 1) * Vv ≤ W ∧ W < (g' + 1) * Vv := fun hc h1 =>
        ih _ (by omega) (g - 1) (rest + f1) rfl (by rw [Int.sub_mul, Int.one_mul]; omega) (by omega) (by omega) (by omega) (by omega) (by rw [Int.sub_add_cancel]; exact k2 g rest hg h0 hc)
      by_cases hb : 4294967296 ≤ g
      · obtain ⟨g', e, h⟩ := hdec (.inl hb) (by omega)
        refine ⟨g', ?_, h⟩
        rw [← e]
        simp -implicitDefEqProofs (disch := omega) [a_limbs_long_b0, hor]
        done
      · have hm2 := mul_lt (x := g) (y := f2) ⟨h0, by omega⟩ hf2
        by_cases hc : rest * 4294967296 + nth us (j + vs.length - 2) < g * f2
        · have h1 : 1 ≤ g := by
            by_cases h : 1 ≤ g
            · exact h
            · have : g = 0 := by omega
              subst this
              omega
          obtain ⟨g', e, h⟩ := hdec (.inr hc) h1
          refine ⟨g', ?_, h⟩
          rw [← e]
          simp -implicitDefEqProofs (disch := omega) [a_limbs_long_b0, hor]
          done
        · refine ⟨g, ?_, h0, by omega, k1 g rest hg h0 (by omega) (.inr (by omega)), hW⟩
          simp -implicitDefEqProofs (disch := omega) [a_limbs_long_b0, hor]
          done
    · have hb : g < 4294967296 := by
        by_cases h : g < 4294967296
        · exact h
        · exact absurd (k3 g rest hg (by omega)) hr
      refine ⟨g, ?_, h0, hb, k1 g rest hg h0 hb (.inl (by omega)), hW⟩
      simp -implicitDefEqProofs (disch := omega) [a_limbs_long_b0]
      done
end Go.Rf

/- limbs: long division; DivMod. -/
namespace Go.Rf

@[simp] theorem without_at (h : Loc → Option Obj) (m : List Loc) (l : Loc) : without h m l = if l ∈ m then none else h l := rfl
theorem nv_zero {l : List Int} (h : ∀ i, nth l i = 0) : nv l = 0 := by
  induction l with
  | nil => rfl
  | cons x l ih =>
    have h0 := h 0
    rw [nth_cons_zero] at h0
    have h1 := ih (fun i => by have := h (i + 1); rwa [nth_cons_succ] at this)
    simp only [nv, h0, h1]
    rfl
theorem nth_drop (xs : List Int) (k i : Nat) : nth (xs.drop k) i = nth xs (k + i) := by simp [nth, List.getD_eq_getElem?_getD, List.getElem?_drop]

theorem long_loop (vs : List Int) (s m : Nat) (hv : Good vs) (hv2 : 2 ≤ vs.length) (hf : 1 ≤ nth vs (vs.length - 1)) (hl : m + vs.length ≤ 1099511627776) : ∀ k (us qs : List Int), k ≤ m → us.length = m + vs.length → qs.length = m → Good us → Good qs → nv us < pw k * nv vs → (∀ i, i < k → nth qs i = 0) →
    ∃ us' qs', codeX T0 X0 0 a_limbs_long_l1 (some (.nrm, ⟨[(4, .ref (.b 0) ⟨1, 4⟩ 0 m), (6, .d (.int .i64 s)), (7, .ref (.b 1) ⟨1, 4⟩ 0 us.length), (8, .ref (.b 2) ⟨1, 4⟩ 0 vs.length), (9, .d (.int .i64 vs.length)), (10, .d (.int .u64 (nth vs (vs.length - 1)))), (11, .d (.int .u64 (nth vs (vs.length - 2)))), (12, .d (.int .i64 ((k : Int) - 1)))], [.arr (LV qs) ⟨1, 4⟩, .arr (LV us) ⟨1, 4⟩, .arr (LV vs) ⟨1, 4⟩]⟩)) =
        some (.exit 0, ⟨[(4, .ref (.b 0) ⟨1, 4⟩ 0 m), (6, .d (.int .i64 s)), (7, .ref (.b 1) ⟨1, 4⟩ 0 us.length), (9, .d (.int .i64 vs.length))], [.arr (LV qs') ⟨1, 4⟩, .arr (LV us') ⟨1, 4⟩]⟩) ∧
      us'.length = us.length ∧ qs'.length = m ∧ Good us' ∧ Good qs' ∧ nv us' < nv vs ∧ nv us + nv qs * nv vs = nv us' + nv qs' * nv vs := by
  intro k
  induction k with
  | zero =>
    intro us qs hk hu hq gu gq hlt hz
    refine ⟨us, qs, ?_, rfl, hq, gu, gq, by simpa [pw] using hlt, rfl⟩
    rw [codeX_loop (l := a_limbs_long_l1) rfl]
    simp -implicitDefEqProofs (disch := omega) [a_limbs_long_b1]
    done
  | succ j ih =>
    intro us qs hk hu hq gu gq hlt hz
    have hn : j + vs.length < us.length := by omega
    have pj := pw_pos j
    have vb := nv_bounds hv
    have hlt2 : nv us < pw (j + 1 + vs.length) := by
      rw [Nat.add_comm, pw_add]
      have := Int.mul_le_mul_of_nonneg_left (Int.le_of_lt vb.2) (Int.le_of_lt (pw_pos (j + 1)))
      rw [Int.mul_comm (pw vs.length)]
      omega
    have zz := nth_zero_of gu hlt2
    have f1b := hv.nth (vs.length - 1)
    have f2b := hv.nth (vs.length - 2)
    have u0b := gu.nth (j + vs.length)
    have u1b := gu.nth (j + vs.length - 1)
    have u2b := gu.nth (j + vs.length - 2)
    have hVd : nv vs = nv (vs.take (vs.length - 2)) + pw (vs.length - 2) * (nth vs (vs.length - 1) * 4294967296 + nth vs (vs.length - 2)) := by
      rw [nv_take_drop (xs := vs) (j := vs.length - 2) (by omega), drop_nth (by omega), show vs.length - 2 + 1 = vs.length - 1 by omega, drop_nth (by omega), show vs.length - 1 + 1 = vs.length by omega, List.drop_length]
      simp only [nv]
      rw [Int.mul_zero, Int.add_zero, Int.add_comm (nth vs (vs.length - 2)), Int.mul_comm 4294967296]
    have vl := nv_bounds (hv.take (vs.length - 2))
    rw [List.length_take, Nat.min_eq_left (by omega)] at vl
    have hWd : nv (us.drop j) = nv ((us.drop j).take (vs.length - 2)) + pw (vs.length - 2) * ((nth us (j + vs.length) * 4294967296 + nth us (j + vs.length - 1)) * 4294967296 + nth us (j + vs.length - 2)) := by
      rw [nv_take_drop (xs := us.drop j) (j := vs.length - 2) (by simp; omega), List.drop_drop, show j + (vs.length - 2) = j + vs.length - 2 by omega, drop_nth (xs := us) (i := j + vs.length - 2) (by omega), show j + vs.length - 2 + 1 = j + vs.length - 1 by omega, drop_nth (xs := us) (i := j + vs.length - 1) (by omega), show j + vs.length - 1 + 1 = j + vs.length by omega, drop_nth (xs := us) (i := j + vs.length) (by omega)]
      have e : nv (us.drop (j + vs.length + 1)) = 0 := nv_zero (fun i => by rw [nth_drop]; exact zz _ (by omega))
      simp only [nv, e]
      rw [Int.mul_zero, Int.add_zero]
      congr 2
      omega
    have wl := nv_bounds ((gu.drop j).take (vs.length - 2))
    rw [List.length_take, Nat.min_eq_left (by simp; omega)] at wl
    have hUd := nv_take_drop (xs := us) (j := j) (by omega)
    have ul := nv_bounds (gu.take j)
    rw [List.length_take, Nat.min_eq_left (by omega)] at ul
    have hWB : nv (us.drop j) < 4294967296 * nv vs := by
      have : pw j * nv (us.drop j) < pw j * (4294967296 * nv vs) := by
        rw [pw_succ, Int.mul_comm 4294967296, Int.mul_assoc] at hlt
        omega
      exact Int.lt_of_mul_lt_mul_left this (by omega)
    generalize hf1 : nth vs (vs.length - 1) = f1 at *
    generalize hf2 : nth vs (vs.length - 2) = f2 at *
    have hb := pw_pos (vs.length - 2)
    generalize hBn : pw (vs.length - 2) = Bn at *
    have htop : 0 ≤ nth us (j + vs.length) * 4294967296 + nth us (j + vs.length - 1) ∧ nth us (j + vs.length) * 4294967296 + nth us (j + vs.length - 1) < 18446744073709551616 := by omega
    have hor := or64 u0b.1 u1b u0b.2
    generalize htp : nth us (j + vs.length) * 4294967296 + nth us (j + vs.length - 1) = top at *
    obtain ⟨k1, k2, k3, k4⟩ := guess_facts (Vv := nv vs) (W := nv (us.drop j)) hb hf f2b u2b htop.1 (by rw [hVd, Int.mul_comm]; omega) (by rw [hVd, Int.add_mul, Int.one_mul, Int.mul_comm Bn]; omega) (by rw [hWd, Int.mul_comm]; omega) (by rw [hWd, Int.add_mul _ 1, Int.one_mul, Int.mul_comm Bn]; omega) hWB
    have t1 := Int.mul_ediv_add_emod top f1
    rw [Int.mul_comm] at t1
    have t2 : 0 ≤ top / f1 := Int.ediv_nonneg htop.1 (by omega)
    have t3 : top / f1 ≤ top := Int.ediv_le_self _ htop.1
    have t4 := Int.emod_nonneg top (show f1 ≠ 0 by omega)
    have t5 := Int.emod_lt_of_pos top (show 0 < f1 by omega)
    obtain ⟨g, l1, g0, g1, g2, g3⟩ := guess_loop us qs vs s j (W := nv (us.drop j)) (Vv := nv vs) (by omega) hn hv2 (by omega) gu ⟨hf, f1b.2⟩ f2b htop k1 k2 k3 _ (top / f1) (top % f1) rfl t1 t2 (by omega) t4 (by omega) k4
    have hV0 : 0 < nv vs := by
      have : 0 < Bn * (f1 * 4294967296 + f2) := Int.mul_pos hb (by omega)
      omega
    obtain ⟨us2, l2, hu2, gu2, hnu⟩ := take_spec (us := us) (j := j) (by omega) hn hv gu ⟨g0, g1⟩ (fun i hi => zz i (by omega)) hV0 g2 g3
    have q0 : 0 ≤ nv (us.drop j) / nv vs := Int.ediv_nonneg (nv_bounds (gu.drop j)).1 (by omega)
    have q1 : nv (us.drop j) / nv vs < 4294967296 := Int.ediv_lt_of_lt_mul hV0 hWB
    have d1 := Int.mul_ediv_add_emod (nv (us.drop j)) (nv vs)
    have d2 := Int.emod_lt_of_pos (nv (us.drop j)) hV0
    have hlt3 : nv us2 < pw j * nv vs := by
      have e1 : pw j * (nv (us.drop j) - nv (us.drop j) / nv vs * nv vs) ≤ pw j * (nv vs - 1) := Int.mul_le_mul_of_nonneg_left (by rw [Int.mul_comm (nv (us.drop j) / nv vs)]; omega) (by omega)
      rw [Int.mul_sub, Int.mul_sub, Int.mul_one] at e1
      omega
    obtain ⟨us3, qs3, l3, h1, h2, h3, h4, h5, h6⟩ := ih us2 (qs.set j (nv (us.drop j) / nv vs)) (by omega) (by omega) (by simp [hq]) gu2 (good_set gq _ ⟨q0, q1⟩) hlt3 (fun i hi => by
      rw [nth_set (by omega), if_neg (by omega)]
      exact hz i (by omega))
    refine ⟨us3, qs3, ?_, by omega, h2, h3, h4, h5, ?_⟩
    · rw [codeX_loop (l := a_limbs_long_l1) rfl]
      rw [hu2] at l3
      rw [← l3]
      rw [hq] at l1
      generalize nv (us.drop j) / nv vs = Q at *
      have hsl : j + vs.length + 1 - j = vs.length + 1 := by omega
      have htk : (LV vs).take vs.length = LV vs := by rw [LV_take, List.take_length]
      have hvt : vs.take vs.length = vs := List.take_length
      simp -implicitDefEqProofs (disch := omega) [a_limbs_long_b1, hor, htp, l1, l2, hsl, htk, hvt]
      done
    · rw [← h6, nv_set (by omega), hz j (by omega), Int.sub_zero, hnu, Int.add_mul, Int.mul_assoc]
      omega
end Go.Rf

/- limbs: long division as told; DivMod. -/
namespace Go.Rf

theorem long_spec {as bs : List Int} (ha : Good as) (hb : Good bs) (hs : as.length + bs.length < 1099511627776) (h2 : 2 ≤ bs.length) (hab : bs.length ≤ as.length) (ht : nth bs (bs.length - 1) ≠ 0) :
    callE T0 X0 f_limbs_long [.d (.sl (L as)), .d (.sl (L bs))] [] = some (.ret [.d (.sl (L (limbs (nv as / nv bs)))), .d (.sl (L (limbs (nv as % nv bs))))] []) := by
  have tb := hb.nth (bs.length - 1)
  have s1 := lead_spec tb
  have b1 := blen_le (n := nth bs (bs.length - 1)) (k := 32) (by omega)
  have b3 := blen_spec (n := nth bs (bs.length - 1)) (by omega)
  have b2 : 1 ≤ blen (nth bs (bs.length - 1)) := by
    have := blen_nonneg (nth bs (bs.length - 1))
    by_cases h : blen (nth bs (bs.length - 1)) = 0
    · rw [h] at b3
      have : (2 : Int) ^ (0 : Int).toNat = 1 := rfl
      omega
    · omega
  obtain ⟨s, hs32⟩ : ∃ s : Nat, 32 - blen (nth bs (bs.length - 1)) = s := ⟨(32 - blen (nth bs (bs.length - 1))).toNat, by omega⟩
  rw [hs32] at s1
  have hlt : s < 32 := by omega
  have p0 := p2_pos s
  have p1 := p2_le hlt
  have ab := nv_bounds ha
  have hbtop : nv bs = nv (bs.take (bs.length - 1)) + pw (bs.length - 1) * nth bs (bs.length - 1) := by
    conv => lhs; rw [nv_take_drop (xs := bs) (j := bs.length - 1) (by omega), drop_nth (by omega), show bs.length - 1 + 1 = bs.length by omega, List.drop_length]
    simp only [nv]
    rw [Int.mul_zero, Int.add_zero]
  have lb := nv_bounds (hb.take (bs.length - 1))
  rw [List.length_take, Nat.min_eq_left (by omega)] at lb
  have pb := pw_pos (bs.length - 1)
  have hpl : pw bs.length = 4294967296 * pw (bs.length - 1) := by
    have := pw_succ (bs.length - 1)
    rwa [show bs.length - 1 + 1 = bs.length by omega] at this
  have hPP : (2 : Int) ^ (blen (nth bs (bs.length - 1))).toNat * 2 ^ s = 4294967296 := by
    rw [← Int.pow_add, show (blen (nth bs (bs.length - 1))).toNat + s = 32 by omega]; rfl
  have hub : nv bs * 2 ^ s < pw bs.length := by
    have e1 : pw (bs.length - 1) * (nth bs (bs.length - 1) + 1) ≤ pw (bs.length - 1) * 2 ^ (blen (nth bs (bs.length - 1))).toNat := Int.mul_le_mul_of_nonneg_left (by omega) (by omega)
    rw [Int.mul_add, Int.mul_one] at e1
    have e2 : nv bs < pw (bs.length - 1) * 2 ^ (blen (nth bs (bs.length - 1))).toNat := by omega
    have e3 := Int.mul_lt_mul_of_pos_right e2 p0
    rw [Int.mul_assoc, hPP] at e3
    omega
  have hbl : pw (bs.length - 1) ≤ nv bs := by
    have : pw (bs.length - 1) * 1 ≤ pw (bs.length - 1) * nth bs (bs.length - 1) := Int.mul_le_mul_of_nonneg_left (by omega) (by omega)
    omega
  have hua : nv as * 2 ^ s < pw (as.length + 1) := by
    have e := Int.mul_lt_mul_of_pos_right ab.2 p0
    have e2 : pw as.length * 2 ^ s ≤ pw as.length * 2147483648 := Int.mul_le_mul_of_nonneg_left p1 (Int.le_of_lt (pw_pos _))
    have e3 := pw_pos as.length
    rw [pw_succ]
    omega
  obtain ⟨us, m1, lu, gu, vu⟩ := moved_spec (as := as) (s := s) (n := as.length + 1) hlt (by omega) ha (by omega) hua
  obtain ⟨vs, m2, lv, gv, vv⟩ := moved_spec (as := bs) (s := s) (n := bs.length) hlt (by omega) hb (Nat.le_refl _) hub
  have vlow : nv bs ≤ nv vs := by
    rw [vv]
    have : nv bs * 1 ≤ nv bs * 2 ^ s := Int.mul_le_mul_of_nonneg_left (by omega) (by omega)
    omega
  have f1 : 1 ≤ nth vs (vs.length - 1) := by
    have b := gv.nth (vs.length - 1)
    by_cases h : nth vs (vs.length - 1) = 0
    · exfalso
      have := nv_lt_pw gv (k := vs.length - 1) (fun i hi => by
        by_cases e : i = vs.length - 1
        · rw [e]; exact h
        · exact nth_out (by omega))
      rw [lv] at this
      omega
    · omega
  obtain ⟨us2, qs, l1, lu2, lq, gu2, gq, hlt2, hval⟩ := long_loop vs s (as.length + 1 - bs.length) gv (by omega) f1 (by omega) (as.length + 1 - bs.length) us (List.replicate (as.length + 1 - bs.length) 0) (Nat.le_refl _) (by omega) (by simp) gu (good_rep _) (by
      rw [vu]
      have e1 := Int.mul_lt_mul_of_pos_right ab.2 p0
      have e2 : pw (as.length + 1 - bs.length) * (pw (bs.length - 1) * 2 ^ s) ≤ pw (as.length + 1 - bs.length) * nv vs := Int.mul_le_mul_of_nonneg_left (by rw [vv]; exact Int.mul_le_mul_of_nonneg_right hbl (by omega)) (Int.le_of_lt (pw_pos _))
      rw [← Int.mul_assoc, ← pw_add, show as.length + 1 - bs.length + (bs.length - 1) = as.length by omega] at e2
      omega) (fun i _ => by simp [nth, List.getD_eq_getElem?_getD, List.getElem?_replicate]; split <;> rfl)
  have z0 : nv (List.replicate (as.length + 1 - bs.length) 0) = 0 := nv_zero (fun i => by simp [nth, List.getD_eq_getElem?_getD, List.getElem?_replicate]; split <;> rfl)
  rw [z0, Int.zero_mul, Int.add_zero] at hval
  have b0 : 0 ≤ nv us2 := (nv_bounds gu2).1
  have hVp : 0 < nv vs := by omega
  have q1 : nv as * 2 ^ s / nv vs = nv qs := by
    rw [← vu, hval, Int.add_mul_ediv_right _ _ (by omega), Int.ediv_eq_zero_of_lt b0 hlt2, Int.zero_add]
  have r1 : nv as * 2 ^ s % nv vs = nv us2 := by
    rw [← vu, hval, Int.add_mul_emod_self_right, Int.emod_eq_of_lt b0 hlt2]
  have q2 : nv as / nv bs = nv qs := by rw [← q1, vv, Int.mul_ediv_mul_of_pos_left _ _ p0]
  have r2 : nv us2 / 2 ^ s = nv as % nv bs := by
    rw [← r1, vv, Int.mul_comm _ (2 ^ s), Int.mul_comm (nv bs), Int.mul_emod_mul_of_pos _ _ p0, Int.mul_ediv_cancel_left _ (by omega)]
  have hlow : nv (us2.take vs.length) = nv us2 := by
    have hz := nth_zero_of gu2 (k := vs.length) (Int.lt_trans hlt2 (nv_bounds gv).2)
    have e := nv_take_drop (xs := us2) (j := vs.length) (by omega)
    rw [nv_zero (l := us2.drop vs.length) (fun i => by rw [nth_drop]; exact hz _ (by omega)), Int.mul_zero, Int.add_zero] at e
    exact e.symm
  have s3 := right_spec (xs := us2.take vs.length) (s := s) hlt (by simp; omega) (gu2.take _)
  rw [hlow, r2] at s3
  have s4 := short_spec gq (by omega)
  rw [q2]
  rw [callX_fun (af := a_limbs_long) rfl rfl rfl]
  rw [lu, lv] at l1
  rw [lv] at s3
  have hm : as.length + 1 - bs.length + bs.length = as.length + 1 := by omega
  have hqt : qs.take (as.length + 1 - bs.length) = qs := List.take_of_length_le (by omega)
  have hc : ((as.length : Int) + 1 - (bs.length : Int)) = ((as.length + 1 - bs.length : Nat) : Int) := by omega
  have htn : ((as.length : Int) + 1 - (bs.length : Int)).toNat = as.length + 1 - bs.length := by omega
  simp only [Int.natCast_add, Int.cast_ofNat_Int] at m1
  have f1b := gv.nth (vs.length - 1)
  have f2b := gv.nth (vs.length - 2)
  rw [lv] at f1b f2b
  generalize hM : as.length + 1 - bs.length = M at *
  simp -implicitDefEqProofs (disch := omega) [a_limbs_long, s1, m1, m2, hc, l1, s3, s4, hqt]
  done
end Go.Rf

/- limbs.DivMod; whole.DivMod. -/
namespace Go.Rf

theorem divmod_spec {xs ys : List Int} (hx : Good xs) (hy : Good ys) (hs : xs.length + ys.length < 1073741824) :
    callE T0 X0 f_limbs_DivMod [.d (.sl (L xs)), .d (.sl (L ys))] [] = some (.ret (if nv ys = 0 then [.d (.sl []), .d (.sl []), .d (.bool false)] else [.d (.sl (L (limbs (nv xs / nv ys)))), .d (.sl (L (limbs (nv xs % nv ys)))), .d (.bool true)]) []) := by
  rw [callX_fun (af := a_limbs_DivMod) rfl rfl rfl]
  have s1 := short_spec hx (by omega)
  have s2 := short_spec hy (by omega)
  have h1 := limbs_nv (nv_bounds hx).1
  have h2 := limbs_nv (nv_bounds hy).1
  have l1 : (limbs (nv xs)).length ≤ xs.length := limbs_len (nv_bounds hx).1 (nv_bounds hx).2
  have l2 : (limbs (nv ys)).length ≤ ys.length := limbs_len (nv_bounds hy).1 (nv_bounds hy).2
  have g1 := limbs_good (nv xs)
  have g2 := limbs_good (nv ys)
  have c1 := limbs_can (nv xs)
  have c2 := limbs_can (nv ys)
  generalize limbs (nv xs) = as at *
  generalize limbs (nv ys) = bs at *
  rw [← h1, ← h2]
  have n1 := nv_bounds g1
  have n2 := nv_bounds g2
  by_cases h0 : nv bs = 0
  · have e : bs = [] := by
      rcases c2 with h | h
      · exact h
      · have := pw_pos (bs.length - 1)
        omega
    subst e
    rw [if_pos (show nv [] = 0 from rfl)]
    simp -implicitDefEqProofs (disch := omega) [a_limbs_DivMod, s1, s2]
    done
  · rw [if_neg h0]
    have hbl : bs.length ≠ 0 := fun h => h0 (by rw [List.length_eq_zero_iff.1 h]; rfl)
    have s3 := cmp_spec g1 g2 (by omega) (by omega)
    by_cases hlt : nv as < nv bs
    · have e1 : nv as / nv bs = 0 := Int.ediv_eq_zero_of_lt n1.1 hlt
      have e2 : nv as % nv bs = nv as := Int.emod_eq_of_lt n1.1 hlt
      have s4 := trim_spec g1 (by omega)
      rw [e1, e2]
      unfold cmp at s3
      rw [if_pos hlt] at s3
      simp -implicitDefEqProofs (disch := omega) [-List.length_eq_zero_iff, a_limbs_DivMod, s1, s2, s3, s4]
      done
    · have h3 : ¬ cmp (nv as) (nv bs) < 0 := by
        unfold cmp
        rw [if_neg hlt]
        split <;> omega
      by_cases hl1 : bs.length = 1
      · obtain ⟨y, rfl⟩ := List.length_eq_one_iff.1 hl1
        have hy0 : nv [y] = y := by simp [nv]
        have gy := (good_cons.1 g2).1
        rw [hy0] at h0 h3 s3 ⊢
        have s4 := byLimb_spec (b := y) g1 (by omega) (by omega)
        have m0 := Int.emod_nonneg (nv as) h0
        have m1 := Int.emod_lt_of_pos (nv as) (show 0 < y by omega)
        have s5 := small_spec (n := nv as % y) (by omega)
        simp only [L_cons, L_nil] at s2 s3
        have hw : wl [D.int .u32 y] ≤ lots := by
          have := wl_L [y]
          simp only [L_cons, L_nil] at this
          unfold lots; omega
        simp -implicitDefEqProofs (disch := omega) [a_limbs_DivMod, s1, s2, s3, s4, s5, h3, hw]
        done
      · have hbl2 : bs.length ≤ as.length := by
          by_cases h : bs.length ≤ as.length
          · exact h
          · have := len_lt_nv g1 c2 (show as.length < bs.length by omega)
            omega
        have htop : nth bs (bs.length - 1) ≠ 0 := fun h => by
          rcases c2 with c | c
          · exact hbl (by rw [c]; rfl)
          · have := nv_lt_pw g2 (k := bs.length - 1) (fun i hi => by
              by_cases e : i = bs.length - 1
              · rw [e]; exact h
              · exact nth_out (by omega))
            omega
        have s4 := long_spec g1 g2 (by omega) (by omega) hbl2 htop
        simp -implicitDefEqProofs (disch := omega) [-List.length_eq_zero_iff, a_limbs_DivMod, s1, s2, s3, s4, h3]
        done

theorem ediv_of {m n q r : Int} (hn : n ≠ 0) (h : m = q * n + r) (h0 : 0 ≤ r) (h1 : r < n.natAbs) : m / n = q ∧ m % n = r := by
  have e : m % n = r := by
    rw [h, Int.add_comm, Int.add_mul_emod_self_right]
    rcases Int.lt_or_gt_of_ne hn with hn | hn
    · rw [← Int.emod_neg]
      exact Int.emod_eq_of_lt h0 (by omega)
    · exact Int.emod_eq_of_lt h0 (by omega)
  refine ⟨?_, e⟩
  have d := Int.mul_ediv_add_emod m n
  rw [e] at d
  have : n * (m / n) = n * q := by rw [Int.mul_comm n q]; omega
  exact Int.eq_of_mul_eq_mul_left hn this

/-- The parts of a division, before the rest is made positive. -/
def q0 (m n : Int) : Int := sg (decide (m < 0) != decide (n < 0)) ((m.natAbs : Int) / n.natAbs)
def r0 (m n : Int) : Int := sg (decide (m < 0)) ((m.natAbs : Int) % n.natAbs)
theorem qr0 (m n : Int) (hn : n ≠ 0) : m = q0 m n * n + r0 m n ∧ (r0 m n).natAbs < n.natAbs ∧ (q0 m n).natAbs ≤ m.natAbs := by
  have d := Int.mul_ediv_add_emod (m.natAbs : Int) n.natAbs
  have m0 := Int.emod_nonneg (m.natAbs : Int) (show (n.natAbs : Int) ≠ 0 by omega)
  have m1 := Int.emod_lt_of_pos (m.natAbs : Int) (show 0 < (n.natAbs : Int) by omega)
  have q1 : (m.natAbs : Int) / n.natAbs ≤ m.natAbs := Int.ediv_le_self _ (by omega)
  have q2 : 0 ≤ (m.natAbs : Int) / n.natAbs := Int.ediv_nonneg (by omega) (by omega)
  unfold q0 r0 sg
  generalize (m.natAbs : Int) / n.natAbs = q at *
  generalize (m.natAbs : Int) % n.natAbs = r at *
  have e : (n.natAbs : Int) = if n < 0 then -n else n := by split <;> omega
  rw [e] at d
  by_cases hm : m < 0 <;> by_cases hn2 : n < 0 <;> simp only [hm, hn2, decide_true, decide_false, if_true, if_false, bne_self_eq_false, Bool.false_eq_true, Bool.true_bne, Bool.false_bne, Bool.not_false] at d ⊢ <;> refine ⟨?_, by omega, by omega⟩
  · rw [Int.neg_mul, Int.mul_comm] at d; omega
  · rw [Int.mul_comm] at d; rw [Int.neg_mul]; omega
  · rw [Int.neg_mul, Int.mul_comm] at d; rw [Int.neg_mul]; omega
  · rw [Int.mul_comm] at d; omega
section walk
variable {p pn : Bool} {as bs : List Int} {qa ra Q R : Int} (h1 : as.length < 268435456) (h2 : bs.length < 268435456) (h3 : (limbs qa).length < 536870912) (h4 : (limbs ra).length < 536870912) (h5 : (limbs Q.natAbs).length < 536870912) (h6 : (limbs R.natAbs).length < 536870912)
  (s1 : callE T0 X0 f_limbs_DivMod [.d (.sl (L as)), .d (.sl (L bs))] [] = some (.ret [.d (.sl (L (limbs qa))), .d (.sl (L (limbs ra))), .d (.bool true)] []))
  (s2 : callE T0 X0 f_whole_made [.d (.bool (!(p == pn))), .d (.sl (L (limbs qa)))] [] = some (.ret [.d (.agg [.bool (decide (Q < 0)), .sl (L (limbs Q.natAbs))])] []))
  (s3 : callE T0 X0 f_whole_made [.d (.bool p), .d (.sl (L (limbs ra)))] [] = some (.ret [.d (.agg [.bool (decide (R < 0)), .sl (L (limbs R.natAbs))])] []))
include h1 h2 h3 h4 h5 h6 s1 s2 s3
theorem dm_pos (hr : ¬ R < 0) : callE T0 X0 f_whole_DivMod [.d (.agg [.bool p, .sl (L as)]), .d (.agg [.bool pn, .sl (L bs)])] [] = some (.ret [.d (.agg [.bool (decide (Q < 0)), .sl (L (limbs Q.natAbs))]), .d (.agg [.bool (decide (R < 0)), .sl (L (limbs R.natAbs))]), .d (.bool true)] []) := by
  have _ := h5
  have _ := h6
  rw [callX_fun (af := a_whole_DivMod) rfl rfl rfl]
  simp -implicitDefEqProofs (disch := omega) [a_whole_DivMod, s1, s2, s3]
  done
variable {one l6 l9 : List Int} {b6 b9 : Bool} {sn : Int} (h7 : one.length < 536870912)
  (s4 : callE T0 X0 f_whole_Of [.d (.int .i64 1)] [] = some (.ret [.d (.agg [.bool false, .sl (L one)])] []))
  (s5 : callE T0 X0 f_whole_Sign [.d (.agg [.bool pn, .sl (L bs)])] [] = some (.ret [.d (.int .i64 sn)] []))
include h7 s4 s5
theorem dm_up (hr : R < 0) (hn : sn < 0)
  (s6 : callE T0 X0 f_whole_Add [.d (.agg [.bool (decide (Q < 0)), .sl (L (limbs Q.natAbs))]), .d (.agg [.bool false, .sl (L one)])] [] = some (.ret [.d (.agg [.bool b6, .sl (L l6)])] []))
  (s9 : callE T0 X0 f_whole_Sub [.d (.agg [.bool true, .sl (L (limbs R.natAbs))]), .d (.agg [.bool pn, .sl (L bs)])] [] = some (.ret [.d (.agg [.bool b9, .sl (L l9)])] [])) :
  callE T0 X0 f_whole_DivMod [.d (.agg [.bool p, .sl (L as)]), .d (.agg [.bool pn, .sl (L bs)])] [] = some (.ret [.d (.agg [.bool b6, .sl (L l6)]), .d (.agg [.bool b9, .sl (L l9)]), .d (.bool true)] []) := by
  rw [callX_fun (af := a_whole_DivMod) rfl rfl rfl]
  simp -implicitDefEqProofs (disch := omega) [a_whole_DivMod, s1, s2, s3, s4, s5, s6, s9]
  done
theorem dm_dn (hr : R < 0) (hn : ¬ sn < 0)
  (s6 : callE T0 X0 f_whole_Sub [.d (.agg [.bool (decide (Q < 0)), .sl (L (limbs Q.natAbs))]), .d (.agg [.bool false, .sl (L one)])] [] = some (.ret [.d (.agg [.bool b6, .sl (L l6)])] []))
  (s9 : callE T0 X0 f_whole_Add [.d (.agg [.bool true, .sl (L (limbs R.natAbs))]), .d (.agg [.bool pn, .sl (L bs)])] [] = some (.ret [.d (.agg [.bool b9, .sl (L l9)])] [])) :
  callE T0 X0 f_whole_DivMod [.d (.agg [.bool p, .sl (L as)]), .d (.agg [.bool pn, .sl (L bs)])] [] = some (.ret [.d (.agg [.bool b6, .sl (L l6)]), .d (.agg [.bool b9, .sl (L l9)]), .d (.bool true)] []) := by
  rw [callX_fun (af := a_whole_DivMod) rfl rfl rfl]
  simp -implicitDefEqProofs (disch := omega) [a_whole_DivMod, s1, s2, s3, s4, s5, s6, s9]
  done
end walk

theorem wdivmod_W {m n : Int} (hm : nl m < 268435456) (hn : nl n < 268435456) :
    callE T0 X0 f_whole_DivMod [.d (Wd m), .d (Wd n)] [] = some (.ret (if n = 0 then [.d (Wd 0), .d (Wd 0), .d (.bool false)] else [.d (Wd (m / n)), .d (Wd (m % n)), .d (.bool true)]) []) := by
  have s1 := divmod_spec (limbs_good m.natAbs) (limbs_good n.natAbs) (by unfold nl at hm hn; omega)
  rw [nv_abs, nv_abs] at s1
  by_cases h0 : n = 0
  · subst h0
    rw [callX_fun (af := a_whole_DivMod) rfl rfl rfl]
    rw [if_pos (show ((Int.natAbs 0 : Nat) : Int) = 0 from rfl)] at s1
    rw [if_pos rfl]
    simp only [nl] at hm
    simp only [Wd, Int.natAbs_zero, Int.cast_ofNat_Int, limbs_zero, L_nil] at s1 ⊢
    simp -implicitDefEqProofs (disch := omega) [a_whole_DivMod, s1]
    done
  · rw [if_neg h0]
    rw [if_neg (by omega)] at s1
    obtain ⟨e1, e2, e3⟩ := qr0 m n h0
    have lm := lt_nl m
    have ln := lt_nl n
    have nq : nl (q0 m n) ≤ nl m := nl_lt (by omega) (by omega)
    have nr : nl (r0 m n) ≤ nl n := nl_lt (by omega) (by omega)
    have hq0 : 0 ≤ (m.natAbs : Int) / n.natAbs := Int.ediv_nonneg (by omega) (by omega)
    have hr0 := Int.emod_nonneg (m.natAbs : Int) (show (n.natAbs : Int) ≠ 0 by omega)
    have k1 : (limbs ((m.natAbs : Int) / n.natAbs)).length ≤ nl m := limbs_len hq0 (by have := Int.ediv_le_self (a := (m.natAbs : Int)) (n.natAbs : Int) (by omega); omega)
    have k2 : (limbs ((m.natAbs : Int) % n.natAbs)).length ≤ nl n := limbs_len hr0 (by have := Int.emod_lt_of_pos (m.natAbs : Int) (show 0 < (n.natAbs : Int) by omega); omega)
    have s2 := made_spec (decide (m < 0) != decide (n < 0)) hq0 (by omega)
    have s3 := made_spec (decide (m < 0)) hr0 (by omega)
    change _ = some (CRes.ret [.d (Wd (q0 m n))] []) at s2
    change _ = some (CRes.ret [.d (Wd (r0 m n))] []) at s3
    have s4 := wof_spec (n := 1) (by omega)
    have s5 := wsign_W (m := n) (by omega)
    by_cases hr : r0 m n < 0
    · have hrd : decide (r0 m n < 0) = true := decide_eq_true hr
      by_cases hneg : n < 0
      · obtain ⟨d1, d2⟩ := ediv_of (m := m) (n := n) (q := q0 m n + 1) (r := r0 m n - n) h0 (by rw [Int.add_mul, Int.one_mul]; omega) (by omega) (by omega)
        rw [d1, d2]
        have s6 := wadd_W (m := q0 m n) (n := 1) (by omega) (by decide)
        have s9 := wsub_W (m := r0 m n) (n := n) (by omega) (by omega)
        have hsg : n.sign < 0 := by rw [Int.sign_eq_neg_one_of_neg hneg]; decide
        unfold Wd at s9
        rw [hrd] at s9
        exact dm_up (by unfold nl at hm; omega) (by unfold nl at hn; omega) (by omega) (by omega) (by unfold nl at nq hm; omega) (by unfold nl at nr hn; omega) s1 s2 s3 (by decide) s4 s5 hr hsg s6 s9
      · obtain ⟨d1, d2⟩ := ediv_of (m := m) (n := n) (q := q0 m n - 1) (r := r0 m n + n) h0 (by rw [Int.sub_mul, Int.one_mul]; omega) (by omega) (by omega)
        rw [d1, d2]
        have s6 := wsub_W (m := q0 m n) (n := 1) (by omega) (by decide)
        have s9 := wadd_W (m := r0 m n) (n := n) (by omega) (by omega)
        have hsg : ¬ n.sign < 0 := by rw [Int.sign_eq_one_of_pos (by omega)]; decide
        unfold Wd at s9
        rw [hrd] at s9
        exact dm_dn (by unfold nl at hm; omega) (by unfold nl at hn; omega) (by omega) (by omega) (by unfold nl at nq hm; omega) (by unfold nl at nr hn; omega) s1 s2 s3 (by decide) s4 s5 hr hsg s6 s9
    · obtain ⟨d1, d2⟩ := ediv_of (q := q0 m n) (r := r0 m n) h0 e1 (by omega) (by omega)
      rw [d1, d2]
      exact dm_pos (by unfold nl at hm; omega) (by unfold nl at hn; omega) (by omega) (by omega) (by unfold nl at nq hm; omega) (by unfold nl at nr hn; omega) s1 s2 s3 hr
end Go.Rf

/- Whole numbers in a row; guard.times. -/
namespace Go.Rf

def WL (l : List Int) : List D := l.map Wd
def WV (l : List Int) : List V := l.map fun n => .d (Wd n)
@[simp] theorem WL_len (l) : (WL l).length = l.length := by simp [WL]
@[simp] theorem WV_len (l) : (WV l).length = l.length := by simp [WV]
@[simp] theorem WV_nil : WV [] = [] := rfl
@[simp] theorem WV_take (l n) : (WV l).take n = WV (l.take n) := by simp [WV, List.map_take]
@[simp] theorem WL_take (l n) : (WL l).take n = WL (l.take n) := by simp [WL, List.map_take]
@[simp] theorem WV_app1 (l : List Int) (n : Int) : WV l ++ [.d (Wd n)] = WV (l ++ [n]) := by simp [WV]
@[simp] theorem WV_set (l : List Int) (i : Nat) (n : Int) : (WV l).set i (.d (Wd n)) = WV (l.set i n) := by simp [WV, List.map_set]
@[simp] theorem WV_rep (n : Nat) (y : Int) : List.replicate n (V.d (Wd y)) = WV (List.replicate n y) := by simp [WV]
theorem Wd_0 : Wd 0 = .agg [.bool false, .sl []] := rfl
@[simp] theorem Wd_0' : V.d (.agg [.bool false, .sl []]) = V.d (Wd 0) := rfl
@[simp] theorem WV_rep0 (n : Nat) : List.replicate n (V.d (.agg [.bool false, .sl []])) = WV (List.replicate n 0) := WV_rep n 0
@[simp] theorem WL_map (l) : (WL l).map V.d = WV l := by simp [WL, WV, Function.comp_def]
@[simp] theorem allD_WV (l) : allD (WV l) = some (WL l) := by rw [← WL_map]; exact allD_map _
@[simp] theorem rens_WV (al : Loc → Bool) (l : List Int) (m : List Loc) : rens al (WV l) m = (WV l, m) := by rw [← WL_map]; exact rens_map ..
@[simp] theorem mapLs_WV (f : Loc → Loc) (l : List Int) : mapLs f (WV l) = WV l := by
  induction l with
  | nil => rfl
  | cons x xs ih =>
    show V.mapL f (.d _) :: mapLs f (WV xs) = _
    rw [ih]
    rfl
@[simp] theorem frzL_WV (h : Loc → Option Obj) (k : Nat) (l : List Int) : frzL (frz h (k + 1)) (WV l) = some (WL l, []) := by
  induction l with
  | nil => rfl
  | cons x xs ih =>
    show frzL (frz h (k + 1)) (.d _ :: WV xs) = _
    simp only [frzL, ih]
    rfl
theorem wl_WL (l : List Int) : wl (WL l) ≤ 32 := by
  induction l with
  | nil => simp [WL, wl]
  | cons x xs ih =>
    show max (wt (Wd x)) (wl (WL xs)) ≤ 32
    have : wt (Wd x) = 25 := rfl
    omega
@[simp] theorem wl_WL32 (l) : (wl (WL l) ≤ 32) = True := eq_true (wl_WL l)
@[simp] theorem fit_WL {n : Nat} {l : List Int} (h : n ≤ 1099511627) : (n * wl (WL l) ≤ lots) = True := eq_true (Nat.le_trans (Nat.mul_le_mul h (wl_WL l)) (by unfold lots; omega))
@[simp] theorem WV_cells (l) : (∀ x ∈ WV l, x.cells.length = 2) = True := eq_true (by
  intro x hx
  obtain ⟨n, _, rfl⟩ := List.mem_map.1 hx
  rfl)
@[simp] theorem WL_cells (l) : (∀ x ∈ WL l, x.cells.length = 2) = True := eq_true (by
  intro x hx
  obtain ⟨n, _, rfl⟩ := List.mem_map.1 hx
  rfl)
theorem WL_get {l : List Int} {i : Nat} (h : i < l.length) : (WL l)[i]? = some (Wd (nth l i)) := by simp [WL, nth, h]
theorem WV_get {l : List Int} {i : Nat} (h : i < l.length) : (WV l)[i]? = some (.d (Wd (nth l i))) := by simp [WV, nth, h]
attribute [simp] WL_get WV_get
@[simp] theorem cells_Wd (n : Int) : (Wd n).cells.length = 2 := rfl
@[simp] theorem vcells_Wd (n : Int) : (V.cells (.d (Wd n))).length = 2 := rfl
@[simp] theorem aggO_Wd (n) : aggO (List.take 2 (V.d (Wd n)).cells) (allD (List.take 2 (V.d (Wd n)).cells)) = .d (Wd n) := rfl
@[simp] theorem take2_Wd (n) : List.take 2 (V.d (Wd n)).cells = (V.d (Wd n)).cells := rfl
@[simp] theorem aggO_Wd' (n) : aggO (V.d (Wd n)).cells (allD (V.d (Wd n)).cells) = .d (Wd n) := rfl
theorem fitV_Wd {n : Int} (h : nl n < 1099511627776) : fitV (.d (Wd n)) = true := by
  have : wl (L (limbs n.natAbs)) ≤ 4 := wl_L _
  have h2 : (limbs n.natAbs).length * wl (L (limbs n.natAbs)) ≤ 1099511627776 * 4 := Nat.mul_le_mul (Nat.le_of_lt h) this
  simp [Wd, fitV, fitC]
  unfold lots; omega
attribute [simp] fitV_Wd
@[simp] theorem nl_0 : nl 0 = 0 := rfl
@[simp] theorem nl_1 : nl 1 = 1 := rfl
@[simp] theorem nl_m1 : nl (-1) = 1 := rfl
@[simp] theorem fitV_Wd0 : fitV (.d (Wd 0)) = true := rfl
@[simp] theorem fitV_Wd1 : fitV (.d (Wd 1)) = true := rfl
@[simp] theorem fitV_Wdm1 : fitV (.d (Wd (-1))) = true := rfl
@[simp] theorem loadV_Wd (h n) : loadV h 2 true (.d (.box (Wd n))) = val (.d (Wd n)) := by simp [Wd]
@[simp] theorem setPart_Wd (x n : Int) : setPart (.d (Wd x)) 0 (.d (Wd n)) = some (.d (Wd n)) := by simp [Wd, setPart]

theorem times_loop (k : Int) (f : List Int) (hf : f.length ≤ 1000) (hk : nl k < 1073741824) (hb : ∀ i, i < f.length → nl (nth f i) < 1073741824) : ∀ d i (out : List Int) (e : List (Nat × V)), d + i = f.length → out.length = i →
    codeX T0 X0 0 a_guard_times_l0 (some (.nrm, ⟨(3, .ptr (.b 0) 0 0) :: (5, .ref (.b 1) ⟨2, 32⟩ 0 i) :: (8, .d (.sl (WL f))) :: (9, .d (.int .i64 f.length)) :: (10, .d (.int .i64 i)) :: e, [.arr [.d (Wd k)] ⟨2, 0⟩, .arr (WV out) ⟨2, 32⟩]⟩)) =
      some (.exit 0, ⟨[(5, .ref (.b 0) ⟨2, 32⟩ 0 f.length)], [.arr (WV (out ++ (f.map (· * k)).drop i)) ⟨2, 32⟩]⟩) := by
  intro d
  induction d with
  | zero =>
    intro i out e hd ho
    rw [codeX_loop (l := a_guard_times_l0) rfl]
    have h1 : (f.map (· * k)).drop i = [] := List.drop_eq_nil_of_le (by simp; omega)
    have h2 : i = f.length := by omega
    subst h2
    have h3 : (f.map (· * k)).drop f.length = [] := h1
    simp -implicitDefEqProofs (disch := omega) [a_guard_times_b0, h3]
    done
  | succ d ih =>
    intro i out e hd ho
    rw [codeX_loop (l := a_guard_times_l0) rfl]
    have hi : i < f.length := by omega
    have h1 : (f.map (· * k)).drop i = (nth f i * k) :: (f.map (· * k)).drop (i + 1) := by rw [List.drop_eq_getElem_cons (by simpa using hi)]; simp [nth, hi]
    have hbi := hb i hi
    have s1 := wmul_W (m := nth f i) (n := k) (hb i hi) hk
    have s2 := fun e => ih (i + 1) (out ++ [nth f i * k]) e (by omega) (by simp [ho])
    have ht : out.take i = out := by rw [← ho]; exact List.take_length
    simp only [Int.natCast_add, Int.cast_ofNat_Int] at s2
    rw [h1]
    simp -implicitDefEqProofs (disch := omega) [a_guard_times_b0, s1, s2, ht]
    done
theorem times_spec {k : Int} {f : List Int} (hf : f.length ≤ 1000) (hk : nl k < 1073741824) (hb : ∀ i, i < f.length → nl (nth f i) < 1073741824) :
    callE T0 X0 f_guard_times [.d (.sl (WL f)), .d (Wd k)] [] = some (.ret [.d (.sl (WL (f.map (· * k))))] []) := by
  rw [callX_fun (af := a_guard_times) rfl rfl rfl]
  have h := fun e => times_loop k f hf hk hb f.length 0 [] e rfl rfl
  simp only [Int.cast_ofNat_Int, List.length_nil, WV_nil, List.nil_append, List.drop_zero] at h
  have ht : (f.map (· * k)).take f.length = f.map (· * k) := by rw [List.take_of_length_le]; simp
  simp -implicitDefEqProofs (disch := omega) [a_guard_times, h, ht]
  done

theorem constant_loop (f g : List Int) (n : Nat) (hf : n ≤ 1000) (hb : ∀ i, i < n → nl (nth g i) < 1073741824) (hn : g.length = n) : ∀ d i (e : List (Nat × V)), d + i = n →
    codeX T0 X0 0 a_guard_constant_l0 (some (.nrm, ⟨(0, .d (.sl (WL f))) :: (2, .ptr (.b 0) 0 0) :: (4, .d (.int .i64 n)) :: (12, .d (.sl (WL g))) :: (13, .d (.int .i64 n)) :: (14, .d (.int .i64 i)) :: e, [.arr [.d (Wd 0)] ⟨2, 0⟩]⟩)) =
      some (if g.drop i = List.replicate d 0 then (.exit 0, ⟨[(0, .d (.sl (WL f))), (2, .ptr (.b 0) 0 0), (4, .d (.int .i64 n))], [.arr [.d (Wd 0)] ⟨2, 0⟩]⟩) else (.ret, ⟨[(2, .ptr (.b 0) 0 0), (3, .d (.bool false))], [.arr [.d (Wd 0)] ⟨2, 0⟩]⟩)) := by
  intro d
  induction d with
  | zero =>
    intro i e hd
    rw [codeX_loop (l := a_guard_constant_l0) rfl]
    have h1 : g.drop i = [] := List.drop_eq_nil_of_le (by omega)
    rw [h1]
    simp only [List.replicate_zero, if_pos]
    simp -implicitDefEqProofs (disch := omega) [a_guard_constant_b0]
    done
  | succ d ih =>
    intro i e hd
    rw [codeX_loop (l := a_guard_constant_l0) rfl]
    have hi : i < n := by omega
    have h1 : g.drop i = nth g i :: g.drop (i + 1) := by rw [List.drop_eq_getElem_cons (by omega)]; simp [nth, hn ▸ hi]
    have s1 := wsign_W (m := nth g i) (hb i hi)
    have s2 := fun e => ih (i + 1) e (by omega)
    simp only [Int.natCast_add, Int.cast_ofNat_Int] at s2
    have hbi := hb i hi
    rw [h1]
    by_cases hz : nth g i = 0
    · simp only [hz, List.replicate_succ, List.cons.injEq, true_and, Int.sign_zero] at s1 ⊢
      simp -implicitDefEqProofs (disch := omega) [a_guard_constant_b0, hz, s1, s2]
      done
    · rw [if_neg (by simp [List.replicate_succ, hz])]
      have h2 : (nth g i).sign ≠ 0 := by simpa using hz
      simp -implicitDefEqProofs (disch := omega) [a_guard_constant_b0, s1, h2]
      done
def constV (f : List Int) : Int × Bool := if f.take (f.length - 1) = List.replicate (f.length - 1) 0 then (nth f (f.length - 1), true) else (0, false)
theorem constant_spec {f : List Int} (hf : f.length ≤ 1000) (h0 : 0 < f.length) (hb : ∀ i, i < f.length → nl (nth f i) < 1073741824) :
    callE T0 X0 f_guard_constant [.d (.sl (WL f))] [] = some (.ret [.d (Wd (constV f).1), .d (.bool (constV f).2)] []) := by
  obtain ⟨n, hn⟩ : ∃ n, f.length = n + 1 := ⟨f.length - 1, by omega⟩
  rw [callX_fun (af := a_guard_constant) rfl rfl rfl]
  have hg : ∀ i, i < n → nth (f.take n) i = nth f i := fun i hi => by simp [nth, hi]
  have h := fun e => constant_loop f (f.take n) n (by omega) (fun i hi => by rw [hg i hi]; exact hb i (by omega)) (by simp; omega) n 0 e (by omega)
  simp only [Int.cast_ofNat_Int, List.drop_zero] at h
  unfold constV
  rw [hn, Nat.add_sub_cancel]
  by_cases c : f.take n = List.replicate n 0
  · simp only [if_pos c] at h ⊢
    simp -implicitDefEqProofs (disch := omega) [a_guard_constant, h, hn]
    done
  · simp only [if_neg c] at h ⊢
    simp -implicitDefEqProofs (disch := omega) [a_guard_constant, h, hn]
    done
end Go.Rf

/- guard.both. -/
namespace Go.Rf

@[simp] theorem WL_nil : WL [] = [] := rfl
theorem both_loop (l r : List Int) (N : Nat) (hN : N ≤ 1000) (hl : l.length = N) (hr : r.length = N) (bl : ∀ i, i < N → nl (nth l i) < 1073741824) (br : ∀ i, i < N → nl (nth r i) < 1073741824) : ∀ d i (out : List Int) (e : List (Nat × V)), d + i = N → out.length = N →
    codeX T0 X0 0 a_guard_both_l0 (some (.nrm, ⟨(1, .d (.sl (WL l))) :: (2, .d (.sl (WL r))) :: (12, .ref (.b 0) ⟨2, 32⟩ 0 N) :: (41, .d (.int .i64 N)) :: (42, .d (.int .i64 i)) :: e, [.arr (WV out) ⟨2, 32⟩]⟩)) =
      some (.exit 1, ⟨[(12, .ref (.b 0) ⟨2, 32⟩ 0 N)], [.arr (WV (out.take i ++ (List.zipWith (· + ·) l r).drop i)) ⟨2, 32⟩]⟩) := by
  intro d
  induction d with
  | zero =>
    intro i out e hd ho
    rw [codeX_loop (l := a_guard_both_l0) rfl]
    have h1 : (List.zipWith (· + ·) l r).drop i = [] := List.drop_eq_nil_of_le (by simp; omega)
    have h2 : out.take i = out := List.take_of_length_le (by omega)
    rw [h1, h2]
    simp -implicitDefEqProofs (disch := omega) [a_guard_both_b0]
    done
  | succ d ih =>
    intro i out e hd ho
    rw [codeX_loop (l := a_guard_both_l0) rfl]
    have hi : i < N := by omega
    have h1 : (List.zipWith (· + ·) l r).drop i = (nth l i + nth r i) :: (List.zipWith (· + ·) l r).drop (i + 1) := by
      rw [List.drop_eq_getElem_cons (by simp; omega)]
      simp [nth, hl, hr, hi]
    have hbl := bl i hi
    have hbr := br i hi
    have s1 := wadd_W hbl hbr
    have s2 := fun e => ih (i + 1) (out.set i (nth l i + nth r i)) e (by omega) (by simp [ho])
    have h3 : (out.set i (nth l i + nth r i)).take (i + 1) = out.take i ++ [nth l i + nth r i] := by
      rw [take_succ_nth (by simp; omega), List.take_set_of_le (Nat.le_refl _), nth_set (by omega), if_pos rfl]
    rw [h1]
    rw [List.append_cons, ← h3]
    generalize nth l i + nth r i = x at *
    simp only [Int.natCast_add, Int.cast_ofNat_Int] at s2
    simp -implicitDefEqProofs (disch := omega) [a_guard_both_b0, s1, s2]
    done

def bothV (op : Int) (l r : List Int) : List Int × Bool :=
  if op = 43 then (List.zipWith (· + ·) l r, true)
  else if op = 45 then (List.zipWith (· + ·) l (r.map (· * -1)), true)
  else if op = 42 then (if (constV l).2 = true then (r.map (· * (constV l).1), true) else (l.map (· * (constV r).1), (constV r).2))
  else if (constV l).2 = true ∧ (constV r).2 = true ∧ (constV r).1 ≠ 0 then
    ((List.replicate l.length 0).set (l.length - 1) (if op = 37 then (constV l).1 % (constV r).1 else (constV l).1 / (constV r).1), true)
  else ([], false)
theorem constV_nl {f : List Int} {k : Nat} (hb : ∀ i, i < f.length → nl (nth f i) < k) (h0 : 0 < k) (h1 : 0 < f.length) : nl (constV f).1 < k := by
  unfold constV
  split
  · exact hb _ (by omega)
  · exact h0
theorem nth_map {f : List Int} (g : Int → Int) {i : Nat} (h : i < f.length) : nth (f.map g) i = g (nth f i) := by simp [nth, h]
theorem nl_neg (n : Int) : nl (-n) = nl n := by unfold nl; rw [Int.natAbs_neg]
theorem both_spec {op : Int} {l r : List Int} {N : Nat} (hN : N ≤ 1000) (h0 : 0 < N) (hl : l.length = N) (hr : r.length = N) (bl : ∀ i, i < N → nl (nth l i) < 134217728) (br : ∀ i, i < N → nl (nth r i) < 134217728) :
    callE T0 X0 f_guard_both [.d (.int .u8 op), .d (.sl (WL l)), .d (.sl (WL r))] [] = some (.ret [.d (.sl (WL (bothV op l r).1)), .d (.bool (bothV op l r).2)] []) := by
  subst hl
  have cl := constV_nl bl (by omega) h0
  have cr := constV_nl (f := r) (fun i hi => br i (by omega)) (by omega) (by omega)
  have s1 := constant_spec (f := l) hN h0 (fun i hi => by have := bl i hi; omega)
  have s2 := constant_spec (f := r) (by omega) (by omega) (fun i hi => by have := br i (by omega); omega)
  rw [callX_fun (af := a_guard_both) rfl rfl rfl]
  unfold bothV
  by_cases o1 : op = 43
  · rw [if_pos o1]
    have lp := fun e => both_loop l r l.length hN rfl hr (fun i hi => by have := bl i hi; omega) (fun i hi => by have := br i hi; omega) l.length 0 (List.replicate l.length 0) e (by omega) (by simp)
    simp only [Int.cast_ofNat_Int, List.drop_zero, List.take_zero, List.nil_append] at lp
    have ht : (List.zipWith (· + ·) l r).take l.length = List.zipWith (· + ·) l r := List.take_of_length_le (by simp; omega)
    subst o1
    simp -implicitDefEqProofs (disch := omega) [a_guard_both, s1, s2, lp, ht]
    done
  · rw [if_neg o1]
    by_cases o2 : op = 45
    · rw [if_pos o2]
      have s3 := times_spec (f := r) (k := -1) (by omega) (by decide) (fun i hi => by have := br i (by omega); omega)
      have s4 := wof_spec (n := -1) (by omega)
      have lp := fun e => both_loop l (r.map (· * -1)) l.length hN rfl (by simpa using hr) (fun i hi => by have := bl i hi; omega) (fun i hi => by
        rw [nth_map _ (by omega), Int.mul_neg, Int.mul_one, nl_neg]
        have := br i hi; omega) l.length 0 (List.replicate l.length 0) e (by omega) (by simp)
      simp only [Int.cast_ofNat_Int, List.drop_zero, List.take_zero, List.nil_append] at lp
      have ht : (List.zipWith (· + ·) l (r.map (· * -1))).take l.length = List.zipWith (· + ·) l (r.map (· * -1)) := List.take_of_length_le (by simp; omega)
      have hr' : (r.map (· * -1)).length = l.length := by simpa using hr
      generalize r.map (· * -1) = r' at *
      subst o2
      simp -implicitDefEqProofs (disch := omega) [a_guard_both, s1, s2, s3, s4, lp, ht]
      done
    · rw [if_neg o2]
      by_cases o3 : op = 42
      · rw [if_pos o3]
        subst o3
        cases hc : (constV l).2 with
        | true =>
          rw [hc] at s1
          rw [if_pos rfl]
          have s3 := times_spec (f := r) (k := (constV l).1) (by omega) (by omega) (fun i hi => by have := br i (by omega); omega)
          simp -implicitDefEqProofs (disch := omega) [a_guard_both, s1, s2, s3]
          done
        | false =>
          rw [hc] at s1
          rw [if_neg (by decide)]
          have s3 := times_spec (f := l) (k := (constV r).1) (by omega) (by omega) (fun i hi => by have := bl i (by omega); omega)
          simp -implicitDefEqProofs (disch := omega) [a_guard_both, s1, s2, s3]
          done
      · rw [if_neg o3]
        have s3 := wdivmod_W (m := (constV l).1) (n := (constV r).1) (by omega) (by omega)
        generalize hc1 : (constV l).2 = c1 at *
        generalize hc2 : (constV r).2 = c2 at *
        generalize hx : (constV l).1 = x at *
        generalize hy : (constV r).1 = y at *
        by_cases hz : y = 0
        · rw [if_neg (by simp [hz])]
          rw [if_pos hz] at s3
          subst hz
          cases c1 <;> cases c2 <;> simp -implicitDefEqProofs (disch := omega) [a_guard_both, s1, s2, s3, o1, o2, o3]
          done
        · rw [if_neg hz] at s3
          cases c1 with
          | false =>
            rw [if_neg (by simp)]
            simp -implicitDefEqProofs (disch := omega) [a_guard_both, s1, s2, s3, o1, o2, o3]
            done
          | true =>
            cases c2 with
            | false =>
              rw [if_neg (by simp)]
              simp -implicitDefEqProofs (disch := omega) [a_guard_both, s1, s2, s3, o1, o2, o3]
              done
            | true =>
              rw [if_pos ⟨rfl, rfl, hz⟩]
              generalize x / y = q at *
              generalize x % y = m at *
              have ht : ∀ v : Int, ((List.replicate l.length 0).set (l.length - 1) v).take l.length = (List.replicate l.length 0).set (l.length - 1) v := fun v => List.take_of_length_le (by simp)
              have hg1 : (WV (List.replicate l.length 0))[l.length - 1]? = some (.d (Wd 0)) := by rw [WV_get (by simp; omega)]; simp [nth, List.getD_eq_getElem?_getD, List.getElem?_replicate, h0]; rw [if_pos (by omega)]; rfl
              have hg2 : ∀ v : Int, (WV ((List.replicate l.length 0).set (l.length - 1) v))[l.length - 1]? = some (.d (Wd v)) := fun v => by rw [WV_get (by simp; omega), nth_set (by simp; omega), if_pos rfl]
              by_cases o4 : op = 37
              · rw [if_pos o4]
                subst o4
                simp -implicitDefEqProofs (disch := omega) [a_guard_both, s1, s2, s3, ht, hg1, hg2]
                done
              · rw [if_neg o4]
                simp -implicitDefEqProofs (disch := omega) [a_guard_both, s1, s2, s3, ht, hg1, o1, o2, o3, o4]
                done
end Go.Rf
