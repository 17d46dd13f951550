/- Parts of the proof: SpR6, SpR8, SpR7, SpD1, SpD2, SpD3, SpD4. -/
import Derived.Test.YtbjfkjbdpnkknaaDoorSp6

/- lang: reading an expression out of a text. -/
namespace Go.Rf

@[simp] theorem setPart_nd (x : Nd) : setPart (.d .nili) 0 (.d x.d) = some (.d x.d) := by cases x <;> rfl
/-- The reader's objects with what the reading is told to, between them. -/
def Rd.heap3 (r : Rd) (c : D) : List Obj := [.arr [.agg [.d (.sl (LT r.ts)), .d (.int .i64 r.i), .d (.sl (SL r.vs)), .d (.int .i64 r.op), .map (.b 2)]] ⟨5, 0⟩, .arr [.d c] ⟨1, 0⟩, .map []]
def Rd.fuel (r : Rd) : Nat := 4 * (r.ts.length - r.i) + 3
def rx1R : Rs → Option CRes
  | .ok x r => some (.ret [] (r.heap3 x.d))
  | .bad e p r => some (.pan (.d (faultD e p)) (r.heap3 .nili))
theorem rx1_spec {r : Rd} (h : r.ok) (hnum : ∀ t ∈ r.ts, t.kind = 2 → NumTx t.text) : callE T0 X0 f_lang_ReadExpr_1 [.ptr (.b 0) 0 0, .ptr (.b 1) 0 0] (r.heap3 .nili) = rx1R (rd r.fuel .s r) := by
  rw [callX_fun (af := a_lang_ReadExpr_1) rfl rfl rfl]
  obtain ⟨s1, f1⟩ := (reads hnum r.fuel).s r h rfl (Nat.le_refl _)
  cases hb : rd r.fuel .s r with
  | bad e p r' =>
    rw [hb] at s1
    simp only [Rs.out, rx1R, Rd.heap, Rd.heap3, faultD] at *
    simp -implicitDefEqProofs (disch := omega) [a_lang_ReadExpr_1, s1]
    done
  | ok x r' =>
    rw [hb] at s1
    simp only [Rs.out, rx1R, Rd.heap, Rd.heap3] at *
    simp -implicitDefEqProofs (disch := omega) [a_lang_ReadExpr_1, s1]
    done
end Go.Rf

/- What tokens are like. -/
namespace Go.Rf

theorem backF_len' : ∀ f k (n : Int), n < tens k → (backF f n).length ≤ 9 * k
  | 0, k, n, _ => by simp [backF]
  | f + 1, 0, n, h => by
    unfold backF
    rw [if_pos (by simp only [tens] at h; omega)]
    simp
  | f + 1, k + 1, n, h => by
    unfold backF
    split
    · simp
    · have h1 := inF_len 9 (n % 1000000000) (decide (0 < n / 1000000000))
      have h2 := backF_len' f k (n / 1000000000) (by simp only [tens] at h; omega)
      simp only [List.length_append]; omega
theorem dig_le (r : Int) : 48 ≤ (dig r).toNat ∧ (dig r).toNat ≤ 57 := by
  unfold dig
  have : (r % 10).toNat < 10 := by omega
  rw [UInt8.toNat_ofNat', Nat.mod_eq_of_lt (by omega)]
  omega
theorem inF_dig : ∀ f r b, ∀ c ∈ inF f r b, 48 ≤ c.toNat ∧ c.toNat ≤ 57
  | 0, _, _, c, h => by cases h
  | f + 1, r, b, c, h => by
    unfold inF at h
    split at h
    · rcases List.mem_cons.1 h with rfl | h
      · exact dig_le r
      · exact inF_dig f _ _ c h
    · cases h
theorem backF_dig : ∀ f n, ∀ c ∈ backF f n, 48 ≤ c.toNat ∧ c.toNat ≤ 57
  | 0, _, c, h => by cases h
  | f + 1, n, c, h => by
    unfold backF at h
    split at h
    · cases h
    · rcases List.mem_append.1 h with h | h
      · exact inF_dig _ _ _ c h
      · exact backF_dig f _ c h
theorem textV_dig (f n) : ∀ c ∈ textV f n, 48 ≤ c.toNat ∧ c.toNat ≤ 57 := by
  intro c h
  unfold textV at h
  split at h
  · rw [List.mem_singleton] at h; subst h; decide
  · exact backF_dig f n c (List.mem_reverse.1 h)
theorem pw32 : pw 32 ≤ tens 35 := by decide +kernel
theorem numTx_text {v : Int} (h0 : 0 ≤ v) (h : (limbs v).length ≤ 32) : NumTx (textV 456 v) := by
  have hv : v < tens 35 := by
    have h1 := (nv_bounds (limbs_good v)).2
    rw [limbs_nv h0] at h1
    exact Int.lt_of_lt_of_le (Int.lt_of_lt_of_le h1 (pw_le h)) pw32
  have hd := textV_dig 456 v
  refine ⟨?_, ?_⟩
  · unfold textV
    split
    · simp
    · rw [List.length_reverse]
      exact Nat.le_trans (backF_len' 456 35 v hv) (by omega)
  · cases ht : textV 456 v with
    | nil => decide
    | cons c s =>
      rw [ht] at hd
      have := hd c (List.mem_cons_self ..)
      rw [dec_ascii (by omega)]
      simp only []
      omega

theorem token_num {s : Sc} (h : s.ok) (hc : s.token.2.code = 0) (hk : s.token.1.kind = 2) : NumTx s.token.1.text := by
  unfold Sc.token at *
  split at hk
  · cases hk
  rename_i c2
  rw [if_neg c2] at hc ⊢
  split at hk
  · rename_i c3
    rw [if_pos c3] at hc ⊢
    have hl := h.1
    have h3 : (s.ran inNumber).length ≤ 4096 := by unfold Sc.ran; rw [List.length_take]; omega
    have hn := numV_ok h3
    by_cases h32 : 32 < (limbs (numV (s.ran inNumber))).length
    · simp only [if_pos h32] at hc
      cases hc
    · exact numTx_text hn.1 (by omega)
  split at hk
  · cases hk
  split at hk
  · cases hk
  · cases hk
structure Pre (out : List Tok) : Prop where
  k : ∀ t ∈ out, t.kind ≠ 0
  tx : ∀ t ∈ out, t.text.length ≤ 1100000
  nm : ∀ t ∈ out, t.kind = 2 → NumTx t.text
theorem scanF_ok : ∀ f (s : Sc) (out l : List Tok) e p, s.ok → s.rest.length < f → Pre out → scanF f s out = (some l, e, p) →
    ∃ o t, l = o ++ [t] ∧ Pre o ∧ t.kind = 0 ∧ t.text.length ≤ 1100000 ∧ e = 0
  | 0, s, out, l, e, p, _, hf, _, _ => by omega
  | f + 1, s, out, l, e, p, hs, hf, hp, h => by
    have hb := blanksF_ok (s.rest.length + 1) hs
    change s.blanks.ok ∧ s.blanks.rest.length ≤ s.rest.length at hb
    have ht := token_ok hb.1
    unfold scanF at h
    split at h
    · cases h
    · rename_i hc
      have hc : s.blanks.token.2.code = 0 := Classical.not_not.1 hc
      split at h
      · rename_i hk
        cases h
        exact ⟨out, _, rfl, hp, hk, ht.2.2, rfl⟩
      · rename_i hk
        have hlt := ht.2.1 hk
        refine scanF_ok f _ _ l e p ht.1 (by omega) ⟨fun t hm => ?_, fun t hm => ?_, fun t hm => ?_⟩ h
        · rcases List.mem_append.1 hm with hm | hm
          · exact hp.k t hm
          · rw [List.mem_singleton] at hm; subst hm; exact hk
        · rcases List.mem_append.1 hm with hm | hm
          · exact hp.tx t hm
          · rw [List.mem_singleton] at hm; subst hm; exact ht.2.2
        · rcases List.mem_append.1 hm with hm | hm
          · exact hp.nm t hm
          · rw [List.mem_singleton] at hm; subst hm; exact token_num hb.1 hc
end Go.Rf

/- lang.read: with its handler. -/
namespace Go.Rf

theorem codeE_X (T X p a st) : codeE T X p a st = codeX T X p a (some (.nrm, st)) := rfl
section
variable (p : Nat) (res : List (ARes × Bool))
@[simp] theorem pEnd_nrm (k st) : pEnd p res k (some (.nrm, st)) = k st := rfl
@[simp] theorem pEnd_ret (k st) : pEnd p res k (some (.ret, st)) = finish p res st := rfl
@[simp] theorem hEnd_nrm (env st) : hEnd p res env (some (.nrm, st)) = finish p res { env, heap := st.heap } := rfl
@[simp] theorem hEnd_ret (env st) : hEnd p res env (some (.ret, st)) = finish p res { env, heap := st.heap } := rfl
@[simp] theorem bEnd_nrm (k st) : bEnd k (some (.nrm, st)) = k (.d .nili) st.heap := rfl
@[simp] theorem bEnd_ret (k st) : bEnd k (some (.ret, st)) = k (.d .nili) st.heap := rfl
@[simp] theorem bEnd_pan (k t x st) : bEnd k (some (.pan (.d (.iface t x)), st)) = k (.d (.iface t x)) st.heap := rfl
end
theorem read_err (s : List UInt8) (hs : s.length ≤ 1100000) (vs : List (List UInt8)) (hv : vs.length ≤ 16) (he : (scan s).2.1 ≠ 0) :
    callE T0 X0 f_lang_read [.d (.str s), .d (.sl (SL vs)), .fn f_lang_ReadExpr_1 [.ptr (.b 0) 0 0]] [.arr [.d .nili] ⟨1, 0⟩] = some (.ret [.d (.int .i64 (scan s).2.1), .d (.agg (scan s).2.2.cs)] [.arr [.d .nili] ⟨1, 0⟩]) := by
  rw [callE_rec (r := r_lang_read) rfl rfl rfl]
  unfold recG
  have s1 := scan_spec s (by omega)
  simp only [codeE_X]
  simp only [Pl.cs] at s1 ⊢
  simp -implicitDefEqProofs (disch := omega) [r_lang_read, r_lang_read_pre, s1]
def rd0 (ts : List Tok) (vs : List (List UInt8)) : Rd := ⟨ts, 0, vs, 0⟩
def readR (r : Rs) : Int × Pl × D := match r with
  | .bad e q _ => (e, q, .nili)
  | .ok x r' => if r'.tok.kind = 0 then (0, emptyPl, x.d) else (80, r'.tok.pos, x.d)
theorem read_go (s : List UInt8) (hs : s.length ≤ 1100000) (vs : List (List UInt8)) (hv : vs.length ≤ 16) {ts : List Tok} {p : Pl} (he : scan s = (some ts, 0, p)) (h : (rd0 ts vs).ok) (hn : ts.length ≤ 5000) (hnum : ∀ t ∈ ts, t.kind = 2 → NumTx t.text) {b : Rs} (hb : rd (rd0 ts vs).fuel .s (rd0 ts vs) = b) :
    callE T0 X0 f_lang_read [.d (.str s), .d (.sl (SL vs)), .fn f_lang_ReadExpr_1 [.ptr (.b 0) 0 0]] [.arr [.d .nili] ⟨1, 0⟩] = some (.ret [.d (.int .i64 (readR b).1), .d (.agg (readR b).2.1.cs)] [.arr [.d (readR b).2.2] ⟨1, 0⟩]) := by
  rw [callE_rec (r := r_lang_read) rfl rfl rfl]
  unfold recG
  have s1 := scan_spec s (by omega)
  rw [he] at s1
  have s2 := rx1_spec h hnum
  have kk := (reads hnum (rd0 ts vs).fuel).s (rd0 ts vs) h rfl (Nat.le_refl _)
  simp only [codeE_X]
  rw [hb] at s2 kk
  cases b with
  | bad e q r' =>
    simp only [Pl.cs, rx1R, Rd.heap3, rd0, faultD, Option.getD_some, Int.cast_ofNat_Int, readR] at s1 s2 ⊢
    simp -implicitDefEqProofs (disch := omega) [r_lang_read, r_lang_read_pre, r_lang_read_body, r_lang_read_hand, s1, s2, slotsV, recEnv, bnd_some, ARes.slot]
    done
  | ok x r' =>
    have h' : r'.ok := kk.2.1.ok
    have s3 := here_spec h'
    have s4 := need_true r' 80
    have s5 := need_false h' 80
    simp only [readR]
    by_cases hk : r'.tok.kind = 0
    · rw [if_pos hk]
      simp only [Pl.cs, Tok.cs, rx1R, Rd.heap, Rd.heap3, rd0, faultD, emptyPl, Option.getD_some, Int.cast_ofNat_Int] at s1 s2 s3 s4 s5 ⊢
      generalize r'.tok = t at *
      simp -implicitDefEqProofs (disch := omega) [r_lang_read, r_lang_read_pre, r_lang_read_body, r_lang_read_hand, s1, s2, s3, s4, hk, slotsV, recEnv, bnd_some, ARes.slot]
      done
    · rw [if_neg hk]
      simp only [Pl.cs, Tok.cs, rx1R, Rd.heap, Rd.heap3, rd0, faultD, emptyPl, Option.getD_some, Int.cast_ofNat_Int] at s1 s2 s3 s4 s5 ⊢
      generalize r'.tok = t at *
      simp -implicitDefEqProofs (disch := omega) [r_lang_read, r_lang_read_pre, r_lang_read_body, r_lang_read_hand, s1, s2, s3, s5, hk, slotsV, recEnv, bnd_some, ARes.slot]
      done
end Go.Rf

/- limbs: take (a step of the long division). -/
namespace Go.Rf

theorem pw_succ (n : Nat) : pw (n + 1) = 4294967296 * pw n := by rw [pw]
theorem nv_take_drop {xs : List Int} {j : Nat} (h : j ≤ xs.length) : nv xs = nv (xs.take j) + pw j * nv (xs.drop j) := by
  conv => lhs; rw [← List.take_append_drop j xs]
  rw [nv_app, List.length_take, Nat.min_eq_left h]
/-- Limbs from k on are nothing: the number is less than that. -/
theorem nv_lt_pw {xs : List Int} (hg : Good xs) {k : Nat} (h : ∀ i, k ≤ i → nth xs i = 0) : nv xs < pw k := by
  by_cases hk : xs.length ≤ k
  · exact Int.lt_of_lt_of_le (nv_bounds hg).2 (pw_le hk)
  · have e := nv_take_drop (xs := xs) (j := k) (by omega)
    have z : ∀ l : List Int, (∀ i, nth l i = 0) → nv l = 0 := by
      intro l
      induction l with
      | nil => intro _; rfl
      | cons x l ih =>
        intro hl
        have h0 := hl 0
        rw [nth_cons_zero] at h0
        have h1 := ih (fun i => by have := hl (i + 1); rwa [nth_cons_succ] at this)
        simp only [nv, h0, h1]
        rfl
    have e2 : nv (xs.drop k) = 0 := z _ (fun i => by
      have := h (k + i) (by omega)
      simpa [nth, List.getD_eq_getElem?_getD, List.getElem?_drop] using this)
    rw [e2, Int.mul_zero, Int.add_zero] at e
    have := (nv_bounds (hg.take k)).2
    rw [List.length_take, Nat.min_eq_left (by omega)] at this
    omega
theorem nth_zero_of {xs : List Int} (hg : Good xs) {k : Nat} (h : nv xs < pw k) : ∀ i, k ≤ i → nth xs i = 0 := by
  intro i hi
  by_cases hl : i < xs.length
  · have e := nv_take_drop (xs := xs) (j := i) (by omega)
    rw [drop_nth hl, nv] at e
    have b1 := (nv_bounds (hg.take i)).1
    have b2 := (nv_bounds (hg.drop (i + 1))).1
    have b3 := hg.nth i
    have p1 := pw_pos i
    have p2 := pw_le hi
    by_cases hz : nth xs i = 0
    · exact hz
    · exfalso
      have : pw i * 1 ≤ pw i * (nth xs i + 4294967296 * nv (xs.drop (i + 1))) := Int.mul_le_mul_of_nonneg_left (by omega) (by omega)
      omega
  · exact nth_out (by omega)

theorem take_loop (vs us : List Int) (j : Nat) (g : Int) (hs : us.length ≤ 1099511627776) (hj : j + vs.length < us.length) (hv : Good vs) (hg : 0 ≤ g ∧ g < 4294967296) : ∀ d i (out : List Int) (c b : Int), d + i = vs.length → out.length = us.length → Good out → 0 ≤ c → c < 4294967296 → 0 ≤ b → b ≤ 1 →
    (∀ k, j + i ≤ k → nth out k = nth us k) → nv out = nv us - pw j * (g * nv (vs.take i)) + pw (j + i) * (c + b) →
    ∃ out' c' b', codeX T0 X0 2 a_limbs_take_l0 (some (.nrm, ⟨[(0, .ref (.b 0) ⟨1, 4⟩ j (vs.length + 1)), (1, .ref (.b 1) ⟨1, 4⟩ 0 vs.length), (2, .d (.int .u64 g)), (7, .d (.int .u64 c)), (8, .d (.int .u64 b)), (14, .d (.int .i64 vs.length)), (15, .d (.int .i64 i))], [.arr (LV out) ⟨1, 4⟩, .arr (LV vs) ⟨1, 4⟩]⟩)) =
        some (.exit 0, ⟨[(0, .ref (.b 0) ⟨1, 4⟩ j (vs.length + 1)), (1, .ref (.b 1) ⟨1, 4⟩ 0 vs.length), (2, .d (.int .u64 g)), (7, .d (.int .u64 c')), (8, .d (.int .u64 b'))], [.arr (LV out') ⟨1, 4⟩, .arr (LV vs) ⟨1, 4⟩]⟩) ∧
      out'.length = us.length ∧ Good out' ∧ 0 ≤ c' ∧ c' < 4294967296 ∧ 0 ≤ b' ∧ b' ≤ 1 ∧ (∀ k, j + vs.length ≤ k → nth out' k = nth us k) ∧ nv out' = nv us - pw j * (g * nv vs) + pw (j + vs.length) * (c' + b') := by
  intro d
  induction d with
  | zero =>
    intro i out c b hd ho hgo hc hc1 hb hb1 hk hn
    have : i = vs.length := by omega
    subst this
    refine ⟨out, c, b, ?_, ho, hgo, hc, hc1, hb, hb1, hk, by rw [hn, List.take_length]⟩
    rw [codeX_loop (l := a_limbs_take_l0) rfl]
    simp -implicitDefEqProofs (disch := omega) [a_limbs_take_b0]
    done
  | succ d ih =>
    intro i out c b hd ho hgo hc hc1 hb hb1 hk hn
    have n1 := hv.nth i
    have n2 := hgo.nth (j + i)
    have n3 := mul_lt hg n1
    rw [codeX_loop (l := a_limbs_take_l0) rfl]
    have hx : 0 ≤ c + g * nth vs i ∧ c + g * nth vs i < 18446744073709551616 := by omega
    have e1 : (nth out (j + i) - (c + g * nth vs i) % 4294967296 - b) % 18446744073709551616 % 4294967296 = (nth out (j + i) - (c + g * nth vs i) % 4294967296 - b) % 4294967296 := by omega
    have e2 : (nth out (j + i) - (c + g * nth vs i) % 4294967296 - b) % 18446744073709551616 / 9223372036854775808 = -((nth out (j + i) - (c + g * nth vs i) % 4294967296 - b) / 4294967296) := by omega
    have step := ih (i + 1) (out.set (j + i) ((nth out (j + i) - (c + g * nth vs i) % 4294967296 - b) % 4294967296)) ((c + g * nth vs i) / 4294967296) (-((nth out (j + i) - (c + g * nth vs i) % 4294967296 - b) / 4294967296)) (by omega) (by simp [ho]) (good_set hgo _ (by omega)) (by omega) (by omega) (by omega) (by omega) (by
      intro k hk'
      rw [nth_set (by omega), if_neg (by omega)]
      exact hk k (by omega)) (by
      rw [nv_take_succ', nv_set (by omega), hn]
      have s1 := pw_split (j + i) (c + g * nth vs i)
      have s2 := pw_split (j + i) (nth out (j + i) - (c + g * nth vs i) % 4294967296 - b)
      have s3 : pw j * (g * (nv (vs.take i) + pw i * nth vs i)) = pw j * (g * nv (vs.take i)) + pw (j + i) * (g * nth vs i) := by
        rw [Nat.add_comm j i, pw_add j i, Int.mul_add, Int.mul_add, ← Int.mul_assoc g (pw i), Int.mul_comm g (pw i)]
        simp only [Int.mul_assoc, Int.mul_left_comm]
      rw [s3, ← Nat.add_assoc]
      generalize (nth out (j + i) - (c + g * nth vs i) % 4294967296 - b) % 4294967296 = y at *
      generalize (nth out (j + i) - (c + g * nth vs i) % 4294967296 - b) / 4294967296 = z at *
      generalize (c + g * nth vs i) % 4294967296 = m at *
      generalize (c + g * nth vs i) / 4294967296 = q at *
      simp only [Int.mul_sub, Int.mul_add, Int.mul_neg] at s1 s2 ⊢
      omega)
    obtain ⟨out', c', b', h1, h2⟩ := step
    refine ⟨out', c', b', ?_, h2⟩
    rw [← h1]
    simp -implicitDefEqProofs (disch := omega) [a_limbs_take_b0, wrap_u64_mod, e1, e2, Int.emod_eq_of_lt hx.1 hx.2]
    done
theorem back_loop (vs us : List Int) (j : Nat) (g : Int) (hs : us.length ≤ 1099511627776) (hj : j + vs.length < us.length) (hv : Good vs) : ∀ d i (out : List Int) (c : Int), d + i = vs.length → out.length = us.length → Good out → 0 ≤ c → c ≤ 1 →
    (∀ k, j + i ≤ k → nth out k = nth us k) → nv out = nv us + pw j * nv (vs.take i) - pw (j + i) * c →
    ∃ out' c', codeX T0 X0 2 a_limbs_take_l1 (some (.nrm, ⟨[(0, .ref (.b 0) ⟨1, 4⟩ j (vs.length + 1)), (1, .ref (.b 1) ⟨1, 4⟩ 0 vs.length), (2, .d (.int .u64 g)), (7, .d (.int .u64 c)), (70, .d (.int .i64 vs.length)), (71, .d (.int .i64 i))], [.arr (LV out) ⟨1, 4⟩, .arr (LV vs) ⟨1, 4⟩]⟩)) =
        some (.exit 2, ⟨[(0, .ref (.b 0) ⟨1, 4⟩ j (vs.length + 1)), (1, .ref (.b 1) ⟨1, 4⟩ 0 vs.length), (2, .d (.int .u64 g)), (7, .d (.int .u64 c'))], [.arr (LV out') ⟨1, 4⟩, .arr (LV vs) ⟨1, 4⟩]⟩) ∧
      out'.length = us.length ∧ Good out' ∧ 0 ≤ c' ∧ c' ≤ 1 ∧ (∀ k, j + vs.length ≤ k → nth out' k = nth us k) ∧ nv out' = nv us + pw j * nv vs - pw (j + vs.length) * c' := by
  intro d
  induction d with
  | zero =>
    intro i out c hd ho hgo hc hc1 hk hn
    have : i = vs.length := by omega
    subst this
    refine ⟨out, c, ?_, ho, hgo, hc, hc1, hk, by rw [hn, List.take_length]⟩
    rw [codeX_loop (l := a_limbs_take_l1) rfl]
    simp -implicitDefEqProofs (disch := omega) [a_limbs_take_b1]
    done
  | succ d ih =>
    intro i out c hd ho hgo hc hc1 hk hn
    have n1 := hv.nth i
    have n2 := hgo.nth (j + i)
    rw [codeX_loop (l := a_limbs_take_l1) rfl]
    have step := ih (i + 1) (out.set (j + i) ((c + (nth out (j + i) + nth vs i)) % 4294967296)) ((c + (nth out (j + i) + nth vs i)) / 4294967296) (by omega) (by simp [ho]) (good_set hgo _ (by omega)) (by omega) (by omega) (by
      intro k hk'
      rw [nth_set (by omega), if_neg (by omega)]
      exact hk k (by omega)) (by
      rw [nv_take_succ', nv_set (by omega), hn]
      have s1 := pw_split (j + i) (c + (nth out (j + i) + nth vs i))
      have s3 : pw j * (nv (vs.take i) + pw i * nth vs i) = pw j * nv (vs.take i) + pw (j + i) * nth vs i := by
        rw [Nat.add_comm j i, pw_add j i, Int.mul_add]
        simp only [Int.mul_assoc, Int.mul_left_comm]
      rw [s3, ← Nat.add_assoc]
      generalize (c + (nth out (j + i) + nth vs i)) % 4294967296 = m at *
      generalize (c + (nth out (j + i) + nth vs i)) / 4294967296 = q at *
      simp only [Int.mul_sub, Int.mul_add, Int.mul_neg] at s1 ⊢
      omega)
    obtain ⟨out', c', h1, h2⟩ := step
    refine ⟨out', c', ?_, h2⟩
    rw [← h1]
    simp -implicitDefEqProofs (disch := omega) [a_limbs_take_b1]
    done

theorem low_eq {p a b x y : Int} (hx : 0 ≤ x ∧ x < p) (hy : 0 ≤ y ∧ y < p) (h : p * a + x = p * b + y) : a = b ∧ x = y := by
  have e1 : (p * a + x) / p = a := by rw [Int.add_comm, Int.add_mul_ediv_left _ _ (by omega), Int.ediv_eq_zero_of_lt hx.1 hx.2, Int.zero_add]
  have e2 : (p * b + y) / p = b := by rw [Int.add_comm, Int.add_mul_ediv_left _ _ (by omega), Int.ediv_eq_zero_of_lt hy.1 hy.2, Int.zero_add]
  rw [h, e2] at e1
  subst e1
  exact ⟨rfl, by omega⟩
theorem div_eq {a b q : Int} (hb : 0 < b) (h0 : q * b ≤ a) (h1 : a < (q + 1) * b) : a / b = q := by
  have h2 := Int.le_ediv_of_mul_le hb h0
  have h3 := Int.ediv_lt_of_lt_mul hb h1
  omega
theorem take_spec {vs us : List Int} {j : Nat} {g : Int} (hs : us.length ≤ 1099511627776) (hj : j + vs.length < us.length) (hv : Good vs) (hu : Good us) (hg : 0 ≤ g ∧ g < 4294967296)
    (hz : ∀ i, j + vs.length + 1 ≤ i → nth us i = 0) (hp : 0 < nv vs) (h1 : (g - 1) * nv vs ≤ nv (us.drop j)) (h2 : nv (us.drop j) < (g + 1) * nv vs) :
    ∃ out, callE T0 X0 f_limbs_take [.ref (.b 0) ⟨1, 4⟩ j (vs.length + 1), .ref (.b 1) ⟨1, 4⟩ 0 vs.length, .d (.int .u64 g)] [.arr (LV us) ⟨1, 4⟩, .arr (LV vs) ⟨1, 4⟩] = some (.ret [.d (.int .u32 (nv (us.drop j) / nv vs))] [.arr (LV out) ⟨1, 4⟩, .arr (LV vs) ⟨1, 4⟩]) ∧
      out.length = us.length ∧ Good out ∧ nv out = nv us - pw j * ((nv (us.drop j) / nv vs) * nv vs) := by
  obtain ⟨o1, c, b, l1, ho1, hg1, hc0, hc1, hb0, hb1, hk1, hn1⟩ := take_loop vs us j g hs hj hv hg vs.length 0 us 0 0 (by omega) rfl hu (by omega) (by omega) (by omega) (by omega) (fun _ _ => rfl) (by simp [nv])
  rw [callX_fun (af := a_limbs_take) rfl rfl rfl]
  simp only [Int.cast_ofNat_Int] at l1
  have n1 := hg1.nth (j + vs.length)
  have hd := nv_take_drop (xs := us) (j := j) (by omega)
  have hlo := nv_bounds (hu.take j)
  rw [List.length_take, Nat.min_eq_left (by omega)] at hlo
  have pp := pw_pos j
  have ps := pw_succ (j + vs.length)
  generalize hW : nv (us.drop j) = W at *
  generalize hV : nv vs = Vv at *
  generalize hx : nth o1 (j + vs.length) - c - b = x
  have fin : ∀ {o : List Int}, Good o → o.length = us.length → (∀ k, j + vs.length + 1 ≤ k → nth o k = 0) → 0 ≤ nv o ∧ nv o < pw (j + vs.length + 1) := fun h _ hk => ⟨(nv_bounds h).1, nv_lt_pw h hk⟩
  by_cases hneg : x < 0
  · have hx1 : x % 18446744073709551616 % 4294967296 = x + 4294967296 := by omega
    have hx2 : x % 18446744073709551616 / 9223372036854775808 = 1 := by omega
    have go2 : Good (o1.set (j + vs.length) (x + 4294967296)) := good_set hg1 _ (by omega)
    have v2 : nv (o1.set (j + vs.length) (x + 4294967296)) = nv us - pw j * (g * Vv) + pw (j + vs.length + 1) := by
      rw [nv_set (by omega), hn1, ps]
      have : x + 4294967296 - nth o1 (j + vs.length) = 4294967296 - (c + b) := by omega
      rw [this, Int.mul_sub, Int.mul_comm (pw (j + vs.length)) 4294967296]
      omega
    have z2 : ∀ k, j + vs.length + 1 ≤ k → nth (o1.set (j + vs.length) (x + 4294967296)) k = 0 := fun k hk => by
      rw [nth_set (by omega), if_neg (by omega), hk1 k (by omega)]
      exact hz k hk
    have f2 := fin go2 (by simp [ho1]) z2
    have hlt : W < g * Vv := by
      have : pw j * W < pw j * (g * Vv) := by omega
      exact Int.lt_of_mul_lt_mul_left this (by omega)
    obtain ⟨o3, c3, l3, ho3, hg3, hc30, hc31, hk3, hn3⟩ := back_loop vs (o1.set (j + vs.length) (x + 4294967296)) j g (by simpa [ho1] using hs) (by simpa [ho1] using hj) hv vs.length 0 _ 0 (by omega) rfl go2 (by omega) (by omega) (fun _ _ => rfl) (by simp [nv])
    simp only [Int.cast_ofNat_Int] at l3
    have n3 := hg3.nth (j + vs.length)
    have ho3' : o3.length = us.length := by simpa [ho1] using ho3
    have e3 : nth o3 (j + vs.length) = x + 4294967296 := by rw [hk3 _ (Nat.le_refl _), nth_set (by omega), if_pos rfl]
    have hq : W / Vv = g - 1 := div_eq hp h1 (by rw [Int.sub_add_cancel]; exact hlt)
    have g1 : 1 ≤ g := by
      by_cases h : 1 ≤ g
      · exact h
      · have : g = 0 := by omega
        subst this
        have := (nv_bounds (hu.drop j)).1
        omega
    have gm : (g - 1) % 18446744073709551616 % 4294967296 = g - 1 := by omega
    have go4 : Good (o3.set (j + vs.length) ((nth o3 (j + vs.length) + c3) % 4294967296)) := good_set hg3 _ (by omega)
    have z4 : ∀ k, j + vs.length + 1 ≤ k → nth (o3.set (j + vs.length) ((nth o3 (j + vs.length) + c3) % 4294967296)) k = 0 := fun k hk => by
      rw [nth_set (by omega), if_neg (by omega), hk3 k (by omega)]
      exact z2 k hk
    have f4 := fin go4 (by simp [ho3']) z4
    have v4 : nv (o3.set (j + vs.length) ((nth o3 (j + vs.length) + c3) % 4294967296)) = nv us - pw j * ((g - 1) * Vv) := by
      rw [nv_set (by omega)] at f4 ⊢
      rw [hn3, v2, hV] at f4 ⊢
      have s1 := pw_split (j + vs.length) (nth o3 (j + vs.length) + c3)
      have e5 : pw j * ((g - 1) * Vv) = pw j * (g * Vv) - pw j * Vv := by rw [Int.sub_mul, Int.one_mul, Int.mul_sub]
      have e6 : pw j * ((g - 1) * Vv) ≤ pw j * W := Int.mul_le_mul_of_nonneg_left h1 (by omega)
      have ht : (nth o3 (j + vs.length) + c3) / 4294967296 = 0 ∨ (nth o3 (j + vs.length) + c3) / 4294967296 = 1 := by omega
      generalize (nth o3 (j + vs.length) + c3) % 4294967296 = m at *
      generalize (nth o3 (j + vs.length) + c3) / 4294967296 = q at *
      simp only [Int.mul_sub, Int.mul_add] at s1 f4 ⊢
      rcases ht with ht | ht
      · subst ht
        exfalso
        omega
      · subst ht
        omega
    refine ⟨_, ?_, by simp [ho3'], go4, by rw [hq]; exact v4⟩
    rw [hq]
    have hxx : nth o1 (j + vs.length) - c - b = x := hx
    simp -implicitDefEqProofs (disch := omega) [a_limbs_take, l1, l3, hxx, hx1, hx2, wrap_u64_mod, gm]
    done
  · have hx1 : x % 18446744073709551616 % 4294967296 = x := by omega
    have hx2 : x % 18446744073709551616 / 9223372036854775808 = 0 := by omega
    have go2 : Good (o1.set (j + vs.length) x) := good_set hg1 _ (by omega)
    have v2 : nv (o1.set (j + vs.length) x) = nv us - pw j * (g * Vv) := by
      rw [nv_set (by omega), hn1]
      have : x - nth o1 (j + vs.length) = - (c + b) := by omega
      rw [this, Int.mul_neg]
      omega
    have hge : g * Vv ≤ W := by
      have h0 := (nv_bounds go2).1
      have : pw j * (g * Vv) < pw j * (W + 1) := by rw [Int.mul_add]; omega
      have := Int.lt_of_mul_lt_mul_left this (by omega)
      omega
    have hq : W / Vv = g := div_eq hp hge h2
    refine ⟨_, ?_, by simp [ho1], go2, by rw [hq]; exact v2⟩
    rw [hq]
    have hgm : g % 4294967296 = g := by omega
    have hxx : nth o1 (j + vs.length) - c - b = x := hx
    simp -implicitDefEqProofs (disch := omega) [a_limbs_take, l1, hxx, hx1, hx2, wrap_u64_mod, hgm]
    done
end Go.Rf

/- limbs: moved, Right (by less than a limb). -/
namespace Go.Rf

theorem p2_pos (s : Nat) : 0 < (2 : Int) ^ s := Int.pow_pos (by decide)
theorem p2_le {s : Nat} (h : s < 32) : (2 : Int) ^ s ≤ 2147483648 := by
  have h1 : (2 : Nat) ^ s ≤ 2 ^ 31 := Nat.pow_le_pow_right (by decide) (by omega)
  have h2 : ((2 ^ s : Nat) : Int) = (2 : Int) ^ s := by simp
  omega
/-- Nothing in common: 'or' is 'plus'. -/
theorem or_lo {c a : Int} {s : Nat} (hs : s < 32) (hc : 0 ≤ c ∧ c < 2 ^ s) (ha : 0 ≤ a ∧ a < 4294967296) : orK .u64 c (a * 2 ^ s) = c + a * 2 ^ s := by
  obtain ⟨x, rfl⟩ := Int.eq_ofNat_of_zero_le hc.1
  obtain ⟨y, rfl⟩ := Int.eq_ofNat_of_zero_le ha.1
  have hp := p2_le hs
  have h2 : ((2 ^ s : Nat) : Int) = (2 : Int) ^ s := by simp
  have h3 : (y : Int) * 2 ^ s ≤ 4294967295 * 2 ^ s := Int.mul_le_mul_of_nonneg_right (by omega) (by have := p2_pos s; omega)
  have h5 : 2 ^ s * y ≤ 9223372034707292160 := by
    have : ((2 ^ s * y : Nat) : Int) ≤ 9223372034707292160 := by
      rw [Int.natCast_mul, h2, Int.mul_comm]; omega
    omega
  unfold orK
  rw [BitVec.toNat_or]
  have e1 : (BitVec.ofInt IntKind.u64.bits ((y : Int) * 2 ^ s)).toNat = 2 ^ s * y := by
    rw [show ((y : Int) * 2 ^ s) = ((2 ^ s * y : Nat) : Int) by rw [Int.natCast_mul, h2, Int.mul_comm], BitVec.ofInt_natCast, BitVec.toNat_ofNat]
    exact Nat.mod_eq_of_lt (by show _ < 2 ^ 64; omega)
  have e2 : (BitVec.ofInt IntKind.u64.bits (x : Int)).toNat = x := by
    rw [BitVec.ofInt_natCast, BitVec.toNat_ofNat]
    exact Nat.mod_eq_of_lt (by show _ < 2 ^ 64; omega)
  rw [e1, e2, Nat.or_comm, ← Nat.two_pow_add_eq_or_of_lt (by omega), wrap_u64 ⟨by omega, by omega⟩, Int.natCast_add, Int.natCast_mul, h2, Int.mul_comm, Int.add_comm]
theorem orK_comm (k : IntKind) (x y : Int) : orK k x y = orK k y x := by
  unfold orK
  rw [BitVec.or_comm]

theorem moved_loop (as : List Int) (s n : Nat) (hs : s < 32) (hn : n ≤ 1099511627776) (ha : Good as) (hl : as.length ≤ n) : ∀ d i (out : List Int) (c : Int), d + i = n → out.length = n → Good out → 0 ≤ c → c < 2 ^ s →
    nv (out.take i) + pw i * c = nv (as.take i) * 2 ^ s →
    ∃ out' c', codeX T0 X0 0 a_limbs_moved_l0 (some (.nrm, ⟨[(0, .d (.sl (L as))), (1, .d (.int .i64 s)), (7, .ref (.b 0) ⟨1, 4⟩ 0 n), (8, .d (.int .u64 c)), (13, .d (.int .i64 n)), (14, .d (.int .i64 i))], [.arr (LV out) ⟨1, 4⟩]⟩)) =
        some (.exit 0, ⟨[(7, .ref (.b 0) ⟨1, 4⟩ 0 n)], [.arr (LV out') ⟨1, 4⟩]⟩) ∧
      out'.length = n ∧ Good out' ∧ 0 ≤ c' ∧ nv out' + pw n * c' = nv as * 2 ^ s := by
  have p0 := p2_pos s
  have p1 := p2_le hs
  have hm : min s 64 = s := by omega
  intro d
  induction d with
  | zero =>
    intro i out c hd ho hg hc hc1 hv
    have : i = n := by omega
    subst this
    refine ⟨out, c, ?_, ho, hg, hc, by rw [List.take_of_length_le (by omega), List.take_of_length_le (by omega)] at hv; exact hv⟩
    rw [codeX_loop (l := a_limbs_moved_l0) rfl]
    simp -implicitDefEqProofs (disch := omega) [a_limbs_moved_b0]
    done
  | succ d ih =>
    intro i out c hd ho hg hc hc1 hv
    have n1 := ha.nth i
    rw [codeX_loop (l := a_limbs_moved_l0) rfl]
    have hy : 0 ≤ nth as i * 2 ^ s ∧ nth as i * 2 ^ s ≤ 4294967295 * 2 ^ s := ⟨Int.mul_nonneg n1.1 (by omega), Int.mul_le_mul_of_nonneg_right (by omega) (by omega)⟩
    have ho1 := or_lo hs ⟨hc, hc1⟩ n1
    obtain ⟨out', c', h1, h2⟩ := ih (i + 1) (out.set i ((c + nth as i * 2 ^ s) % 4294967296)) ((c + nth as i * 2 ^ s) / 4294967296) (by omega) (by simp [ho]) (good_set hg _ (by omega)) (by omega) (by omega) (by
      rw [nv_set_take (by omega), nv_take_succ', Int.add_mul, ← hv, Int.mul_assoc]
      have s1 := pw_split i (c + nth as i * 2 ^ s)
      rw [Int.mul_add (pw i) c] at s1
      omega)
    refine ⟨out', c', ?_, h2⟩
    rw [← h1]
    by_cases hi : i < as.length
    · generalize hz : nth as i * 2 ^ s = z at *
      simp -implicitDefEqProofs (disch := omega) [a_limbs_moved_b0, hm, hz, ho1]
      done
    · have e : nth as i = 0 := nth_out (by omega)
      have ec : c % 4294967296 = c := by omega
      simp -implicitDefEqProofs (disch := omega) [a_limbs_moved_b0, e, ec]
      done
theorem moved_spec {as : List Int} {s n : Nat} (hs : s < 32) (hn : n ≤ 1099511627776) (ha : Good as) (hl : as.length ≤ n) (hb : nv as * 2 ^ s < pw n) :
    ∃ out, callE T0 X0 f_limbs_moved [.d (.sl (L as)), .d (.int .i64 s), .d (.int .i64 n)] [] = some (.ret [.ref (.b 0) ⟨1, 4⟩ 0 n] [.arr (LV out) ⟨1, 4⟩]) ∧ out.length = n ∧ Good out ∧ nv out = nv as * 2 ^ s := by
  obtain ⟨out, c, h1, ho, hg, hc, hv⟩ := moved_loop as s n hs hn ha hl n 0 (List.replicate n 0) 0 (by omega) (by simp) (good_rep _) (by omega) (p2_pos s) (by simp [nv])
  rw [callX_fun (af := a_limbs_moved) rfl rfl rfl]
  have h0 := (nv_bounds hg).1
  have hc0 : c = 0 := by
    by_cases h : c = 0
    · exact h
    · have := pw_pos n
      have : pw n * 1 ≤ pw n * c := Int.mul_le_mul_of_nonneg_left (by omega) (by omega)
      omega
  subst hc0
  refine ⟨out, ?_, ho, hg, by omega⟩
  simp only [Int.cast_ofNat_Int] at h1
  simp -implicitDefEqProofs (disch := omega) [a_limbs_moved, h1]
  done

theorem right_limb {a b : Int} {s : Nat} (hs : s < 32) (ha : 0 ≤ a ∧ a < 4294967296) (hb : 0 ≤ b ∧ b < 4294967296) : 2 ^ s * (((b * 4294967296 + a) / 2 ^ s) % 4294967296) = a - a % 2 ^ s + 4294967296 * (b % 2 ^ s) := by
  obtain ⟨t, ht⟩ : ∃ t : Nat, s + t = 32 := ⟨32 - s, by omega⟩
  have p0 := p2_pos s
  have hQ : (2 : Int) ^ s * 2 ^ t = 4294967296 := by rw [← Int.pow_add, ht]; rfl
  have q0 := p2_pos t
  generalize (2 : Int) ^ s = P at *
  generalize (2 : Int) ^ t = Q at *
  have e1 := Int.mul_ediv_add_emod a P
  have e2 := Int.mul_ediv_add_emod b P
  have r1 := Int.emod_nonneg a (show P ≠ 0 by omega)
  have r2 := Int.emod_lt_of_pos a p0
  have t1 := Int.emod_nonneg b (show P ≠ 0 by omega)
  have t2 := Int.emod_lt_of_pos b p0
  have u0 : 0 ≤ a / P := Int.ediv_nonneg ha.1 (by omega)
  have u1 : a / P < Q := Int.ediv_lt_of_lt_mul p0 (by rw [Int.mul_comm, hQ]; exact ha.2)
  generalize a / P = u at *
  generalize a % P = r at *
  generalize b / P = w at *
  generalize b % P = t at *
  have ex : b * 4294967296 + a = r + P * (u + Q * t + 4294967296 * w) := by
    rw [← e1, ← e2, Int.mul_add P, Int.mul_add P, ← Int.mul_assoc P Q, hQ, Int.add_mul, Int.mul_comm t, Int.mul_comm (P * w), Int.mul_left_comm P]
    omega
  have ey : (b * 4294967296 + a) / P = u + Q * t + 4294967296 * w := by
    rw [ex, Int.add_mul_ediv_left _ _ (by omega), Int.ediv_eq_zero_of_lt r1 r2, Int.zero_add]
  have hq : Q * t ≤ Q * (P - 1) := Int.mul_le_mul_of_nonneg_left (by omega) (by omega)
  rw [Int.mul_sub, Int.mul_comm Q P, hQ, Int.mul_one] at hq
  have hq0 : 0 ≤ Q * t := Int.mul_nonneg (by omega) t1
  have em : (u + Q * t + 4294967296 * w) % 4294967296 = u + Q * t := by rw [Int.add_mul_emod_self_left]; exact Int.emod_eq_of_lt (by omega) (by omega)
  rw [ey, em, Int.mul_add, ← Int.mul_assoc, hQ]
  omega
theorem right_loop (as : List Int) (s : Nat) (hs : s < 32) (hn : as.length ≤ 1099511627776) (ha : Good as) : ∀ d i (out : List Int), d + i = as.length → out.length = as.length → Good out →
    2 ^ s * nv (out.take i) + nth as 0 % 2 ^ s = nv (as.take i) + pw i * (nth as i % 2 ^ s) →
    ∃ out', codeX T0 X0 0 a_limbs_Right_l0 (some (.nrm, ⟨[(0, .d (.sl (L as))), (1, .d (.int .i64 s)), (6, .ref (.b 0) ⟨1, 4⟩ 0 as.length), (26, .d (.int .i64 as.length)), (27, .d (.int .i64 i))], [.arr (LV out) ⟨1, 4⟩]⟩)) =
        some (.exit 0, ⟨[(6, .ref (.b 0) ⟨1, 4⟩ 0 as.length)], [.arr (LV out') ⟨1, 4⟩]⟩) ∧
      out'.length = as.length ∧ Good out' ∧ 2 ^ s * nv out' + nth as 0 % 2 ^ s = nv as := by
  have p0 := p2_pos s
  have p1 := p2_le hs
  have hm : min s 64 = s := by omega
  have hsm : (s : Int) % 32 = s := by omega
  intro d
  induction d with
  | zero =>
    intro i out hd ho hg hv
    have : i = as.length := by omega
    subst this
    refine ⟨out, ?_, ho, hg, ?_⟩
    · rw [codeX_loop (l := a_limbs_Right_l0) rfl]
      simp -implicitDefEqProofs (disch := omega) [a_limbs_Right_b0]
      done
    · rw [nth_out (Nat.le_refl _), List.take_of_length_le (by omega), List.take_of_length_le (by omega)] at hv
      simpa using hv
  | succ d ih =>
    intro i out hd ho hg hv
    have n1 := ha.nth i
    have n2 := ha.nth (i + 1)
    rw [codeX_loop (l := a_limbs_Right_l0) rfl]
    have hr := right_limb hs n1 n2
    obtain ⟨out', h1, h2⟩ := ih (i + 1) (out.set i (((nth as (i + 1) * 4294967296 + nth as i) / 2 ^ s) % 4294967296)) (by omega) (by simp [ho]) (good_set hg _ (by omega)) (by
      rw [nv_set_take (by omega), nv_take_succ', Int.mul_add, Int.mul_left_comm, hr, pw_succ]
      simp only [Int.mul_add, Int.mul_sub]
      rw [Int.mul_left_comm (pw i), Int.mul_assoc]
      omega)
    refine ⟨out', ?_, h2⟩
    rw [← h1]
    have ho1 : orK .u64 (nth as i) (nth as (i + 1) * 4294967296) = nth as (i + 1) * 4294967296 + nth as i := by rw [orK_comm]; exact or64 n2.1 n1 n2.2
    by_cases hi : i + 1 < as.length
    · simp -implicitDefEqProofs (disch := omega) [a_limbs_Right_b0, hm, hsm, ho1]
      done
    · have e : nth as (i + 1) = 0 := nth_out (by omega)
      simp -implicitDefEqProofs (disch := omega) [a_limbs_Right_b0, hm, hsm, e]
      done
theorem right_spec {xs : List Int} {s : Nat} (hs : s < 32) (hn : xs.length ≤ 1099511627776) (hx : Good xs) :
    callE T0 X0 f_limbs_Right [.d (.sl (L xs)), .d (.int .i64 s)] [] = some (.ret [.d (.sl (L (limbs (nv xs / 2 ^ s)))), .d (.int .i64 0)] []) := by
  rw [callX_fun (af := a_limbs_Right) rfl rfl rfl]
  have s1 := short_spec hx (by omega)
  have h1 := limbs_nv (nv_bounds hx).1
  have l1 : (limbs (nv xs)).length ≤ xs.length := limbs_len (nv_bounds hx).1 (nv_bounds hx).2
  have hg := limbs_good (nv xs)
  generalize limbs (nv xs) = as at *
  rw [← h1]
  have hd : (s : Int) / 32 = 0 := by omega
  by_cases h0 : as.length = 0
  · have : as = [] := List.length_eq_zero_iff.1 h0
    subst this
    have e : (nv [] / 2 ^ s : Int) = 0 := by simp [nv]
    rw [e]
    simp -implicitDefEqProofs (disch := omega) [a_limbs_Right, s1, hd]
    done
  · obtain ⟨out, l2, ho, hgo, hv⟩ := right_loop as s hs (by omega) hg as.length 0 (List.replicate as.length 0) (by omega) (by simp) (good_rep _) (by simp [nv, pw])
    have s2 := short_spec hgo (by omega)
    have p0 := p2_pos s
    have e : nv as / 2 ^ s = nv out := by
      rw [← hv, Int.add_comm, Int.add_mul_ediv_left _ _ (by omega), Int.ediv_eq_zero_of_lt (Int.emod_nonneg _ (by omega)) (Int.emod_lt_of_pos _ p0), Int.zero_add]
    rw [e]
    have ht : out.take as.length = out := List.take_of_length_le (by omega)
    simp only [Int.cast_ofNat_Int] at l2
    simp -implicitDefEqProofs (disch := omega) [-List.length_eq_zero_iff, a_limbs_Right, s1, hd, l2, s2, ht]
    done
end Go.Rf

/- limbs: long division. -/
namespace Go.Rf

/-- What guessing a limb by the two top limbs rests on. -/
theorem guess_facts {Vv W Bn f1 f2 top u2 : Int} (hBn : 0 < Bn) (hf1 : 1 ≤ f1) (hf2 : 0 ≤ f2 ∧ f2 < 4294967296) (hu2 : 0 ≤ u2 ∧ u2 < 4294967296) (ht : 0 ≤ top)
    (hV1 : (f1 * 4294967296 + f2) * Bn ≤ Vv) (hV2 : Vv < (f1 * 4294967296 + f2 + 1) * Bn) (hW1 : (top * 4294967296 + u2) * Bn ≤ W) (hW2 : W < (top * 4294967296 + u2 + 1) * Bn) (hWB : W < 4294967296 * Vv) :
    (∀ g rest, g * f1 + rest = top → 0 ≤ g → g < 4294967296 → (4294967296 ≤ rest ∨ g * f2 ≤ rest * 4294967296 + u2) → (g - 1) * Vv ≤ W) ∧
    (∀ g rest, g * f1 + rest = top → 0 ≤ g → (4294967296 ≤ g ∨ rest * 4294967296 + u2 < g * f2) → W < g * Vv) ∧
    (∀ g rest, g * f1 + rest = top → 4294967296 ≤ g → rest < 4294967296) ∧ W < (top / f1 + 1) * Vv := by
  have hm : ∀ g rest : Int, g * f1 + rest = top → g * (f1 * 4294967296 + f2) = (top - rest) * 4294967296 + g * f2 := fun g rest h => by
    rw [Int.mul_add, ← Int.mul_assoc, ← h, Int.add_sub_cancel]
  have hV0 : 0 < Vv := Int.lt_of_lt_of_le (Int.mul_pos (by omega) hBn) hV1
  have key : ∀ g, 0 ≤ g → top * 4294967296 + u2 < g * (f1 * 4294967296 + f2) → W < g * Vv := fun g h0 h => by
    have e1 : (top * 4294967296 + u2 + 1) * Bn ≤ g * (f1 * 4294967296 + f2) * Bn := Int.mul_le_mul_of_nonneg_right (by omega) (by omega)
    have e2 : g * ((f1 * 4294967296 + f2) * Bn) ≤ g * Vv := Int.mul_le_mul_of_nonneg_left hV1 h0
    rw [← Int.mul_assoc] at e2
    omega
  refine ⟨fun g rest h h0 h1 hc => ?_, fun g rest h h0 hc => ?_, fun g rest h hc => ?_, ?_⟩
  · have hc2 : g * f2 ≤ rest * 4294967296 + u2 := by
      rcases hc with hc | hc
      · have := mul_lt ⟨h0, h1⟩ hf2
        omega
      · exact hc
    have e0 := hm g rest h
    have e1 : g * Vv ≤ g * ((f1 * 4294967296 + f2 + 1) * Bn) := Int.mul_le_mul_of_nonneg_left (by omega) h0
    have e2 : g * ((f1 * 4294967296 + f2 + 1) * Bn) = g * (f1 * 4294967296 + f2) * Bn + g * Bn := by
      rw [← Int.mul_assoc, Int.mul_add g _ 1, Int.mul_one, Int.add_mul]
    have e3 : g * (f1 * 4294967296 + f2) * Bn ≤ (top * 4294967296 + u2) * Bn := Int.mul_le_mul_of_nonneg_right (by omega) (by omega)
    have e4 : g * Bn ≤ (f1 * 4294967296 + f2) * Bn := Int.mul_le_mul_of_nonneg_right (by omega) (by omega)
    rw [Int.sub_mul, Int.one_mul]
    omega
  · rcases hc with hc | hc
    · have : 4294967296 * Vv ≤ g * Vv := Int.mul_le_mul_of_nonneg_right hc (by omega)
      omega
    · exact key g h0 (by rw [hm g rest h]; omega)
  · have e1 : (top * 4294967296 + u2) * Bn < 4294967296 * (f1 * 4294967296 + f2 + 1) * Bn := by
      rw [Int.mul_assoc 4294967296]
      omega
    have e2 := Int.lt_of_mul_lt_mul_right e1 (by omega)
    have e3 : 4294967296 * f1 ≤ g * f1 := Int.mul_le_mul_of_nonneg_right hc (by omega)
    omega
  · have e0 := Int.lt_ediv_add_one_mul_self top (show 0 < f1 by omega)
    have e1 : 0 ≤ top / f1 := Int.ediv_nonneg ht (by omega)
    refine key _ (by omega) ?_
    have e2 : 0 ≤ (top / f1 + 1) * f2 := Int.mul_nonneg (by omega) hf2.1
    rw [Int.mul_add, ← Int.mul_assoc]
    omega

theorem guess_loop (us qs vs : List Int) (s j : Nat) {Vv W f1 f2 top : Int} (hl : us.length ≤ 1099511627776) (hj : j + vs.length < us.length) (hv : 2 ≤ vs.length) (hq : qs.length ≤ 1099511627776) (hu : Good us)
    (hf1 : 1 ≤ f1 ∧ f1 < 4294967296) (hf2 : 0 ≤ f2 ∧ f2 < 4294967296) (ht : 0 ≤ top ∧ top < 18446744073709551616)
    (k1 : ∀ g rest, g * f1 + rest = top → 0 ≤ g → g < 4294967296 → (4294967296 ≤ rest ∨ g * f2 ≤ rest * 4294967296 + nth us (j + vs.length - 2)) → (g - 1) * Vv ≤ W)
    (k2 : ∀ g rest, g * f1 + rest = top → 0 ≤ g → (4294967296 ≤ g ∨ rest * 4294967296 + nth us (j + vs.length - 2) < g * f2) → W < g * Vv)
    (k3 : ∀ g rest, g * f1 + rest = top → 4294967296 ≤ g → rest < 4294967296) :
    ∀ m g rest, (4294967296 - rest).toNat = m → g * f1 + rest = top → 0 ≤ g → g < 18446744073709551616 → 0 ≤ rest → rest < 8589934592 → W < (g + 1) * Vv →
    ∃ g', codeX T0 X0 0 a_limbs_long_l0 (some (.nrm, ⟨[(4, .ref (.b 0) ⟨1, 4⟩ 0 qs.length), (6, .d (.int .i64 s)), (7, .ref (.b 1) ⟨1, 4⟩ 0 us.length), (8, .ref (.b 2) ⟨1, 4⟩ 0 vs.length), (9, .d (.int .i64 vs.length)), (10, .d (.int .u64 f1)), (11, .d (.int .u64 f2)), (12, .d (.int .i64 j)), (14, .d (.int .u64 g)), (15, .d (.int .u64 rest))], [.arr (LV qs) ⟨1, 4⟩, .arr (LV us) ⟨1, 4⟩, .arr (LV vs) ⟨1, 4⟩]⟩)) =
        some (.exit 2, ⟨[(4, .ref (.b 0) ⟨1, 4⟩ 0 qs.length), (6, .d (.int .i64 s)), (7, .ref (.b 1) ⟨1, 4⟩ 0 us.length), (8, .ref (.b 2) ⟨1, 4⟩ 0 vs.length), (9, .d (.int .i64 vs.length)), (10, .d (.int .u64 f1)), (11, .d (.int .u64 f2)), (12, .d (.int .i64 j)), (14, .d (.int .u64 g'))], [.arr (LV qs) ⟨1, 4⟩, .arr (LV us) ⟨1, 4⟩, .arr (LV vs) ⟨1, 4⟩]⟩) ∧
      0 ≤ g' ∧ g' < 4294967296 ∧ (g' - 1) * Vv ≤ W ∧ W < (g' + 1) * Vv := by
  intro m
  induction m using Nat.strongRecOn with
  | _ m ih =>
    intro g rest hm hg h0 h64 hr0 hr1 hW
    have n2 := hu.nth (j + vs.length - 2)
    rw [codeX_loop (l := a_limbs_long_l0) rfl]
    by_cases hr : rest < 4294967296
    · have hor := or64 hr0 n2 hr
      have hdec : ∀ hc : 4294967296 ≤ g ∨ rest * 4294967296 + nth us (j + vs.length - 2) < g * f2, 1 ≤ g →
        ∃ g', codeX T0 X0 0 a_limbs_long_l0 (some (.nrm, ⟨[(4, .ref (.b 0) ⟨1, 4⟩ 0 qs.length), (6, .d (.int .i64 s)), (7, .ref (.b 1) ⟨1, 4⟩ 0 us.length), (8, .ref (.b 2) ⟨1, 4⟩ 0 vs.length), (9, .d (.int .i64 vs.length)), (10, .d (.int .u64 f1)), (11, .d (.int .u64 f2)), (12, .d (.int .i64 j)), (14, .d (.int .u64 (g - 1))), (15, .d (.int .u64 (rest + f1)))], [.arr (LV qs) ⟨1, 4⟩, .arr (LV us) ⟨1, 4⟩, .arr (LV vs) ⟨1, 4⟩]⟩)) =
            some (.exit 2, ⟨[(4, .ref (.b 0) ⟨1, 4⟩ 0 qs.length), (6, .d (.int .i64 s)), (7, .ref (.b 1) ⟨1, 4⟩ 0 us.length), (8, .ref (.b 2) ⟨1, 4⟩ 0 vs.length), (9, .d (.int .i64 vs.length)), (10, .d (.int .u64 f1)), (11, .d (.int .u64 f2)), (12, .d (.int .i64 j)), (14, .d (.int .u64 g'))], [.arr (LV qs) ⟨1, 4⟩, .arr (LV us) ⟨1, 4⟩, .arr (LV vs) ⟨1, 4⟩]⟩) ∧
          0 ≤ g' ∧ g' < 4294967296 ∧ (g' - 1) * Vv ≤ W ∧ W < (g' + 1) * Vv := fun hc h1 =>
        ih _ (by omega) (g - 1) (rest + f1) rfl (by rw [Int.sub_mul, Int.one_mul]; omega) (by omega) (by omega) (by omega) (by omega) (by rw [Int.sub_add_cancel]; exact k2 g rest hg h0 hc)
      by_cases hb : 4294967296 ≤ g
      · obtain ⟨g', e, h⟩ := hdec (.inl hb) (by omega)
        refine ⟨g', ?_, h⟩
        rw [← e]
        simp -implicitDefEqProofs (disch := omega) [a_limbs_long_b0, hor]
        done
      · have hm2 := mul_lt (x := g) (y := f2) ⟨h0, by omega⟩ hf2
        by_cases hc : rest * 4294967296 + nth us (j + vs.length - 2) < g * f2
        · have h1 : 1 ≤ g := by
            by_cases h : 1 ≤ g
            · exact h
            · have : g = 0 := by omega
              subst this
              omega
          obtain ⟨g', e, h⟩ := hdec (.inr hc) h1
          refine ⟨g', ?_, h⟩
          rw [← e]
          simp -implicitDefEqProofs (disch := omega) [a_limbs_long_b0, hor]
          done
        · refine ⟨g, ?_, h0, by omega, k1 g rest hg h0 (by omega) (.inr (by omega)), hW⟩
          simp -implicitDefEqProofs (disch := omega) [a_limbs_long_b0, hor]
          done
    · have hb : g < 4294967296 := by
        by_cases h : g < 4294967296
        · exact h
        · exact absurd (k3 g rest hg (by omega)) hr
      refine ⟨g, ?_, h0, hb, k1 g rest hg h0 hb (.inl (by omega)), hW⟩
      simp -implicitDefEqProofs (disch := omega) [a_limbs_long_b0]
      done
end Go.Rf

/- limbs: long division; DivMod. -/
namespace Go.Rf

@[simp] theorem without_at (h : Loc → Option Obj) (m : List Loc) (l : Loc) : without h m l = if l ∈ m then none else h l := rfl
theorem nv_zero {l : List Int} (h : ∀ i, nth l i = 0) : nv l = 0 := by
  induction l with
  | nil => rfl
  | cons x l ih =>
    have h0 := h 0
    rw [nth_cons_zero] at h0
    have h1 := ih (fun i => by have := h (i + 1); rwa [nth_cons_succ] at this)
    simp only [nv, h0, h1]
    rfl
theorem nth_drop (xs : List Int) (k i : Nat) : nth (xs.drop k) i = nth xs (k + i) := by simp [nth, List.getD_eq_getElem?_getD, List.getElem?_drop]

theorem long_loop (vs : List Int) (s m : Nat) (hv : Good vs) (hv2 : 2 ≤ vs.length) (hf : 1 ≤ nth vs (vs.length - 1)) (hl : m + vs.length ≤ 1099511627776) : ∀ k (us qs : List Int), k ≤ m → us.length = m + vs.length → qs.length = m → Good us → Good qs → nv us < pw k * nv vs → (∀ i, i < k → nth qs i = 0) →
    ∃ us' qs', codeX T0 X0 0 a_limbs_long_l1 (some (.nrm, ⟨[(4, .ref (.b 0) ⟨1, 4⟩ 0 m), (6, .d (.int .i64 s)), (7, .ref (.b 1) ⟨1, 4⟩ 0 us.length), (8, .ref (.b 2) ⟨1, 4⟩ 0 vs.length), (9, .d (.int .i64 vs.length)), (10, .d (.int .u64 (nth vs (vs.length - 1)))), (11, .d (.int .u64 (nth vs (vs.length - 2)))), (12, .d (.int .i64 ((k : Int) - 1)))], [.arr (LV qs) ⟨1, 4⟩, .arr (LV us) ⟨1, 4⟩, .arr (LV vs) ⟨1, 4⟩]⟩)) =
        some (.exit 0, ⟨[(4, .ref (.b 0) ⟨1, 4⟩ 0 m), (6, .d (.int .i64 s)), (7, .ref (.b 1) ⟨1, 4⟩ 0 us.length), (9, .d (.int .i64 vs.length))], [.arr (LV qs') ⟨1, 4⟩, .arr (LV us') ⟨1, 4⟩]⟩) ∧
      us'.length = us.length ∧ qs'.length = m ∧ Good us' ∧ Good qs' ∧ nv us' < nv vs ∧ nv us + nv qs * nv vs = nv us' + nv qs' * nv vs := by
  intro k
  induction k with
  | zero =>
    intro us qs hk hu hq gu gq hlt hz
    refine ⟨us, qs, ?_, rfl, hq, gu, gq, by simpa [pw] using hlt, rfl⟩
    rw [codeX_loop (l := a_limbs_long_l1) rfl]
    simp -implicitDefEqProofs (disch := omega) [a_limbs_long_b1]
    done
  | succ j ih =>
    intro us qs hk hu hq gu gq hlt hz
    have hn : j + vs.length < us.length := by omega
    have pj := pw_pos j
    have vb := nv_bounds hv
    have hlt2 : nv us < pw (j + 1 + vs.length) := by
      rw [Nat.add_comm, pw_add]
      have := Int.mul_le_mul_of_nonneg_left (Int.le_of_lt vb.2) (Int.le_of_lt (pw_pos (j + 1)))
      rw [Int.mul_comm (pw vs.length)]
      omega
    have zz := nth_zero_of gu hlt2
    have f1b := hv.nth (vs.length - 1)
    have f2b := hv.nth (vs.length - 2)
    have u0b := gu.nth (j + vs.length)
    have u1b := gu.nth (j + vs.length - 1)
    have u2b := gu.nth (j + vs.length - 2)
    have hVd : nv vs = nv (vs.take (vs.length - 2)) + pw (vs.length - 2) * (nth vs (vs.length - 1) * 4294967296 + nth vs (vs.length - 2)) := by
      rw [nv_take_drop (xs := vs) (j := vs.length - 2) (by omega), drop_nth (by omega), show vs.length - 2 + 1 = vs.length - 1 by omega, drop_nth (by omega), show vs.length - 1 + 1 = vs.length by omega, List.drop_length]
      simp only [nv]
      rw [Int.mul_zero, Int.add_zero, Int.add_comm (nth vs (vs.length - 2)), Int.mul_comm 4294967296]
    have vl := nv_bounds (hv.take (vs.length - 2))
    rw [List.length_take, Nat.min_eq_left (by omega)] at vl
    have hWd : nv (us.drop j) = nv ((us.drop j).take (vs.length - 2)) + pw (vs.length - 2) * ((nth us (j + vs.length) * 4294967296 + nth us (j + vs.length - 1)) * 4294967296 + nth us (j + vs.length - 2)) := by
      rw [nv_take_drop (xs := us.drop j) (j := vs.length - 2) (by simp; omega), List.drop_drop, show j + (vs.length - 2) = j + vs.length - 2 by omega, drop_nth (xs := us) (i := j + vs.length - 2) (by omega), show j + vs.length - 2 + 1 = j + vs.length - 1 by omega, drop_nth (xs := us) (i := j + vs.length - 1) (by omega), show j + vs.length - 1 + 1 = j + vs.length by omega, drop_nth (xs := us) (i := j + vs.length) (by omega)]
      have e : nv (us.drop (j + vs.length + 1)) = 0 := nv_zero (fun i => by rw [nth_drop]; exact zz _ (by omega))
      simp only [nv, e]
      rw [Int.mul_zero, Int.add_zero]
      congr 2
      omega
    have wl := nv_bounds ((gu.drop j).take (vs.length - 2))
    rw [List.length_take, Nat.min_eq_left (by simp; omega)] at wl
    have hUd := nv_take_drop (xs := us) (j := j) (by omega)
    have ul := nv_bounds (gu.take j)
    rw [List.length_take, Nat.min_eq_left (by omega)] at ul
    have hWB : nv (us.drop j) < 4294967296 * nv vs := by
      have : pw j * nv (us.drop j) < pw j * (4294967296 * nv vs) := by
        rw [pw_succ, Int.mul_comm 4294967296, Int.mul_assoc] at hlt
        omega
      exact Int.lt_of_mul_lt_mul_left this (by omega)
    generalize hf1 : nth vs (vs.length - 1) = f1 at *
    generalize hf2 : nth vs (vs.length - 2) = f2 at *
    have hb := pw_pos (vs.length - 2)
    generalize hBn : pw (vs.length - 2) = Bn at *
    have htop : 0 ≤ nth us (j + vs.length) * 4294967296 + nth us (j + vs.length - 1) ∧ nth us (j + vs.length) * 4294967296 + nth us (j + vs.length - 1) < 18446744073709551616 := by omega
    have hor := or64 u0b.1 u1b u0b.2
    generalize htp : nth us (j + vs.length) * 4294967296 + nth us (j + vs.length - 1) = top at *
    obtain ⟨k1, k2, k3, k4⟩ := guess_facts (Vv := nv vs) (W := nv (us.drop j)) hb hf f2b u2b htop.1 (by rw [hVd, Int.mul_comm]; omega) (by rw [hVd, Int.add_mul, Int.one_mul, Int.mul_comm Bn]; omega) (by rw [hWd, Int.mul_comm]; omega) (by rw [hWd, Int.add_mul _ 1, Int.one_mul, Int.mul_comm Bn]; omega) hWB
    have t1 := Int.mul_ediv_add_emod top f1
    rw [Int.mul_comm] at t1
    have t2 : 0 ≤ top / f1 := Int.ediv_nonneg htop.1 (by omega)
    have t3 : top / f1 ≤ top := Int.ediv_le_self _ htop.1
    have t4 := Int.emod_nonneg top (show f1 ≠ 0 by omega)
    have t5 := Int.emod_lt_of_pos top (show 0 < f1 by omega)
    obtain ⟨g, l1, g0, g1, g2, g3⟩ := guess_loop us qs vs s j (W := nv (us.drop j)) (Vv := nv vs) (by omega) hn hv2 (by omega) gu ⟨hf, f1b.2⟩ f2b htop k1 k2 k3 _ (top / f1) (top % f1) rfl t1 t2 (by omega) t4 (by omega) k4
    have hV0 : 0 < nv vs := by
      have : 0 < Bn * (f1 * 4294967296 + f2) := Int.mul_pos hb (by omega)
      omega
    obtain ⟨us2, l2, hu2, gu2, hnu⟩ := take_spec (us := us) (j := j) (by omega) hn hv gu ⟨g0, g1⟩ (fun i hi => zz i (by omega)) hV0 g2 g3
    have q0 : 0 ≤ nv (us.drop j) / nv vs := Int.ediv_nonneg (nv_bounds (gu.drop j)).1 (by omega)
    have q1 : nv (us.drop j) / nv vs < 4294967296 := Int.ediv_lt_of_lt_mul hV0 hWB
    have d1 := Int.mul_ediv_add_emod (nv (us.drop j)) (nv vs)
    have d2 := Int.emod_lt_of_pos (nv (us.drop j)) hV0
    have hlt3 : nv us2 < pw j * nv vs := by
      have e1 : pw j * (nv (us.drop j) - nv (us.drop j) / nv vs * nv vs) ≤ pw j * (nv vs - 1) := Int.mul_le_mul_of_nonneg_left (by rw [Int.mul_comm (nv (us.drop j) / nv vs)]; omega) (by omega)
      rw [Int.mul_sub, Int.mul_sub, Int.mul_one] at e1
      omega
    obtain ⟨us3, qs3, l3, h1, h2, h3, h4, h5, h6⟩ := ih us2 (qs.set j (nv (us.drop j) / nv vs)) (by omega) (by omega) (by simp [hq]) gu2 (good_set gq _ ⟨q0, q1⟩) hlt3 (fun i hi => by
      rw [nth_set (by omega), if_neg (by omega)]
      exact hz i (by omega))
    refine ⟨us3, qs3, ?_, by omega, h2, h3, h4, h5, ?_⟩
    · rw [codeX_loop (l := a_limbs_long_l1) rfl]
      rw [hu2] at l3
      rw [← l3]
      rw [hq] at l1
      generalize nv (us.drop j) / nv vs = Q at *
      have hsl : j + vs.length + 1 - j = vs.length + 1 := by omega
      have htk : (LV vs).take vs.length = LV vs := by rw [LV_take, List.take_length]
      have hvt : vs.take vs.length = vs := List.take_length
      simp -implicitDefEqProofs (disch := omega) [a_limbs_long_b1, hor, htp, l1, l2, hsl, htk, hvt]
      done
    · rw [← h6, nv_set (by omega), hz j (by omega), Int.sub_zero, hnu, Int.add_mul, Int.mul_assoc]
      omega
end Go.Rf
