/- Parts of the proof: RfOp2, RfOp3, RfOp4, RfOp5, RfOp6, RfOp7, RfOp8, RfCall. -/
import Derived.Test.YtdgfohkljpjdpaaGreatDoorRg1

set_option linter.unusedSimpArgs false
set_option linter.unusedVariables false
set_option linter.unnecessarySimpa false
namespace Go.Rf
variable {B : Ice} {ds : List Deferred} {fx : List (Nat × Value)}
section
variable {P : Program} {T : Tab} {cf : CF} {o : Oper} {a : Act} {w : World} {ρ : Map} {H : Ice} {h : Loc → Option Obj} {i N : Nat} {env : List (Nat × V)} {r : R}
def ok_mv (x : Opnd) : Op → Bool
  | .move y | .assign y => okO y x
  | _ => false
theorem s_mv {x} (hH : HRel ρ H h w) (hE : EnvRel B ds fx ρ H N env a) (hok : ok_mv x o.op = true) (e : exec T cf i (.mv x) (evO env) h = some r) : Sound P o a w ρ H h i r := by
  obtain ⟨v, e1, e2⟩ := qan e
  rw [qbx e2]
  unfold ok_mv at hok
  split at hok
  · rename_i y hop
    exact Sound.pure (by unfold execOp; rw [hop]; rfl) hH (qau hE hok e1)
  · rename_i y hop
    exact Sound.pure (by unfold execOp; rw [hop]; rfl) hH (qau hE hok e1)
  · cases hok
def q3z (c x y : Opnd) : Op → Bool
  | .pick c' x' y' => okO c' c && okO x' x && okO y' y
  | _ => false
theorem s_pick {c x y} (hH : HRel ρ H h w) (hE : EnvRel B ds fx ρ H N env a) (hok : q3z c x y o.op = true) (e : exec T cf i (.pick c x y) (evO env) h = some r) : Sound P o a w ρ H h i r := by
  unfold q3z at hok
  split at hok
  · rename_i c' x' y' hop
    simp only [Bool.and_eq_true] at hok
    obtain ⟨⟨h1, h2⟩, h3⟩ := hok
    simp only [exec] at e
    split at e
    · rename_i hc
      obtain ⟨v, e1, e2⟩ := qan e
      rw [qbx e2]
      have hc' : a.eval c' = .bool true := qau hE h1 hc
      exact Sound.pure (by unfold execOp; simp only [hop, hc']; rfl) hH (qau hE h2 e1)
    · rename_i hc
      obtain ⟨v, e1, e2⟩ := qan e
      rw [qbx e2]
      have hc' : a.eval c' = .bool false := qau hE h1 hc
      exact Sound.pure (by unfold execOp; simp only [hop, hc']; rfl) hH (qau hE h3 e1)
    · cases e
  · cases hok
def ok_un (op : UnOp) (x : Opnd) : Op → Bool
  | .unOp op' _ x' => decide (op' = op) && okO x' x
  | _ => false
theorem s_un {op x} (hH : HRel ρ H h w) (hE : EnvRel B ds fx ρ H N env a) (hok : ok_un op x o.op = true) (e : exec T cf i (.un op x) (evO env) h = some r) : Sound P o a w ρ H h i r := by
  unfold ok_un at hok
  split at hok
  · rename_i op' t x' hop
    simp only [Bool.and_eq_true, decide_eq_true_eq] at hok
    obtain ⟨h1, h2⟩ := hok
    subst h1
    obtain ⟨v, e1, e2⟩ := qan e
    obtain ⟨d, e3, e4⟩ := qan e2
    rw [qbx e4]
    have hx := qau hE h2 e1
    unfold un at e3
    split at e3
    · cases e3
      have hx' : a.eval x' = .bool _ := hx
      rename_i b
      exact Sound.pure (x := .d (.bool (!b))) (v := .bool (!b)) (by unfold execOp; simp only [hop, hx']; rfl) hH rfl
    · cases e3
      have hx' : a.eval x' = .int _ _ := hx
      rename_i k n
      exact Sound.pure (x := .d (.int k (k.wrap (0 - n)))) (v := .int k (k.wrap (0 - n))) (by unfold execOp; simp only [hop, hx']; rfl) hH rfl
    · cases e3
  · cases hok
def q9s (t : TypeId) (x : Opnd) (P : Program) : Op → Bool
  | .makeInterface t' x' => decide (t' = t) && okO x' x && (match P.underlying t with | some (.interface _) => false | some _ => true | none => false)
  | _ => false
theorem s_mkI {t x} (hH : HRel ρ H h w) (hE : EnvRel B ds fx ρ H N env a) (hok : q9s t x P o.op = true) (e : exec T cf i (.mkI t x) (evO env) h = some r) : Sound P o a w ρ H h i r := by
  unfold q9s at hok
  split at hok
  · rename_i t' x' hop
    simp only [Bool.and_eq_true, decide_eq_true_eq] at hok
    obtain ⟨⟨h1, h2⟩, h3⟩ := hok
    subst h1
    obtain ⟨v, e1, e2⟩ := qan e
    rw [qbx e2]
    have hx := qau hE h2 e1
    refine Sound.pure (v := .iface t' (a.eval x')) ?_ hH ?_
    · unfold execOp
      simp only [hop, Instr.makeInterface]
      cases hu : P.underlying t' with
      | none => rw [hu] at h3; cases h3
      | some d =>
        rw [hu] at h3
        simp only [Sem.run_bind, run_underlying hu, Result.andThen_ok]
        cases d <;> first | rfl | cases h3
    · unfold qs7
      split
      · exact ⟨_, rfl, hx⟩
      · exact ⟨_, rfl, hx⟩
  · cases hok
theorem q7c {op k x y d} (e : qej op k x y = some d) : ∃ v, DRel H d v ∧ (binOp op 0 (.int k x) (.int k y)).run P w = .ok v w ∧ (∀ t, binOp op t (.int k x) (.int k y) = binOp op 0 (.int k x) (.int k y)) := by
  unfold qej at e
  split at e
  all_goals first
    | (injection e with e; subst e; refine ⟨_, rfl, ?_, fun t => rfl⟩; simp only [binOp, ne_eq, not_true_eq_false, if_false, Op.intArith, Op.intBits, Op.intCmp]; rfl)
    | (split at e
       · cases e
       · rename_i hy
         injection e with e; subst e; refine ⟨_, rfl, ?_, fun t => rfl⟩; simp only [binOp, ne_eq, not_true_eq_false, if_false, Op.intDiv, if_neg hy]; rfl)
    | cases e
theorem q08 {op k x k' y d} (e : quf op k x y = some d) : ∃ v, DRel H d v ∧ ∀ t, (binOp op t (.int k x) (.int k' y)).run P w = .ok v w := by
  unfold quf at e
  split at e
  · cases e
  · rename_i hy
    split at e
    · cases e; exact ⟨_, rfl, fun t => by simp only [binOp, Op.shift, if_neg hy]; rfl⟩
    · cases e; exact ⟨_, rfl, fun t => by simp only [binOp, Op.shift, if_neg hy]; rfl⟩
    · cases e
theorem qkj (op : BinOp) (t : TypeId) (x y : Operand) (u v : Value) (h : (match u, v with | .nilIface, .nilIface => false | .agg _, .agg _ => false | _, _ => true) = true) :
    (eqGuard op t x y u v).run P w = .ok () w := by
  unfold eqGuard
  cases op <;> first
    | rfl
    | (split at h
       · cases h
       · cases h
       · simp only [Bool.not_true, Bool.false_eq_true, if_false]
         first
           | rfl
           | (split
              · simp_all
              · simp_all
              · rfl))
def q9y (op : BinOp) (x y : Opnd) : Op → Bool
  | .binOp op' _ x' y' _ => decide (op' = op) && okO x' x && okO y' y
  | _ => false
theorem q26 (a b : List UInt8) : ((⟨a.toArray⟩ : ByteArray).toList == (⟨b.toArray⟩ : ByteArray).toList) = (a == b) := by
  rw [ByteArray.toList_mk, ByteArray.toList_mk]
theorem s_bin {op x y} (hH : HRel ρ H h w) (hE : EnvRel B ds fx ρ H N env a) (hok : q9y op x y o.op = true) (e : exec T cf i (.bin op x y) (evO env) h = some r) : Sound P o a w ρ H h i r := by
  unfold q9y at hok
  split at hok
  · rename_i op' t x' y' yt hop
    simp only [Bool.and_eq_true, decide_eq_true_eq] at hok
    obtain ⟨⟨h1, h2⟩, h3⟩ := hok
    subst h1
    obtain ⟨u, e1, e2⟩ := qan e
    obtain ⟨v, e3, e4⟩ := qan e2
    obtain ⟨d, e5, e6⟩ := qan e4
    rw [qbx e6]
    have hx := qau hE h2 e1
    have hy := qau hE h3 e3
    have go : ∀ z, (match a.eval x', a.eval y' with | .nilIface, .nilIface => false | .agg _, .agg _ => false | _, _ => true) = true → DRel H d z → (binOp op' t (a.eval x') (a.eval y')).run P w = .ok z w → Sound P o a w ρ H h i (.ok { v := .d d }) := by
      intro z hg hz hr
      refine Sound.pure (x := .d d) (v := z) ?_ hH hz
      unfold execOp
      simp only [hop, Sem.run_bind, qkj _ _ _ _ _ _ hg, Result.andThen_ok, hr]
      rfl
    unfold bin at e5
    split at e5
    · rename_i k m k' n
      have hx' : a.eval x' = .int k m := hx
      have hy' : a.eval y' = .int k' n := hy
      rw [hx', hy'] at go
      have sh : ∀ d, quf op' k m n = some d → ∃ z, DRel H d z ∧ (binOp op' t (.int k m) (.int k' n)).run P w = .ok z w := fun d e => by
        obtain ⟨z, h1, h2⟩ := q08 (P := P) (w := w) (H := H) (k' := k') e
        exact ⟨z, h1, h2 t⟩
      split at e5
      · obtain ⟨z, h1, h2⟩ := sh d e5
        exact go z rfl h1 h2
      · obtain ⟨z, h1, h2⟩ := sh d e5
        exact go z rfl h1 h2
      · split at e5
        · rename_i hk
          subst hk
          obtain ⟨z, h1, h2, h3⟩ := q7c (P := P) (w := w) (H := H) e5
          exact go z rfl h1 (by rw [h3]; exact h2)
        · cases e5
    · rename_i s s'
      obtain ⟨hx', hl⟩ := (hx : a.eval x' = .string ⟨s.toArray⟩ ∧ s.length ≤ long)
      obtain ⟨hy', hl'⟩ := (hy : a.eval y' = .string ⟨s'.toArray⟩ ∧ s'.length ≤ long)
      rw [hx', hy'] at go
      unfold qxc at e5
      split at e5
      · split at e5
        · rename_i hlen
          cases e5
          refine go (.string ⟨(s ++ s').toArray⟩) rfl ⟨rfl, by simpa using hlen⟩ ?_
          have h1 : ¬ ((((⟨s.toArray⟩ : ByteArray).size + (⟨s'.toArray⟩ : ByteArray).size : Nat) : Int) > IntKind.i64.max) := by
            have : (⟨s.toArray⟩ : ByteArray).size + (⟨s'.toArray⟩ : ByteArray).size = s.length + s'.length := by simp [ByteArray.size]
            rw [this]
            have : IntKind.i64.max = 9223372036854775807 := by decide
            rw [this]
            unfold long at hlen
            omega
          simp only [binOp, Op.stringOp, if_neg h1]
          have h2 : (⟨s.toArray⟩ : ByteArray) ++ ⟨s'.toArray⟩ = ⟨(s ++ s').toArray⟩ := by
            apply ByteArray.ext
            simp
          rw [h2]
          rfl
        · cases e5
      · cases e5
        refine go (.bool (s == s')) rfl rfl ?_
        simp only [binOp, Op.stringOp, q26]
        rfl
      · cases e5
        refine go (.bool (!(s == s'))) rfl rfl ?_
        simp only [binOp, Op.stringOp, q26]
        rfl
      · cases e5
    · cases e5
  · cases hok
theorem qpv (t : TypeId) (x y : Value) : Op.equal t x y = Op.equalIn (9999 + 1) t x y := rfl
def q9w (eq : Bool) (x y : Opnd) (P : Program) : Op → Bool
  | .binOp op t x' y' _ => (match op with | .eql => eq | .neq => !eq | _ => false) && okO x' x && okO y' y && (match P.underlying t with | some .bool => true | _ => false)
  | _ => false
theorem s_eqB {eq x y} (hH : HRel ρ H h w) (hE : EnvRel B ds fx ρ H N env a) (hok : q9w eq x y P o.op = true) (e : exec T cf i (.eqB eq x y) (evO env) h = some r) : Sound P o a w ρ H h i r := by
  unfold q9w at hok
  split at hok
  · rename_i op t x' y' yt hop
    simp only [Bool.and_eq_true] at hok
    obtain ⟨⟨⟨h1, h2⟩, h3⟩, h4⟩ := hok
    simp only [exec] at e
    split at e
    · rename_i b c e1 e2
      rw [qbx e]
      have hx : a.eval x' = .bool b := qau hE h2 e1
      have hy : a.eval y' = .bool c := qau hE h3 e2
      have hu : P.underlying t = some .bool := by split at h4 <;> first | assumption | cases h4
      have he : (Op.equal t (.bool b) (.bool c)).run P w = .ok (b == c) w := by
        rw [qpv, Op.equalIn, Sem.run_bind, run_underlying hu, Result.andThen_ok]
        rfl
      refine Sound.pure (x := .d (.bool ((b == c) == eq))) (v := .bool ((b == c) == eq)) ?_ hH rfl
      unfold execOp
      split at h1
      · subst h1
        simp only [hop, Sem.run_bind, hx, hy, qkj _ _ _ _ (.bool b) (.bool c) rfl, Result.andThen_ok, binOp, he]
        simp
      · have : eq = false := by simpa using h1
        subst this
        simp only [hop, Sem.run_bind, hx, hy, qkj _ _ _ _ (.bool b) (.bool c) rfl, Result.andThen_ok, binOp, he]
        simp
      · cases h1
    · cases e
  · cases hok
def q9u (eq ifc : Bool) (x : Opnd) (P : Program) : Op → Bool
  | .binOp op t x' y' _ => (match op with | .eql => eq | .neq => !eq | _ => false) && okO x' x &&
      (match P.underlying t, y' with | some (.pointer _), .const (.pointer none) => !ifc | some (.interface _), .const .nilIface => ifc | _, _ => false)
  | _ => false
theorem s_isN {eq ifc x} (hH : HRel ρ H h w) (hE : EnvRel B ds fx ρ H N env a) (hok : q9u eq ifc x P o.op = true) (e : exec T cf i (.isN eq ifc x) (evO env) h = some r) : Sound P o a w ρ H h i r := by
  unfold q9u at hok
  split at hok
  · rename_i op t x' y' yt hop
    simp only [Bool.and_eq_true] at hok
    obtain ⟨⟨h1, h2⟩, h4⟩ := hok
    obtain ⟨v, e1, e2⟩ := qan e
    obtain ⟨b, e3, e4⟩ := qan e2
    rw [qbx e4]
    have hx := qau hE h2 e1
    have key : (eqGuard op t x' y' (a.eval x') (a.eval y')).run P w = .ok () w ∧ (∀ op', op' = .eql ∨ op' = .neq → binOp op' t (a.eval x') (a.eval y') = (match op' with | .eql => (do pure (.bool (← Op.equal t (a.eval x') (a.eval y')))) | _ => (do pure (.bool (!(← Op.equal t (a.eval x') (a.eval y'))))))) ∧
        (Op.equal t (a.eval x') (a.eval y')).run P w = .ok b w := by
      split at h4
      · rename_i el hu
        have hi : ifc = false := by simpa using h4
        subst hi
        have hy : a.eval (.const (.pointer none)) = .pointer none := rfl
        rw [hy]
        have hp : ∃ p, a.eval x' = .pointer p ∧ b = p.isNone := by
          unfold isNil at e3
          split at e3 <;> first | contradiction | cases e3
          · exact ⟨none, hx, rfl⟩
          · obtain ⟨b', off, u, hv, _⟩ := hx
            exact ⟨_, hv, rfl⟩
          · rename_i l e j _
            have hx : PtrAt (ρ l) e j (a.eval x') := hx
            cases hp : ρ l with
            | dead => rw [hp] at hx; obtain ⟨q, hq⟩ := hx; exact ⟨_, hq, rfl⟩
            | at_ b1 b2 b3 b4 => rw [hp] at hx; exact ⟨_, hx, rfl⟩
            | _ => rw [hp] at hx; exact hx.elim
        obtain ⟨p, hp, rfl⟩ := hp
        rw [hp]
        refine ⟨qkj _ _ _ _ _ _ rfl, ?_, ?_⟩
        · rintro op' (rfl | rfl) <;> rfl
        · rw [qpv, Op.equalIn, Sem.run_bind, run_underlying hu, Result.andThen_ok]
          cases p <;> rfl
      · rename_i ms hu
        subst h4
        have hy : a.eval (.const .nilIface) = .nilIface := rfl
        rw [hy]
        have hp : (a.eval x' = .nilIface ∧ b = true) ∨ ∃ t u, a.eval x' = .iface t u ∧ b = false := by
          unfold isNil at e3
          split at e3 <;> first | contradiction | cases e3
          · exact .inl ⟨hx, rfl⟩
          · obtain ⟨u, hv, _⟩ := hx
            exact .inr ⟨_, _, hv, rfl⟩
          · obtain ⟨u, hv, _⟩ := hx
            exact .inr ⟨_, _, hv, rfl⟩
        rcases hp with ⟨hp, rfl⟩ | ⟨t', u, hp, rfl⟩
        · rw [hp]
          refine ⟨?_, ?_, ?_⟩
          · unfold eqGuard
            cases op <;> first | rfl | simp
          · rintro op' (rfl | rfl) <;> rfl
          · rw [qpv, Op.equalIn, Sem.run_bind, run_underlying hu, Result.andThen_ok]
            rfl
        · rw [hp]
          refine ⟨qkj _ _ _ _ _ _ rfl, ?_, ?_⟩
          · rintro op' (rfl | rfl) <;> rfl
          · rw [qpv, Op.equalIn, Sem.run_bind, run_underlying hu, Result.andThen_ok]
            rfl
      · cases h4
    obtain ⟨k1, k2, k3⟩ := key
    refine Sound.pure (x := .d (.bool (b == eq))) (v := .bool (b == eq)) ?_ hH rfl
    unfold execOp
    split at h1
    · subst h1
      simp only [hop, Sem.run_bind, k1, Result.andThen_ok, k2 .eql (.inl rfl), k3]
      simp
    · have : eq = false := by simpa using h1
      subst this
      simp only [hop, Sem.run_bind, k1, Result.andThen_ok, k2 .neq (.inr rfl), k3]
      simp
    · cases h1
  · cases hok
end
end Go.Rf

namespace Go.Rf
variable {B : Ice} {ds : List Deferred} {fx : List (Nat × Value)}
section
variable {P : Program} {T : Tab} {cf : CF} {o : Oper} {a : Act} {w : World} {ρ : Map} {H : Ice} {h : Loc → Option Obj} {i N : Nat} {env : List (Nat × V)} {r : R}
theorem qkk (s : List UInt8) : (⟨s.toArray⟩ : ByteArray).size = s.length := by simp [ByteArray.size]
def qzo (k : IntKind) (x : Opnd) (P : Program) : Op → Bool
  | .convert src dst x' => okO x' x && (P.underlying src).isSome && (match P.underlying dst with | some (.int k') => decide (k' = k) | _ => false)
  | _ => false
theorem zgb {k x} (hH : HRel ρ H h w) (hE : EnvRel B ds fx ρ H N env a) (hok : qzo k x P o.op = true) (e : exec T cf i (.conv (.int k) x) (evO env) h = some r) : Sound P o a w ρ H h i r := by
  unfold qzo at hok
  split at hok
  · rename_i src dst x' hop
    simp only [Bool.and_eq_true] at hok
    obtain ⟨⟨h1, h2⟩, h3⟩ := hok
    obtain ⟨v, e1, e2⟩ := qan e
    cases v with
    | d x0 =>
      cases x0 with
      | int j n =>
        rw [qbx e2]
        have hx : a.eval x' = .int j n := qau hE h1 e1
        obtain ⟨d, hd⟩ := Option.isSome_iff_exists.1 h2
        have hu : P.underlying dst = some (.int k) := by
          split at h3
          · rename_i k'' hh; simp only [decide_eq_true_eq] at h3; subst h3; exact hh
          · cases h3
        refine Sound.pure (x := .d (.int k (k.wrap n))) (v := .int k (k.wrap n)) ?_ hH rfl
        unfold execOp
        simp only [hop, hx, convert, Sem.run_bind, run_underlying hd, run_underlying hu, Result.andThen_ok]
        rfl
      | _ => simp at e2
    | _ => simp at e2
  · cases hok
def qzn (x : Opnd) (P : Program) : Op → Bool
  | .convert src dst x' => okO x' x && (P.underlying src).isSome && (match P.underlying dst with | some .string => true | _ => false)
  | _ => false
theorem zga {x} (hH : HRel ρ H h w) (hE : EnvRel B ds fx ρ H N env a) (hok : qzn x P o.op = true) (e : exec T cf i (.conv .rune x) (evO env) h = some r) : Sound P o a w ρ H h i r := by
  unfold qzn at hok
  split at hok
  · rename_i src dst x' hop
    simp only [Bool.and_eq_true] at hok
    obtain ⟨⟨h1, h2⟩, h3⟩ := hok
    obtain ⟨v, e1, e2⟩ := qan e
    cases v with
    | d x0 =>
      cases x0 with
      | int j n =>
        rw [qbx e2]
        have hx : a.eval x' = .int j n := qau hE h1 e1
        obtain ⟨d, hd⟩ := Option.isSome_iff_exists.1 h2
        have hu : P.underlying dst = some .string := by
          split at h3
          · assumption
          · cases h3
        refine Sound.pure (x := .d (.str (Utf8.encode n).data.toList)) (v := .string (Utf8.encode n)) ?_ hH ⟨rfl, ?_⟩
        · unfold execOp
          simp only [hop, hx, convert, Sem.run_bind, run_underlying hd, run_underlying hu, Result.andThen_ok]
          cases d <;> rfl
        · have : (Utf8.encode n).data.toList.length ≤ 8 := by
            unfold Utf8.encode
            simp only
            repeat' split
            all_goals simp
          unfold long
          omega
      | _ => simp at e2
    | _ => simp at e2
  · cases hok
def qve (f : FuncId) (cap : List Opnd) : Op → Bool
  | .makeFunc (.func g) first cs => decide (f = g) && first.toList.isEmpty && okOs cs.toList cap
  | _ => false
 where okOs : List Operand → List Opnd → Bool
  | [], [] => true
  | x :: xs, y :: ys => okO x y && okOs xs ys
  | _, _ => false
theorem q5l (hE : EnvRel B ds fx ρ H N env a) : ∀ {xs ys vs}, qve.okOs xs ys = true → evl (evO env) ys = some vs → VRels ρ H vs (xs.map a.eval)
  | [], [], vs, _, e => by cases e; rfl
  | [], _ :: _, _, h, _ => by simp [qve.okOs] at h
  | _ :: _, [], _, h, _ => by simp [qve.okOs] at h
  | x :: xs, y :: ys, vs, h, e => by
    simp only [qve.okOs, Bool.and_eq_true] at h
    simp only [evl] at e
    split at e
    · rename_i v vs' e1 e2
      cases e
      exact ⟨_, _, rfl, qau hE h.1 e1, q5l hE h.2 e2⟩
    · cases e
theorem s_mkF {f cap} (hH : HRel ρ H h w) (hE : EnvRel B ds fx ρ H N env a) (hok : qve f cap o.op = true) (e : exec T cf i (.mkF f cap) (evO env) h = some r) : Sound P o a w ρ H h i r := by
  unfold qve at hok
  split at hok
  · rename_i g first cs hop
    simp only [Bool.and_eq_true, decide_eq_true_eq] at hok
    obtain ⟨⟨h1, h2⟩, h3⟩ := hok
    subst h1
    obtain ⟨vs, e1, e2⟩ := qan e
    rw [qbx e2]
    have hv := q5l hE h3 e1
    have hf := qrc h2
    subst hf
    refine Sound.pure (v := .func (.func f) #[] ⟨cs.toList.map a.eval⟩) ?_ hH ?_
    · unfold execOp
      simp only [hop, Instr.makeFunc]
      have : Array.map a.eval cs = ⟨cs.toList.map a.eval⟩ := Array.toList_inj.1 (by simp)
      rw [this]
      simp
    · unfold mkFn
      cases hd : allD vs with
      | none => exact ⟨_, rfl, hv⟩
      | some ds =>
        have := q42 hd
        subst this
        exact ⟨_, rfl, hv.toD⟩
  · cases hok
def q9t (s : Bool) (x : Opnd) (P : Program) : Op → Bool
  | .call c => (match c.callee with | .builtin .len => true | _ => false) && (match c.args.toList, c.argTypes.toList with
    | [x'], t :: _ => okO x' x && (match P.underlying t with | some (.slice _) => !s | some .string => s | _ => false)
    | _, _ => false)
  | _ => false
theorem q2d {x : V} {n : Nat} {v : Value} (hv : VRel ρ H x v) (e : lenOf x = some n) : (isStr x = true ∧ ∃ s : ByteArray, v = .string s ∧ s.size = n) ∨ (isStr x = false ∧ ∃ a c, v = .slice a n c) := by
  unfold lenOf at e
  split at e
  · cases e; cases hv; exact .inr ⟨rfl, _, _, rfl⟩
  · cases e
    obtain ⟨a, c, rfl, _⟩ := hv
    exact .inr ⟨rfl, a, c, rfl⟩
  · cases e
    obtain ⟨rfl, _⟩ := hv
    exact .inl ⟨rfl, _, rfl, qkk _⟩
  · cases e
    rename_i l sz off
    have hv : RefAt (ρ l) sz off n v := hv
    cases hp : ρ l with
    | none => rw [hp] at hv; exact hv.elim
    | dead => rw [hp] at hv; obtain ⟨a, c, rfl, _⟩ := hv; exact .inr ⟨rfl, a, c, rfl⟩
    | virt s => rw [hp] at hv; obtain ⟨_, _, rfl, rfl⟩ := hv; exact .inr ⟨rfl, _, _, rfl⟩
    | at_ b base s size => rw [hp] at hv; obtain ⟨_, c, rfl, _⟩ := hv; exact .inr ⟨rfl, _, c, rfl⟩
    | blk q => rw [hp] at hv; exact hv.elim
  · cases e
theorem DRel.fits {x : D} {v : Value} (hv : DRel H x v) : fitC x = true := by
  cases x with
  | sl xs => obtain ⟨a, c, _, _, hl, _⟩ := hv; simpa [fitC] using hl
  | str s => obtain ⟨_, hl⟩ := hv; simpa [fitC] using hl
  | _ => rfl
theorem DRels.fits : ∀ {xs : List D} {vs : List Value}, DRels H xs vs → xs.all fitC = true
  | [], _, _ => rfl
  | x :: xs, _, k => by
    obtain ⟨v, vs', rfl, k1, k2⟩ := k
    simp [k1.fits, k2.fits]
theorem VRel.fits {x : V} {v : Value} (hv : VRel ρ H x v) : fitV x = true := by
  cases x with
  | d x =>
    cases x with
    | agg cs => obtain ⟨vs, _, k, _⟩ := hv; exact k.fits
    | _ => exact DRel.fits hv
  | ref l sz off len =>
    have hv : RefAt (ρ l) sz off len v := hv
    cases hp : ρ l with
    | none => rw [hp] at hv; exact hv.elim
    | dead => rw [hp] at hv; obtain ⟨a, c, rfl, h1, _⟩ := hv; simpa [fitV] using h1
    | virt s => rw [hp] at hv; obtain ⟨_, _, rfl, rfl⟩ := hv; simp [fitV]
    | at_ b base s size =>
      rw [hp] at hv
      obtain ⟨_, c, rfl, h1, h2, _⟩ := hv
      have := Nat.mul_le_mul_right sz.w h1
      simp only [fitV, decide_eq_true_eq]
      omega
    | blk q => rw [hp] at hv; exact hv.elim
  | _ => rfl
theorem s_len {s x} (hH : HRel ρ H h w) (hE : EnvRel B ds fx ρ H N env a) (hok : q9t s x P o.op = true) (e : exec T cf i (.len s x) (evO env) h = some r) : Sound P o a w ρ H h i r := by
  unfold q9t at hok
  split at hok
  · rename_i c hop
    simp only [Bool.and_eq_true] at hok
    obtain ⟨h1, h2⟩ := hok
    split at h1
    · rename_i hc
      split at h2
      · rename_i x' t ts ha ht
        simp only [Bool.and_eq_true] at h2
        obtain ⟨h3, h4⟩ := h2
        obtain ⟨v, e1, e2⟩ := qan e
        have hs : isStr v = s := by
          cases hb : (isStr v == s) with
          | true => simpa using hb
          | false => rw [hb] at e2; cases e2
        simp only [hs, beq_self_eq_true, qet] at e2
        obtain ⟨n, e3, e4⟩ := qan e2
        have hx := qau hE h3 e1
        rw [hx.fits] at e4
        rw [qbx e4]
        have ha' : c.args = #[x'] := Array.toList_inj.1 ha
        have ht' : c.argTypes[0]? = some t := by rw [← Array.getElem?_toList, ht]; rfl
        refine Sound.pure (x := .d (.int .i64 n)) (v := .int .i64 n) ?_ hH rfl
        unfold execOp
        simp only [hop, resolve, hc, ha', invoke, builtin]
        have hlen : (Builtin.len_ c.argTypes o.type #[a.eval x']).run P w = .ok (.int .i64 n) w := by
          simp only [Builtin.len_, ht']
          split at h4
          · rename_i el hu
            rcases q2d hx e3 with ⟨h7, s', h5, h6⟩ | ⟨h7, b, c', h5⟩
            · rw [← hs, h7] at h4; cases h4
            · rw [h5]
              simp only [List.getElem?_toArray, List.getElem?_cons_zero, Sem.run_bind, run_underlying hu, Result.andThen_ok]
              rfl
          · rename_i hu
            rcases q2d hx e3 with ⟨h7, s', h5, h6⟩ | ⟨h7, b, c', h5⟩
            · rw [h5]
              simp only [List.getElem?_toArray, List.getElem?_cons_zero, Sem.run_bind, run_underlying hu, Result.andThen_ok]
              subst h6
              rfl
            · rw [← hs, h7] at h4; cases h4
          · cases h4
        rw [Sem.run_bind]
        show Result.andThen (.ok _ w) _ = _
        rw [Result.andThen_ok]
        simp only [List.map_toArray, List.map_cons, List.map_nil]
        rw [Sem.run_bind, hlen]
        rfl
      · cases h2
    · cases h1
  · cases hok
end
end Go.Rf

namespace Go.Rf
variable {B : Ice} {ds : List Deferred} {fx : List (Nat × Value)}
section
variable {P : Program} {T : Tab} {cf : CF} {o : Oper} {a : Act} {w : World} {ρ : Map} {H : Ice} {h : Loc → Option Obj} {i N : Nat} {env : List (Nat × V)} {r : R}
def qs2 (x : Opnd) (k : Nat) : Op → Bool
  | .extract x' k' => okO x' x && decide (k' = k)
  | _ => false
theorem q9c {x k} (hH : HRel ρ H h w) (hE : EnvRel B ds fx ρ H N env a) (hok : qs2 x k o.op = true) (e : exec T cf i (.extract x k) (evO env) h = some r) : Sound P o a w ρ H h i r := by
  unfold qs2 at hok
  split at hok
  · rename_i x' k' hop
    simp only [Bool.and_eq_true, decide_eq_true_eq] at hok
    obtain ⟨h1, h2⟩ := hok
    subst h2
    simp only [exec] at e
    split at e
    · rename_i vs e1
      obtain ⟨v, e2, e3⟩ := qan e
      rw [qbx e3]
      obtain ⟨us, hx, hv⟩ := qau hE h1 e1
      obtain ⟨u, hu, hr⟩ := hv.get e2
      refine Sound.pure (v := u) ?_ hH hr
      unfold execOp
      have : (⟨us⟩ : Array Value)[k']? = some u := by simpa using hu
      simp only [hop, hx, Instr.extract, this]
      rfl
    · cases e
  · cases hok
def q3y (t : TypeId) (ok : Bool) (z : D) (x : Opnd) (P : Program) : Op → Bool
  | .typeAssert x' _ t' ok' => okO x' x && decide (t' = t) && decide (ok' = ok) && (!ok || qia P t z) &&
    (match P.underlying t with | some (.interface _) => false | some _ => true | none => false)
  | _ => false
theorem qq2 {x y : V} {t : TypeId} {v : Value} (hv : VRel ρ H x v) (e : qgi x = some (t, y)) : ∃ u, v = .iface t u ∧ VRel ρ H y u := by
  unfold qgi at e
  split at e
  · cases e; obtain ⟨u, rfl, k⟩ := hv; exact ⟨u, rfl, k⟩
  · cases e; obtain ⟨u, rfl, k⟩ := hv; exact ⟨u, rfl, k⟩
  · cases e
theorem s_tass {t ok z x} (hH : HRel ρ H h w) (hE : EnvRel B ds fx ρ H N env a) (hok : q3y t ok z x P o.op = true) (e : exec T cf i (.tass t ok z x) (evO env) h = some r) : Sound P o a w ρ H h i r := by
  unfold q3y at hok
  split at hok
  · rename_i x' xt t' ok' hop
    simp only [Bool.and_eq_true, decide_eq_true_eq] at hok
    obtain ⟨⟨⟨⟨h1, h2⟩, h3⟩, h4⟩, h5⟩ := hok
    subst h2 h3
    obtain ⟨v, e1, e2⟩ := qan e
    have hx := qau hE h1 e1
    obtain ⟨d, hu, hd⟩ : ∃ d, P.underlying t' = some d ∧ ∀ ms, d ≠ .interface ms := by
      cases hu : P.underlying t' with
      | none => rw [hu] at h5; cases h5
      | some d =>
        refine ⟨d, rfl, fun ms he => ?_⟩
        rw [hu, he] at h5
        cases h5
    have hz : ok' = true → ∃ u, (zeroValue t').run P w = .ok u w ∧ ∀ H, DRel H z u := fun hk => by
      subst hk
      exact qia.run (by simpa using h4) w
    split at e2
    · rename_i t2 y hi
      obtain ⟨u, hu2, hr⟩ := qq2 hx hi
      split at e2
      · rename_i ht
        subst ht
        rw [qbx e2]
        refine Sound.pure (v := if ok' then .tuple #[u, .bool true] else u) ?_ hH ?_
        · unfold execOp
          simp only [hop, hu2, Instr.typeAssert]
          rw [Sem.run_bind, Sem.run_bind, run_underlying hu, Result.andThen_ok]
          cases d <;> first | exact absurd rfl (hd _) | (simp; done)
        · cases ok'
          · exact hr
          · exact ⟨_, rfl, _, _, rfl, hr, _, _, rfl, rfl, rfl⟩
      · rename_i ht
        split at e2
        · rename_i hk
          subst hk
          rw [qbx e2]
          obtain ⟨u0, hz1, hz2⟩ := hz rfl
          refine Sound.pure (x := .tup [.d z, .d (.bool false)]) (v := .tuple #[u0, .bool false]) ?_ hH ⟨_, rfl, _, _, rfl, hz2 H, _, _, rfl, rfl, rfl⟩
          unfold execOp
          simp only [hop, hu2, Instr.typeAssert]
          rw [Sem.run_bind, Sem.run_bind, run_underlying hu, Result.andThen_ok]
          cases d <;> first | exact absurd rfl (hd _) | (simp [ht, hz1]; done)
        · cases e2
    · split at e2
      · rename_i hk
        rw [qbx e2]
        obtain ⟨u0, hz1, hz2⟩ := hz rfl
        have hx : a.eval x' = .nilIface := hx
        refine Sound.pure (x := .tup [.d z, .d (.bool false)]) (v := .tuple #[u0, .bool false]) ?_ hH ⟨_, rfl, _, _, rfl, hz2 H, _, _, rfl, rfl, rfl⟩
        unfold execOp
        simp only [hop, hx, Instr.typeAssert]
        rw [Sem.run_bind, Sem.run_bind, run_underlying hu, Result.andThen_ok]
        cases d <;> first | exact absurd rfl (hd _) | (simp [hz1]; done)
      · cases e2
  · cases hok
def ok_mx (x y : Opnd) : Op → Bool
  | .call c => (match c.callee with | .builtin .max => true | _ => false) && (match c.args.toList with
    | [x', y'] => okO x' x && okO y' y
    | _ => false)
  | _ => false
theorem s_mx {x y} (hH : HRel ρ H h w) (hE : EnvRel B ds fx ρ H N env a) (hok : ok_mx x y o.op = true) (e : exec T cf i (.mx x y) (evO env) h = some r) : Sound P o a w ρ H h i r := by
  unfold ok_mx at hok
  split at hok
  · rename_i c hop
    simp only [Bool.and_eq_true] at hok
    obtain ⟨h1, h2⟩ := hok
    split at h1
    · rename_i hc
      split at h2
      · rename_i x' y' ha
        simp only [Bool.and_eq_true] at h2
        obtain ⟨h3, h4⟩ := h2
        simp only [exec] at e
        split at e
        · rename_i k m k' n e1 e2
          split at e
          · rename_i hk
            subst hk
            rw [qbx e]
            have hx : a.eval x' = .int k m := qau hE h3 e1
            have hy : a.eval y' = .int k n := qau hE h4 e2
            have ha' : c.args = #[x', y'] := Array.toList_inj.1 ha
            refine Sound.pure (x := .d (.int k (if n > m then n else m))) (v := .int k (if n > m then n else m)) ?_ hH rfl
            unfold execOp
            simp only [hop, resolve, hc, ha', invoke, builtin]
            rw [Sem.run_bind]
            show Result.andThen (.ok _ w) _ = _
            rw [Result.andThen_ok]
            simp only [List.map_toArray, List.map_cons, List.map_nil, hx, hy]
            simp [Builtin.max_, Builtin.max2]
          · cases e
        · cases e
      · cases h2
    · cases h1
  · cases hok
def qy0 (x : Opnd) : Op → Bool
  | .nilCheck x' => okO x' x
  | _ => false
theorem PtrAt.some {p e j v} (k : PtrAt p e j v) : ∃ q, v = .pointer (some q) := by
  cases p with
  | none => exact k.elim
  | dead => exact k
  | virt s => exact k.elim
  | at_ b base s size => exact ⟨_, k⟩
  | blk r => exact k.elim
theorem zf7 {x} (hH : HRel ρ H h w) (hE : EnvRel B ds fx ρ H N env a) (hok : qy0 x o.op = true) (e : exec T cf i (.nilCk x) (evO env) h = some r) : Sound P o a w ρ H h i r := by
  unfold qy0 at hok
  split at hok
  · rename_i x' hop
    simp only [exec] at e
    split at e
    · rename_i y e1
      rw [qbx e]
      have hx := qau hE hok e1
      obtain ⟨b, off, u, hv, _⟩ := id hx
      refine Sound.pure (v := a.eval x') ?_ hH hx
      unfold execOp
      simp only [hop, hv]
      rfl
    · rename_i l e' j e1
      rw [qbx e]
      have hx := qau hE hok e1
      obtain ⟨q, hv⟩ := PtrAt.some (show PtrAt (ρ l) e' j _ from hx)
      refine Sound.pure (v := a.eval x') ?_ hH hx
      unfold execOp
      simp only [hop, hv]
      rfl
    · cases e
  · cases hok
def qyz (x : Opnd) : Op → Bool
  | .panic x' => okO x' x
  | _ => false
theorem zf6 {x} (hH : HRel ρ H h w) (hE : EnvRel B ds fx ρ H N env a) (hok : qyz x o.op = true) (e : exec T cf i (.panic x) (evO env) h = some r) : Sound P o a w ρ H h i r := by
  unfold qyz at hok
  split at hok
  · rename_i x' hop
    obtain ⟨v, e1, e2⟩ := qan e
    split at e2
    · rename_i ty hi
      cases e2
      obtain ⟨t, y⟩ := ty
      have hx := qau hE hok e1
      obtain ⟨u, hu, _⟩ := qq2 hx hi
      intro K Q hk
      refine .inl ?_
      unfold Oper.wp
      have hrun : (execOp a.eval o).run P w = .halt (.panic (a.eval x')) w := by
        unfold execOp
        simp only [hop, hu, Instr.panic]
        rfl
      rw [hrun]
      exact hk _ _ _ _ (Post.pure hH hx [])
    · cases e2
  · cases hok
end
end Go.Rf

namespace Go.Rf
variable {B : Ice} {ds : List Deferred} {fx : List (Nat × Value)}
section
variable {P : Program} {T : Tab} {cf : CF} {o : Oper} {a : Act} {w : World} {ρ : Map} {H : Ice} {h : Loc → Option Obj} {i N : Nat} {env : List (Nat × V)} {r : R}
def qq5 (P : Program) (t k off n : Nat) (ag : Bool) : Bool := match P.underlying t with
  | some (.struct fs) => match fs[k]? with
    | some f => decide (f.offset = off) && tyIs P f.type n ag
    | none => false
  | _ => false
theorem qq5.get {t k off n ag} (hf : qq5 P t k off n ag = true) : ∃ fs f, P.underlying t = some (.struct fs) ∧ fs[k]? = some f ∧ f.offset = off ∧ tyIs P f.type n ag = true := by
  unfold qq5 at hf
  split at hf
  · rename_i fs hu
    split at hf
    · rename_i f hk
      simp only [Bool.and_eq_true, decide_eq_true_eq] at hf
      exact ⟨fs, f, hu, hk, hf.1, hf.2⟩
    · cases hf
  · cases hf
theorem qyk (t off n : Nat) (ag : Bool) (ht : tyIs P t n ag = true) (cs : List Value) (v : Value)
    (h1 : ag = true → off + n ≤ cs.length ∧ v = .agg ⟨(cs.drop off).take n⟩) (h2 : ag = false → cs[off]? = some v) : (Go.part t ⟨cs⟩ off).run P w = .ok v w := by
  unfold Go.part
  rw [Sem.run_bind, tyIs.isAgg ht, Result.andThen_ok]
  cases ag with
  | true =>
    obtain ⟨h3, rfl⟩ := h1 rfl
    simp only [if_true, Sem.run_bind, qkz.run (tyIs.size ht), Result.andThen_ok, Sem.run_pure]
    congr 2
    apply Array.toList_inj.1
    rw [Array.toList_extract]
    simp only [List.extract]
    have : off + n - off = n := by omega
    rw [this]
  | false =>
    have : (⟨cs⟩ : Array Value)[off]? = some v := by simpa using h2 rfl
    simp only [Bool.false_eq_true, if_false, this]
    rfl
def qzm (off n : Nat) (ag : Bool) (x : Opnd) (P : Program) : Op → Bool
  | .field t x' k => okO x' x && qq5 P t k off n ag
  | _ => false
theorem zf9 {off n ag x} (hH : HRel ρ H h w) (hE : EnvRel B ds fx ρ H N env a) (hok : qzm off n ag x P o.op = true) (e : exec T cf i (.field off n ag x) (evO env) h = some r) : Sound P o a w ρ H h i r := by
  unfold qzm at hok
  split at hok
  · rename_i t x' k hop
    simp only [Bool.and_eq_true] at hok
    obtain ⟨h1, h2⟩ := hok
    obtain ⟨v, e1, e2⟩ := qan e
    have hx := qau hE h1 e1
    obtain ⟨fs, f, hu, hk, rfl, ht⟩ := qq5.get h2
    split at e2
    · rename_i hag
      obtain ⟨y, e3, e4⟩ := qan e2
      rw [qbx e4]
      have hsol : solid v = true := by cases v <;> first | rfl | cases hag
      obtain ⟨p1, p2, _⟩ := qui hx hsol e3
      obtain ⟨vs, hv⟩ : ∃ vs, a.eval x' = .agg ⟨vs⟩ := by
        unfold Rf.isAgg at hag
        split at hag
        · obtain ⟨vs, hv, _⟩ := hx; exact ⟨vs, hv⟩
        · obtain ⟨vs, hv, _⟩ := hx; exact ⟨vs, hv⟩
        · cases hag
      rw [hv] at p1 p2
      have run : ∀ u, (Go.part f.type ⟨vs⟩ f.offset).run P w = .ok u w → (execOp a.eval o).run P w = .ok (.value u) w := fun u hr => by
        unfold execOp
        simp only [hop, hv, Instr.field, Sem.run_bind, run_underlying hu, Result.andThen_ok, hk]
        show Result.andThen (Result.andThen (.ok _ w) _) _ = _
        rw [Result.andThen_ok, hr]
        rfl
      cases ag with
      | true =>
        obtain ⟨q1, q2⟩ := p1 rfl
        exact Sound.pure (run _ (qyk f.type f.offset n true ht vs _ (fun _ => ⟨by simpa [Value.cells] using q1, rfl⟩) (fun h => by cases h))) hH q2
      | false =>
        obtain ⟨u, q1, q2, _⟩ := p2 rfl
        exact Sound.pure (run u (qyk f.type f.offset n false ht vs _ (fun h => by cases h) (fun _ => q1))) hH q2
    · cases e2
  · cases hok
def qvp (off n : Nat) (ag : Bool) (x : Opnd) (P : Program) : Op → Bool
  | .fieldAddr t x' k => okO x' x && qq5 P t k off n ag && decide (n ≠ 0)
  | _ => false
theorem zcn {off n ag x} (hH : HRel ρ H h w) (hE : EnvRel B ds fx ρ H N env a) (hok : qvp off n ag x P o.op = true) (e : exec T cf i (.fieldA off n ag x) (evO env) h = some r) : Sound P o a w ρ H h i r := by
  unfold qvp at hok
  split at hok
  · rename_i t x' k hop
    simp only [Bool.and_eq_true, decide_eq_true_eq] at hok
    obtain ⟨⟨h1, h2⟩, h3⟩ := hok
    obtain ⟨fs, f, hu, hk, rfl, ht⟩ := qq5.get h2
    have run : ∀ q, a.eval x' = .pointer (some q) → (execOp a.eval o).run P w = .ok (.value (.pointer (some (q.add f.offset)))) w := fun q hq => by
      unfold execOp
      simp only [hop, hq, Instr.fieldAt, Instr.sureAddr, fieldPlace, Sem.run_bind, run_underlying hu, Result.andThen_ok, hk, Sem.run_pure]
      have : (sizeOf f.type).run P w = .ok n w := qkz.run (tyIs.size ht) w
      simp [this, h3]
    simp only [exec] at e
    split at e
    · rename_i y e1
      obtain ⟨v, e3, e4⟩ := qan e
      obtain ⟨b, o', u, hv, hu', hc⟩ := qau hE h1 e1
      cases v with
      | d z =>
        rw [qbx e4]
        obtain ⟨p1, p2, _⟩ := qui (ρ := ρ) (x := .d y) hu' rfl e3
        refine Sound.pure (run _ hv) hH ?_
        rw [qmm]
        cases ag with
        | true =>
          obtain ⟨q1, q2⟩ := p1 rfl
          refine ⟨b, o' + f.offset, _, rfl, q2, fun j v hj => ?_⟩
          simp only [Value.cells] at hj
          rw [List.getElem?_take] at hj
          split at hj
          · rw [List.getElem?_drop] at hj
            have := hc _ _ hj
            rwa [← Nat.add_assoc] at this
          · cases hj
        | false =>
          obtain ⟨u', q1, q2, q3⟩ := p2 rfl
          refine ⟨b, o' + f.offset, _, rfl, q2, fun j v hj => ?_⟩
          rw [qbk (VRel.one (ρ := ρ) (x := .d z) q2 q3)] at hj
          cases j with
          | zero => simp at hj; subst hj; exact hc _ _ q1
          | succ j => simp at hj
      | _ => cases e4
    · rename_i l e' j e1
      rw [qbx e]
      have hx : PtrAt (ρ l) e' j (a.eval x') := qau hE h1 e1
      obtain ⟨q, hv⟩ := PtrAt.some hx
      refine Sound.pure (x := .ptr l e' (j + f.offset)) (run _ hv) hH (?_ : PtrAt (ρ l) e' (j + f.offset) _)
      cases hp : ρ l with
      | dead => exact ⟨_, rfl⟩
      | at_ b base s size =>
        rw [hp, hv] at hx
        cases hx
        show Value.pointer _ = _
        rw [qmm, Nat.add_assoc]
      | _ => rw [hp] at hx; exact hx.elim
    · cases e
  · cases hok
theorem qlk {x : V} {n : Nat} {v : Value} (hv : VRel ρ H x v) (e : natOf x = some n) : ∃ k, v = .int k (n : Int) := by
  unfold natOf at e
  split at e
  · rename_i k m
    split at e
    · rename_i hm
      cases e
      have hv : v = .int k m := hv
      exact ⟨k, by rw [hv, Int.toNat_of_nonneg hm]⟩
    · cases e
  · cases e
def q35 (x k : Opnd) (P : Program) : Op → Bool
  | .index t x' k' => okO x' x && okO k' k && (match P.underlying t with | some .string => true | _ => false)
  | _ => false
theorem s_idxS {x k} (hH : HRel ρ H h w) (hE : EnvRel B ds fx ρ H N env a) (hok : q35 x k P o.op = true) (e : exec T cf i (.idxS x k) (evO env) h = some r) : Sound P o a w ρ H h i r := by
  unfold q35 at hok
  split at hok
  · rename_i t x' k' hop
    simp only [Bool.and_eq_true] at hok
    obtain ⟨⟨h1, h2⟩, h3⟩ := hok
    have hu : P.underlying t = some .string := by
      split at h3
      · assumption
      · cases h3
    obtain ⟨v, e1, e2⟩ := qan e
    obtain ⟨m, e3, e4⟩ := qan e2
    have hx := qau hE h1 e1
    have hk := qau hE h2 e3
    split at e4
    · rename_i s j hj
      obtain ⟨kk, hk'⟩ := qlk hk hj
      split at e4
      · rename_i b hb
        rw [qbx e4]
        obtain ⟨hs, _⟩ := (hx : a.eval x' = .string ⟨s.toArray⟩ ∧ s.length ≤ long)
        refine Sound.pure (x := .d (.int .u8 b.toNat)) (v := .int .u8 b.toNat) ?_ hH rfl
        unfold execOp
        have hg : (⟨s.toArray⟩ : ByteArray)[j]? = some b := by
          have hlt := (List.getElem?_eq_some_iff.1 hb)
          obtain ⟨hl, hbb⟩ := hlt
          rw [getElem?_pos _ _ (by rw [qkk]; exact hl)]
          simp [ByteArray.getElem_eq_getElem_data, hbb]
        simp only [hop, hs, hk', Instr.index, asIntOf, Sem.run_bind, Sem.run_pure, run_underlying hu, Result.andThen_ok]
        have : (0 : Int) ≤ (j : Int) := by omega
        simp [this, hg]
      · cases e4
    · cases e4
  · cases hok
end
end Go.Rf

namespace Go.Rf
variable {B : Ice} {ds : List Deferred} {fx : List (Nat × Value)}
section
variable {P : Program} {T : Tab} {cf : CF} {o : Oper} {a : Act} {w : World} {ρ : Map} {H : Ice} {h : Loc → Option Obj} {i N : Nat} {env : List (Nat × V)} {r : R}
theorem qg5 (t n : Nat) (ag : Bool) (ht : tyIs P t n ag = true) (b off : Nat) (cs : List Value) (hc : ∀ j v, cs[j]? = some v → w.cell? ⟨b, off + j, Option.none⟩ = some v) (v : Value)
    (h1 : ag = true → cs.length = n ∧ v = .agg ⟨cs⟩) (h2 : ag = false → cs[0]? = some v) : (loadVar t ⟨b, off, Option.none⟩).run P w = .ok v w := by
  unfold loadVar
  rw [Sem.run_bind, tyIs.isAgg ht, Result.andThen_ok]
  cases ag with
  | true =>
    obtain ⟨h3, rfl⟩ := h1 rfl
    simp only [if_true, Sem.run_bind, qkz.run (tyIs.size ht), Result.andThen_ok]
    rw [← h3, run_loadCells_list w ⟨b, off, Option.none⟩ cs (fun j v hj => by rw [qmm]; exact hc j v hj)]
    rfl
  | false =>
    have := hc 0 v (h2 rfl)
    simp only [Bool.false_eq_true, if_false, run_load]
    rw [Nat.add_zero] at this
    rw [this]
def q33 (n : Nat) (ag : Bool) (x : Opnd) (P : Program) : Op → Bool
  | .load t x' => okO x' x && tyIs P t n ag
  | _ => false
theorem q5r {t n ag x r v} (hH : HRel ρ H h w) (ht : tyIs P t n ag = true) (hv : VRel ρ H x v) (e : loadV h n ag x = some r) :
    ∃ e', r = .ok e' ∧ e'.wr = [] ∧ solid e'.v = true ∧ ∃ u, (Instr.loadAt t v).run P w = .ok u w ∧ VRel ρ H e'.v u := by
  unfold loadV at e
  split at e
  · rename_i y
    obtain ⟨b, off, u, rfl, hu, hc⟩ := hv
    have hc' : ∀ j v, u.cells.toList[j]? = some v → w.cell? ⟨b, off + j, Option.none⟩ = some v := fun j v hj => hH.ice _ _ _ (hc j v hj)
    split at e
    · rename_i cs
      split at e
      · rename_i hn
        obtain ⟨vs, rfl, k1, k2⟩ := hu
        refine ⟨_, qbx e, rfl, rfl, _, ?_, ⟨vs, rfl, k1, k2⟩⟩
        have := k1.length
        simp only [Instr.loadAt, Instr.sureAddr, Sem.run_bind, Sem.run_pure, Result.andThen_ok]
        exact qg5 t n true ht b off vs hc' _ (fun _ => ⟨by omega, rfl⟩) (fun h => by cases h)
      · cases e
    · cases e
    · cases e
    · have hag : qpc y = false := by
        cases y <;> first | rfl | (simp_all; done)
      have hone := DRel.one hu hag
      refine ⟨_, qbx e, rfl, rfl, u, ?_, hu⟩
      simp only [Instr.loadAt, Instr.sureAddr, Sem.run_bind, Sem.run_pure, Result.andThen_ok]
      rw [qbk hone] at hc'
      exact qg5 t n false ht b off [u] hc' _ (fun h => by cases h) (fun _ => rfl)
  · rename_i l e' j
    split at e
    · rename_i xs sz hl
      split at e
      · rename_i x0 hx0
        simp only [Option.map_eq_some_iff] at e
        obtain ⟨y, hy, rfl⟩ := e
        have hobj := hH.objs l _ hl
        have hv : PtrAt (ρ l) e' j v := hv
        cases hp : ρ l with
        | at_ b base s size =>
          rw [hp] at hobj hv
          obtain ⟨u, hu, hsol, hsz, hcell⟩ := q5m hobj hx0
          obtain ⟨p1, p2, p3⟩ := qui hu hsol hy
          have hv : v = .pointer (some ⟨b, base + e' * s.c + j, Option.none⟩) := hv
          subst hv
          refine ⟨_, rfl, rfl, p3, ?_⟩
          simp only [Instr.loadAt, Instr.sureAddr, Sem.run_bind, Sem.run_pure, Result.andThen_ok]
          cases ag with
          | true =>
            obtain ⟨q1, q2⟩ := p1 rfl
            refine ⟨_, qg5 t n true ht b _ ((u.cells.toList.drop j).take n) (fun k v hk => ?_) _ (fun _ => ⟨?_, rfl⟩) (fun h => by cases h), q2⟩
            · rw [List.getElem?_take] at hk
              split at hk
              · rw [List.getElem?_drop] at hk
                have := hcell _ _ hk
                rwa [← Nat.add_assoc] at this
              · cases hk
            · simp only [List.length_take, List.length_drop, Array.length_toList]
              omega
          | false =>
            obtain ⟨u', q1, q2, q3⟩ := p2 rfl
            refine ⟨u', qg5 t n false ht b _ [u'] (fun k v hk => ?_) _ (fun h => by cases h) (fun _ => rfl), q2⟩
            cases k with
            | zero => simp at hk; subst hk; exact hcell _ _ q1
            | succ k => simp at hk
        | none => rw [hp] at hv; exact hv.elim
        | dead => rw [hp] at hobj; exact hobj.elim
        | virt s => rw [hp] at hv; exact hv.elim
        | blk q => rw [hp] at hv; exact hv.elim
      · cases e
    · cases e
  · cases e
theorem s_load {n ag x} (hH : HRel ρ H h w) (hE : EnvRel B ds fx ρ H N env a) (hok : q33 n ag x P o.op = true) (e : exec T cf i (.load n ag x) (evO env) h = some r) : Sound P o a w ρ H h i r := by
  unfold q33 at hok
  split at hok
  · rename_i t x' hop
    simp only [Bool.and_eq_true] at hok
    obtain ⟨h1, h2⟩ := hok
    obtain ⟨v, e1, e2⟩ := qan e
    obtain ⟨⟨ev, rd, wr⟩, rfl, hwr, _, u, hr, hu⟩ := q5r hH h2 (qau hE h1 e1) e2
    simp only at hwr
    subst hwr
    exact Sound.pure (by unfold execOp; simp only [hop, Sem.run_bind, hr, Result.andThen_ok]; rfl) hH hu rd
  · cases hok
def qfi (P : Program) (t : TypeId) (n : W) : Bool := match P.underlying t with
  | some (.slice e) => match P.info? e with
    | some i => decide (i.size = n.c) && decide (i.bytes = n.w) && decide (n.w < 1000000)
    | none => false
  | _ => false
theorem qfi.get {t n} (hs : qfi P t n = true) : ∃ e inf, P.underlying t = some (.slice e) ∧ P.info? e = some inf ∧ inf.size = n.c ∧ inf.bytes = n.w ∧ qkz P e n.c = true := by
  unfold qfi at hs
  split at hs
  · rename_i e hu
    split at hs
    · rename_i inf hi
      simp only [Bool.and_eq_true, decide_eq_true_eq] at hs
      exact ⟨e, inf, hu, hi, hs.1.1, hs.1.2, by simp [qkz, hi, hs.1.1]⟩
    · cases hs
  · cases hs
theorem qfi.small {t n} (hs : qfi P t n = true) : n.w < 1000000 := by
  unfold qfi at hs
  split at hs
  · split at hs
    · simp only [Bool.and_eq_true, decide_eq_true_eq] at hs
      exact hs.2
    · cases hs
  · cases hs
def q36 (n : W) (x k : Opnd) (P : Program) : Op → Bool
  | .indexAddr t x' k' => okO x' x && okO k' k && qfi P t n
  | _ => false
theorem s_idxA {n x k} (hH : HRel ρ H h w) (hE : EnvRel B ds fx ρ H N env a) (hok : q36 n x k P o.op = true) (e : exec T cf i (.idxA n x k) (evO env) h = some r) : Sound P o a w ρ H h i r := by
  unfold q36 at hok
  split at hok
  · rename_i t x' k' hop
    simp only [Bool.and_eq_true] at hok
    obtain ⟨⟨h1, h2⟩, h3⟩ := hok
    obtain ⟨el, inf, hu, hi, _, _, hsz⟩ := qfi.get h3
    obtain ⟨v, e1, e2⟩ := qan e
    obtain ⟨m, e3, e4⟩ := qan e2
    have hx := qau hE h1 e1
    have hk := qau hE h2 e3
    split at e4
    · cases e4
    · rename_i j hj
      obtain ⟨kk, hk'⟩ := qlk hk hj
      have run : ∀ q len cap, a.eval x' = .slice (some q) len cap → j < len → (execOp a.eval o).run P w = .ok (.value (.pointer (some (q.add (j * n.c))))) w := fun q len cap hq hl => by
        unfold execOp
        have hjl : (0 : Int) ≤ (j : Int) ∧ (j : Int) < (len : Int) := ⟨by omega, by omega⟩
        simp only [hop, hq, hk', Instr.indexAt, asIntOf, Sem.run_bind, Sem.run_pure, run_underlying hu, Result.andThen_ok, if_pos hjl, qkz.run hsz]
        rfl
      split at e4
      · rename_i xs
        split at e4
        · rename_i y hy
          split at e4
          · rename_i hn
            rw [qbx e4]
            obtain ⟨ad, c, hv, _, _, hrow⟩ := hx
            have hne : xs ≠ [] := fun h => by rw [h] at hy; simp at hy
            obtain ⟨b, off, sz, us, rfl, hus, hs, hc⟩ := hrow hne
            obtain ⟨u, hu1, hu2⟩ := hus.get hy
            have hlt : j < xs.length := (List.getElem?_eq_some_iff.1 hy).1
            have hus' : u.cells.size = sz := hs u (List.mem_of_getElem? hu1)
            have hsn : sz = n.c := by
              have := (VRel.cells (ρ := ρ) (x := .d y) hu2 rfl).1.length
              have h4 : y.cells.length = (V.cells (.d y)).length := by cases y <;> simp [D.cells, V.cells]
              simp at this
              omega
            refine Sound.pure (run _ _ _ hv hlt) hH ?_
            rw [qmm]
            refine ⟨b, off + j * n.c, u, rfl, hu2, fun q v hq => ?_⟩
            have hql : q < sz := by
              have := (List.getElem?_eq_some_iff.1 hq).1
              simp at this
              omega
            have := hc _ _ ((qsb hs hu1 hql).trans hq)
            rw [hsn] at this
            rwa [← Nat.add_assoc] at this
          · cases e4
        · cases e4
      · rename_i l sz off len
        split at e4
        · rename_i hc
          obtain ⟨hlt, rfl⟩ := hc
          rw [qbx e4]
          have hx : RefAt (ρ l) sz off len (a.eval x') := hx
          cases hp : ρ l with
          | none => rw [hp] at hx; exact hx.elim
          | dead =>
            rw [hp] at hx
            obtain ⟨ad, c, hv, _, _, hq, _⟩ := hx
            obtain ⟨q, rfl⟩ := hq (by omega)
            exact Sound.pure (x := .ptr l (off + j) 0) (run _ _ _ hv hlt) hH (show PtrAt (ρ l) _ _ _ from by rw [hp]; exact ⟨_, rfl⟩)
          | virt s => rw [hp] at hx; obtain ⟨_, _, rfl, _⟩ := hx; omega
          | at_ b base s size =>
            rw [hp] at hx
            obtain ⟨rfl, c, hv, _⟩ := hx
            refine Sound.pure (x := .ptr l (off + j) 0) (run _ _ _ hv hlt) hH (show PtrAt (ρ l) _ _ _ from ?_)
            rw [hp]
            show Value.pointer _ = _
            rw [qmm, Nat.add_zero, Nat.add_mul, ← Nat.add_assoc]
          | blk q => rw [hp] at hx; exact hx.elim
        · cases e4
      · cases e4
  · cases hok
end
end Go.Rf

namespace Go.Rf
variable {B : Ice} {ds : List Deferred} {fx : List (Nat × Value)}
section
variable {P : Program} {T : Tab} {cf : CF} {o : Oper} {a : Act} {w : World} {ρ : Map} {H : Ice} {h : Loc → Option Obj} {i N : Nat} {env : List (Nat × V)} {r : R}
def okOo : Option Operand → Option Opnd → Bool
  | none, none => true
  | some x, some y => okO x y
  | _, _ => false
def qyx (n : Option W) (x : Opnd) (lo hi : Option Opnd) (P : Program) : Op → Bool
  | .slice t x' lo' hi' mx => okO x' x && okOo lo' lo && okOo hi' hi && mx.isNone && (match n with
    | some n => qfi P t n
    | none => match P.underlying t with | some .string => true | _ => false)
  | _ => false
theorem q8l : ∀ xs : List D, 1 ≤ wl xs
  | [] => Nat.le_refl _
  | _ :: xs => Nat.le_trans (q8l xs) (Nat.le_max_right ..)
theorem wl_sub {xs ys : List D} (hs : ∀ x ∈ ys, x ∈ xs) : wl ys ≤ wl xs := by
  have h1 : ∀ {x : D} {l : List D}, x ∈ l → wt x ≤ wl l := by
    intro x l
    induction l with
    | nil => intro h; cases h
    | cons y l ih =>
      intro h
      simp only [wl]
      rcases List.mem_cons.1 h with rfl | h
      · exact Nat.le_max_left ..
      · exact Nat.le_trans (ih h) (Nat.le_max_right ..)
  have h0 : 1 ≤ wl xs := q8l xs
  induction ys with
  | nil => exact h0
  | cons y ys ih =>
    simp only [wl]
    exact Nat.max_le.2 ⟨h1 (hs y (List.mem_cons_self ..)), ih fun x hx => hs x (List.mem_cons_of_mem _ hx)⟩
theorem qsc {sz : Nat} : ∀ {us : List Value} (n : Nat), (∀ u ∈ us, u.cells.size = sz) → flat (us.drop n) = (flat us).drop (n * sz)
  | us, 0, _ => by simp
  | [], n + 1, _ => by simp [flat]
  | u :: us, n + 1, h => by
    have hl : u.cells.toList.length = sz := by simpa using h u (List.mem_cons_self ..)
    rw [List.drop_succ_cons, qsc n (fun x hx => h x (List.mem_cons_of_mem _ hx)), qeu, List.drop_append, hl]
    have : (n + 1) * sz - sz = n * sz := by rw [Nat.add_mul]; omega
    have h0 : List.drop ((n + 1) * sz) u.cells.toList = [] := List.drop_eq_nil_of_le (by rw [hl, Nat.add_mul]; omega)
    rw [this, h0, List.nil_append]
theorem qn7 {us : List Value} {n j : Nat} {v : Value} (h : (flat (us.take n))[j]? = some v) : (flat us)[j]? = some v := by
  have : flat us = flat (us.take n) ++ flat (us.drop n) := by rw [← qlt, List.take_append_drop]
  rw [this]
  have hl := (List.getElem?_eq_some_iff.1 h).1
  rw [List.getElem?_append_left hl]
  exact h
theorem qxg {b : Bool} {len cap : Nat} {lo hi : Option Value} {l u : Nat} (hlo : lo = none ∧ l = 0 ∨ ∃ k, lo = some (.int k (l : Int))) (hhi : hi = none ∧ u = len ∨ ∃ k, hi = some (.int k (u : Int)))
    (h1 : l ≤ u) (h2 : u ≤ cap) : (Instr.sliceBounds b len cap lo hi none).run P w = .ok (l, u, cap) w := by
  have sb : ∀ k (x y : Nat) c, x ≤ y → (Instr.sliceBound (.int k (x : Int)) y c).run P w = .ok x w := fun k x y c hxy => by
    unfold Instr.sliceBound
    have : (0 : Int) ≤ (x : Int) ∧ (x : Int) ≤ (y : Int) := ⟨by omega, by omega⟩
    simp only [asIntOf, Sem.run_bind, Sem.run_pure, Result.andThen_ok, if_pos this]
    simp
  unfold Instr.sliceBounds
  rcases hlo with ⟨rfl, rfl⟩ | ⟨k, rfl⟩ <;> rcases hhi with ⟨rfl, rfl⟩ | ⟨k', rfl⟩
  · simp
  · simp [sb k' u cap _ h2]
  · simp [sb k l u _ h1]
  · simp [sb k' u cap _ h2, sb k l u _ h1]
theorem zf4 {n x lo hi} (hH : HRel ρ H h w) (hE : EnvRel B ds fx ρ H N env a) (hok : qyx n x lo hi P o.op = true) (e : exec T cf i (.slice n x lo hi) (evO env) h = some r) : Sound P o a w ρ H h i r := by
  unfold qyx at hok
  split at hok
  · rename_i t x' lo' hi' mx hop
    simp only [Bool.and_eq_true, Option.isNone_iff_eq_none] at hok
    obtain ⟨⟨⟨⟨h1, h2⟩, h3⟩, rfl⟩, h5⟩ := hok
    obtain ⟨v, e1, e2⟩ := qan e
    have hx := qau hE h1 e1
    split at e2
    · rename_i l u el eu
      obtain ⟨y, e3, e4⟩ := qan e2
      rw [qbx e4]
      have hlo : (lo'.map a.eval) = none ∧ l = 0 ∨ ∃ k, (lo'.map a.eval) = some (.int k (l : Int)) := by
        cases lo with
        | none =>
          cases lo' with
          | none => cases el; exact .inl ⟨rfl, rfl⟩
          | some q => cases h2
        | some q =>
          cases lo' with
          | none => cases h2
          | some q' =>
            obtain ⟨z, e5, e6⟩ := qan el
            obtain ⟨k, hk⟩ := qlk (qau hE h2 e5) e6
            exact .inr ⟨k, by simp [hk]⟩
      have hhi : ((hi'.map a.eval) = none ∧ lenOf v = some u) ∨ ∃ k, (hi'.map a.eval) = some (.int k (u : Int)) := by
        cases hi with
        | none =>
          cases hi' with
          | none => exact .inl ⟨rfl, eu⟩
          | some q => cases h3
        | some q =>
          cases hi' with
          | none => cases h3
          | some q' =>
            obtain ⟨z, e5, e6⟩ := qan eu
            obtain ⟨k, hk⟩ := qlk (qau hE h3 e5) e6
            exact .inr ⟨k, by simp [hk]⟩
      unfold quz at e3
      split at e3
      · rename_i hle
        have slice_run : ∀ n el, P.underlying t = some (.slice el) → qkz P el n = true → ∀ ad len cap, a.eval x' = .slice ad len cap → lenOf v = some len → u ≤ cap →
            (execOp a.eval o).run P w = .ok (.value (.slice (if cap = l then ad else ad.map (·.add (l * n))) (u - l) (cap - l))) w := by
          intro n el hu hs ad len cap hv hlen hcap
          have hb := qxg (P := P) (w := w) (b := true) (len := len) (cap := cap) hlo (hhi.imp (fun ⟨q1, q2⟩ => ⟨q1, by rw [hlen] at q2; injection q2 with q2; exact q2.symm⟩) id) hle hcap
          unfold execOp
          simp only [hop, hv, Instr.sliceAt, Instr.slice, Sem.run_bind, run_underlying hu, Result.andThen_ok, Option.map_none, hb, qkz.run hs]
          rfl
        split at e3
        · rename_i s
          split at e3
          · rename_i hu
            cases e3
            have hst : P.underlying t = some .string := by
              simp only at h5
              split at h5
              · assumption
              · cases h5
            obtain ⟨hv, hl⟩ := (hx : a.eval x' = .string ⟨s.toArray⟩ ∧ s.length ≤ long)
            have hb := qxg (P := P) (w := w) (b := false) (len := s.length) (cap := s.length) hlo (hhi.imp (fun ⟨q1, q2⟩ => ⟨q1, by cases q2; rfl⟩) id) hle hu
            refine Sound.pure (x := .d (.str ((s.drop l).take (u - l)))) (v := .string ⟨((s.drop l).take (u - l)).toArray⟩) ?_ hH ⟨rfl, ?_⟩
            · unfold execOp
              simp only [hop, hv, Instr.sliceAt, Instr.slice, Sem.run_bind, run_underlying hst, Result.andThen_ok, Option.map_none, qkk, Option.isSome_none, Bool.false_eq_true, if_false, hb]
              have : (⟨s.toArray⟩ : ByteArray).extract l u = ⟨((s.drop l).take (u - l)).toArray⟩ := by
                apply ByteArray.ext
                simp [List.extract]
              rw [this]
              rfl
            · have := List.length_take_le (u - l) (s.drop l)
              have h8 := List.length_drop (i := l) (l := s)
              have h9 : ((s.drop l).take (u - l)).length ≤ s.length := by
                rw [List.length_take, List.length_drop]; omega
              omega
          · cases e3
        · rename_i n xs
          split at e3
          · rename_i hc
            obtain ⟨hu, hall⟩ := hc
            cases e3
            obtain ⟨el, inf, hut, _, _, _, hsz⟩ := qfi.get h5
            obtain ⟨ad, c, hv, hc1, hc2, hrow⟩ := id hx
            refine Sound.pure (x := .d (.sl ((xs.drop l).take (u - l)))) (slice_run n.c el hut hsz _ _ _ hv rfl (Nat.le_trans hu hc1)) hH ?_
            have hlen : ((xs.drop l).take (u - l)).length = u - l := by rw [List.length_take, List.length_drop]; omega
            have hwl : wl ((xs.drop l).take (u - l)) ≤ wl xs := wl_sub fun x hx => List.mem_of_mem_drop (List.mem_of_mem_take hx)
            refine ⟨_, c - l, by rw [hlen], by rw [hlen]; omega, ?_, fun hne => ?_⟩
            · rw [hlen]
              exact Nat.le_trans (Nat.mul_le_mul (by omega) hwl) hc2
            · have hlu : l < u := by
                by_cases q : l < u
                · exact q
                · exfalso; apply hne; apply List.eq_nil_of_length_eq_zero; omega
              have hxs : xs ≠ [] := fun q => by rw [q] at hu; simp at hu; omega
              obtain ⟨b, off, sz, us, rfl, hus, hs, hcell⟩ := hrow hxs
              have hsn : sz = n.c := by
                obtain ⟨x0, hx0⟩ : ∃ x0, xs[0]? = some x0 := by
                  cases xs with
                  | nil => exact absurd rfl hxs
                  | cons x0 _ => exact ⟨x0, rfl⟩
                obtain ⟨u0, hu0, hr0⟩ := hus.get hx0
                have q1 := (VRel.cells (ρ := ρ) (x := .d x0) hr0 rfl).1.length
                have q2 : x0.cells.length = (V.cells (.d x0)).length := by cases x0 <;> simp [D.cells, V.cells]
                have q3 := hs u0 (List.mem_of_getElem? hu0)
                have q4 : x0.cells.length = n.c := by
                  have := List.all_eq_true.1 hall x0 (List.mem_of_getElem? hx0)
                  simpa using this
                simp at q1
                omega
              subst hsn
              have hcl : c ≠ l := by omega
              refine ⟨b, off + l * n.c, n.c, (us.drop l).take (u - l), by rw [if_neg hcl]; simp [qmm], (hus.drop l).take _, fun u hu => hs u (List.mem_of_mem_drop (List.mem_of_mem_take hu)), fun j v hj => ?_⟩
              have q := qn7 hj
              rw [qsc l hs, List.getElem?_drop] at q
              rw [Nat.add_assoc]
              exact hcell _ _ q
          · cases e3
        · rename_i n l0 sz off len
          split at e3
          · rename_i hc
            obtain ⟨hu, rfl⟩ := hc
            obtain ⟨el, inf, hut, _, _, _, hsz⟩ := qfi.get h5
            have hsm := qfi.small h5
            have hx : RefAt (ρ l0) sz off len (a.eval x') := hx
            have empty : ∀ ad cap, a.eval x' = .slice ad len cap → u ≤ cap → l = u → Sound P o a w ρ H h i (.ok { v := .d (.sl []) }) := by
              intro ad cap hv hcap hlu
              refine Sound.pure (x := .d (.sl [])) (slice_run sz.c el hut hsz _ _ _ hv rfl hcap) hH ?_
              subst hlu
              refine ⟨(if cap = l then ad else ad.map (·.add (l * sz.c))), cap - l, by rw [Nat.sub_self]; rfl, Nat.zero_le _, by simp, fun h => absurd rfl h⟩
            cases hp : ρ l0 with
            | none => rw [hp] at hx; exact hx.elim
            | dead =>
              rw [hp] at hx
              obtain ⟨ad, c, hv, hb, hc, hq, hll⟩ := hx
              split at e3
              · rename_i hl
                cases e3
                exact empty _ _ hv (by omega) hl
              · rename_i hl
                cases e3
                obtain ⟨q, rfl⟩ := hq (by omega)
                refine Sound.pure (x := .ref l0 sz (off + l) (u - l)) (slice_run sz.c el hut hsz _ _ _ hv rfl (by omega)) hH (show RefAt (ρ l0) _ _ _ _ from ?_)
                rw [hp]
                refine ⟨(if c = l then some q else (some q).map (·.add (l * sz.c))), c - l, rfl, Nat.le_trans (Nat.mul_le_mul_right _ (by omega)) hb, by omega, fun _ => ?_, by omega⟩
                rw [if_neg (by omega)]
                exact ⟨_, rfl⟩
            | virt s =>
              rw [hp] at hx
              obtain ⟨_, _, rfl, hv⟩ := hx
              have hl : l = u := by omega
              rw [if_pos hl] at e3
              cases e3
              exact empty _ _ hv (by omega) hl
            | at_ b base s size =>
              rw [hp] at hx
              obtain ⟨rfl, c, hv, hc1, hc2, hc3, hc4, _⟩ := hx
              split at e3
              · rename_i hl
                cases e3
                exact empty _ _ hv (by omega) hl
              · rename_i hl
                cases e3
                refine Sound.pure (x := .ref l0 s (off + l) (u - l)) (slice_run s.c el hut hsz _ _ _ hv rfl (by omega)) hH (show RefAt (ρ l0) _ _ _ _ from ?_)
                rw [hp]
                refine ⟨rfl, c - l, ?_, by omega, Nat.le_trans (Nat.mul_le_mul_right _ (by omega)) hc2, ?_, by omega, fun hw => absurd hw (by omega)⟩
                · rw [if_neg (by omega)]
                  simp only [Option.map_some, qmm]
                  rw [Nat.add_mul, Nat.add_assoc]
                · have : off + l + (c - l) = off + c := by omega
                  rw [this]
                  exact hc3
            | blk q => rw [hp] at hx; exact hx.elim
          · cases e3
        · cases e3
      · cases e3
    · cases e2
  · cases hok
end
end Go.Rf

namespace Go.Rf
variable {B : Ice} {ds : List Deferred} {fx : List (Nat × Value)}
section
variable {P : Program} {T : Tab} {cf : CF} {o : Oper} {a : Act} {w : World} {ρ : Map} {H : Ice} {h : Loc → Option Obj} {i N : Nat} {env : List (Nat × V)} {r : R}
theorem qrk {x : V} {n : Nat} (h : x.cells.length = n) (hn : n ≠ 0) : solid x = true := by
  cases x <;> first | rfl | (exfalso; simp [V.cells] at h; omega)
theorem qpq (hH : HRel ρ H h w) {l : Loc} (hl : ρ l = .none) {xs : List V} {us : List Value} {sz : W} (hv : VRels ρ H xs us) (hj : xs.any qcb.isJunk = false) (hs : ∀ u ∈ us, u.cells.size = sz.c)
    (cells : Array Value) (hc : ∀ (j : Nat) (v : Value), (flat us)[j]? = some v → cells[j]? = some v) (elem : TypeId) (hty : 1000000 ≤ sz.w → elem + 1000000 = sz.w ∧ (sz.c ≠ 1 → cells.size = sz.c)) :
    HRel (updM ρ l (.at_ w.heap.size 0 sz cells.size)) H (updH h l (some (.arr xs sz))) { w with heap := w.heap.push (.cells cells elem (0, 0)) } ∧
    Trans ρ H w (updM ρ l (.at_ w.heap.size 0 sz cells.size)) H { w with heap := w.heap.push (.cells cells elem (0, 0)) } ∧ Stays ρ (updM ρ l (.at_ w.heap.size 0 sz cells.size)) := by
  refine hH.push hl (.arr xs sz) (.cells cells elem (0, 0)) (.at_ w.heap.size 0 sz cells.size) rfl ?_
  refine ⟨rfl, cells, elem, 0, us, by simp, rfl, hv.mono (Stays.upd _ (.inl hl)) (fun _ _ _ e => e), hj, hs, fun j v hj => ?_, fun hw => ⟨(hty hw).1, rfl, rfl, (hty hw).2⟩⟩
  rw [Nat.zero_add]
  exact hc j v hj
theorem qss (t : TypeId) (v : Value) : (newVar t v).run P w = .ok ⟨w.heap.size, 0, Option.none⟩ { w with heap := w.heap.push (.cells v.cells t (0, 0)) } := rfl
def q9r (n : W) : Op → Bool
  | .move y | .assign y => (match y with | .const (.slice none 0 0) => true | _ => false)
  | _ => false
theorem s_own {n} (hH : HRel ρ H h w) (hN : ∀ k, ρ (.n i k) = .none) (hok : q9r n o.op = true) (e : exec T cf i (.own n) (evO env) h = some r) : Sound P o a w ρ H h i r := by
  have key : (execOp a.eval o).run P w = .ok (.value (.slice none 0 0)) w := by
    unfold q9r at hok
    split at hok
    · rename_i y hop
      split at hok
      · unfold execOp; rw [hop]; rfl
      · cases hok
    · rename_i y hop
      split at hok
      · unfold execOp; rw [hop]; rfl
      · cases hok
    · cases hok
  cases e
  obtain ⟨k1, k2, k3⟩ := hH.virt (hN 0) n
  refine Sound.of key ⟨k1, k2, k3, NewAt.upd 0 _, ?_⟩
  show RefAt (updM ρ (.n i 0) _ _) _ _ _ _
  rw [qa5]
  exact ⟨rfl, rfl, rfl, rfl⟩
def q9x (n : Nat) (x : Opnd) (P : Program) : Op → Bool
  | .box _ x' => okO x' x && decide (n ≠ 0)
  | _ => false
theorem qz7 (u : Value) : flat [u] = u.cells.toList := by simp [flat]
theorem s_box {n x} (hH : HRel ρ H h w) (hE : EnvRel B ds fx ρ H N env a) (hN : ∀ k, ρ (.n i k) = .none) (hok : q9x n x P o.op = true) (e : exec T cf i (.box n x) (evO env) h = some r) : Sound P o a w ρ H h i r := by
  unfold q9x at hok
  split at hok
  · rename_i t x' hop
    simp only [Bool.and_eq_true, decide_eq_true_eq] at hok
    obtain ⟨h1, h2⟩ := hok
    obtain ⟨v, e1, e2⟩ := qan e
    have hx := qau hE h1 e1
    split at e2
    · rename_i hn
      cases e2
      have hsol := qrk hn h2
      have hlen := (hx.cells hsol).1.length
      have hsz : (a.eval x').cells.size = n := by simp at hlen; omega
      obtain ⟨k1, k2, k3⟩ := qpq hH (hN 0) (xs := [v]) (us := [a.eval x']) (sz := ⟨n, 0⟩) ⟨_, [], rfl, hx, rfl⟩ (by simp [qkc hsol])
        (by intro u hu; simp at hu; subst hu; exact hsz) (a.eval x').cells (fun j v hj => by rw [qz7] at hj; simpa using hj) t (fun hw => absurd hw (show ¬ 1000000 ≤ 0 by decide))
      refine Sound.of (v := .pointer (some ⟨w.heap.size, 0, Option.none⟩)) ?_ ⟨k1, k2, k3, NewAt.upd 0 _, ?_⟩
      · unfold execOp
        simp only [hop, Instr.box, Sem.run_bind, qss, Result.andThen_ok]
        rfl
      · show PtrAt (updM ρ (.n i 0) _ _) _ _ _
        rw [qa5]
        simp [PtrAt]
    · cases e2
  · cases hok
theorem VRels.setAt : ∀ {cs : List V} {vs : List Value} {c : Nat} {x : V} {v : Value}, VRels ρ H cs vs → vs[c]? = some v → VRel ρ H x v → VRels ρ H (cs.set c x) vs
  | [], _, _, _, _, k, _, _ => by cases k; exact rfl
  | _ :: _, _, 0, _, v, k, hv, h => by
    obtain ⟨u, vs', rfl, k1, k2⟩ := k
    simp at hv; subst hv
    exact ⟨_, vs', rfl, h, k2⟩
  | _ :: _, _, c + 1, _, v, k, hv, h => by
    obtain ⟨u, vs', rfl, k1, k2⟩ := k
    exact ⟨u, vs', rfl, k1, k2.setAt (by simpa using hv) h⟩
def ownOk (vs : List Value) (own : List (Nat × W)) : Bool := own.all fun x => match vs[x.1]? with | some (.slice none 0 0) => true | _ => false
theorem qlc (h : Loc → Option Obj) : ∀ (xs ys : List (Loc × Option Obj)), qba h (xs ++ ys) = qba (qba h xs) ys
  | [], _ => rfl
  | (l, o) :: xs, ys => by
    simp only [List.cons_append, qba]
    exact qlc _ xs ys
theorem q0l {α : Type} {p : α → Bool} {l : List α} (h : l.any p = false) {x : α} (hx : p x = false) (n : Nat) : (l.set n x).any p = false := by
  rw [List.any_eq_false] at *
  intro y hy
  rcases List.mem_or_eq_of_mem_set hy with h' | rfl
  · exact h y h'
  · simp [hx]
theorem qtq (w : World) (vs : List Value) : ∀ (own : List (Nat × W)) (k : Nat) (cs cs' : List V) (wr : List (Loc × Option Obj)) (ρ : Map) (h : Loc → Option Obj), HRel ρ H h w → (∀ j, k ≤ j → ρ (.n i j) = .none) →
    VRels ρ H cs vs → cs.any qfk = false → ownOk vs own = true → qfw i k own cs = (cs', wr) →
    ∃ ρ', HRel ρ' H (qba h wr) w ∧ Trans ρ H w ρ' H w ∧ Stays ρ ρ' ∧ NewAt i ρ ρ' ∧ VRels ρ' H cs' vs ∧ cs'.any qfk = false ∧ (∀ j, j < k → ρ' (.n i j) = ρ (.n i j))
  | [], k, cs, cs', wr, ρ, h, hH, hN, hv, hag, _, e => by
    cases e
    exact ⟨ρ, hH, Trans.refl .., Stays.refl _, NewAt.refl _ _, hv, hag, fun _ _ => rfl⟩
  | (c, sz) :: own, k, cs, cs', wr, ρ, h, hH, hN, hv, hag, hok, e => by
    simp only [ownOk, List.all_cons, Bool.and_eq_true] at hok
    obtain ⟨ho, hok⟩ := hok
    have hc : vs[c]? = some (.slice none 0 0) := by
      split at ho
      · assumption
      · cases ho
    simp only [qfw] at e
    cases e1 : qfw i (k + 1) own (cs.set c (.ref (.n i k) sz 0 0)) with
    | mk cs1 wr1 =>
    rw [e1] at e
    cases e
    obtain ⟨k1, k2, k3⟩ := hH.virt (hN k (Nat.le_refl _)) sz
    have hst : Stays ρ (updM ρ (.n i k) (.virt sz)) := k3
    have hv1 : VRels (updM ρ (.n i k) (.virt sz)) H (cs.set c (.ref (.n i k) sz 0 0)) vs := by
      refine VRels.setAt (hv.mono hst (fun _ _ _ e => e)) hc ?_
      show RefAt (updM ρ (.n i k) _ _) _ _ _ _
      rw [qa5]
      exact ⟨rfl, rfl, rfl, rfl⟩
    obtain ⟨ρ', q1, q2, q3, q4, q5, q6, q7⟩ := qtq w vs own (k + 1) _ _ _ _ _ k1 (fun j hj => by
      rw [qbg (fun h => by injection h with _ h; omega)]
      exact hN j (by omega)) hv1 (q0l hag rfl c) hok e1
    refine ⟨ρ', q1, k2.trans q2, k3.trans q3, (NewAt.upd k _).trans q4, q5, q6, fun j hj => ?_⟩
    rw [q7 j (by omega), qbg (fun h => by injection h with _ h; omega)]
theorem qyq {k : Nat} {own : List (Nat × W)} {x x' : V} {v : Value} {wr : List (Loc × Option Obj)} (hH : HRel ρ H h w) (hN : ∀ j, k ≤ j → ρ (.n i j) = .none) (hv : VRel ρ H x v) (hsol : solid x = true)
    (hok : ownOk v.cells.toList own = true) (e : ownD i k own x = (x', wr)) :
    ∃ ρ', HRel ρ' H (qba h wr) w ∧ Trans ρ H w ρ' H w ∧ Stays ρ ρ' ∧ NewAt i ρ ρ' ∧ VRel ρ' H x' v ∧ solid x' = true ∧ (∀ j, j < k → ρ' (.n i j) = ρ (.n i j)) := by
  cases own with
  | nil =>
    cases e
    exact ⟨ρ, hH, Trans.refl .., Stays.refl _, NewAt.refl _ _, hv, hsol, fun _ _ => rfl⟩
  | cons p own =>
    simp only [ownD] at e
    cases e1 : qfw i k (p :: own) x.cells with
    | mk cs wr1 =>
    rw [e1] at e
    cases e
    obtain ⟨kc, kn⟩ := hv.cells hsol
    obtain ⟨ρ', q1, q2, q3, q4, q5, q6, q7⟩ := qtq w _ _ _ _ _ _ _ _ hH hN kc kn hok e1
    cases hag : Rf.isAgg x with
    | false =>
      have hone : x.cells = [x] ∧ v.cells = #[v] := by
        cases x with
        | d d => cases d <;> first | exact ⟨rfl, qbk (VRel.one hv rfl)⟩ | cases hag
        | agg cs => cases hag
        | tup vs => cases hsol
        | junk => exact ⟨rfl, qbk (VRel.one hv rfl)⟩
        | ref l sz off len => exact ⟨rfl, qbk (VRel.one hv rfl)⟩
        | ptr l e j => exact ⟨rfl, qbk (VRel.one hv rfl)⟩
        | iface t y => exact ⟨rfl, qbk (VRel.one hv rfl)⟩
        | fn f c => exact ⟨rfl, qbk (VRel.one hv rfl)⟩
        | map l => exact ⟨rfl, qbk (VRel.one hv rfl)⟩
        | iter l => exact ⟨rfl, qbk (VRel.one hv rfl)⟩
      rw [hone.2] at q5
      have hlen := q5.length
      cases cs with
      | nil => simp at hlen
      | cons y l =>
        obtain ⟨u, vs', hu, r1, r2⟩ := q5
        simp at hu
        obtain ⟨rfl, rfl⟩ := hu
        simp only [List.any_cons, Bool.or_eq_false_iff] at q6
        refine ⟨ρ', q1, q2, q3, q4, r1, ?_, q7⟩
        show solid y = true
        cases y <;> first | rfl | (simp [qfk] at q6; done)
    | true =>
    refine ⟨ρ', q1, q2, q3, q4, ?_, qqy _, q7⟩
    obtain ⟨vs, hvs⟩ : ∃ vs, v = .agg ⟨vs⟩ := by
      unfold Rf.isAgg at hag
      split at hag
      · obtain ⟨vs, hv, _⟩ := hv; exact ⟨vs, hv⟩
      · obtain ⟨vs, hv, _⟩ := hv; exact ⟨vs, hv⟩
      · cases hag
    subst hvs
    exact qr7 q5 q6
def qnz (z : D) (own : List (Nat × W)) (P : Program) : Op → Bool
  | .alloc t => qia P t z && ownOkT P t own
  | _ => false
 where ownOkT (P : Program) (t : TypeId) (own : List (Nat × W)) : Bool := match P.info? t with
  | some inf => match inf.zero with
    | some v => ownOk v.cells.toList own
    | none => own.isEmpty
  | none => own.isEmpty
theorem qyc {t : TypeId} {own : List (Nat × W)} {v : Value} (hz : (zeroValue t).run P w = .ok v w) (ho : qnz.ownOkT P t own = true) : ownOk v.cells.toList own = true := by
  unfold qnz.ownOkT at ho
  unfold zeroValue at hz
  cases hi : P.info? t with
  | none =>
    rw [hi] at ho
    have : own = [] := by simpa using ho
    subst this; rfl
  | some inf =>
    rw [hi] at ho
    rw [Sem.run_bind, run_typeInfo w hi, Result.andThen_ok] at hz
    cases hv : inf.zero with
    | none =>
      simp only [hv] at ho
      have : own = [] := by simpa using ho
      subst this; rfl
    | some u =>
      simp only [hv] at ho hz
      cases hz
      exact ho
theorem zge {z own} (hH : HRel ρ H h w) (hN : ∀ k, ρ (.n i k) = .none) (hok : qnz z own P o.op = true) (e : exec T cf i (.alloc z own) (evO env) h = some r) : Sound P o a w ρ H h i r := by
  unfold qnz at hok
  split at hok
  · rename_i t hop
    simp only [Bool.and_eq_true] at hok
    obtain ⟨h1, h2⟩ := hok
    obtain ⟨v, hz, hr⟩ := qia.run h1 w
    simp only [exec] at e
    cases e1 : ownD i 1 own (.d z) with
    | mk x wr =>
    rw [e1] at e
    cases e
    obtain ⟨ρ', q1, q2, q3, q4, q5, q6, q7⟩ := qyq (k := 1) hH (fun j _ => hN j) (x := .d z) (hr H) rfl (qyc hz h2) e1
    have hl : ρ' (.n i 0) = .none := by rw [q7 0 (by omega)]; exact hN 0
    have hzc : v.cells.size = z.cells.length := by
      have := (VRel.cells (ρ := ρ) (x := .d z) (hr H) rfl).1.length
      have h2 : z.cells.length = (V.cells (.d z)).length := by cases z <;> simp [D.cells, V.cells]
      simp at this
      omega
    obtain ⟨k1, k2, k3⟩ := qpq q1 hl (xs := [x]) (us := [v]) (sz := ⟨z.cells.length, 0⟩) ⟨_, [], rfl, q5, rfl⟩ (by simp [qkc q6])
      (by intro u hu; simp at hu; subst hu; exact hzc) v.cells (fun j v hj => by rw [qz7] at hj; simpa using hj) t (fun hw => absurd hw (show ¬ 1000000 ≤ 0 by decide))
    refine Sound.of (v := .pointer (some ⟨w.heap.size, 0, Option.none⟩)) ?_ ⟨?_, q2.trans k2, q3.trans k3, q4.trans (NewAt.upd 0 _), ?_⟩
    · unfold execOp
      simp only [hop, Instr.alloc, Sem.run_bind, hz, qss, Result.andThen_ok]
      rfl
    · show HRel _ _ (qba h (wr ++ _)) _
      rw [qlc]
      exact k1
    · show PtrAt (updM ρ' (.n i 0) _ _) _ _ _
      rw [qa5]
      simp [PtrAt]
  · cases hok
def qvq (tt : TypeId) (z : D) (own : List (Nat × W)) (P : Program) : Op → Bool
  | .alloc t => decide (t = tt) && qia P t z && qnz.ownOkT P t own
  | _ => false
theorem zco {tt : TypeId} {z own} (hH : HRel ρ H h w) (hN : ∀ k, ρ (.n i k) = .none) (hok : qvq tt z own P o.op = true) (e : exec T cf i (.allocT tt z own) (evO env) h = some r) : Sound P o a w ρ H h i r := by
  unfold qvq at hok
  split at hok
  · rename_i t hop
    simp only [Bool.and_eq_true, decide_eq_true_eq] at hok
    obtain ⟨⟨htt, h1⟩, h2⟩ := hok
    subst htt
    obtain ⟨v, hz, hr⟩ := qia.run h1 w
    simp only [exec] at e
    cases e1 : ownD i 1 own (.d z) with
    | mk x wr =>
    rw [e1] at e
    cases e
    obtain ⟨ρ', q1, q2, q3, q4, q5, q6, q7⟩ := qyq (k := 1) hH (fun j _ => hN j) (x := .d z) (hr H) rfl (qyc hz h2) e1
    have hl : ρ' (.n i 0) = .none := by rw [q7 0 (by omega)]; exact hN 0
    have hzc : v.cells.size = z.cells.length := by
      have := (VRel.cells (ρ := ρ) (x := .d z) (hr H) rfl).1.length
      have h2 : z.cells.length = (V.cells (.d z)).length := by cases z <;> simp [D.cells, V.cells]
      simp at this
      omega
    obtain ⟨k1, k2, k3⟩ := qpq q1 hl (xs := [x]) (us := [v]) (sz := ⟨z.cells.length, t + 1000000⟩) ⟨_, [], rfl, q5, rfl⟩ (by simp [qkc q6])
      (by intro u hu; simp at hu; subst hu; exact hzc) v.cells (fun j v hj => by rw [qz7] at hj; simpa using hj) t (fun _ => ⟨rfl, fun _ => by simpa using hzc⟩)
    refine Sound.of (v := .pointer (some ⟨w.heap.size, 0, Option.none⟩)) ?_ ⟨?_, q2.trans k2, q3.trans k3, q4.trans (NewAt.upd 0 _), ?_⟩
    · unfold execOp
      simp only [hop, Instr.alloc, Sem.run_bind, hz, qss, Result.andThen_ok]
      rfl
    · show HRel _ _ (qba h (wr ++ _)) _
      rw [qlc]
      exact k1
    · show PtrAt (updM ρ' (.n i 0) _ _) _ _ _
      rw [qa5]
      simp [PtrAt]
  · cases hok
end
end Go.Rf

namespace Go.Rf
variable {B : Ice} {ds : List Deferred} {fx : List (Nat × Value)}
theorem q17 {al : Loc → Bool} {l : Loc} {m : List Loc} : ∀ x ∈ (qhl al l m).2, x ∈ m ∨ al x = true := by
  intro x hx
  unfold qhl at hx
  cases h : al l with
  | false => rw [h] at hx; exact .inl hx
  | true =>
    rw [h, qet] at hx
    cases hi : idx m l with
    | none =>
      rw [hi, qmg] at hx
      rcases List.mem_append.1 hx with h1 | h1
      · exact .inl h1
      · rw [List.mem_singleton.1 h1]; exact .inr h
    | some k => rw [hi, qjx] at hx; exact .inl hx
mutual
theorem qu7 (al : Loc → Bool) : ∀ (v : V) (m : List Loc), ∀ x ∈ (V.ren al v m).2, x ∈ m ∨ al x = true
  | .d _, m => fun x h => .inl h
  | .ref .., m | .ptr .., m | .map _, m | .iter _, m => by simp only [V.ren, named, viaP]; exact q17
  | .agg cs, m | .fn _ cs, m | .tup cs, m => by simp only [V.ren, viaP]; exact qpp al cs m
  | .iface _ v, m => by simp only [V.ren, viaP]; exact qu7 al v m
  | .junk, m => fun x h => .inl h
theorem qpp (al : Loc → Bool) : ∀ (vs : List V) (m : List Loc), ∀ x ∈ (rens al vs m).2, x ∈ m ∨ al x = true
  | [], m => fun x h => .inl h
  | v :: vs, m => by
    simp only [rens, viaP]
    intro x hx
    rcases qpp al vs _ x hx with h | h
    · exact qu7 al v m x h
    · exact .inr h
end
theorem qu9 (al : Loc → Bool) : ∀ (es : List (D × V)) (m : List Loc), ∀ x ∈ (renEs al es m).2, x ∈ m ∨ al x = true
  | [], m => fun x h => .inl h
  | (k, v) :: es, m => by
    simp only [renEs, viaP]
    intro x hx
    rcases qu9 al es _ x hx with h | h
    · exact qu7 al v m x h
    · exact .inr h
theorem qzv (al : Loc → Bool) (o : Obj) (m : List Loc) : ∀ x ∈ (o.ren al m).2, x ∈ m ∨ al x = true := by
  cases o with
  | arr xs sz => simp only [Obj.ren, viaP]; exact qpp al xs m
  | map es => simp only [Obj.ren, viaP]; exact qu9 al es m
  | _ => exact fun x h => .inl h
theorem qsp (h : Loc → Option Obj) : ∀ (f j : Nat) (m : List Loc) (os : List Obj) (M : List Loc), qdd h f j m = some (os, M) → ∀ x ∈ M, x ∈ m ∨ (h x).isSome = true
  | 0, j, m, os, M, e => by cases e
  | f + 1, j, m, os, M, e => by
    simp only [qdd] at e
    cases hm : m[j]? with
    | none => rw [hm, qmg] at e; cases e; exact fun x hx => .inl hx
    | some l =>
      rw [hm, qjx] at e
      cases hl : h l with
      | none =>
        rw [hl, qmg] at e
        obtain ⟨⟨os', M'⟩, e1, e2⟩ := qan e
        cases e2
        exact qsp h f (j + 1) m os' M' e1
      | some o =>
        rw [hl, qjx] at e
        simp only [viaP] at e
        obtain ⟨⟨os', M'⟩, e1, e2⟩ := qan e
        cases e2
        intro x hx
        rcases qsp h f (j + 1) _ os' M' e1 x hx with h' | h'
        · exact qzv _ o m x h'
        · exact .inr h'
theorem qxn {pin : List Loc} {vs vs' : List V} {h : Loc → Option Obj} {os : List Obj} {M : List Loc} (e : norm pin vs h = some (vs', os, M)) : ∀ x ∈ M, x ∈ pin ∨ (h x).isSome = true := by
  simp only [norm, viaP] at e
  obtain ⟨⟨os', M'⟩, e1, e2⟩ := qan e
  cases e2
  intro x hx
  rcases qsp h 64 0 _ os' M' e1 x hx with h' | h'
  · exact qpp _ vs pin x h'
  · exact .inr h'
structure CallEnd (ρ : Map) (H : Ice) (w : World) (n : Nat) (os : List Obj) (ρ' : Map) (H' : Ice) (w' : World) : Prop where
  heap : HRel ρ' H' (qa6 os) w'
  trans : Trans ρ H w ρ' H' w'
  stays : Stays ρ ρ'
  only : ∀ l, ρ' l ≠ .none → ∃ k, l = .b k
  len : n ≤ os.length
def qof (P : Program) (f : FuncId) (args : Array Value) (w : World) (ρ : Map) (H : Ice) (n : Nat) (r : CRes) : Prop :=
  Calls P f args w fun e w' => match e with
    | .outgrown => r = .out
    | .returned v => ∃ rs os ρ' H', r = .ret rs os ∧ CallEnd ρ H w n os ρ' H' w' ∧ VRel ρ' H' (untup rs) v
    | .panicked chain => ∃ x os ρ' H' u, r = .pan x os ∧ chain = [{ v := u, recovered := false }] ∧ CallEnd ρ H w n os ρ' H' w' ∧ VRel ρ' H' x u
def CFOk (B : Ice) (P : Program) (cf : CF) : Prop := ∀ f vs heap r, cf f vs heap = some r → ∀ (ρ : Map) (H : Ice) (w : World) (args : Array Value), B.le H → HRel ρ H (qa6 heap) w → VRels ρ H vs args.toList →
  (∀ l, ρ l ≠ .none → ∃ k, k < heap.length ∧ l = .b k) → qof P f args w ρ H heap.length r
theorem qwm (h : Loc → Option Obj) : ∀ fm : List Loc, qba h (fm.map (·, none)) = qgh h fm
  | [] => by funext l; simp [qgh, qba]
  | l :: fm => by
    simp only [List.map_cons, qba]
    rw [qwm _ fm]
    funext l'
    simp only [qgh, List.mem_cons]
    by_cases h1 : l' ∈ fm
    · simp [h1]
    · by_cases h2 : l' = l <;> simp [h1, h2]
theorem VRels.fits {ρ : Map} {H : Ice} : ∀ {vs : List V} {us : List Value}, VRels ρ H vs us → vs.all fitV = true
  | [], _, _ => rfl
  | v :: vs, _, k => by
    obtain ⟨u, us', rfl, k1, k2⟩ := k
    simp only [List.all_cons, Bool.and_eq_true]
    exact ⟨VRel.fits k1, VRels.fits k2⟩
theorem zdf {ρ : Map} {S : List Loc} {l : Loc} (h : ρ l = .none) (hl : l ∉ S) : killM ρ S l = .none := by
  unfold killM
  rw [if_neg hl]
  exact h
theorem qix {P : Program} {cf : CF} {o : Oper} {a : Act} {w : World} {ρ : Map} {H : Ice} {h : Loc → Option Obj} {i : Nat} {f : FuncId} {args : List (V × Bool)} {us : List Value} {r : R} (hcf : CFOk B P cf)
    (hB : B.le H) (hH : HRel ρ H h w) (hN : ∀ k, ρ (.n i k) = .none) (hv : VRels ρ H (args.map (·.1)) us) (e : qh7 cf f i h args = some r)
    (hrun : (execOp a.eval o).run P w = .ok (.enter f ⟨us⟩) w) : Sound P o a w ρ H h i r := by
  obtain ⟨⟨vs, fm⟩, e1, e2⟩ := qan e
  obtain ⟨⟨vs', os, m⟩, e3, e4⟩ := qan e2
  obtain ⟨f1, f2, f3, f4⟩ := qh3 hH fm
  have hv1 := qn6 hH args vs fm e1 fm (fun _ h => h) us hv
  obtain ⟨n1, n2, _, n4, n5⟩ := qr5 f1 List.nodup_nil e3
  have hv2 := n2 us hv1
  rw [hv2.fits, qet] at e4
  obtain ⟨cr, e5, e6⟩ := qan e4
  cases e6
  have hfm : ∀ l ∈ fm, ∃ o, h l = some o := by
    have : ∀ (args : List (V × Bool)) (vs : List V) (m : List Loc), qcc h args = some (vs, m) → ∀ l ∈ m, ∃ o, h l = some o := by
      intro args
      induction args with
      | nil => intro vs m e l hl; cases e; cases hl
      | cons x args ih =>
        intro vs m e l hl
        obtain ⟨v, fl⟩ := x
        simp only [qcc] at e
        split at e
        · rename_i v' m1 vs' m2 q1 q2
          cases e
          rcases List.mem_append.1 hl with h' | h'
          · cases fl with
            | true =>
              simp only [if_true, Option.map_eq_some_iff] at q1
              obtain ⟨⟨y, m'⟩, g1, g2⟩ := q1
              cases g2
              exact (qpd hH 24 v y _ g1).1 l h'
            | false =>
              simp only [Bool.false_eq_true, if_false] at q1
              cases q1
              cases h'
          · exact ih vs' m2 q2 l h'
        · cases e
    exact this args vs fm e1
  have alive : ∀ {l}, (h l).isSome = true → ρ l ≠ .none := fun {l} hl hn => by
    obtain ⟨ob, ho⟩ := Option.isSome_iff_exists.1 hl
    have := hH.objs l ob ho
    rw [hn] at this
    cases ob <;> exact this.elim
  have hNf : ∀ k, Loc.n i k ∉ fm := fun k hk => by
    obtain ⟨ob, hh⟩ := hfm _ hk
    exact alive (by rw [hh]; rfl) (hN k)
  have hm : ∀ l ∈ m, killM ρ fm l ≠ .none := fun l hl => by
    rcases qxn e3 l hl with h' | h'
    · cases h'
    · obtain ⟨ob, ho⟩ := Option.isSome_iff_exists.1 h'
      intro hn
      have := f1.objs l ob ho
      rw [hn] at this
      cases ob <;> exact this.elim
  have hN1 : ∀ k, killM ρ fm (.n i k) = .none := fun k => zdf (hN k) (hNf k)
  have hc := hcf f vs' os cr e5 (renM (killM ρ fm) m) (iceOf ρ H w fm) w ⟨us⟩ (fun b o v e => f2.le hH b o v (hB b o v e)) n1 hv2 (fun l hl => by
    cases l with
    | n a j => exact (hl rfl).elim
    | b k =>
      refine ⟨k, ?_, rfl⟩
      rw [n5]
      by_cases hk : k < m.length
      · exact hk
      · exfalso
        apply hl
        have : m[k]? = none := List.getElem?_eq_none_iff.2 (by omega)
        simp only [renM, this])
  have newAt : NewAt i ρ (killM ρ fm) := fun l h1 h2 => by
    unfold killM at h2
    split at h2
    · rename_i hl
      obtain ⟨ob, hh⟩ := hfm l hl
      exact (alive (by rw [hh]; rfl) h1).elim
    · exact (h2 h1).elim
  have back : ∀ {os' ρ' H' w' v x} (_ : CallEnd (renM (killM ρ fm) m) (iceOf ρ H w fm) w os.length os' ρ' H' w') (_ : VRel ρ' H' x v),
      Post ρ H h w i { v := x.mapL (backL m i), rd := fm ++ m, wr := fm.map (·, none) ++ qfc m i 0 os' } (backM (killM ρ fm) ρ' m i) H' v w' := by
    intro os' ρ' H' w' v x ce hx
    obtain ⟨b1, b2, b3, b4, b5⟩ := zdy (i := i) f1 n4 hm hN1 ce.heap ce.trans ce.stays ce.only (by have := ce.len; omega)
    refine ⟨?_, f2.trans b2, f3.trans b3, newAt.trans b4, b5 x v hx⟩
    show HRel _ _ (qba h (fm.map (·, none) ++ qfc m i 0 os')) w'
    rw [qlc, qwm]
    exact b1
  intro K Q hpost
  refine .inl ?_
  unfold Oper.wp
  rw [hrun]
  show Calls P f ⟨us⟩ w _
  intro cs
  obtain ⟨en, w', fr, hR, rest⟩ := hc cs
  refine ⟨en, w', fr, ?_, rest⟩
  cases en with
  | outgrown => subst hR; exact hpost
  | returned v =>
    obtain ⟨rs, os', ρ', H', rfl, ce, hx⟩ := hR
    exact hpost _ _ _ _ (back ce hx)
  | panicked chain =>
    obtain ⟨x, os', ρ', H', u, rfl, rfl, ce, hx⟩ := hR
    exact hpost _ _ _ _ (back ce hx)
end Go.Rf
