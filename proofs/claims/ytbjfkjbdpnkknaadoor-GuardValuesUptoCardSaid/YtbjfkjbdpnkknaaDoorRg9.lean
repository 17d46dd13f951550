/- Parts of the proof: RfFun, RfRec, RfMain. -/
import Derived.Test.YtbjfkjbdpnkknaaDoorRg8
import Derived.Recover

/- Functions: calls of digested functions. -/
namespace Go.Rf
variable {B : Ice} {ds : List Deferred} {fx : List (Nat × Value)}

def okRes (P : Program) : List ResultVar → List (ARes × Bool) → Bool
  | [], [] => true
  | .tmp t :: rs, (.tmp t', _) :: as => decide (t = t') && okRes P rs as
  | .cell x t :: rs, (.cell x' n ag, _) :: as => decide (x = x') && tyIs P t n ag && okRes P rs as
  | _, _ => false

section
variable {P : Program} {N p : Nat} {ρ : Map} {H : Ice} {w : World}

theorem asAddr_of {t : TypeId} {v u : Value} (h : (Instr.loadAt t v).run P w = .ok u w) : (do loadVar t (← asAddr v) : Sem Value).run P w = .ok u w := by
  cases v <;> first | exact h | (simp [Instr.loadAt, Instr.sureAddr] at h; done) | skip
  rename_i q
  cases q with
  | none => simp [Instr.loadAt, Instr.sureAddr] at h
  | some q => exact h

theorem mapM_cons_run {α β : Type} {f : α → Sem β} {x : α} {xs : List α} {y : β} {ys : List β} (h1 : (f x).run P w = .ok y w) (h2 : (xs.mapM f).run P w = .ok ys w) : ((x :: xs).mapM f).run P w = .ok (y :: ys) w := by
  rw [List.mapM_cons, Sem.run_bind, h1, Result.andThen_ok, Sem.run_bind, h2, Result.andThen_ok]
  rfl

def resF (tmps : Array Value) : ResultVar → Sem Value
  | .tmp t => pure (tmps.getD t undef)
  | .cell a t => do loadVar t (← asAddr (tmps.getD a undef))

theorem res_rel {h : Loc → Option Obj} {env : List (Nat × V)} {a : Act} (hH : HRel ρ H h w) (hE : ∀ t v, getE env t = some v → VRel ρ H v (a.tmps.getD t undef)) : ∀ {rs : List ResultVar} {as : List (ARes × Bool)} {vs : List (V × Bool)}, okRes P rs as = true → resVals env h as = some vs →
    ∃ us, (rs.mapM (resF a.tmps)).run P w = .ok us w ∧ VRels ρ H (vs.map (·.1)) us
  | [], [], vs, _, e => by cases e; exact ⟨[], rfl, rfl⟩
  | [], _ :: _, _, hk, _ => by simp [okRes] at hk
  | .tmp _ :: _, [], _, hk, _ => by simp [okRes] at hk
  | .cell _ _ :: _, [], _, hk, _ => by simp [okRes] at hk
  | .tmp _ :: _, (.cell _ _ _, _) :: _, _, hk, _ => by simp [okRes] at hk
  | .cell _ _ :: _, (.tmp _, _) :: _, _, hk, _ => by simp [okRes] at hk
  | .tmp t :: rs, (.tmp t', fl) :: as, vs, hk, e => by
    simp only [okRes, Bool.and_eq_true, decide_eq_true_eq] at hk
    obtain ⟨rfl, hk⟩ := hk
    simp only [resVals] at e
    split at e
    · rename_i v vs' e1 e2
      cases e
      obtain ⟨us, h1, h2⟩ := res_rel hH hE hk e2
      exact ⟨_, mapM_cons_run (f := resF a.tmps) (y := a.tmps.getD t undef) rfl h1, _, _, rfl, hE t v e1, h2⟩
    · cases e
  | .cell x t :: rs, (.cell x' n ag, fl) :: as, vs, hk, e => by
    simp only [okRes, Bool.and_eq_true, decide_eq_true_eq] at hk
    obtain ⟨⟨rfl, ht⟩, hk⟩ := hk
    simp only [resVals] at e
    split at e
    · rename_i v vs' e1 e2
      cases e
      obtain ⟨us, h1, h2⟩ := res_rel hH hE hk e2
      simp only [resOf] at e1
      split at e1
      · rename_i y ey
        split at e1
        · rename_i ef hl
          cases e1
          obtain ⟨e', he, _, _, u, hr, hu⟩ := load_rel hH ht (hE x y ey) hl
          cases he
          exact ⟨_, mapM_cons_run (f := resF a.tmps) (asAddr_of hr) h1, _, _, rfl, hu, h2⟩
        · cases e1
      · cases e1
    · cases e

theorem untup_rel {vs : List V} {us : Array Value} (k : VRels ρ H vs us.toList) : VRel ρ H (untup vs) (if h : us.size = 1 then us[0] else .tuple us) := by
  have hl := k.length
  simp only [Array.length_toList] at hl
  cases vs with
  | nil =>
    have : us = #[] := by apply Array.toList_inj.1; exact List.eq_nil_of_length_eq_zero (by simpa using hl.symm)
    subst this
    exact ⟨[], rfl, rfl⟩
  | cons v vs =>
    cases vs with
    | nil =>
      have h1 : us.size = 1 := by simpa using hl.symm
      rw [dif_pos h1]
      obtain ⟨u, us', hu, k1, k2⟩ := k
      cases k2
      have : us = #[u] := Array.toList_inj.1 hu
      subst this
      exact k1
    | cons v' vs =>
      have h1 : ¬ us.size = 1 := by simp at hl; omega
      rw [dif_neg h1]
      exact ⟨us.toList, rfl, k⟩

theorem finish_rel {fn : Func} {res : List (ARes × Bool)} {st : St} {a : Act} {r : CRes} (hH : HRel ρ H (ofList st.heap) w) (hE : ∀ t v, getE st.env t = some v → VRel ρ H v (a.tmps.getD t undef)) (hok : okRes P fn.results.toList res = true) (e : finish p res st = some r) :
    ∃ rs os ρ' H' v, r = .ret rs os ∧ (results fn a.tmps).run P w = .ok v w ∧ HRel ρ' H' (ofList os) w ∧ Trans ρ H w ρ' H' w ∧ (∀ l, ρ' l ≠ .none → ∃ k, l = .b k) ∧ StaysP p ρ ρ' ∧ p ≤ os.length ∧ VRel ρ' H' (untup rs) v := by
  obtain ⟨vals, e1, e2⟩ := bnd_eq e
  obtain ⟨⟨vs, fm⟩, e3, e4⟩ := bnd_eq e2
  split at e4
  · obtain ⟨⟨vs', os, M⟩, e5, e6⟩ := bnd_eq e4
    cases e6
    obtain ⟨us, h1, h2⟩ := res_rel (P := P) hH hE hok e1
    obtain ⟨f1, f2, f3, f4⟩ := freeze_heap hH fm
    have hv1 := frzArgs_rel hH vals vs fm e3 fm (fun _ h => h) us h2
    obtain ⟨n1, n2, n3, n4, n5⟩ := norm_rel f1 (pins_nodup p) e5
    have hv2 := n2 us hv1
    refine ⟨vs', os, _, _, (if h : us.toArray.size = 1 then us.toArray[0] else .tuple us.toArray), rfl, ?_, n1, f2.trans (renM_trans M), fun l hl => ?_, (f3.toP p).trans (renM_stays n3), ?_, untup_rel (us := us.toArray) hv2⟩
    · have : (fn.results.mapM (resF a.tmps)).run P w = .ok us.toArray w := by
        rw [Array.mapM_eq_mapM_toList, Sem.run_map, h1]
        rfl
      unfold results
      show Sem.run P ((fn.results.mapM (resF a.tmps)) >>= _) w = _
      rw [Sem.run_bind, this]
      rfl
    · obtain ⟨k, _, hk⟩ := renM_only n5 l hl; exact ⟨k, hk⟩
    · have := n3.length_le
      rw [pins_length] at this
      omega
  · cases e4

/-- Does the digest stand for the function? -/
def okFun (P : Program) (f : FuncId) (af : AFun) : Bool := funOk P f && match P.funcs[f]? with
  | some fn => (match fn.body with | some c => okC P fn.ntmps af.code c | none => false) && okRes P fn.results.toList af.res && decide (af.np ≤ fn.ntmps)
  | none => false

/-- A contract for a function that is told by hand. -/
def ExtOk (B : Ice) (P : Program) (f : FuncId) (e : CF → List V → List Obj → Option CRes) : Prop :=
  funOk P f = true ∧ ∀ cf, CFOk B P cf → ∀ vs heap r, e cf vs heap = some r → ∀ (ρ : Map) (H : Ice) (w : World) (args : Array Value), B.le H → HRel ρ H (ofList heap) w → VRels ρ H vs args.toList →
    (∀ l, ρ l ≠ .none → ∃ k, k < heap.length ∧ l = .b k) → CallsTo P f args w ρ H heap.length r

theorem args_env {vs : List V} {args : Array Value} {n : Nat} (hB : B.le H) (k : VRels ρ H vs args.toList) (hn : vs.length ≤ n) :
    EnvRel B [] [] ρ H n ((List.range vs.length).zip vs) { tmps := args ++ Array.replicate (n - args.size) undef, defers := [] } := by
  have hl := k.length
  simp only [Array.length_toList] at hl
  refine ⟨by simp; omega, rfl, fun t v hg => ?_, hB, fun _ _ h => by cases h⟩
  have hmap : args.toList = (List.range vs.length).map fun t => args.getD t undef := by
    apply List.ext_getElem?
    intro j
    by_cases hj : j < args.size
    · simp [hj, hl]
    · simp [hj, hl]
  rw [hmap] at k
  have := zip_rel k t v hg
  have ht : t < vs.length := by
    have mem : ∀ {ts : List Nat} {vs : List V}, getE (ts.zip vs) t = some v → t ∈ ts := by
      intro ts
      induction ts with
      | nil => intro vs h; simp [getE] at h
      | cons s ts ih =>
        intro vs h
        cases vs with
        | nil => simp [getE] at h
        | cons x vs =>
          simp only [List.zip_cons_cons, getE] at h
          split at h
          · rename_i hs; subst hs; exact List.mem_cons_self ..
          · exact List.mem_cons_of_mem _ (ih h)
    have := mem hg
    simpa using this
  have : (args ++ Array.replicate (n - args.size) undef).getD t undef = args.getD t undef := by
    simp only [Array.getD_eq_getD_getElem?]
    rw [Array.getElem?_append_left (by omega)]
  rw [this]
  assumption

end
end Go.Rf

/- Functions that defer one call of their own, which asks what was thrown. -/
namespace Go.Rf
variable {B : Ice}

def okPre (P : Program) (N : Nat) : ACode → Code → (Code → Bool) → Bool
  | .skip, c, k => k c
  | .seq a p, c, k => match c with
    | .seq x y => okC P N a x && okPre P N p y k
    | _ => false
  | _, _, _ => false

def okCaps : List Operand → List Nat → Bool
  | [], [] => true
  | .tmp t :: xs, t' :: ts => decide (t = t') && okCaps xs ts
  | _, _ => false

/-- The two operations that defer. -/
def okDef (r : ARec) (N : Nat) : List Oper → Bool
  | [o0, o1] => !(r.res.map (·.1.slot)).contains r.t && o0.guard.isNone && o1.guard.isNone && decide (o0.dst = some r.t) && decide (r.t < N) && decide (o1.dst = none) &&
    (match o0.op with | .makeFunc (.func g) first caps => decide (g = r.hf) && first.toList.isEmpty && okCaps caps.toList r.caps | _ => false) &&
    (match o1.op with | .defer c => (match c.callee with | .value (.tmp t) => decide (t = r.t) | _ => false) && c.args.toList.isEmpty | _ => false)
  | _ => false

/-- The two operations that ask what was thrown. -/
def okAsk (r : ARec) (N : Nat) : List Oper → Bool
  | [o0, o1] => o0.guard.isNone && o1.guard.isNone &&
    (match o0.op with | .call c => (match c.callee with | .builtin .recover => true | _ => false) && c.args.toList.isEmpty | _ => false) &&
    (match o0.dst with | some t => decide (t < N) && (match o1.op with | .assign (.tmp t') => decide (t' = t) | _ => false) && decide (r.caps.length ≤ t) && !decide (t = r.hv) | none => false) && decide (o1.dst = some r.hv) && decide (r.hv < N) && decide (r.caps.length ≤ r.hv)
  | _ => false

def okRest (P : Program) (N : Nat) (r : ARec) : Code → Bool
  | .seq (.region _ ops false) rest => okDef r N ops.toList && okC P N r.body rest
  | _ => false

def okHand (P : Program) (r : ARec) : Bool := match P.funcs[r.hf]? with
  | some fn => (match fn.body with
    | some (.seq (.region _ ops false) rest) => okAsk r fn.ntmps ops.toList && okC P fn.ntmps r.hcode rest
    | _ => false) && fn.results.toList.isEmpty && decide (r.caps.length ≤ fn.ntmps)
  | none => false

def okRecF (P : Program) (f : FuncId) (r : ARec) : Bool := funOk P f && funOk P r.hf && okHand P r && (match P.funcs[f]? with
  | some fn => (match fn.body with | some c => okPre P fn.ntmps r.pre c (okRest P fn.ntmps r) | none => false) && okRes P fn.results.toList r.res && decide (r.np ≤ fn.ntmps)
  | none => false) && avoids (r.res.map (·.1.slot)) r.body

theorem getE_zip_lt : ∀ {n m : Nat} {vs : List V} {t : Nat} {v : V}, getE ((List.range' m n).zip vs) t = some v → t < m + vs.length ∧ m ≤ t
  | 0, m, vs, t, v, h => by simp [getE] at h
  | n + 1, m, [], t, v, h => by simp [getE] at h
  | n + 1, m, x :: vs, t, v, h => by
    simp only [List.range'_succ, List.zip_cons_cons, getE] at h
    split at h
    · rename_i hm; subst hm; simp
    · obtain ⟨h1, h2⟩ := getE_zip_lt (n := n) (m := m + 1) h
      simp only [List.length_cons]
      omega

theorem avoids_nil : ∀ a : ACode, avoids [] a = true
  | .skip => rfl
  | .region L _ _ => by
    simp only [avoids, List.all_eq_true]
    intro ai _
    cases ai.dst <;> simp
  | .seq a b => by simp [avoids, avoids_nil a, avoids_nil b]
  | .cond _ a b => by simp [avoids, avoids_nil a, avoids_nil b]
  | .block _ a => by simp [avoids, avoids_nil a]
  | .loop _ a => by simp [avoids, avoids_nil a]
  | .exit _ _ => rfl
  | .scope a => by simp [avoids, avoids_nil a]
  | .ret => rfl
  | .refuse => rfl

section
variable {P : Program} {T : Tab} {cf : CF}

theorem pre_sound (hcf : CFOk B P cf) (hfs : ∀ g vs hp r, cf g vs hp = some r → funOk P g = true) {N p n : Nat} {k : Code → Bool} : ∀ (pre : ACode) (c : Code), okPre P N pre c k = true → ∀ st x, code T cf p n pre st = some x →
    ∀ ρ H w a (Q : Exit → Act → World → Prop), StRel B [] [] ρ H N st a w → p ≤ st.heap.length →
    (∀ st', x = (.nrm, st') → ∀ rest, k rest = true → ∀ ρ' H' a' w', StRel B [] [] ρ' H' N st' a' w' → Trans ρ H w ρ' H' w' → StaysP p ρ ρ' → p ≤ st'.heap.length → rest.wp P Q a' w') →
    (x.1 ≠ .nrm → PostC B [] [] ρ H w N p Q x) → c.wp P Q a w
  | .skip, c, hok, st, x, e, ρ, H, w, a, Q, hS, hpl, hn, _ => by
    cases e
    exact hn st rfl c hok ρ H a w hS (Trans.refl ..) (StaysP.refl _ _) hpl
  | .seq b q, c, hok, st, x, e, ρ, H, w, a, Q, hS, hpl, hn, hx => by
    cases c <;> first | (simp [okPre] at hok; done) | skip
    simp only [okPre, Bool.and_eq_true] at hok
    simp only [code] at e
    apply wp_seq
    split at e
    · rename_i st' e1
      exact code_sound (ds := []) (fx := []) hcf hfs b _ hok.1 (avoids_nil b) n st _ e1 ρ H w a _ hS hpl (fun ρ' H' a' w' q1 q2 q3 q4 =>
        pre_sound hcf hfs q _ hok.2 st' x e ρ' H' w' a' Q q1 q4 (fun st2 h2 rest hr ρ2 H2 a2 w2 s1 s2 s3 s4 => hn st2 h2 rest hr ρ2 H2 a2 w2 s1 (q2.trans s2) (q3.trans s3) s4) (fun hne => (hx hne).shift q2 q3))
    · rename_i hne
      refine code_sound (ds := []) (fx := []) hcf hfs b _ hok.1 (avoids_nil b) n st x e ρ H w a _ hS hpl ?_
      obtain ⟨ex, st'⟩ := x
      cases ex with
      | nrm => exact (hne st' e).elim
      | exit id => exact hx (fun h => by cases h)
      | ret => exact hx (fun h => by cases h)
      | pan v => exact hx (fun h => by cases h)
      | out => obtain ⟨a0, w0, h0⟩ := hx (fun h => by cases h); exact ⟨a0, w0, h0⟩
  | .region _ _ _, _, hok, _, _, _, _, _, _, _, _, _, _, _, _ => by simp [okPre] at hok
  | .cond _ _ _, _, hok, _, _, _, _, _, _, _, _, _, _, _, _ => by simp [okPre] at hok
  | .block _ _, _, hok, _, _, _, _, _, _, _, _, _, _, _, _ => by simp [okPre] at hok
  | .loop _ _, _, hok, _, _, _, _, _, _, _, _, _, _, _, _ => by simp [okPre] at hok
  | .exit _ _, _, hok, _, _, _, _, _, _, _, _, _, _, _, _ => by simp [okPre] at hok
  | .scope _, _, hok, _, _, _, _, _, _, _, _, _, _, _, _ => by simp [okPre] at hok
  | .ret, _, hok, _, _, _, _, _, _, _, _, _, _, _, _ => by simp [okPre] at hok
  | .refuse, _, hok, _, _, _, _, _, _, _, _, _, _, _, _ => by simp [okPre] at hok

theorem caps_rel {ρ : Map} {H : Ice} {env : List (Nat × V)} {a : Act} (hE : ∀ t v, getE env t = some v → VRel ρ H v (a.tmps.getD t undef)) : ∀ {xs : List Operand} {ts : List Nat} {vs : List V}, okCaps xs ts = true → slotsV env ts = some vs → VRels ρ H vs (xs.map a.eval) ∧ vs.length = ts.length
  | [], [], vs, _, e => by cases e; exact ⟨rfl, rfl⟩
  | [], _ :: _, _, h, _ => by simp [okCaps] at h
  | .tmp t :: xs, [], _, h, _ => by simp [okCaps] at h
  | .tmp t :: xs, t' :: ts, vs, h, e => by
    simp only [okCaps, Bool.and_eq_true, decide_eq_true_eq] at h
    obtain ⟨rfl, h⟩ := h
    obtain ⟨v, e1, e2⟩ := bnd_eq e
    obtain ⟨vs', e3, e4⟩ := bnd_eq e2
    cases e4
    obtain ⟨k1, k2⟩ := caps_rel hE h e3
    exact ⟨⟨_, _, rfl, hE t v e1, k1⟩, by simp [k2]⟩
  | .const _ :: _, ts, _, h, _ => by cases ts <;> simp [okCaps] at h
  | .func _ :: _, ts, _, h, _ => by cases ts <;> simp [okCaps] at h
  | .global _ :: _, ts, _, h, _ => by cases ts <;> simp [okCaps] at h

/-- The mode in which the deferred call is made, and what it is told. -/
inductive Mode (ρ : Map) (H : Ice) : FrameMode → V → Prop
  | ret : Mode ρ H .returning (.d .nili)
  | pan {v u} (h : VRel ρ H v u) : Mode ρ H (.panicking [{ v := u, recovered := false }]) v

/-- The handler's call. -/
theorem hand_sound (hcf : CFOk B P cf) (hfs : ∀ g vs hp r, cf g vs hp = some r → funOk P g = true) {r : ARec} (hok : okHand P r = true) {n : Nat} {ρ : Map} {H : Ice} {w : World} {heap : List Obj} {u : FrameMode} {v : V} {cs : List V} {us : Array Value} {x : Ex × St}
    (hB : B.le H) (hH : HRel ρ H (ofList heap) w) (honly : ∀ l, ρ l ≠ .none → ∃ k, k < heap.length ∧ l = .b k) (hm : Mode ρ H u v) (hcs : VRels ρ H cs us.toList) (hlen : cs.length = r.caps.length)
    (e : code T cf heap.length n r.hcode { env := (r.hv, v) :: (List.range cs.length).zip cs, heap } = some x) {R : Ending → FrameMode → World → Prop}
    (hx : match x with
      | (.nrm, st) | (.ret, st) => ∀ ρ' H' w', HRel ρ' H' (ofList st.heap) w' → (∀ l, ρ' l ≠ .none → ∃ k, k < st.heap.length ∧ l = .b k) → Trans ρ H w ρ' H' w' → StaysP heap.length ρ ρ' → heap.length ≤ st.heap.length → ∀ v' u', settle u' = .returning → R (.returned v') u' w'
      | (.out, _) => ∃ w0, R .outgrown u w0
      | _ => False) : CallsD P r.hf us u w R := by
  unfold okHand at hok
  split at hok
  · rename_i fn hfn
    simp only [Bool.and_eq_true, decide_eq_true_eq] at hok
    obtain ⟨⟨hb, hres⟩, hcn⟩ := hok
    split at hb
    · rename_i id ops rest hbody
      simp only [Bool.and_eq_true] at hb
      obtain ⟨hask, hrest⟩ := hb
      refine callsD_of_wpS hfn hbody (fun c₀ cs0 hmode => ?_)
      apply wpS_seq
      apply wpS_region
      cases hops : ops.toList with
      | nil => rw [hops] at hask; cases hask
      | cons o0 l =>
      cases l with
      | nil => rw [hops] at hask; cases hask
      | cons o1 l =>
      cases l with
      | cons _ _ => rw [hops] at hask; cases hask
      | nil =>
      rw [hops] at hask
      have hopsA : ops = #[o0, o1] := Array.toList_inj.1 hops
      subst hopsA
      simp only [okAsk, Bool.and_eq_true, decide_eq_true_eq] at hask
      obtain ⟨⟨⟨⟨⟨⟨hg0, hg1⟩, hop0⟩, hd0⟩, hd1⟩, hvN⟩, hvc⟩ := hask
      have g0 : o0.guard = none := by simpa using hg0
      have g1 : o1.guard = none := by simpa using hg1
      split at hop0
      · rename_i c hc
        simp only [Bool.and_eq_true] at hop0
        obtain ⟨hcal, hargs⟩ := hop0
        split at hcal
        · rename_i hcb
          split at hd0
          · rename_i t ht
            simp only [Bool.and_eq_true, decide_eq_true_eq, Bool.not_eq_true', decide_eq_false_iff_not] at hd0
            obtain ⟨⟨⟨htN, hop1⟩, htc⟩, htv⟩ := hd0
            split at hop1
            · rename_i t' hop1'
              simp only [decide_eq_true_eq] at hop1
              subst hop1
              have hul := hcs.length
              simp only [Array.length_toList] at hul
              -- the handler's frame
              let tm : Array Value := us ++ Array.replicate (fn.ntmps - us.size) undef
              have htm : tm.size = fn.ntmps := by simp [tm]; omega
              have hrun : ∀ (a : Act), (execOp a.eval o0).run P w = .ok .recover w := fun a => by
                unfold execOp
                simp only [hc, resolve, hcb]
                rw [arr_nil hargs]
                rfl
              have hrange : List.range (#[o0, o1] : Array Oper).size = [0, 1] := rfl
              rw [hrange]
              -- what the handler is told
              obtain ⟨uv, cs1, hrec, hvu, u', rfl, hset⟩ : ∃ uv cs1, ((recoverD (c₀ :: cs0) = none ∧ uv = Value.nilIface ∧ cs1 = c₀ :: cs0) ∨ recoverD (c₀ :: cs0) = some (uv, cs1)) ∧ VRel ρ H v uv ∧ ∃ u', cs1 = { c₀ with mode := u' } :: cs0 ∧ settle u' = .returning := by
                cases hm with
                | ret =>
                  refine ⟨.nilIface, c₀ :: cs0, .inl ⟨?_, rfl, rfl⟩, rfl, .returning, ?_, rfl⟩
                  · simp only [recoverD, hmode]
                  · cases c₀; simp only at hmode; subst hmode; rfl
                | pan h =>
                  rename_i uu
                  exact ⟨uu, _, .inr (by simp only [recoverD, hmode]; rfl), h, _, rfl, rfl⟩
              have hstep : ∀ Q' : Exit → Act → List Frame → World → Prop, Q' .normal ((({ tmps := tm, defers := [] } : Act).put (some t') uv).put (some r.hv) uv) ({ c₀ with mode := u' } :: cs0) w → wpOpsS P #[o0, o1] Q' [0, 1] { tmps := tm, defers := [] } (c₀ :: cs0) w := by
                intro Q' hq
                have hev : (({ tmps := tm, defers := [] } : Act).put (some t') uv).eval (.tmp t') = uv := by
                  simp only [Act.put, Act.eval]
                  simp [Array.getD, htm, htN]
                have h1 : wpOpsS P #[o0, o1] Q' [1] (({ tmps := tm, defers := [] } : Act).put (some t') uv) ({ c₀ with mode := u' } :: cs0) w := by
                  have hx1 : (execOp (({ tmps := tm, defers := [] } : Act).put (some t') uv).eval o1).run P w = .ok (.value uv) w := by
                    unfold execOp
                    simp only [hop1', hev]
                    rfl
                  simp only [wpOpsS, show (#[o0, o1] : Array Oper)[1]? = some o1 from rfl, Region.wanted, g1, if_true, hx1, Oper.upon, hd1]
                  exact hq
                unfold wpOpsS
                simp only [show (#[o0, o1] : Array Oper)[0]? = some o0 from rfl, Region.wanted, g0, if_true, hrun]
                rcases hrec with ⟨h, rfl, h3⟩ | h
                · rw [h]
                  simp only [ht]
                  rw [h3] at h1
                  exact h1
                · rw [h]
                  simp only [ht]
                  exact h1
              apply hstep
              show rest.wpS P (bodyPostS P fn c₀ cs0 R) _ _ _
              apply wpS_of_wp
              have hE0 : EnvRel B [] [] ρ H fn.ntmps ((List.range cs.length).zip cs) { tmps := us ++ Array.replicate (fn.ntmps - us.size) undef, defers := [] } := args_env hB hcs (by omega)
              have hE1 := (hE0.put (x := v) (v := uv) (some t') (fun t ht => by cases ht; exact ⟨htN, fun x hx => by cases hx⟩) hvu).put (x := v) (v := uv) (some r.hv) (fun t ht => by cases ht; exact ⟨hvN, fun x hx => by cases hx⟩) hvu
              have hE2 : EnvRel B [] [] ρ H fn.ntmps ((r.hv, v) :: (List.range cs.length).zip cs) ((({ tmps := tm, defers := [] } : Act).put (some t') uv).put (some r.hv) uv) := ⟨hE1.size, hE1.defers, fun t x hg => by
                refine hE1.rel t x ?_
                simp only [putT, getE] at hg ⊢
                split at hg
                · rename_i h; rw [if_pos h]; exact hg
                · rename_i h
                  rw [if_neg h]
                  have ht : t < cs.length := by
                    rw [List.range_eq_range'] at hg
                    have := (getE_zip_lt hg).1
                    omega
                  rw [if_neg (by omega)]
                  exact hg, hE1.base, hE1.fix⟩
              refine code_sound (ds := []) (fx := []) (p := heap.length) hcf hfs r.hcode _ hrest (avoids_nil _) n _ x e ρ H w _ _ ⟨hH, hE2, honly⟩ (Nat.le_refl _) ?_
              · obtain ⟨ex, st⟩ := x
                have hre : ∀ (a : Act) (w : World), (results fn a.tmps).run P w = .ok (.tuple #[]) w := fun a w => by
                  unfold results
                  rw [arr_nil hres, Array.mapM_eq_mapM_toList]
                  rfl
                cases ex with
                | nrm =>
                  intro ρ' H' a' w' q1 q2 q3 q4
                  exact ⟨q1.env.defers, u', rfl, _, hre a' w', hx ρ' H' w' q1.heap q1.only q2 q3 q4 _ _ hset⟩
                | ret =>
                  intro ρ' H' a' w' q1 q2 q3 q4
                  exact ⟨q1.env.defers, u', rfl, _, hre a' w', hx ρ' H' w' q1.heap q1.only q2 q3 q4 _ _ hset⟩
                | out => obtain ⟨w0, h0⟩ := hx; exact ⟨{ tmps := #[], defers := [] }, w0, u, h0⟩
                | pan v => exact hx.elim
                | exit id => exact hx.elim
            · cases hop1
          · cases hd0
        · cases hcal
      · cases hop0
    · cases hb
  · cases hok

def EndR (ρ : Map) (H : Ice) (w : World) (n : Nat) (x : CRes) : Ending → World → Prop := fun e w' => match e with
  | .outgrown => x = .out
  | .returned v => ∃ rs os ρ' H', x = .ret rs os ∧ CallEnd ρ H w n os ρ' H' w' ∧ VRel ρ' H' (untup rs) v
  | .panicked chain => ∃ y os ρ' H' u, x = .pan y os ∧ chain = [{ v := u, recovered := false }] ∧ CallEnd ρ H w n os ρ' H' w' ∧ VRel ρ' H' y u

theorem getE_zip_mem : ∀ {ts : List Nat} {vs : List V} {t : Nat} {v : V}, getE (ts.zip vs) t = some v → t ∈ ts
  | [], vs, t, v, h => by simp [getE] at h
  | s :: ts, [], t, v, h => by simp [getE] at h
  | s :: ts, x :: vs, t, v, h => by
    simp only [List.zip_cons_cons, getE] at h
    split at h
    · rename_i hs; subst hs; exact List.mem_cons_self ..
    · exact List.mem_cons_of_mem _ (getE_zip_mem h)

theorem keptE_sub {env : List (Nat × V)} : ∀ (ks : List Nat), ∀ t ∈ (keptE env ks).1, t ∈ ks
  | [], t, h => by simp [keptE] at h
  | k :: ks, t, h => by
    simp only [keptE] at h
    cases hg : getE env k with
    | none => simp only [hg] at h; exact List.mem_cons_of_mem _ (keptE_sub ks t h)
    | some v =>
      simp only [hg] at h
      rcases List.mem_cons.1 h with rfl | h
      · exact List.mem_cons_self ..
      · exact List.mem_cons_of_mem _ (keptE_sub ks t h)

theorem StaysP.le {p p' : Nat} {ρ ρ' : Map} (h : p ≤ p') (k : StaysP p' ρ ρ') : StaysP p ρ ρ' := fun j hj => k j (by omega)

theorem rec_sound (hcf : CFOk B P cf) (hfs : ∀ g vs hp r, cf g vs hp = some r → funOk P g = true) {f : FuncId} {r : ARec} (hok : okRecF P f r = true) {n : Nat} {vs : List V} {heap : List Obj} {x : CRes}
    (e : recG (fun p a st => code T cf p n a st) r vs heap = some x) {ρ : Map} {H : Ice} {w : World} {args : Array Value} (hB : B.le H) (hH : HRel ρ H (ofList heap) w) (hv : VRels ρ H vs args.toList)
    (honly : ∀ l, ρ l ≠ .none → ∃ k, k < heap.length ∧ l = .b k) : CallsTo P f args w ρ H heap.length x := by
  simp only [okRecF, Bool.and_eq_true] at hok
  obtain ⟨⟨⟨⟨_, hfh⟩, hhand⟩, hfun⟩, hav⟩ := hok
  split at hfun
  · rename_i fn hfn
    simp only [Bool.and_eq_true, decide_eq_true_eq] at hfun
    obtain ⟨⟨hbd, hres⟩, hnp⟩ := hfun
    cases hb : fn.body with
    | none => rw [hb] at hbd; cases hbd
    | some c =>
    rw [hb] at hbd
    simp only at hbd
    unfold recG at e
    split at e
    · rename_i hl
      dsimp only at e
      show Calls P f args w (EndR ρ H w heap.length x)
      generalize hR : EndR ρ H w heap.length x = R
      apply calls_of_wp_defers hfn hb
      have hS : StRel B [] [] ρ H fn.ntmps { env := (List.range r.np).zip vs, heap := heap } { tmps := args ++ Array.replicate (fn.ntmps - args.size) undef, defers := [] } w :=
        ⟨hH, by rw [← hl]; exact args_env hB hv (by omega), honly⟩
      have stays : ∀ {ρ' : Map}, StaysP heap.length ρ ρ' → Stays ρ ρ' := fun h l hl => by
        obtain ⟨k, hk, rfl⟩ := honly l hl
        exact h k hk hl
      have hout0 : x = .out → ∀ w, R .outgrown w := fun hx w => by subst hR; exact hx
      have hout : x = .out → LetsOut (bodyPostD P fn R) := fun hx => ⟨{ tmps := #[], defers := [] }, w, hout0 hx w⟩
      -- how it ends, if nothing is left to be called
      have fin : ∀ {st : St}, finish heap.length r.res st = some x → ∀ ρ' H' (a' : Act) w', HRel ρ' H' (ofList st.heap) w' → (∀ t v, getE st.env t = some v → VRel ρ' H' v (a'.tmps.getD t undef)) → Trans ρ H w ρ' H' w' → StaysP heap.length ρ ρ' →
          ∃ v, (results fn a'.tmps).run P w' = .ok v w' ∧ R (.returned v) w' := by
        intro st e ρ' H' a' w' q1 q1' q2 q3
        obtain ⟨rs, os, ρ2, H2, v, rfl, r1, r2, r3, r4, r5, r6, r7⟩ := finish_rel q1 q1' hres e
        subst hR
        exact ⟨v, r1, rs, os, ρ2, H2, rfl, ⟨r2, q2.trans r3, stays (q3.trans r5), r4, r6⟩, r7⟩
      cases h1 : code T cf heap.length n r.pre { env := (List.range r.np).zip vs, heap := heap } with
      | none => rw [h1] at e; cases e
      | some y =>
      rw [h1] at e
      refine pre_sound hcf hfs r.pre c hbd _ y h1 ρ H w _ _ hS (Nat.le_refl _) ?_ ?_
      · rintro st rfl rest hrest ρ1 H1 a1 w1 s1 s2 s3 s4
        obtain ⟨cs, hcs, e⟩ := bnd_eq (show bnd _ _ = some x from e)
        unfold okRest at hrest
        split at hrest
        · rename_i id ops rest2
          simp only [Bool.and_eq_true] at hrest
          obtain ⟨hdef, hbody⟩ := hrest
          cases hops : ops.toList with
          | nil => rw [hops] at hdef; cases hdef
          | cons o0 l =>
          cases l with
          | nil => rw [hops] at hdef; cases hdef
          | cons o1 l =>
          cases l with
          | cons _ _ => rw [hops] at hdef; cases hdef
          | nil =>
          rw [hops] at hdef
          have hopsA : ops = #[o0, o1] := Array.toList_inj.1 hops
          subst hopsA
          simp only [okDef, Bool.and_eq_true, decide_eq_true_eq] at hdef
          obtain ⟨⟨⟨⟨⟨⟨⟨htks, hg0⟩, hg1⟩, hd0⟩, htN⟩, hd1⟩, hop0⟩, hop1⟩ := hdef
          have g0 : o0.guard = none := by simpa using hg0
          have g1 : o1.guard = none := by simpa using hg1
          split at hop0
          · rename_i g first caps hm0
            simp only [Bool.and_eq_true, decide_eq_true_eq] at hop0
            obtain ⟨⟨rfl, hfirst⟩, hcaps⟩ := hop0
            split at hop1
            · rename_i cl hm1
              simp only [Bool.and_eq_true] at hop1
              obtain ⟨hcal, hargs⟩ := hop1
              split at hcal
              · rename_i tt hcv
                simp only [decide_eq_true_eq] at hcal
                subst hcal
                obtain ⟨hcr, hcl⟩ := caps_rel s1.env.rel hcaps hcs
                -- the act behind the defer
                let fv : Value := .func (.func r.hf) #[] (caps.map a1.eval)
                let d : Deferred := { target := .fn (.func r.hf) (caps.map a1.eval), args := #[] }
                let a2 : Act := { a1.put (some r.t) fv with defers := [d] }
                have hx0 : (execOp a1.eval o0).run P w1 = .ok (.value fv) w1 := by
                  unfold execOp
                  simp only [hm0, Instr.makeFunc]
                  rw [arr_nil hfirst]
                  simp [fv]
                have hev : (a1.put (some r.t) fv).eval (.tmp r.t) = fv := by
                  simp only [Act.put, Act.eval]
                  simp [Array.getD, s1.env.size, htN]
                have hx1 : (execOp (a1.put (some r.t) fv).eval o1).run P w1 = .ok (.defer d) w1 := by
                  unfold execOp
                  simp only [hm1, resolve, hcv, hev, fv, Deferred.ofValue]
                  rw [arr_nil hargs]
                  simp [d]
                have hdef0 : a1.defers = [] := s1.env.defers
                apply wp_seq
                apply wp_region
                have hstep : ∀ Q' : Exit → Act → World → Prop, Q' .normal a2 w1 → wpOps P #[o0, o1] Q' [0, 1] a1 w1 := by
                  intro Q' hq
                  simp only [wpOps, show (#[o0, o1] : Array Oper)[0]? = some o0 from rfl, show (#[o0, o1] : Array Oper)[1]? = some o1 from rfl, Region.wanted, g0, g1, if_true]
                  left
                  unfold Oper.wp
                  rw [hx0]
                  simp only [Oper.upon, hd0]
                  left
                  rw [hx1]
                  simp only [hd1]
                  have : (({ a1.put (some r.t) fv with defers := d :: (a1.put (some r.t) fv).defers } : Act).put none undef) = a2 := by
                    simp only [Act.put, a2, hdef0]
                  rw [this]
                  exact hq
                apply hstep
                show rest2.wp P (bodyPostD P fn R) a2 w1
                let ks : List Nat := r.res.map (·.1.slot)
                let fx : List (Nat × Value) := ks.map fun t => (t, a2.tmps.getD t undef)
                have hfx : fx.map (·.1) = ks := by simp [fx, Function.comp_def]
                have hE1 := s1.env.put (x := .junk) (v := fv) (some r.t) (fun t ht => by cases ht; exact ⟨htN, fun x hx => by cases hx⟩) rfl
                have hE2 : EnvRel B [d] fx ρ1 H1 fn.ntmps ((r.t, .junk) :: st.env) a2 := ⟨hE1.size, rfl, hE1.rel, hE1.base, fun t u hm => by
                  obtain ⟨t', _, h⟩ := List.mem_map.1 hm
                  cases h
                  rfl⟩
                have hst1 : ∀ {ρ' : Map}, StaysP st.heap.length ρ1 ρ' → Stays ρ1 ρ' := fun h l hl => by
                  obtain ⟨k, hk, rfl⟩ := s1.only l hl
                  exact h k hk hl
                -- the slots of the results, later
                have later : ∀ {ρ' H' w'} {a' : Act}, Trans ρ1 H1 w1 ρ' H' w' → Stays ρ1 ρ' → (∀ t u, (t, u) ∈ fx → a'.tmps.getD t undef = u) → ∀ t v, getE (recEnv r st.env) t = some v → VRel ρ' H' v (a'.tmps.getD t undef) := by
                  intro ρ' H' w' a' q1 q2 q3 t v hg
                  have hk := zip_rel (kept_rel s1.env ks) t v hg
                  have htk : t ∈ ks := keptE_sub ks t (getE_zip_mem hg)
                  rw [q3 t _ (List.mem_map.2 ⟨t, htk, rfl⟩)]
                  have hne : r.t ≠ t := fun h => by
                    subst h
                    have : ks.contains r.t = true := List.contains_iff_mem.2 htk
                    rw [this] at htks
                    cases htks
                  have : a2.tmps.getD t undef = a1.tmps.getD t undef := by
                    simp only [a2, Act.put, Array.getD_eq_getD_getElem?, Array.getElem?_setIfInBounds, if_neg hne]
                  rw [this]
                  exact hk.mono q2 (q1.le s1.heap)
                -- the deferred call
                have leave : ∀ {u : FrameMode} {v : V} {hp : List Obj} {ρ' H'} {a' : Act} {w'}, hEnd heap.length r.res (recEnv r st.env) (code T cf hp.length n r.hcode { env := (r.hv, v) :: (List.range cs.length).zip cs, heap := hp }) = some x → u ≠ .run → Mode ρ' H' u v → HRel ρ' H' (ofList hp) w' →
                    (∀ l, ρ' l ≠ .none → ∃ k, k < hp.length ∧ l = .b k) → a'.defers = [d] → (∀ t u, (t, u) ∈ fx → a'.tmps.getD t undef = u) → Trans ρ1 H1 w1 ρ' H' w' → StaysP st.heap.length ρ1 ρ' → st.heap.length ≤ hp.length → Leaves P fn a'.tmps R a'.defers u w' := by
                  intro u v hp ρ' H' a' w' e3 hu hm k1 k2 k3 k4 k5 k6 k7
                  rw [k3]
                  have hinv : (invoke (.fn (.func r.hf) (caps.map a1.eval)) #[]).run P w' = .ok (.enter r.hf (#[] ++ caps.map a1.eval)) w' := by
                    simp only [invoke]
                    exact run_callFunc hfh _
                  cases h3 : code T cf hp.length n r.hcode { env := (r.hv, v) :: (List.range cs.length).zip cs, heap := hp } with
                  | none => rw [h3] at e3; cases e3
                  | some z =>
                  rw [h3] at e3
                  refine leaves_cons hu hinv ?_
                  refine hand_sound hcf hfs hhand (fun b o v h => k5.le s1.heap b o v (s1.env.base b o v h)) k1 k2 hm (cs := cs) ?_ hcl h3 ?_
                  · have : (#[] ++ caps.map a1.eval).toList = caps.toList.map a1.eval := by simp
                    rw [this]
                    exact VRels.mono (hst1 k6) (k5.le s1.heap) cs hcr
                  · have done : ∀ {st3 : St}, finish heap.length r.res { env := recEnv r st.env, heap := st3.heap } = some x → ∀ ρ2 H2 w2, HRel ρ2 H2 (ofList st3.heap) w2 → Trans ρ' H' w' ρ2 H2 w2 → StaysP hp.length ρ' ρ2 → ∀ u', settle u' = .returning → Leaves P fn a'.tmps R [] (settle u') w2 := by
                      intro st3 e4 ρ2 H2 w2 t1 t2 t3 u' hset
                      rw [hset]
                      have hst2 : Stays ρ' ρ2 := fun l hl => by
                        obtain ⟨k, hk, rfl⟩ := k2 l hl
                        exact t3 k hk hl
                      exact fin e4 ρ2 H2 a' w2 t1 (later (k5.trans t2) ((hst1 k6).trans hst2) k4) ((s2.trans k5).trans t2) ((s3.trans (k6.le s4)).trans (t3.le (Nat.le_trans s4 k7)))
                    obtain ⟨ex, st3⟩ := z
                    cases ex with
                    | nrm => exact fun ρ2 H2 w2 t1 _ t2 t3 _ v' u' hset => done e3 ρ2 H2 w2 t1 t2 t3 u' hset
                    | ret => exact fun ρ2 H2 w2 t1 _ t2 t3 _ v' u' hset => done e3 ρ2 H2 w2 t1 t2 t3 u' hset
                    | out => (cases e3; exact ⟨w', hout0 rfl w'⟩)
                    | pan v => cases e3
                    | exit id => cases e3
                cases h2 : code T cf st.heap.length n r.body { env := (r.t, .junk) :: st.env, heap := st.heap } with
                | none => rw [h2] at e; cases e
                | some z =>
                rw [h2] at e
                refine code_sound (B := B) (ds := [d]) (fx := fx) (p := st.heap.length) hcf hfs r.body _ hbody (by rw [hfx]; exact hav) n _ z h2 ρ1 H1 w1 a2 _ ⟨s1.heap, hE2, s1.only⟩ (Nat.le_refl _) ?_
                obtain ⟨ex, st2⟩ := z
                cases ex with
                | nrm => exact fun ρ' H' a' w' q1 q2 q3 q4 => leave (u := .returning) e (fun h => by cases h) .ret q1.heap q1.only q1.env.defers q1.env.fix q2 q3 q4
                | ret => exact fun ρ' H' a' w' q1 q2 q3 q4 => leave (u := .returning) e (fun h => by cases h) .ret q1.heap q1.only q1.env.defers q1.env.fix q2 q3 q4
                | out => (cases e; exact hout rfl)
                | exit id => cases e
                | pan v =>
                  cases v <;> first | (cases e; done) | skip
                  rename_i yv
                  cases yv <;> first | (cases e; done) | skip
                  exact fun ρ' H' a' w' u q1 q2 q3 q4 q4x q5 q6 q7 => leave (u := .panicking _) e (fun h => by cases h) (.pan q3) q1 q2 q4 q4x q5 q6 q7
              · cases hcal
            · cases hop1
          · cases hop0
        · cases hrest
      · intro hne
        obtain ⟨ex, st⟩ := y
        cases ex with
        | nrm => exact (hne rfl).elim
        | exit id => cases e
        | out => (cases e; exact hout rfl)
        | ret =>
          intro ρ' H' a' w' q1 q2 q3 q4
          show Leaves P fn a'.tmps R a'.defers .returning w'
          rw [q1.env.defers]
          exact fin e ρ' H' a' w' q1.heap q1.env.rel q2 q3
        | pan v =>
          intro ρ' H' a' w' u q1 q2 q3 q4 _ q5 q6 q7
          show Leaves P fn a'.tmps R a'.defers _ w'
          rw [q4]
          cases e
          subst hR
          exact ⟨v, st.heap, ρ', H', u, rfl, rfl, ⟨q1, q5, stays q6, fun l hl => by obtain ⟨k, _, hk⟩ := q2 l hl; exact ⟨k, hk⟩, q7⟩, q3⟩
    · cases e
  · cases hfun
end
end Go.Rf

/- Functions: calls of digested functions. -/
namespace Go.Rf
variable {B : Ice}
section
variable {P : Program} {N p : Nat} {ρ : Map} {H : Ice} {w : World}

theorem call_ok {T : Tab} {X : Exts} (hT : ∀ f af, T.funs f = some af → okFun P f af = true) (hR : ∀ f r, T.recs f = some r → okRecF P f r = true) (hX : ∀ f e, X.run f = some e → ExtOk B P f e) : ∀ n, CFOk B P (call T X n) ∧ ∀ g vs hp r, call T X n g vs hp = some r → funOk P g = true
  | 0 => ⟨fun f vs heap r e => by simp [call] at e, fun g vs hp r e => by simp [call] at e⟩
  | n + 1 => by
    obtain ⟨ih1, ih2⟩ := call_ok hT hR hX n
    refine ⟨fun f vs heap r e ρ H w args hB hH hv honly => ?_, fun g vs hp r e => ?_⟩
    · simp only [call] at e
      split at e
      · rename_i ex hex
        exact (hX f ex hex).2 _ ih1 vs heap r e ρ H w args hB hH hv honly
      · split at e
        · split at e
          · rename_i r hr
            exact rec_sound ih1 ih2 (hR f r hr) e hB hH hv honly
          · cases e
        · rename_i af haf
          have hok := hT f af haf
          simp only [okFun, Bool.and_eq_true] at hok
          obtain ⟨_, hok⟩ := hok
          split at hok
          · rename_i fn hfn
            simp only [Bool.and_eq_true, decide_eq_true_eq] at hok
            obtain ⟨⟨k1, k2⟩, k3⟩ := hok
            cases hb : fn.body with
            | none => rw [hb] at k1; cases k1
            | some c =>
            rw [hb] at k1
            simp only at k1
            split at e
            · rename_i hnp
              have hS : StRel B [] [] ρ H fn.ntmps { env := (List.range af.np).zip vs, heap := heap } { tmps := args ++ Array.replicate (fn.ntmps - args.size) undef, defers := [] } w :=
                ⟨hH, by rw [← hnp]; exact args_env hB hv (by omega), honly⟩
              have stays : ∀ {ρ' : Map}, StaysP heap.length ρ ρ' → Stays ρ ρ' := fun h l hl => by
                obtain ⟨k, hk, rfl⟩ := honly l hl
                exact h k hk hl
              unfold CallsTo
              apply calls_of_wp hfn hb
              have fin : ∀ {st : St}, finish heap.length af.res st = some r → ∀ ρ' H' a' w', StRel B [] [] ρ' H' fn.ntmps st a' w' → Trans ρ H w ρ' H' w' → StaysP heap.length ρ ρ' →
                  a'.defers = [] ∧ ∃ v, (results fn a'.tmps).run P w' = .ok v w' ∧ ∃ rs os ρ2 H2, r = .ret rs os ∧ CallEnd ρ H w heap.length os ρ2 H2 w' ∧ VRel ρ2 H2 (untup rs) v := by
                intro st e ρ' H' a' w' q1 q2 q3
                obtain ⟨rs, os, ρ2, H2, v, rfl, r1, r2, r3, r4, r5, r6, r7⟩ := finish_rel q1.heap q1.env.rel k2 e
                exact ⟨q1.env.defers, v, r1, rs, os, ρ2, H2, rfl, ⟨r2, q2.trans r3, stays (q3.trans r5), r4, r6⟩, r7⟩
              split at e
              · rename_i st e1
                exact code_sound (ds := []) (fx := []) (p := heap.length) ih1 ih2 af.code c k1 (avoids_nil _) n _ _ e1 ρ H w _ _ hS (Nat.le_refl _) (fun ρ' H' a' w' q1 q2 q3 _ => fin e ρ' H' a' w' q1 q2 q3)
              · rename_i st e1
                exact code_sound (ds := []) (fx := []) (p := heap.length) ih1 ih2 af.code c k1 (avoids_nil _) n _ _ e1 ρ H w _ _ hS (Nat.le_refl _) (fun ρ' H' a' w' q1 q2 q3 _ => fin e ρ' H' a' w' q1 q2 q3)
              · rename_i v st e1
                cases e
                exact code_sound (ds := []) (fx := []) (p := heap.length) ih1 ih2 af.code c k1 (avoids_nil _) n _ _ e1 ρ H w _ _ hS (Nat.le_refl _) (fun ρ' H' a' w' u q1 q2 q3 q4 _ q5 q6 q7 =>
                  ⟨q4, v, st.heap, ρ', H', u, rfl, rfl, ⟨q1, q5, stays q6, (fun l hl => by obtain ⟨k, _, hk⟩ := q2 l hl; exact ⟨k, hk⟩), q7⟩, q3⟩)
              · rename_i st e1
                cases e
                exact code_sound (ds := []) (fx := []) (p := heap.length) ih1 ih2 af.code c k1 (avoids_nil _) n _ _ e1 ρ H w _ _ hS (Nat.le_refl _) ⟨{ tmps := #[], defers := [] }, w, rfl⟩
              · cases e
            · cases e
          · cases hok
    · simp only [call] at e
      split at e
      · rename_i ex hex
        exact (hX g ex hex).1
      · split at e
        · split at e
          · rename_i r hr
            have hok := hR g r hr
            simp only [okRecF, Bool.and_eq_true] at hok
            exact hok.1.1.1.1
          · cases e
        · rename_i af haf
          have hok := hT g af haf
          simp only [okFun, Bool.and_eq_true] at hok
          exact hok.1
end
end Go.Rf
