/- Parts of the proof: RfDraw3, RfDraw4, RfCode2, RfFun, RfRec, RfMain. -/
import Derived.Test.YtdgfohkljpjdpaaGreatDoorRg4
import Derived.Scope
import Derived.Recover

set_option linter.unusedSimpArgs false
set_option linter.unusedVariables false
set_option linter.unnecessarySimpa false
namespace Go.Rf
variable {B : Ice} {ds : List Deferred} {fx : List (Nat × Value)}
def qjq (ops : Array Oper) (j : Nat) : List Nat := ((ops[j]?).map fun o => (o.after.toList.filter (Region.binds .any ·)).map (·.on)).getD []
theorem qqh {ops : Array Oper} {listed : Array Bool} {i : Nat} : i ∈ Region.ready .any ops listed ↔ i < ops.size ∧ listed.getD i true = false ∧ ∀ j ∈ qjq ops i, listed.getD j false = true := by
  unfold Region.ready
  simp only [List.mem_filter, List.mem_range, Bool.and_eq_true, Bool.not_eq_true']
  refine and_congr_right fun hi => and_congr_right fun _ => ?_
  unfold qjq
  rw [Array.getElem?_eq_getElem hi]
  simp only [Option.map_some, Option.getD_some, List.mem_map, List.mem_filter]
  rw [← Array.all_toList, List.all_eq_true]
  constructor
  · rintro h j ⟨e, ⟨h1, h2⟩, rfl⟩
    have := h e h1
    rw [h2] at this
    simpa using this
  · intro h e he
    cases hb : Region.binds .any e with
    | false => rfl
    | true => simpa using h e.on ⟨e, ⟨he, hb⟩, rfl⟩
def qtt (tbl : List Nat) : List Nat → Nat
  | [] => 0
  | e :: es => 2 ^ e ||| tbl.getD e 0 ||| qtt tbl es
def musts : List (List Nat) → List Nat → List Nat
  | [], tbl => tbl
  | es :: rest, tbl => musts rest (tbl ++ [qtt tbl es])
def mustT (ops : Array Oper) : List Nat := musts ((List.range ops.size).map (qjq ops)) []
def must (tbl : List Nat) (i j : Nat) : Bool := (tbl.getD j 0).testBit i
theorem qxs {tbl : List Nat} {i : Nat} : ∀ {es : List Nat}, (qtt tbl es).testBit i = true → ∃ e ∈ es, i = e ∨ (tbl.getD e 0).testBit i = true
  | [], h => by simp [qtt] at h
  | e :: es, h => by
    simp only [qtt, Nat.testBit_or, Bool.or_eq_true] at h
    rcases h with (h | h) | h
    · rw [Nat.testBit_two_pow] at h
      exact ⟨e, List.mem_cons_self .., .inl (by simpa using (of_decide_eq_true h).symm)⟩
    · exact ⟨e, List.mem_cons_self .., .inr h⟩
    · obtain ⟨x, h1, h2⟩ := qxs h
      exact ⟨x, List.mem_cons_of_mem _ h1, h2⟩
theorem qo7 : ∀ (ess : List (List Nat)) (tbl : List Nat), tbl <+: musts ess tbl
  | [], _ => List.prefix_refl _
  | _ :: rest, tbl => (List.prefix_append tbl _).trans (qo7 rest _)
theorem q4i {a b : List Nat} (h : a <+: b) {e i : Nat} (k : (a.getD e 0).testBit i = true) : (b.getD e 0).testBit i = true := by
  obtain ⟨t, rfl⟩ := h
  by_cases he : e < a.length
  · rw [List.getD_eq_getElem?_getD, List.getElem?_append_left he, ← List.getD_eq_getElem?_getD]; exact k
  · rw [List.getD_eq_getElem?_getD, List.getElem?_eq_none (by omega)] at k
    simp at k
theorem q18 : ∀ (ess : List (List Nat)) (tbl : List Nat) (k : Nat) (es : List Nat), ess[k]? = some es → ∃ tb, tb <+: musts ess tbl ∧ (musts ess tbl).getD (tbl.length + k) 0 = qtt tb es
  | [], _, k, _, h => by simp at h
  | e :: rest, tbl, 0, es, h => by
    simp only [List.getElem?_cons_zero, Option.some.injEq] at h
    subst h
    refine ⟨tbl, qo7 _ _, ?_⟩
    obtain ⟨t, ht⟩ := qo7 rest (tbl ++ [qtt tbl e])
    simp only [musts, ← ht]
    simp
  | e :: rest, tbl, k + 1, es, h => by
    obtain ⟨tb, h1, h2⟩ := q18 rest (tbl ++ [qtt tbl e]) k es (by simpa using h)
    refine ⟨tb, h1, ?_⟩
    rw [← h2]
    simp only [musts, List.length_append, List.length_singleton]
    congr 1
    omega
theorem q95 {ops : Array Oper} {i j : Nat} (h : must (mustT ops) i j = true) : ∃ e ∈ qjq ops j, i = e ∨ must (mustT ops) i e = true := by
  unfold must at h
  by_cases hj : j < ops.size
  · obtain ⟨tb, h1, h2⟩ := q18 ((List.range ops.size).map (qjq ops)) [] j (qjq ops j) (by simp [hj])
    simp only [List.length_nil, Nat.zero_add] at h2
    unfold mustT at h
    rw [h2] at h
    obtain ⟨e, a1, a2⟩ := qxs h
    exact ⟨e, a1, a2.imp id (q4i h1)⟩
  · exfalso
    have hl : (mustT ops).length = ops.size := by
      have : ∀ (ess : List (List Nat)) (tbl : List Nat), (musts ess tbl).length = tbl.length + ess.length := by
        intro ess
        induction ess with
        | nil => intro tbl; rfl
        | cons e ess ih => intro tbl; simp only [musts, ih, List.length_append, List.length_cons, List.length_nil]; omega
      unfold mustT
      rw [this]
      simp
    rw [List.getD_eq_getElem?_getD, List.getElem?_eq_none (by omega)] at h
    simp at h
theorem q4e {ops : Array Oper} {listed : Array Bool} (hlow : ∀ j, ∀ e ∈ qjq ops j, e < j) (hdown : ∀ j, listed.getD j false = true → ∀ e ∈ qjq ops j, listed.getD e false = true) :
    ∀ (j : Nat), (∀ e ∈ qjq ops j, listed.getD e false = true) → ∀ i, must (mustT ops) i j = true → listed.getD i false = true := by
  intro j
  induction j using Nat.strongRecOn with
  | _ j ih =>
    intro he i hm
    obtain ⟨e, h1, h2⟩ := q95 hm
    rcases h2 with rfl | h2
    · exact he _ h1
    · exact ih e (hlow j e h1) (hdown e (he e h1)) i h2
section
variable {P : Program} {T : Tab} {cf : CF} {N : Nat} {ops : Array Oper}
theorem q2o {i : Nat} {op : AOp} {ev : Opnd → Option V} {h : Loc → Option Obj} {r : R} (hc : qfs op = true) (e : exec T cf i op ev h = some r) : ∃ f args, qh7 cf f i h args = some r := by
  cases op with
  | call f args => obtain ⟨vs, _, e⟩ := qan e; exact ⟨_, _, e⟩
  | callV f args =>
    obtain ⟨g, _, e⟩ := qan e
    obtain ⟨vs, _, e⟩ := qan e
    obtain ⟨⟨fid, cap⟩, _, e⟩ := qan e
    exact ⟨_, _, e⟩
  | inv m x args =>
    obtain ⟨v, _, e⟩ := qan e
    obtain ⟨vs, _, e⟩ := qan e
    obtain ⟨⟨t, y⟩, _, e⟩ := qan e
    obtain ⟨⟨f, path⟩, _, e⟩ := qan e
    cases path with
    | none => exact ⟨_, _, e⟩
    | some p =>
      obtain ⟨off, n, ag⟩ := p
      obtain ⟨r, _, e⟩ := qan e
      exact ⟨_, _, e⟩
  | build z ps own => cases own <;> cases hc
  | conv k x => cases k <;> cases hc
  | _ => cases hc
theorem qq9 {o : Oper} {a : Act} {w : World} {ρ : Map} {H : Ice} {h : Loc → Option Obj} {i : Nat} {env : List (Nat × V)} {op : AOp} {A : List Loc} {r : R} (hcf : CFOk B P cf) (hfs : ∀ g vs hp r, cf g vs hp = some r → funOk P g = true)
    (hH : HRel ρ H h w) (hE : EnvRel B ds fx ρ H N env a) (hN : ∀ k, ρ (.n i k) = .none) (hok : okOp P op o.op = true) (e : execD T cf i op A (evO env) h = some r) (hw : ∀ e, r = .ok e ∨ r = .pan e → okRec (qdr op) A i e.wr = true) : Sound P o a w ρ H h i r := by
  unfold execD at e
  cases hc : qfs op with
  | false => rw [hc, qlo] at e; exact qta hcf hfs hH hE hN hok e
  | true =>
    rw [hc, qet] at e
    have hk : qdr op = 3 := by simpa [qfs] using hc
    have hs := qta (o := o) hcf hfs (hH.only A.contains) (hE.mono (qnv _ ρ) (fun _ _ _ e => e)) (fun k => qxl (hN k)) hok e
    obtain ⟨f, args, ec⟩ := q2o hc e
    refine hs.widen hH hN fun ef hef => ⟨?_, q21 ec ef hef⟩
    have := hw ef hef
    rw [hk] at this
    exact this
theorem qrb (hcf : CFOk B P cf) (hfs : ∀ g vs hp r, cf g vs hp = some r → funOk P g = true) {Q : Exit → Act → World → Prop} {o : Oper} {ai : AIns} (ho : ops[ai.i]? = some o) (hok : okIns P N ops o ai = true) (hav : ∀ x ∈ fx, ai.dst ≠ some x.1)
    {A : List Loc} {s : RS} {x : SR} (e : Comes T cf ai A s x) {ρ : Map} {H : Ice} {w : World} {a : Act} {K : Act → World → Prop} (hH : HRel ρ H s.h w) (hE : EnvRel B ds fx ρ H N s.env a) (hN : ∀ k, ρ (.n ai.i k) = .none)
    (hk : match x with
      | .go s1 _ => ∀ ρ' H' a' w', HRel ρ' H' s1.h w' → EnvRel B ds fx ρ' H' N s1.env a' → Trans ρ H w ρ' H' w' → Stays ρ ρ' → NewAt ai.i ρ ρ' → K a' w'
      | .pan v s1 _ => ∀ ρ' H' w' u, HRel ρ' H' s1.h w' → Trans ρ H w ρ' H' w' → Stays ρ ρ' → VRel ρ' H' v u → Q (.panic [{ v := u, recovered := false }]) a w'
      | .out => LetsOut Q) : wpOp P ops Q ai.i K a w := by
  simp only [okIns, Bool.and_eq_true, decide_eq_true_eq] at hok
  obtain ⟨⟨⟨k1, k2⟩, k3⟩, k4⟩ := hok
  have hdst : ∀ t, o.dst = some t → t < N ∧ ∀ x ∈ fx, x.1 ≠ t := fun t ht => by
    rw [k2] at ht
    refine ⟨?_, fun x hx he => hav x hx (by rw [ht, he])⟩
    rw [ht] at k3
    simpa using k3
  unfold wpOp
  simp only [ho]
  cases e with
  | skip hg =>
    rw [qm4 (ops := ops) (o := o) hE k4 hg]
    simp only [Bool.false_eq_true, if_false]
    exact hk ρ H _ w hH (by rw [← k2]; exact hE.put o.dst hdst ⟨[], rfl, rfl⟩) (Trans.refl ..) (Stays.refl _) (NewAt.refl _ _)
  | ok hg k q =>
    rw [qm4 (ops := ops) (o := o) hE k4 hg]
    simp only [if_true]
    refine qq9 (o := o) hcf hfs hH hE hN k1 k (fun ef hef => by rcases hef with h | h <;> cases h; exact q) _ _ ?_
    intro ρ' H' v w' hp
    exact hk ρ' H' _ w' hp.heap (by rw [← k2]; exact (hE.mono hp.stays (hp.trans.le hH)).put o.dst hdst hp.val) hp.trans hp.stays hp.new
  | pan hg k q =>
    rw [qm4 (ops := ops) (o := o) hE k4 hg]
    simp only [if_true]
    refine qq9 (o := o) hcf hfs hH hE hN k1 k (fun ef hef => by rcases hef with h | h <;> cases h; exact q.2) _ _ ?_
    intro ρ' H' v w' hp
    exact hk ρ' H' w' v hp.heap hp.trans hp.stays hp.val
  | out hg k q =>
    rw [qm4 (ops := ops) (o := o) hE k4 hg]
    simp only [if_true]
    exact qq9 (o := o) hcf hfs hH hE hN k1 k (fun ef hef => by rcases hef with h | h <;> cases h) _ _ hk
def PostD (B : Ice) (ds : List Deferred) (fx : List (Nat × Value)) (ρ : Map) (H : Ice) (w : World) (N : Nat) (Q : Exit → Act → World → Prop) : RR → Prop
  | .nrm s => ∀ ρ' H' a' w' env', (∀ t, getE s.env t = getE env' t) → HRel ρ' H' s.h w' → EnvRel B ds fx ρ' H' N env' a' → Trans ρ H w ρ' H' w' → Stays ρ ρ' → Q .normal a' w'
  | .pan i v s => ∀ ρ' H' a' w' u h', (∀ l, Loc.oldOr i l = true → s.h l = h' l) → HRel ρ' H' h' w' → a'.defers = ds → (∀ t u, (t, u) ∈ fx → a'.tmps.getD t undef = u) → Trans ρ H w ρ' H' w' → Stays ρ ρ' → VRel ρ' H' v u → Q (.panic [{ v := u, recovered := false }]) a' w'
  | .out => LetsOut Q
theorem PostD.eqv {ρ : Map} {H : Ice} {w : World} {Q : Exit → Act → World → Prop} {r r' : RR} (h : PostD B ds fx ρ H w N Q r) (e : EqvR r r') : PostD B ds fx ρ H w N Q r' := by
  cases e with
  | nrm e => exact fun ρ' H' a' w' env' h1 h2 => h ρ' H' a' w' env' (fun t => (e.2 t).trans (h1 t)) (by rw [e.1]; exact h2)
  | pan e => exact fun ρ' H' a' w' u h' h1 => h ρ' H' a' w' u h' (fun l hl => (e l hl).trans (h1 l hl))
  | out => exact h
theorem PostD.shift {ρ ρ1 : Map} {H H1 : Ice} {w w1 : World} {Q : Exit → Act → World → Prop} {r : RR} (h : PostD B ds fx ρ H w N Q r) (ht : Trans ρ H w ρ1 H1 w1) (hs : Stays ρ ρ1) : PostD B ds fx ρ1 H1 w1 N Q r := by
  cases r with
  | nrm s => exact fun ρ' H' a' w' env' h1 h2 h3 h4 h5 => h ρ' H' a' w' env' h1 h2 h3 (ht.trans h4) (hs.trans h5)
  | pan i v s => exact fun ρ' H' a' w' u h' h1 h2 h3 h3x h4 h5 => h ρ' H' a' w' u h' h1 h2 h3 h3x (ht.trans h4) (hs.trans h5)
  | out => exact h
theorem q4m (hcf : CFOk B P cf) (hfs : ∀ g vs hp r, cf g vs hp = some r → funOk P g = true) {Q : Exit → Act → World → Prop} (hlow : ∀ j, ∀ e ∈ qjq ops j, e < j) :
    ∀ (fuel : Nat) (listed : Array Bool) (E : List Item) (U : List AIns) (s : RS) (rr : RR) (ρ : Map) (H : Ice) (a : Act) (w : World),
    listed.size = ops.size → E.length + U.length ≤ fuel →
    (∀ j, j < ops.size → (listed.getD j false = false ↔ j ∈ E.map (·.1.i) ++ U.map (·.i))) → (E.map (·.1.i) ++ U.map (·.i)).Nodup → (∀ j, j ∈ E.map (·.1.i) ++ U.map (·.i) → j < ops.size) →
    (∀ j, listed.getD j false = true → ∀ e ∈ qjq ops j, listed.getD e false = true) →
    (∀ ai ∈ E.map (·.1) ++ U, (∃ o, ops[ai.i]? = some o ∧ okIns P N ops o ai = true) ∧ ∀ x ∈ fx, ai.dst ≠ some x.1) →
    E.Pairwise (fun p x => must (mustT ops) p.1.i x.1.i = true ∨ Ind p x) →
    (U = [] ∨ ∃ E0 z, E = E0 ++ [z] ∧ (∀ s2, rr ≠ .nrm s2) ∧ ∀ y ∈ U, must (mustT ops) z.1.i y.i = true) →
    (∀ E0 z, E = E0 ++ [z] → (∃ j v s2, rr = .pan j v s2) → ∀ p ∈ E0, must (mustT ops) p.1.i z.1.i = true ∨ ∀ l ∈ p.2.2.wr, Loc.oldOr z.1.i l = false) →
    Runs T cf E s rr → HRel ρ H s.h w → EnvRel B ds fx ρ H N s.env a → (∀ j ∈ E.map (·.1.i) ++ U.map (·.i), ∀ k, ρ (.n j k) = .none) → PostD B ds fx ρ H w N Q rr →
    wpAny P .any ops Q fuel listed a w := by
  intro fuel
  induction fuel with
  | zero =>
    intro listed E U s rr ρ H a w hsz hlen hl hnd hlt hdown hins hpw hU hpan hr hH hE hN hp
    have hE0 : E = [] := List.eq_nil_of_length_eq_zero (by omega)
    have hU0 : U = [] := List.eq_nil_of_length_eq_zero (by omega)
    subst hE0
    subst hU0
    cases hr
    refine ⟨?_, hp ρ H a w s.env (fun _ => rfl) hH hE (Trans.refl ..) (Stays.refl _)⟩
    rw [List.eq_nil_iff_forall_not_mem]
    intro i hi
    obtain ⟨h1, h2, _⟩ := qqh.1 hi
    have : listed.getD i false = false := by
      rw [← h2]
      simp [Array.getD, hsz, h1]
    have := (hl i h1).1 this
    simp at this
  | succ fuel ih =>
    intro listed E U s rr ρ H a w hsz hlen hl hnd hlt hdown hins hpw hU hpan hr hH hE hN hp
    have getd : ∀ i, i < ops.size → listed.getD i true = listed.getD i false := fun i hi => by simp [Array.getD, hsz, hi]
    refine ⟨fun hready => ?_, fun i hi => ?_⟩
    ·
      have hall : E.map (·.1.i) ++ U.map (·.i) = [] := by
        rw [List.eq_nil_iff_forall_not_mem]
        have : ∀ j, j ∉ E.map (·.1.i) ++ U.map (·.i) := by
          intro j
          induction j using Nat.strongRecOn with
          | _ j ihj =>
            intro hm
            have hjs := hlt j hm
            have : j ∈ Region.ready .any ops listed := qqh.2 ⟨hjs, by rw [getd j hjs]; exact (hl j hjs).2 hm, fun e he => by
              have hej := hlow j e he
              cases hle : listed.getD e false with
              | true => rfl
              | false => exact (ihj e hej ((hl e (by omega)).1 hle)).elim⟩
            rw [hready] at this
            cases this
        exact this
      rw [List.append_eq_nil_iff, List.map_eq_nil_iff, List.map_eq_nil_iff] at hall
      obtain ⟨rfl, rfl⟩ := hall
      cases hr
      exact hp ρ H a w s.env (fun _ => rfl) hH hE (Trans.refl ..) (Stays.refl _)
    · obtain ⟨h1, h2, h3⟩ := qqh.1 hi
      rw [getd i h1] at h2
      have hmem := (hl i h1).1 h2
      have hmust := q4e hlow hdown i h3
      have nolist : ∀ j ∈ E.map (·.1.i) ++ U.map (·.i), must (mustT ops) j i = false := fun j hj => by
        cases hm : must (mustT ops) j i with
        | false => rfl
        | true =>
          have a1 := hmust j hm
          have a2 := (hl j (hlt j hj)).2 hj
          rw [a1] at a2
          cases a2
      rcases List.mem_append.1 hmem with hm | hm
      · obtain ⟨x, hx, rfl⟩ := List.mem_map.1 hm
        obtain ⟨pre, post, rfl⟩ := List.append_of_mem hx
        obtain ⟨⟨o, ho, hok⟩, hav⟩ := hins x.1 (List.mem_append_left _ (List.mem_map_of_mem hx))
        have hpre : ∀ p ∈ pre, must (mustT ops) p.1.i x.1.i = false := fun p hp => nolist _ (List.mem_append_left _ (List.mem_map_of_mem (f := fun z : Item => z.1.i) (List.mem_append_left _ hp)))
        have hfront := front pre post x s rr hr (fun p hp => by
          refine ⟨?_, fun hpost hpn l' hl' => ?_⟩
          · rcases (List.pairwise_append.1 hpw).2.2 p hp x (List.mem_cons_self ..) with h | h
            · rw [hpre p hp] at h; cases h
            · exact h
          · subst hpost
            rcases hpan pre x rfl hpn p hp with h | h
            · rw [hpre p hp] at h; cases h
            · exact h l' hl')
        have hNx : ∀ k, ρ (.n x.1.i k) = .none := hN _ (List.mem_append_left _ hm)
        cases hfront with
        | out hA h hrd e => exact qrb hcf hfs ho hok hav h hH hE hNx (by subst e; exact hp)
        | pan hA h e hpost => exact qrb hcf hfs ho hok hav h hH hE hNx (fun ρ' H' w' u q1 q2 q3 q4 => (hp.eqv e) ρ' H' a w' u _ (fun _ _ => rfl) q1 hE.defers hE.fix q2 q3 q4)
        | @go s1 rr' hA h k e hpost =>
          refine qrb hcf hfs ho hok hav h hH hE hNx (fun ρ' H' a' w' q1 q2 q3 q4 q5 => ?_)
          have hsub : ∀ j, j ∈ (pre ++ post).map (fun z : Item => z.1.i) ++ U.map (·.i) → j ∈ (pre ++ x :: post).map (fun z : Item => z.1.i) ++ U.map (·.i) := fun j hj => by
            simp only [List.map_append, List.map_cons, List.mem_append, List.mem_cons] at hj ⊢
            rcases hj with (hj | hj) | hj
            · exact .inl (.inl hj)
            · exact .inl (.inr (.inr hj))
            · exact .inr hj
          have hperm : (x.1.i :: ((pre ++ post).map (fun z : Item => z.1.i) ++ U.map (·.i))).Nodup := by
            refine List.Perm.nodup ?_ hnd
            simp only [List.map_append, List.map_cons, List.append_assoc, List.cons_append]
            exact List.perm_middle
          have hne : ∀ j, j ∈ (pre ++ post).map (fun z : Item => z.1.i) ++ U.map (·.i) → j ≠ x.1.i := fun j hj he => (List.nodup_cons.1 hperm).1 (he ▸ hj)
          have upd : ∀ j, (listed.setIfInBounds x.1.i true).getD j false = if j = x.1.i then true else listed.getD j false := fun j => by
            by_cases hj : j = x.1.i
            · subst hj
              simp [Array.getD, hsz, h1]
            · simp only [Array.getD_eq_getD_getElem?, Array.getElem?_setIfInBounds_ne (Ne.symm hj), if_neg hj]
          refine ih (listed.setIfInBounds x.1.i true) (pre ++ post) U s1 rr' ρ' H' a' w' (by simpa using hsz) ?_ (fun j hj => ?_) (List.nodup_cons.1 hperm).2 (fun j hj => hlt j (hsub j hj)) (fun j hj e he => ?_) (fun ai hai => ?_) ?_ ?_ ?_ k q1 q2 (fun j hj kk => ?_) ((hp.eqv e).shift q3 q4)
          · simp only [List.length_append, List.length_cons] at hlen ⊢; omega
          · rw [upd]
            by_cases hjx : j = x.1.i
            · rw [if_pos hjx]
              refine ⟨fun h => absurd h (by simp), fun h => (hne j h hjx).elim⟩
            · rw [if_neg hjx, hl j hj]
              refine ⟨fun h => ?_, hsub j⟩
              simp only [List.map_append, List.map_cons, List.mem_append, List.mem_cons] at h ⊢
              rcases h with (h | h | h) | h
              · exact .inl (.inl h)
              · exact (hjx h).elim
              · exact .inl (.inr h)
              · exact .inr h
          · rw [upd] at hj ⊢
            by_cases hex : e = x.1.i
            · rw [if_pos hex]
            · rw [if_neg hex]
              by_cases hjx : j = x.1.i
              · subst hjx; exact h3 e he
              · rw [if_neg hjx] at hj
                exact hdown j hj e he
          · refine hins ai ?_
            simp only [List.map_append, List.map_cons, List.mem_append, List.mem_cons] at hai ⊢
            rcases hai with (h | h) | h
            · exact .inl (.inl h)
            · exact .inl (.inr (.inr h))
            · exact .inr h
          · obtain ⟨p1, p2, p3⟩ := List.pairwise_append.1 hpw
            exact List.pairwise_append.2 ⟨p1, (List.pairwise_cons.1 p2).2, fun p hp y hy => p3 p hp y (List.mem_cons_of_mem _ hy)⟩
          · rcases hU with h | ⟨E0, z, h1, h2, h3⟩
            · exact .inl h
            · right
              have hnn : post ≠ [] := fun hpo => by obtain ⟨s2, hs2⟩ := hpost hpo; exact h2 s2 hs2
              obtain ⟨post0, z', rfl⟩ : ∃ p0 z', post = p0 ++ [z'] := ⟨post.dropLast, post.getLast hnn, (List.dropLast_concat_getLast hnn).symm⟩
              have hz : E0 ++ [z] = (pre ++ x :: post0) ++ [z'] := by rw [← h1]; simp
              have hzz := (List.append_inj' hz rfl).2
              simp only [List.cons.injEq, and_true] at hzz
              subst hzz
              refine ⟨pre ++ post0, z, by simp, fun s2 hs2 => ?_, h3⟩
              subst hs2
              cases e with
              | nrm _ => exact h2 _ rfl
          · intro E0 z hz hpn p hp
            have hnn : post ≠ [] := fun hpo => by
              obtain ⟨s2, hs2⟩ := hpost hpo
              subst hs2
              obtain ⟨j, v, s3, h⟩ := hpn
              subst h
              cases e
            obtain ⟨post0, z', rfl⟩ : ∃ p0 z', post = p0 ++ [z'] := ⟨post.dropLast, post.getLast hnn, (List.dropLast_concat_getLast hnn).symm⟩
            have hz2 : E0 ++ [z] = (pre ++ post0) ++ [z'] := by rw [← hz]; simp
            obtain ⟨hz3, hzz⟩ := List.append_inj' hz2 rfl
            simp only [List.cons.injEq, and_true] at hzz
            subst hzz
            subst hz3
            refine hpan (pre ++ x :: post0) z (by simp) ?_ p ?_
            · obtain ⟨j, v, s3, h⟩ := hpn
              subst h
              cases e with
              | pan _ => exact ⟨_, _, _, rfl⟩
            · rcases List.mem_append.1 hp with h | h
              · exact List.mem_append_left _ h
              · exact List.mem_append_right _ (List.mem_cons_of_mem _ h)
          · cases hq : ρ' (.n j kk) with
            | none => rfl
            | _ =>
              exfalso
              obtain ⟨k', hk'⟩ := q5 _ (hN j (hsub j hj) kk) (by rw [hq]; intro h; cases h)
              injection hk' with hk' _
              exact hne j hj hk'
      · rcases hU with h | ⟨E0, z, h1', h2', h3'⟩
        · subst h; simp at hm
        · obtain ⟨y, hy, rfl⟩ := List.mem_map.1 hm
          have := nolist z.1.i (List.mem_append_left _ (List.mem_map_of_mem (f := fun z : Item => z.1.i) (by rw [h1']; simp)))
          rw [h3' y hy] at this
          cases this
end
end Go.Rf

namespace Go.Rf
variable {B : Ice} {ds : List Deferred} {fx : List (Nat × Value)}
def calm (a b : AOp) : Bool := qdr a == 0 || qdr b == 0 || (qdr a == 1 && qdr b == 1)
def indS (p x : AIns) : Bool :=
  (match p.dst with | some t => !(qkt x).contains t && decide (x.dst ≠ some t) | none => true) && (match x.dst with | some t => !(qkt p).contains t | none => true)
def qzu (tbl : List Nat) (ps : List (Nat × Nat)) : List AIns → Bool
  | [] => true
  | p :: L => L.all (fun x => must tbl p.i x.i || (indS p x && (calm p.op x.op || ps.contains (p.i, x.i)))) && qzu tbl ps L
def q12 (tbl : List Nat) (es : List Nat) : List AIns → Bool
  | [] => true
  | z :: L => (!es.contains z.i || L.all (fun y => must tbl z.i y.i)) && q12 tbl es L
def qvs (P : Program) (N : Nat) (ops : Array Oper) (L : List AIns) (d : List (Nat × Nat) × List Nat) : Bool :=
  P.follows .mixedOrders && (List.range ops.size).all (fun j => (qjq ops j).all fun e => decide (e < j)) &&
  (List.range ops.size).all (fun j => (L.map (·.i)).contains j) && decide (L.map (·.i)).Nodup && L.all (fun ai => match ops[ai.i]? with
    | some o => okIns P N ops o ai
    | none => false) && (qzu (mustT ops) d.1 L && q12 (mustT ops) d.2 L)
def Apt (tbl : List Nat) (ps : List (Nat × Nat)) (p x : AIns) : Prop := must tbl p.i x.i = true ∨ (indS p x = true ∧ (calm p.op x.op = true ∨ (p.i, x.i) ∈ ps))
theorem qxm {tbl : List Nat} {ps : List (Nat × Nat)} : ∀ {L : List AIns}, qzu tbl ps L = true → L.Pairwise (Apt tbl ps)
  | [], _ => .nil
  | p :: L, h => by
    simp only [qzu, Bool.and_eq_true, List.all_eq_true, Bool.or_eq_true, List.contains_iff_mem] at h
    exact .cons (fun x hx => h.1 x hx) (qxm h.2)
theorem q11 {tbl : List Nat} {es : List Nat} {z : AIns} {U : List AIns} : ∀ {E : List AIns}, q12 tbl es (E ++ z :: U) = true → z.i ∈ es → ∀ y ∈ U, must tbl z.i y.i = true
  | [], h, hz => by
    simp only [List.nil_append, q12, Bool.and_eq_true, Bool.or_eq_true, Bool.not_eq_true', List.all_eq_true] at h
    rcases h.1 with h' | h'
    · rw [← Bool.not_eq_true, List.contains_iff_mem] at h'; exact (h' hz).elim
    · exact h'
  | e :: E, h, hz => by
    simp only [List.cons_append, q12, Bool.and_eq_true] at h
    exact q11 h.2 hz
section
variable {P : Program} {T : Tab} {cf : CF} {N : Nat} {ops : Array Oper}
structure Fact (x : Item) : Prop where
  i : x.2.2.i = x.1.i
  k0 : qdr x.1.op = 0 → x.2.2.rd = [] ∧ x.2.2.wr = []
  k1 : qdr x.1.op = 1 → x.2.2.wr = []
  sub : ∀ l ∈ x.2.2.ch, l ∈ x.2.2.wr
theorem zhp {o : AIns} {A : List Loc} {s s' : RS} {r : Rec} (h : Comes T cf o A s (.go s' r)) : Fact (o, A, r) := by
  cases h with
  | skip _ => exact ⟨rfl, fun _ => ⟨rfl, rfl⟩, fun _ => rfl, fun _ h => h⟩
  | ok _ _ q =>
    refine ⟨rfl, fun hk => ?_, fun hk => ?_, fun l hl => zia hl⟩
    · simp only [hk, okRec, Bool.and_eq_true, List.isEmpty_iff] at q
      exact ⟨q.1, by simp only [q.2, List.map_nil]⟩
    · simp only [hk, okRec, List.isEmpty_iff] at q
      simp only [q, List.map_nil]
theorem zdn {o : AIns} {A : List Loc} {s s' : RS} {v : V} {r : Rec} (h : Comes T cf o A s (.pan v s' r)) : Fact (o, A, r) ∧ 2 ≤ qdr o.op := by
  cases h with
  | pan _ _ q => exact ⟨⟨rfl, fun hk => absurd q.1 (by rw [show qdr o.op = 0 from hk]; omega), fun hk => absurd q.1 (by rw [show qdr o.op = 1 from hk]; omega), fun _ h => h⟩, q.1⟩
theorem q09 {ps : List (Nat × Nat)} {es : List Nat} : ∀ (L : List AIns) (s : RS) (rs : List Rec) (rr : RR) (rs' : List Rec), runD T cf ps es L s rs = some (rr, rs') →
    ∃ (E : List Item) (U : List AIns), L = E.map (·.1) ++ U ∧ Runs T cf E s rr ∧ rs' = (E.map (·.2.2)).reverse ++ rs ∧ (∀ x ∈ E, Fact x) ∧
      ((U = [] ∧ ∃ s2, rr = .nrm s2) ∨ ∃ E0 z, E = E0 ++ [z] ∧ (∀ s2, rr ≠ .nrm s2) ∧ z.1.i ∈ es ∧ ((∃ j v s2, rr = .pan j v s2) → 2 ≤ qdr z.1.op ∧ panOk ps ((E0.map (·.2.2)).reverse ++ rs) z.1.i = true))
  | [], s, rs, rr, rs', e => by
    cases e
    exact ⟨[], [], rfl, .nil s, rfl, (fun x h => by cases h), .inl ⟨rfl, _, rfl⟩⟩
  | o :: os, s, rs, rr, rs', e => by
    obtain ⟨x, e1, e2⟩ := qan e
    have hc := za2.1 e1
    cases x with
    | go s1 r =>
      obtain ⟨E, U, a1, a2, a3, a4, a5⟩ := q09 os s1 (r :: rs) rr rs' e2
      refine ⟨(o, _, r) :: E, U, by simp [a1], .go (fun _ => rfl) hc a2, by simp [a3], fun x hx => ?_, ?_⟩
      · rcases List.mem_cons.1 hx with rfl | hx
        · exact zhp hc
        · exact a4 x hx
      · rcases a5 with h | ⟨E0, z, h1, h2, h3, h4⟩
        · exact .inl h
        · refine .inr ⟨(o, _, r) :: E0, z, by rw [h1]; rfl, h2, h3, fun hpn => ?_⟩
          have := h4 hpn
          simpa using this
    | pan v s1 r =>
      obtain ⟨hk, h⟩ := qrp e2
      cases h
      simp only [Bool.and_eq_true, List.contains_iff_mem] at hk
      obtain ⟨hf, hq⟩ := zdn hc
      refine ⟨[(o, _, r)], os, rfl, .pan (fun _ => rfl) hc, rfl, fun x hx => ?_, .inr ⟨[], (o, _, r), rfl, (fun s2 h => by cases h), hk.1, fun _ => ⟨hq, hk.2⟩⟩⟩
      rw [List.mem_singleton] at hx
      subst hx
      exact hf
    | out =>
      obtain ⟨hk, h⟩ := qrp e2
      cases h
      simp only [List.contains_iff_mem] at hk
      refine ⟨[(o, _, _)], os, rfl, .out (fun _ => rfl) hc, rfl, fun x hx => ?_, .inr ⟨[], (o, _, _), rfl, (fun s2 h => by cases h), hk, fun hpn => ?_⟩⟩
      · rw [List.mem_singleton] at hx
        subst hx
        refine ⟨rfl, fun h0 => ?_, fun _ => rfl, fun _ h => h⟩
        cases hc with
        | out _ _ q =>
          rcases q with q | q
          · exact (q h0).elim
          · exact ⟨q, rfl⟩
      · obtain ⟨j, v, s2, h⟩ := hpn
        cases h
theorem q1e : ∀ {l : List Rec} {r : Rec}, (l.map (·.i)).Nodup → r ∈ l → recOf l r.i = some r
  | x :: l, r, hn, hr => by
    rw [List.map_cons, List.nodup_cons] at hn
    unfold recOf
    rw [List.find?_cons]
    rcases List.mem_cons.1 hr with rfl | hr
    · simp
    · have : (x.i == r.i) = false := by
        rw [beq_eq_false_iff_ne]
        intro h
        exact hn.1 (h ▸ List.mem_map_of_mem hr)
      simp only [this]
      exact q1e hn.2 hr
theorem q7v {p x : AIns} (h : indS p x = true) : (∀ t, p.dst = some t → t ∉ qkt x) ∧ (∀ t, x.dst = some t → t ∉ qkt p) ∧ ∀ t, p.dst = some t → x.dst ≠ some t := by
  unfold indS at h
  rw [Bool.and_eq_true] at h
  obtain ⟨h1, h2⟩ := h
  refine ⟨fun t ht => ?_, fun t ht => ?_, fun t ht => ?_⟩
  · rw [ht] at h1
    simp only [Bool.and_eq_true, Bool.not_eq_true'] at h1
    rw [← List.contains_iff_mem, h1.1]
    exact Bool.false_ne_true
  · rw [ht] at h2
    simp only [Bool.not_eq_true'] at h2
    rw [← List.contains_iff_mem, h2]
    exact Bool.false_ne_true
  · rw [ht] at h1
    simp only [Bool.and_eq_true, decide_eq_true_eq] at h1
    exact h1.2
theorem qyn (hcf : CFOk B P cf) (hfs : ∀ g vs hp r, cf g vs hp = some r → funOk P g = true) {L : List AIns} {d : List (Nat × Nat) × List Nat} {keep : List Nat} {id p : Nat} (hok : qvs P N ops L d = true) (hav : ∀ ai ∈ L, ∀ x ∈ fx, ai.dst ≠ some x.1) {st : St} {r : Ex × St}
    (e : region T cf p L (some d) keep st = some r) {ρ : Map} {H : Ice} {w : World} {a : Act} {Q : Exit → Act → World → Prop} (hS : StRel B ds fx ρ H N st a w) (hp : PostC B ds fx ρ H w N p Q r) :
    (Code.region id ops true).wp P Q a w := by
  simp only [qvs, Bool.and_eq_true, List.all_eq_true, List.mem_range, decide_eq_true_eq, List.contains_iff_mem] at hok
  obtain ⟨⟨⟨⟨⟨hm, hlow⟩, hall⟩, hnd⟩, hins⟩, hpairs, hends⟩ := hok
  obtain ⟨⟨rr, rs⟩, e1, e2⟩ := qan (show (bnd _ _ : Option _) = some r from e)
  simp only at e2
  have hpo : qnt d.1 rs = true := by
    cases h : qnt d.1 rs with
    | true => rfl
    | false => rw [h] at e2; cases e2
  rw [hpo, qet] at e2
  obtain ⟨E, U, a1, a2, a3, a4, a5⟩ := q09 L _ _ rr rs e1
  rw [List.append_nil] at a3
  have hids : L.map (·.i) = E.map (·.1.i) ++ U.map (·.i) := by rw [a1]; simp [Function.comp_def]
  have hndE : (E.map (·.1.i)).Nodup := by rw [hids] at hnd; exact (List.nodup_append.1 hnd).1
  have hrecs : ∀ (F : List Item), (∀ x ∈ F, Fact x) → (F.map (·.1.i)).Nodup → ∀ x ∈ F, recOf (F.map (·.2.2)).reverse x.1.i = some x.2.2 := fun F hF hn x hx => by
    rw [← (hF x hx).i]
    refine q1e ?_ (List.mem_reverse.2 (List.mem_map_of_mem hx))
    rw [← List.map_reverse, List.map_map]
    have : F.reverse.map ((fun r : Rec => r.i) ∘ fun x : Item => x.2.2) = (F.map (·.1.i)).reverse := by
      rw [← List.map_reverse]
      exact List.map_congr_left fun y hy => (hF y (List.mem_reverse.1 hy)).i
    rw [this]
    exact (List.reverse_perm _).symm.nodup hn
  have hpw0 : (E.map (·.1)).Pairwise (Apt (mustT ops) d.1) := by
    have := qxm hpairs
    rw [a1] at this
    exact (List.pairwise_append.1 this).1
  rw [List.pairwise_map] at hpw0
  have hpw : E.Pairwise (fun p x => must (mustT ops) p.1.i x.1.i = true ∨ Ind p x) := by
    refine List.Pairwise.imp_of_mem ?_ hpw0
    intro q x hq hx h
    rcases h with h | ⟨h, hc⟩
    · exact .inl h
    · right
      obtain ⟨s1, s2, s3⟩ := q7v h
      have fq := a4 q hq
      have fx := a4 x hx
      rcases hc with hc | hc
      · simp only [calm, Bool.or_eq_true, beq_iff_eq, Bool.and_eq_true] at hc
        rcases hc with (hc | hc) | ⟨hc1, hc2⟩
        · exact ⟨s1, s2, s3, (fun l hl => by have := fq.sub l hl; rw [(fq.k0 hc).2] at this; cases this), (fun l _ hl => by rw [(fq.k0 hc).1] at hl; cases hl)⟩
        · exact ⟨s1, s2, s3, (fun l _ => ⟨by rw [(fx.k0 hc).1]; exact List.not_mem_nil, fun hl => by have := fx.sub l hl; rw [(fx.k0 hc).2] at this; cases this⟩), (fun l hl => by have := fx.sub l hl; rw [(fx.k0 hc).2] at this; cases this)⟩
        · exact ⟨s1, s2, s3, (fun l hl => by have := fq.sub l hl; rw [fq.k1 hc1] at this; cases this), (fun l hl => by have := fx.sub l hl; rw [fx.k1 hc2] at this; cases this)⟩
      · have := List.all_eq_true.1 hpo _ hc
        simp only [a3, hrecs E a4 hndE q hq, hrecs E a4 hndE x hx] at this
        simp only [apart, Bool.or_eq_true, Bool.and_eq_true, List.all_eq_true, Bool.not_eq_true'] at this
        have nc : ∀ {l : Loc} {xs : List Loc}, xs.contains l = false → l ∉ xs := fun {l xs} h hm => by
          rw [List.contains_iff_mem.2 hm] at h; cases h
        rcases this with this | this
        · exact ⟨s1, s2, s3, fun l hl => ⟨nc (this.1 l (fq.sub l hl)).2, fun h => nc (this.1 l (fq.sub l hl)).1 (fx.sub l h)⟩, fun l hl => nc (this.2 l (fx.sub l hl))⟩
        · exact ⟨s1, s2, s3, fun l hl => ⟨nc (this.1 l hl).2, nc (this.1 l hl).1⟩, fun l hl => nc (this.2 l hl)⟩
  have hlt : ∀ j, j ∈ L.map (·.i) → j < ops.size := fun j hj => by
    obtain ⟨ai, h1, rfl⟩ := List.mem_map.1 hj
    have := hins ai h1
    split at this
    · rename_i o ho; exact (Array.getElem?_eq_some_iff.1 ho).1
    · cases this
  refine wp_region_any hm ?_
  refine q4m (T := T) (N := N) hcf hfs (fun j e he => ?_) ops.size (Array.replicate ops.size false) E U { env := st.env, h := qa6 st.heap } rr ρ H a { w with drawn := w.drawn + 1 } (by simp) ?_ (fun j hj => ?_) (hids ▸ hnd) (fun j hj => hlt j (hids ▸ hj)) (fun j hj => ?_) (fun ai hai => ?_) hpw ?_ ?_ a2
    (hS.heap.drawn _) hS.env (fun j _ k => ?_) ?_
  · by_cases hj : j < ops.size
    · exact hlow j hj e he
    · unfold qjq at he
      rw [Array.getElem?_eq_none (by omega)] at he
      cases he
  · have h1 : (L.map (·.i)).length ≤ (List.range ops.size).length := List.Nodup.length_le_of_subset hnd (fun j hj => List.mem_range.2 (hlt j hj))
    rw [hids] at h1
    simpa using h1
  · rw [← hids]
    simp [hj]
    simpa using hall j hj
  · simp only [Array.getD_eq_getD_getElem?, Array.getElem?_replicate] at hj
    split at hj <;> cases hj
  · rw [← a1] at hai
    have := hins ai hai
    refine ⟨?_, hav ai hai⟩
    split at this
    · rename_i o ho; exact ⟨o, ho, this⟩
    · cases this
  · rcases a5 with ⟨h, _⟩ | ⟨E0, z, h1, h2, h3, _⟩
    · exact .inl h
    · refine .inr ⟨E0, z, h1, h2, ?_⟩
      rw [a1, h1, List.map_append, List.map_cons, List.map_nil, List.append_assoc, List.singleton_append] at hends
      exact q11 hends h3
  · intro E0 z hE hpn q hq
    rcases a5 with ⟨_, s2, h⟩ | ⟨E1, z1, h1, h2, h3, h4⟩
    · subst h; obtain ⟨j, v, s2, h⟩ := hpn; cases h
    · obtain ⟨rfl, hz⟩ := List.append_inj' (hE.symm.trans h1) rfl
      simp only [List.cons.injEq, and_true] at hz
      subst hz
      obtain ⟨k1, k2⟩ := h4 hpn
      rw [List.append_nil] at k2
      have hqE : q ∈ E := by rw [hE]; exact List.mem_append_left _ hq
      have hqz : Apt (mustT ops) d.1 q.1 z.1 := by
        rw [hE] at hpw0
        exact (List.pairwise_append.1 hpw0).2.2 q hq z (List.mem_singleton.2 rfl)
      have hiz : q.1.i ≠ z.1.i := by
        rw [hE, List.map_append] at hndE
        exact (List.nodup_append.1 hndE).2.2 _ (List.mem_map_of_mem (f := fun x : Item => x.1.i) hq) _ (by simp)
      rcases hqz with h | ⟨_, hc⟩
      · exact .inl h
      · right
        intro l hl
        rcases hc with hc | hc
        · simp only [calm, Bool.or_eq_true, beq_iff_eq, Bool.and_eq_true] at hc
          rcases hc with (hc | hc) | ⟨hc1, hc2⟩
          · rw [((a4 q hqE).k0 hc).2] at hl; cases hl
          · omega
          · omega
        · have := List.all_eq_true.1 k2 _ hc
          have hn0 : (E0.map (·.1.i)).Nodup := by
            rw [hE, List.map_append] at hndE
            exact (List.nodup_append.1 hndE).1
          simp only [beq_self_eq_true, qet, hrecs E0 (fun x hx => a4 x (by rw [hE]; exact List.mem_append_left _ hx)) hn0 q hq, qjx, List.all_eq_true] at this
          obtain ⟨k, rfl⟩ := qz1.1 (this l hl)
          simp only [Loc.oldOr, beq_eq_false_iff_ne]
          exact hiz
  · cases hq : ρ (.n j k) with
    | none => rfl
    | _ =>
      obtain ⟨_, _, hk⟩ := hS.only (.n j k) (by rw [hq]; intro h; cases h)
      cases hk
  · cases rr with
    | out => (cases e2; exact hp)
    | nrm s' =>
      intro ρ' H' a' w' env' henv q1 q2 q3 q4
      obtain ⟨st', e3, e4⟩ := qan e2
      cases e4
      have hk : ∀ ks, keptE s'.env ks = keptE env' ks := by
        intro ks
        induction ks with
        | nil => rfl
        | cons t ks ih => simp only [keptE, henv t, ih]
      have e5 : endR p keep env' s'.h = some st' := by
        unfold endR at e3 ⊢
        rw [← hk]
        exact e3
      obtain ⟨M, m1, m2, m3, m4⟩ := quq q1 q2 e5
      exact hp _ _ _ _ m1 (((Trans.drawn ρ H w _).trans q3).trans m3) ((q4.toP p).trans m2) m4
    | pan j v s' =>
      intro ρ' H' a' w' u h' hh q1 q2 q2x q3 q4 q5
      obtain ⟨ex, st'⟩ := r
      have hfun : only (Loc.oldOr j) s'.h = only (Loc.oldOr j) h' := by
        funext l
        cases hl : Loc.oldOr j l with
        | true => rw [qpr hl, qpr hl, hh l hl]
        | false => rw [qrv hl, qrv hl]
      have e3 : endP p v (only (Loc.oldOr j) h') = some (ex, st') := by rw [← hfun]; exact e2
      obtain ⟨x, ρ2, H2, rfl, m1, m2, m3, m4, m5, m6⟩ := q53 (q1.only (Loc.oldOr j)) (q5.mono (qnv _ _) (fun _ _ _ e => e)) e3
      exact hp _ _ _ _ u m1 m2 m3 q2 q2x ((((Trans.drawn ρ H w _).trans q3).trans (q3t _ _ _ _)).trans m4) (((q4.trans (qnv _ _)).toP p).trans m5) m6
end
end Go.Rf

namespace Go.Rf
variable {B : Ice} {ds : List Deferred} {fx : List (Nat × Value)}
def qzt (P : Program) (N : Nat) (ops : Array Oper) (L : List AIns) : Bool :=
  decide (L.map (·.i) = List.range ops.size) && L.all fun ai => match ops[ai.i]? with
    | some o => okIns P N ops o ai
    | none => false
section
variable {P : Program} {T : Tab} {cf : CF} {N p : Nat}
theorem q1d (hcf : CFOk B P cf) (hfs : ∀ g vs hp r, cf g vs hp = some r → funOk P g = true) {ops : Array Oper} {L : List AIns} {keep : List Nat} {id : Nat} (hok : qzt P N ops L = true) (hav : ∀ ai ∈ L, ∀ x ∈ fx, ai.dst ≠ some x.1) {st : St} {r : Ex × St}
    (e : region T cf p L none keep st = some r) {ρ : Map} {H : Ice} {w : World} {a : Act} {Q : Exit → Act → World → Prop} (hS : StRel B ds fx ρ H N st a w) (hp : PostC B ds fx ρ H w N p Q r) :
    (Code.region id ops false).wp P Q a w := by
  simp only [qzt, Bool.and_eq_true, decide_eq_true_eq] at hok
  obtain ⟨h1, h2⟩ := hok
  obtain ⟨⟨rr, rs⟩, e1, e2⟩ := qan (show (bnd _ _ : Option _) = some r from e)
  apply wp_region
  rw [← h1]
  refine qsu hcf hfs L _ _ rr rs (fun ai hai => ?_) (by rw [h1]; exact List.nodup_range) hav e1 ρ H w a hS.heap hS.env (fun ai _ k => ?_) ?_
  · have := List.all_eq_true.1 h2 ai hai
    split at this
    · rename_i o ho; exact ⟨o, ho, this⟩
    · cases this
  · cases hq : ρ (.n ai.i k) with
    | none => rfl
    | _ =>
      obtain ⟨_, _, hk⟩ := hS.only (.n ai.i k) (by rw [hq]; intro h; cases h)
      cases hk
  · cases rr with
    | out => (cases e2; exact hp)
    | nrm s' =>
      intro ρ' H' a' w' q1 q2 q3 q4 _
      obtain ⟨st', e3, e4⟩ := qan e2
      cases e4
      obtain ⟨M, m1, m2, m3, m4⟩ := quq q1 q2 e3
      exact hp _ _ _ _ m1 (q3.trans m3) ((q4.toP p).trans m2) m4
    | pan j v s' =>
      intro ρ' H' a' w' u q1 q2 q2' q3 q4 _ q5
      obtain ⟨ex, st'⟩ := r
      obtain ⟨x, ρ2, H2, rfl, m1, m2, m3, m4, m5, m6⟩ := q53 q1 q5 (show endP p v s'.h = some (ex, st') from e2)
      exact hp _ _ _ _ u m1 m2 m3 q2 q2' (q3.trans m4) ((q4.toP p).trans m5) m6
def okC (P : Program) (N : Nat) : ACode → Code → Bool
  | .skip, c => match c with | .skip => true | .label _ => true | _ => false
  | .region L draw _, c => match c, draw with | .region _ ops false, none => qzt P N ops L | .region _ ops true, some d => qvs P N ops L d | _, _ => false
  | .seq a b, c => match c with | .seq x y => okC P N a x && okC P N b y | _ => false
  | .cond x a b, c => match c with | .cond x' y z => okO x' x && okC P N a y && okC P N b z | _ => false
  | .block id a, c => match c with | .block id' x => decide (id = id') && okC P N a x | _ => false
  | .loop _ a, c => match c with | .loop x => okC P N a x | _ => false
  | .exit id _, c => match c with | .exit id' => decide (id = id') | _ => false
  | .scope a, c => match c with | .scope x => okC P N a x | _ => false
  | .ret, c => match c with | .ret => true | _ => false
  | .refuse, _ => false
def qgy (ks : List Nat) : ACode → Bool
  | .region L _ _ => L.all fun ai => match ai.dst with | some t => !ks.contains t | none => true
  | .seq a b => qgy ks a && qgy ks b
  | .cond _ a b => qgy ks a && qgy ks b
  | .block _ a => qgy ks a
  | .loop _ a => qgy ks a
  | .scope a => qgy ks a
  | _ => true
theorem qsj {L : List AIns} {d : Option (List (Nat × Nat) × List Nat)} {keep : List Nat} (h : qgy (fx.map (·.1)) (.region L d keep) = true) : ∀ ai ∈ L, ∀ x ∈ fx, ai.dst ≠ some x.1 := fun ai hai x hx he => by
  simp only [qgy, List.all_eq_true] at h
  have := h ai hai
  rw [he] at this
  simp only [Bool.not_eq_true'] at this
  have hm : (fx.map (·.1)).contains x.1 = true := List.contains_iff_mem.2 (List.mem_map_of_mem hx)
  rw [hm] at this
  cases this
theorem qpj {q : Nat → Prop} (h : ∃ n, q n) : ∃ n, q n ∧ ∀ m, q m → n ≤ m := by
  obtain ⟨n, hn⟩ := h
  induction n using Nat.strongRecOn with
  | _ n ih =>
    by_cases hm : ∃ m, m < n ∧ q m
    · obtain ⟨m, h1, h2⟩ := hm
      exact ih m h1 h2
    · refine ⟨n, hn, fun m hq => ?_⟩
      by_cases hmn : n ≤ m
      · exact hmn
      · exact (hm ⟨m, by omega, hq⟩).elim
noncomputable def least {q : Nat → Prop} (h : ∃ n, q n) : Nat := Classical.choose (qpj h)
theorem q7u {q : Nat → Prop} (h : ∃ n, q n) : q (least h) := (Classical.choose_spec (qpj h)).1
theorem zde {q : Nat → Prop} (h : ∃ n, q n) {m : Nat} (hm : q m) : least h ≤ m := (Classical.choose_spec (qpj h)).2 m hm
theorem q7q {c : Code} {f : St → Option (Ex × St)} {keep : List Nat} {Q : Exit → Act → World → Prop}
    (hround : ∀ st r, f st = some r → ∀ ρ H w a (Q : Exit → Act → World → Prop), StRel B ds fx ρ H N st a w → p ≤ st.heap.length → PostC B ds fx ρ H w N p Q r → c.wp P Q a w) :
    ∀ (n : Nat) st r, loopN n f st = some r → ∀ ρ H w a, StRel B ds fx ρ H N st a w → p ≤ st.heap.length → PostC B ds fx ρ H w N p Q r → (Code.loop c).wp P Q a w := by
  classical
  let Good : Nat → Act → World → Prop := fun n a w => ∃ st r ρ H, loopN n f st = some r ∧ StRel B ds fx ρ H N st a w ∧ p ≤ st.heap.length ∧ PostC B ds fx ρ H w N p Q r
  intro n st r e ρ H w a hS hpl hp
  refine wp_loop (fun a w => ∃ n, Good n a w) (fun a w => if h : ∃ n, Good n a w then least h else 0) ⟨n, st, r, ρ, H, e, hS, hpl, hp⟩ (fun a w hI => ?_)
  have hg := q7u hI
  have hmin : ∀ {k a' w'}, Good k a' w' → (if h : ∃ n, Good n a' w' then least h else 0) ≤ k := fun {k a' w'} hk => by
    rw [dif_pos ⟨k, hk⟩]
    exact zde _ hk
  obtain ⟨st, r, ρ, H, e, hS, hpl, hp⟩ := hg
  rw [dif_pos hI]
  cases hn : least hI with
  | zero => rw [hn] at e; cases e
  | succ k =>
    rw [hn] at e
    simp only [loopN] at e
    split at e
    · rename_i st' hf
      refine hround st _ hf ρ H w a _ hS hpl (fun ρ' H' a' w' q1 q2 q3 q4 => ?_)
      have hg : Good k a' w' := ⟨st', r, ρ', H', e, q1, q4, hp.shift q2 q3⟩
      exact ⟨⟨k, hg⟩, Nat.lt_succ_of_le (hmin hg)⟩
    · rename_i hne
      refine hround st r e ρ H w a _ hS hpl ?_
      obtain ⟨ex, st'⟩ := r
      cases ex with
      | nrm => exact (hne st' e).elim
      | exit id => exact hp
      | ret => exact hp
      | pan v => exact hp
      | out => obtain ⟨a0, w0, h0⟩ := hp; exact ⟨a0, w0, h0⟩
theorem qcj (hcf : CFOk B P cf) (hfs : ∀ g vs hp r, cf g vs hp = some r → funOk P g = true) : ∀ (ac : ACode) (c : Code), okC P N ac c = true → qgy (fx.map (·.1)) ac = true → ∀ n st r, code T cf p n ac st = some r →
    ∀ ρ H w a (Q : Exit → Act → World → Prop), StRel B ds fx ρ H N st a w → p ≤ st.heap.length → PostC B ds fx ρ H w N p Q r → c.wp P Q a w
  | .skip, c, hok, hav, n, st, r, e, ρ, H, w, a, Q, hS, hpl, hp => by
    cases c <;> first | (simp [okC] at hok; done) | skip
    · cases e
      exact wp_skip (hp ρ H a w hS (Trans.refl ..) (qeg.refl _ _) hpl)
    · cases e
      exact wp_label (hp ρ H a w hS (Trans.refl ..) (qeg.refl _ _) hpl)
  | .region L draw keep, c, hok, hav, n, st, r, e, ρ, H, w, a, Q, hS, hpl, hp => by
    cases c <;> first | (simp [okC] at hok; done) | skip
    rename_i id ops d
    cases d <;> cases draw <;> first | (simp [okC] at hok; done) | skip
    · exact q1d hcf hfs hok (qsj hav) e hS hp
    · exact qyn hcf hfs hok (qsj hav) e hS hp
  | .seq x y, c, hok, hav, n, st, r, e, ρ, H, w, a, Q, hS, hpl, hp => by
    cases c <;> first | (simp [okC] at hok; done) | skip
    simp only [okC, Bool.and_eq_true] at hok
    simp only [code] at e
    apply wp_seq
    split at e
    · rename_i st' e1
      exact qcj hcf hfs x _ hok.1 (by simp only [qgy, Bool.and_eq_true] at hav; exact hav.1) n st _ e1 ρ H w a _ hS hpl (fun ρ' H' a' w' q1 q2 q3 q4 =>
        qcj hcf hfs y _ hok.2 (by simp only [qgy, Bool.and_eq_true] at hav; exact hav.2) n st' r e ρ' H' w' a' Q q1 q4 (hp.shift q2 q3))
    · rename_i hne
      refine qcj hcf hfs x _ hok.1 (by simp only [qgy, Bool.and_eq_true] at hav; exact hav.1) n st r e ρ H w a _ hS hpl ?_
      obtain ⟨ex, st'⟩ := r
      cases ex with
      | nrm => exact (hne st' e).elim
      | exit id => exact hp
      | ret => exact hp
      | pan v => exact hp
      | out => obtain ⟨a0, w0, h0⟩ := hp; exact ⟨a0, w0, h0⟩
  | .cond x y z, c, hok, hav, n, st, r, e, ρ, H, w, a, Q, hS, hpl, hp => by
    cases c <;> first | (simp [okC] at hok; done) | skip
    simp only [okC, Bool.and_eq_true] at hok
    obtain ⟨⟨h1, h2⟩, h3⟩ := hok
    simp only [code] at e
    split at e
    · rename_i hc
      exact wp_cond_true (qau hS.env h1 hc) (qcj hcf hfs y _ h2 (by simp only [qgy, Bool.and_eq_true] at hav; exact hav.1) n st r e ρ H w a Q hS hpl hp)
    · rename_i hc
      exact wp_cond_false (qau hS.env h1 hc) (qcj hcf hfs z _ h3 (by simp only [qgy, Bool.and_eq_true] at hav; exact hav.2) n st r e ρ H w a Q hS hpl hp)
    · cases e
  | .block id x, c, hok, hav, n, st, r, e, ρ, H, w, a, Q, hS, hpl, hp => by
    cases c <;> first | (simp [okC] at hok; done) | skip
    simp only [okC, Bool.and_eq_true, decide_eq_true_eq] at hok
    obtain ⟨rfl, h2⟩ := hok
    simp only [code] at e
    apply wp_block
    split at e
    · rename_i id' st' e1
      refine qcj hcf hfs x _ h2 hav n st _ e1 ρ H w a _ hS hpl (fun ρ' H' a' w' q1 q2 q3 q4 => ?_)
      simp only [Exit.inBlock]
      split at e
      · rename_i hid
        cases e
        rw [if_pos hid]
        exact hp ρ' H' a' w' q1 q2 q3 q4
      · rename_i hid
        cases e
        rw [if_neg hid]
        exact hp ρ' H' a' w' q1 q2 q3 q4
    · rename_i hne
      refine qcj hcf hfs x _ h2 hav n st r e ρ H w a _ hS hpl ?_
      obtain ⟨ex, st'⟩ := r
      cases ex with
      | nrm => exact hp
      | exit id => exact (hne _ _ e).elim
      | ret => exact hp
      | pan v => exact hp
      | out => obtain ⟨a0, w0, h0⟩ := hp; exact ⟨a0, w0, h0⟩
  | .loop keep x, c, hok, hav, n, st, r, e, ρ, H, w, a, Q, hS, hpl, hp => by
    cases c <;> first | (simp [okC] at hok; done) | skip
    simp only [okC] at hok
    rename_i body
    simp only [code] at e
    have hround : ∀ st1 r1, (match endR p keep st1.env (qa6 st1.heap) with
        | some st => code T cf p n x st
        | none => none) = some r1 → ∀ ρ H w a (Q : Exit → Act → World → Prop), StRel B ds fx ρ H N st1 a w → p ≤ st1.heap.length → PostC B ds fx ρ H w N p Q r1 → body.wp P Q a w := by
      intro st1 r1 e1 ρ H w a Q hS hpl hp
      split at e1
      · rename_i st2 e2
        obtain ⟨M, m1, m2, m3, m4⟩ := quq hS.heap hS.env e2
        exact qcj hcf hfs x _ hok hav n st2 r1 e1 _ H w a Q m1 m4 (hp.shift m3 m2)
      · cases e1
    exact q7q (keep := keep) hround n st r e ρ H w a hS hpl hp
  | .exit id keep, c, hok, hav, n, st, r, e, ρ, H, w, a, Q, hS, hpl, hp => by
    cases c <;> first | (simp [okC] at hok; done) | skip
    simp only [okC, decide_eq_true_eq] at hok
    subst hok
    obtain ⟨st2, e1, e2⟩ := qan e
    cases e2
    obtain ⟨M, m1, m2, m3, m4⟩ := quq hS.heap hS.env e1
    exact wp_exit (hp _ _ _ _ m1 m3 m2 m4)
  | .scope x, c, hok, hav, n, st, r, e, ρ, H, w, a, Q, hS, hpl, hp => by
    cases c <;> first | (simp [okC] at hok; done) | skip
    simp only [okC] at hok
    apply wp_scope_straight
    refine qcj hcf hfs x _ hok hav n st r e ρ H w a _ hS hpl ?_
    obtain ⟨ex, st'⟩ := r
    cases ex with
    | nrm => exact hp
    | exit id => exact hp
    | ret => exact hp
    | pan v => exact hp
    | out => obtain ⟨a0, w0, h0⟩ := hp; exact ⟨a0, w0, h0⟩
  | .ret, c, hok, hav, n, st, r, e, ρ, H, w, a, Q, hS, hpl, hp => by
    cases c <;> first | (simp [okC] at hok; done) | skip
    cases e
    exact wp_ret (hp ρ H a w hS (Trans.refl ..) (qeg.refl _ _) hpl)
  | .refuse, c, hok, hav, n, st, r, e, _, _, _, _, _, _, _, _ => by cases e
end
end Go.Rf

namespace Go.Rf
variable {B : Ice} {ds : List Deferred} {fx : List (Nat × Value)}
def okRes (P : Program) : List ResultVar → List (ARes × Bool) → Bool
  | [], [] => true
  | .tmp t :: rs, (.tmp t', _) :: as => decide (t = t') && okRes P rs as
  | .cell x t :: rs, (.cell x' n ag, _) :: as => decide (x = x') && tyIs P t n ag && okRes P rs as
  | _, _ => false
section
variable {P : Program} {N p : Nat} {ρ : Map} {H : Ice} {w : World}
theorem zbm {t : TypeId} {v u : Value} (h : (Instr.loadAt t v).run P w = .ok u w) : (do loadVar t (← asAddr v) : Sem Value).run P w = .ok u w := by
  cases v <;> first | exact h | (simp [Instr.loadAt, Instr.sureAddr] at h; done) | skip
  rename_i q
  cases q with
  | none => simp [Instr.loadAt, Instr.sureAddr] at h
  | some q => exact h
theorem qr8 {α β : Type} {f : α → Sem β} {x : α} {xs : List α} {y : β} {ys : List β} (h1 : (f x).run P w = .ok y w) (h2 : (xs.mapM f).run P w = .ok ys w) : ((x :: xs).mapM f).run P w = .ok (y :: ys) w := by
  rw [List.mapM_cons, Sem.run_bind, h1, Result.andThen_ok, Sem.run_bind, h2, Result.andThen_ok]
  rfl
def resF (tmps : Array Value) : ResultVar → Sem Value
  | .tmp t => pure (tmps.getD t undef)
  | .cell a t => do loadVar t (← asAddr (tmps.getD a undef))
theorem q3p {h : Loc → Option Obj} {env : List (Nat × V)} {a : Act} (hH : HRel ρ H h w) (hE : ∀ t v, getE env t = some v → VRel ρ H v (a.tmps.getD t undef)) : ∀ {rs : List ResultVar} {as : List (ARes × Bool)} {vs : List (V × Bool)}, okRes P rs as = true → qlp env h as = some vs →
    ∃ us, (rs.mapM (resF a.tmps)).run P w = .ok us w ∧ VRels ρ H (vs.map (·.1)) us
  | [], [], vs, _, e => by cases e; exact ⟨[], rfl, rfl⟩
  | [], _ :: _, _, hk, _ => by simp [okRes] at hk
  | .tmp _ :: _, [], _, hk, _ => by simp [okRes] at hk
  | .cell _ _ :: _, [], _, hk, _ => by simp [okRes] at hk
  | .tmp _ :: _, (.cell _ _ _, _) :: _, _, hk, _ => by simp [okRes] at hk
  | .cell _ _ :: _, (.tmp _, _) :: _, _, hk, _ => by simp [okRes] at hk
  | .tmp t :: rs, (.tmp t', fl) :: as, vs, hk, e => by
    simp only [okRes, Bool.and_eq_true, decide_eq_true_eq] at hk
    obtain ⟨rfl, hk⟩ := hk
    simp only [qlp] at e
    split at e
    · rename_i v vs' e1 e2
      cases e
      obtain ⟨us, h1, h2⟩ := q3p hH hE hk e2
      exact ⟨_, qr8 (f := resF a.tmps) (y := a.tmps.getD t undef) rfl h1, _, _, rfl, hE t v e1, h2⟩
    · cases e
  | .cell x t :: rs, (.cell x' n ag, fl) :: as, vs, hk, e => by
    simp only [okRes, Bool.and_eq_true, decide_eq_true_eq] at hk
    obtain ⟨⟨rfl, ht⟩, hk⟩ := hk
    simp only [qlp] at e
    split at e
    · rename_i v vs' e1 e2
      cases e
      obtain ⟨us, h1, h2⟩ := q3p hH hE hk e2
      simp only [resOf] at e1
      split at e1
      · rename_i y ey
        split at e1
        · rename_i ef hl
          cases e1
          obtain ⟨e', he, _, _, u, hr, hu⟩ := q5r hH ht (hE x y ey) hl
          cases he
          exact ⟨_, qr8 (f := resF a.tmps) (zbm hr) h1, _, _, rfl, hu, h2⟩
        · cases e1
      · cases e1
    · cases e
theorem q8r {vs : List V} {us : Array Value} (k : VRels ρ H vs us.toList) : VRel ρ H (untup vs) (if h : us.size = 1 then us[0] else .tuple us) := by
  have hl := k.length
  simp only [Array.length_toList] at hl
  cases vs with
  | nil =>
    have : us = #[] := by apply Array.toList_inj.1; exact List.eq_nil_of_length_eq_zero (by simpa using hl.symm)
    subst this
    exact ⟨[], rfl, rfl⟩
  | cons v vs =>
    cases vs with
    | nil =>
      have h1 : us.size = 1 := by simpa using hl.symm
      rw [dif_pos h1]
      obtain ⟨u, us', hu, k1, k2⟩ := k
      cases k2
      have : us = #[u] := Array.toList_inj.1 hu
      subst this
      exact k1
    | cons v' vs =>
      have h1 : ¬ us.size = 1 := by simp at hl; omega
      rw [dif_neg h1]
      exact ⟨us.toList, rfl, k⟩
theorem qx2 {fn : Func} {res : List (ARes × Bool)} {st : St} {a : Act} {r : CRes} (hH : HRel ρ H (qa6 st.heap) w) (hE : ∀ t v, getE st.env t = some v → VRel ρ H v (a.tmps.getD t undef)) (hok : okRes P fn.results.toList res = true) (e : qjh p res st = some r) :
    ∃ rs os ρ' H' v, r = .ret rs os ∧ (results fn a.tmps).run P w = .ok v w ∧ HRel ρ' H' (qa6 os) w ∧ Trans ρ H w ρ' H' w ∧ (∀ l, ρ' l ≠ .none → ∃ k, l = .b k) ∧ qeg p ρ ρ' ∧ p ≤ os.length ∧ VRel ρ' H' (untup rs) v := by
  obtain ⟨vals, e1, e2⟩ := qan e
  obtain ⟨⟨vs, fm⟩, e3, e4⟩ := qan e2
  split at e4
  · obtain ⟨⟨vs', os, M⟩, e5, e6⟩ := qan e4
    cases e6
    obtain ⟨us, h1, h2⟩ := q3p (P := P) hH hE hok e1
    obtain ⟨f1, f2, f3, f4⟩ := qh3 hH fm
    have hv1 := qn6 hH vals vs fm e3 fm (fun _ h => h) us h2
    obtain ⟨n1, n2, n3, n4, n5⟩ := qr5 f1 (qsy p) e5
    have hv2 := n2 us hv1
    refine ⟨vs', os, _, _, (if h : us.toArray.size = 1 then us.toArray[0] else .tuple us.toArray), rfl, ?_, n1, f2.trans (qsv M), fun l hl => ?_, (f3.toP p).trans (qsw n3), ?_, q8r (us := us.toArray) hv2⟩
    · have : (fn.results.mapM (resF a.tmps)).run P w = .ok us.toArray w := by
        rw [Array.mapM_eq_mapM_toList, Sem.run_map, h1]
        rfl
      unfold results
      show Sem.run P ((fn.results.mapM (resF a.tmps)) >>= _) w = _
      rw [Sem.run_bind, this]
      rfl
    · obtain ⟨k, _, hk⟩ := qu8 n5 l hl; exact ⟨k, hk⟩
    · have := n3.length_le
      rw [qqk] at this
      omega
  · cases e4
def okFun (P : Program) (f : FuncId) (af : AFun) : Bool := funOk P f && match P.funcs[f]? with
  | some fn => (match fn.body with | some c => okC P fn.ntmps af.code c | none => false) && okRes P fn.results.toList af.res && decide (af.np ≤ fn.ntmps)
  | none => false
def ExtOk (B : Ice) (P : Program) (f : FuncId) (e : CF → List V → List Obj → Option CRes) : Prop :=
  funOk P f = true ∧ ∀ cf, CFOk B P cf → ∀ vs heap r, e cf vs heap = some r → ∀ (ρ : Map) (H : Ice) (w : World) (args : Array Value), B.le H → HRel ρ H (qa6 heap) w → VRels ρ H vs args.toList →
    (∀ l, ρ l ≠ .none → ∃ k, k < heap.length ∧ l = .b k) → qof P f args w ρ H heap.length r
theorem q0j {vs : List V} {args : Array Value} {n : Nat} (hB : B.le H) (k : VRels ρ H vs args.toList) (hn : vs.length ≤ n) :
    EnvRel B [] [] ρ H n ((List.range vs.length).zip vs) { tmps := args ++ Array.replicate (n - args.size) undef, defers := [] } := by
  have hl := k.length
  simp only [Array.length_toList] at hl
  refine ⟨by simp; omega, rfl, fun t v hg => ?_, hB, fun _ _ h => by cases h⟩
  have hmap : args.toList = (List.range vs.length).map fun t => args.getD t undef := by
    apply List.ext_getElem?
    intro j
    by_cases hj : j < args.size
    · simp [hj, hl]
    · simp [hj, hl]
  rw [hmap] at k
  have := qyb k t v hg
  have ht : t < vs.length := by
    have mem : ∀ {ts : List Nat} {vs : List V}, getE (ts.zip vs) t = some v → t ∈ ts := by
      intro ts
      induction ts with
      | nil => intro vs h; simp [getE] at h
      | cons s ts ih =>
        intro vs h
        cases vs with
        | nil => simp [getE] at h
        | cons x vs =>
          simp only [List.zip_cons_cons, getE] at h
          split at h
          · rename_i hs; subst hs; exact List.mem_cons_self ..
          · exact List.mem_cons_of_mem _ (ih h)
    have := mem hg
    simpa using this
  have : (args ++ Array.replicate (n - args.size) undef).getD t undef = args.getD t undef := by
    simp only [Array.getD_eq_getD_getElem?]
    rw [Array.getElem?_append_left (by omega)]
  rw [this]
  assumption
end
end Go.Rf

namespace Go.Rf
variable {B : Ice}
def okPre (P : Program) (N : Nat) : ACode → Code → (Code → Bool) → Bool
  | .skip, c, k => k c
  | .seq a p, c, k => match c with
    | .seq x y => okC P N a x && okPre P N p y k
    | _ => false
  | _, _, _ => false
def qr3 : List Operand → List Nat → Bool
  | [], [] => true
  | .tmp t :: xs, t' :: ts => decide (t = t') && qr3 xs ts
  | _, _ => false
def okDef (r : ARec) (N : Nat) : List Oper → Bool
  | [o0, o1] => !(r.res.map (·.1.slot)).contains r.t && o0.guard.isNone && o1.guard.isNone && decide (o0.dst = some r.t) && decide (r.t < N) && decide (o1.dst = none) &&
    (match o0.op with | .makeFunc (.func g) first caps => decide (g = r.hf) && first.toList.isEmpty && qr3 caps.toList r.caps | _ => false) &&
    (match o1.op with | .defer c => (match c.callee with | .value (.tmp t) => decide (t = r.t) | _ => false) && c.args.toList.isEmpty | _ => false)
  | _ => false
def okAsk (r : ARec) (N : Nat) : List Oper → Bool
  | [o0, o1] => o0.guard.isNone && o1.guard.isNone &&
    (match o0.op with | .call c => (match c.callee with | .builtin .recover => true | _ => false) && c.args.toList.isEmpty | _ => false) &&
    (match o0.dst with | some t => decide (t < N) && (match o1.op with | .assign (.tmp t') => decide (t' = t) | _ => false) && decide (r.caps.length ≤ t) && !decide (t = r.hv) | none => false) && decide (o1.dst = some r.hv) && decide (r.hv < N) && decide (r.caps.length ≤ r.hv)
  | _ => false
def zem (P : Program) (N : Nat) (r : ARec) : Code → Bool
  | .seq (.region _ ops false) rest => okDef r N ops.toList && okC P N r.body rest
  | _ => false
def q91 (P : Program) (r : ARec) : Bool := match P.funcs[r.hf]? with
  | some fn => (match fn.body with
    | some (.seq (.region _ ops false) rest) => okAsk r fn.ntmps ops.toList && okC P fn.ntmps r.hcode rest
    | _ => false) && fn.results.toList.isEmpty && decide (r.caps.length ≤ fn.ntmps)
  | none => false
def qvt (P : Program) (f : FuncId) (r : ARec) : Bool := funOk P f && funOk P r.hf && q91 P r && (match P.funcs[f]? with
  | some fn => (match fn.body with | some c => okPre P fn.ntmps r.pre c (zem P fn.ntmps r) | none => false) && okRes P fn.results.toList r.res && decide (r.np ≤ fn.ntmps)
  | none => false) && qgy (r.res.map (·.1.slot)) r.body
theorem qv2 : ∀ {n m : Nat} {vs : List V} {t : Nat} {v : V}, getE ((List.range' m n).zip vs) t = some v → t < m + vs.length ∧ m ≤ t
  | 0, m, vs, t, v, h => by simp [getE] at h
  | n + 1, m, [], t, v, h => by simp [getE] at h
  | n + 1, m, x :: vs, t, v, h => by
    simp only [List.range'_succ, List.zip_cons_cons, getE] at h
    split at h
    · rename_i hm; subst hm; simp
    · obtain ⟨h1, h2⟩ := qv2 (n := n) (m := m + 1) h
      simp only [List.length_cons]
      omega
theorem qdu : ∀ a : ACode, qgy [] a = true
  | .skip => rfl
  | .region L _ _ => by
    simp only [qgy, List.all_eq_true]
    intro ai _
    cases ai.dst <;> simp
  | .seq a b => by simp [qgy, qdu a, qdu b]
  | .cond _ a b => by simp [qgy, qdu a, qdu b]
  | .block _ a => by simp [qgy, qdu a]
  | .loop _ a => by simp [qgy, qdu a]
  | .exit _ _ => rfl
  | .scope a => by simp [qgy, qdu a]
  | .ret => rfl
  | .refuse => rfl
section
variable {P : Program} {T : Tab} {cf : CF}
theorem q1j (hcf : CFOk B P cf) (hfs : ∀ g vs hp r, cf g vs hp = some r → funOk P g = true) {N p n : Nat} {k : Code → Bool} : ∀ (pre : ACode) (c : Code), okPre P N pre c k = true → ∀ st x, code T cf p n pre st = some x →
    ∀ ρ H w a (Q : Exit → Act → World → Prop), StRel B [] [] ρ H N st a w → p ≤ st.heap.length →
    (∀ st', x = (.nrm, st') → ∀ rest, k rest = true → ∀ ρ' H' a' w', StRel B [] [] ρ' H' N st' a' w' → Trans ρ H w ρ' H' w' → qeg p ρ ρ' → p ≤ st'.heap.length → rest.wp P Q a' w') →
    (x.1 ≠ .nrm → PostC B [] [] ρ H w N p Q x) → c.wp P Q a w
  | .skip, c, hok, st, x, e, ρ, H, w, a, Q, hS, hpl, hn, _ => by
    cases e
    exact hn st rfl c hok ρ H a w hS (Trans.refl ..) (qeg.refl _ _) hpl
  | .seq b q, c, hok, st, x, e, ρ, H, w, a, Q, hS, hpl, hn, hx => by
    cases c <;> first | (simp [okPre] at hok; done) | skip
    simp only [okPre, Bool.and_eq_true] at hok
    simp only [code] at e
    apply wp_seq
    split at e
    · rename_i st' e1
      exact qcj (ds := []) (fx := []) hcf hfs b _ hok.1 (qdu b) n st _ e1 ρ H w a _ hS hpl (fun ρ' H' a' w' q1 q2 q3 q4 =>
        q1j hcf hfs q _ hok.2 st' x e ρ' H' w' a' Q q1 q4 (fun st2 h2 rest hr ρ2 H2 a2 w2 s1 s2 s3 s4 => hn st2 h2 rest hr ρ2 H2 a2 w2 s1 (q2.trans s2) (q3.trans s3) s4) (fun hne => (hx hne).shift q2 q3))
    · rename_i hne
      refine qcj (ds := []) (fx := []) hcf hfs b _ hok.1 (qdu b) n st x e ρ H w a _ hS hpl ?_
      obtain ⟨ex, st'⟩ := x
      cases ex with
      | nrm => exact (hne st' e).elim
      | exit id => exact hx (fun h => by cases h)
      | ret => exact hx (fun h => by cases h)
      | pan v => exact hx (fun h => by cases h)
      | out => obtain ⟨a0, w0, h0⟩ := hx (fun h => by cases h); exact ⟨a0, w0, h0⟩
  | .region _ _ _, _, hok, _, _, _, _, _, _, _, _, _, _, _, _ => by simp [okPre] at hok
  | .cond _ _ _, _, hok, _, _, _, _, _, _, _, _, _, _, _, _ => by simp [okPre] at hok
  | .block _ _, _, hok, _, _, _, _, _, _, _, _, _, _, _, _ => by simp [okPre] at hok
  | .loop _ _, _, hok, _, _, _, _, _, _, _, _, _, _, _, _ => by simp [okPre] at hok
  | .exit _ _, _, hok, _, _, _, _, _, _, _, _, _, _, _, _ => by simp [okPre] at hok
  | .scope _, _, hok, _, _, _, _, _, _, _, _, _, _, _, _ => by simp [okPre] at hok
  | .ret, _, hok, _, _, _, _, _, _, _, _, _, _, _, _ => by simp [okPre] at hok
  | .refuse, _, hok, _, _, _, _, _, _, _, _, _, _, _, _ => by simp [okPre] at hok
theorem q6d {ρ : Map} {H : Ice} {env : List (Nat × V)} {a : Act} (hE : ∀ t v, getE env t = some v → VRel ρ H v (a.tmps.getD t undef)) : ∀ {xs : List Operand} {ts : List Nat} {vs : List V}, qr3 xs ts = true → qoh env ts = some vs → VRels ρ H vs (xs.map a.eval) ∧ vs.length = ts.length
  | [], [], vs, _, e => by cases e; exact ⟨rfl, rfl⟩
  | [], _ :: _, _, h, _ => by simp [qr3] at h
  | .tmp t :: xs, [], _, h, _ => by simp [qr3] at h
  | .tmp t :: xs, t' :: ts, vs, h, e => by
    simp only [qr3, Bool.and_eq_true, decide_eq_true_eq] at h
    obtain ⟨rfl, h⟩ := h
    obtain ⟨v, e1, e2⟩ := qan e
    obtain ⟨vs', e3, e4⟩ := qan e2
    cases e4
    obtain ⟨k1, k2⟩ := q6d hE h e3
    exact ⟨⟨_, _, rfl, hE t v e1, k1⟩, by simp [k2]⟩
  | .const _ :: _, ts, _, h, _ => by cases ts <;> simp [qr3] at h
  | .func _ :: _, ts, _, h, _ => by cases ts <;> simp [qr3] at h
  | .global _ :: _, ts, _, h, _ => by cases ts <;> simp [qr3] at h
inductive Mode (ρ : Map) (H : Ice) : FrameMode → V → Prop
  | ret : Mode ρ H .returning (.d .nili)
  | pan {v u} (h : VRel ρ H v u) : Mode ρ H (.panicking [{ v := u, recovered := false }]) v
theorem q7w (hcf : CFOk B P cf) (hfs : ∀ g vs hp r, cf g vs hp = some r → funOk P g = true) {r : ARec} (hok : q91 P r = true) {n : Nat} {ρ : Map} {H : Ice} {w : World} {heap : List Obj} {u : FrameMode} {v : V} {cs : List V} {us : Array Value} {x : Ex × St}
    (hB : B.le H) (hH : HRel ρ H (qa6 heap) w) (honly : ∀ l, ρ l ≠ .none → ∃ k, k < heap.length ∧ l = .b k) (hm : Mode ρ H u v) (hcs : VRels ρ H cs us.toList) (hlen : cs.length = r.caps.length)
    (e : code T cf heap.length n r.hcode { env := (r.hv, v) :: (List.range cs.length).zip cs, heap } = some x) {R : Ending → FrameMode → World → Prop}
    (hx : match x with
      | (.nrm, st) | (.ret, st) => ∀ ρ' H' w', HRel ρ' H' (qa6 st.heap) w' → (∀ l, ρ' l ≠ .none → ∃ k, k < st.heap.length ∧ l = .b k) → Trans ρ H w ρ' H' w' → qeg heap.length ρ ρ' → heap.length ≤ st.heap.length → ∀ v' u', settle u' = .returning → R (.returned v') u' w'
      | (.out, _) => ∃ w0, R .outgrown u w0
      | _ => False) : CallsD P r.hf us u w R := by
  unfold q91 at hok
  split at hok
  · rename_i fn hfn
    simp only [Bool.and_eq_true, decide_eq_true_eq] at hok
    obtain ⟨⟨hb, hres⟩, hcn⟩ := hok
    split at hb
    · rename_i id ops rest hbody
      simp only [Bool.and_eq_true] at hb
      obtain ⟨hask, hrest⟩ := hb
      refine callsD_of_wpS hfn hbody (fun c₀ cs0 hmode => ?_)
      apply wpS_seq
      apply wpS_region
      cases hops : ops.toList with
      | nil => rw [hops] at hask; cases hask
      | cons o0 l =>
      cases l with
      | nil => rw [hops] at hask; cases hask
      | cons o1 l =>
      cases l with
      | cons _ _ => rw [hops] at hask; cases hask
      | nil =>
      rw [hops] at hask
      have hopsA : ops = #[o0, o1] := Array.toList_inj.1 hops
      subst hopsA
      simp only [okAsk, Bool.and_eq_true, decide_eq_true_eq] at hask
      obtain ⟨⟨⟨⟨⟨⟨hg0, hg1⟩, hop0⟩, hd0⟩, hd1⟩, hvN⟩, hvc⟩ := hask
      have g0 : o0.guard = none := by simpa using hg0
      have g1 : o1.guard = none := by simpa using hg1
      split at hop0
      · rename_i c hc
        simp only [Bool.and_eq_true] at hop0
        obtain ⟨hcal, hargs⟩ := hop0
        split at hcal
        · rename_i hcb
          split at hd0
          · rename_i t ht
            simp only [Bool.and_eq_true, decide_eq_true_eq, Bool.not_eq_true', decide_eq_false_iff_not] at hd0
            obtain ⟨⟨⟨htN, hop1⟩, htc⟩, htv⟩ := hd0
            split at hop1
            · rename_i t' hop1'
              simp only [decide_eq_true_eq] at hop1
              subst hop1
              have hul := hcs.length
              simp only [Array.length_toList] at hul
              let tm : Array Value := us ++ Array.replicate (fn.ntmps - us.size) undef
              have htm : tm.size = fn.ntmps := by simp [tm]; omega
              have hrun : ∀ (a : Act), (execOp a.eval o0).run P w = .ok .recover w := fun a => by
                unfold execOp
                simp only [hc, resolve, hcb]
                rw [qrc hargs]
                rfl
              have hrange : List.range (#[o0, o1] : Array Oper).size = [0, 1] := rfl
              rw [hrange]
              obtain ⟨uv, cs1, hrec, hvu, u', rfl, hset⟩ : ∃ uv cs1, ((recoverD (c₀ :: cs0) = none ∧ uv = Value.nilIface ∧ cs1 = c₀ :: cs0) ∨ recoverD (c₀ :: cs0) = some (uv, cs1)) ∧ VRel ρ H v uv ∧ ∃ u', cs1 = { c₀ with mode := u' } :: cs0 ∧ settle u' = .returning := by
                cases hm with
                | ret =>
                  refine ⟨.nilIface, c₀ :: cs0, .inl ⟨?_, rfl, rfl⟩, rfl, .returning, ?_, rfl⟩
                  · simp only [recoverD, hmode]
                  · cases c₀; simp only at hmode; subst hmode; rfl
                | pan h =>
                  rename_i uu
                  exact ⟨uu, _, .inr (by simp only [recoverD, hmode]; rfl), h, _, rfl, rfl⟩
              have hstep : ∀ Q' : Exit → Act → List Frame → World → Prop, Q' .normal ((({ tmps := tm, defers := [] } : Act).put (some t') uv).put (some r.hv) uv) ({ c₀ with mode := u' } :: cs0) w → wpOpsS P #[o0, o1] Q' [0, 1] { tmps := tm, defers := [] } (c₀ :: cs0) w := by
                intro Q' hq
                have hev : (({ tmps := tm, defers := [] } : Act).put (some t') uv).eval (.tmp t') = uv := by
                  simp only [Act.put, Act.eval]
                  simp [Array.getD, htm, htN]
                have h1 : wpOpsS P #[o0, o1] Q' [1] (({ tmps := tm, defers := [] } : Act).put (some t') uv) ({ c₀ with mode := u' } :: cs0) w := by
                  have hx1 : (execOp (({ tmps := tm, defers := [] } : Act).put (some t') uv).eval o1).run P w = .ok (.value uv) w := by
                    unfold execOp
                    simp only [hop1', hev]
                    rfl
                  simp only [wpOpsS, show (#[o0, o1] : Array Oper)[1]? = some o1 from rfl, Region.wanted, g1, if_true, hx1, Oper.upon, hd1]
                  exact hq
                unfold wpOpsS
                simp only [show (#[o0, o1] : Array Oper)[0]? = some o0 from rfl, Region.wanted, g0, if_true, hrun]
                rcases hrec with ⟨h, rfl, h3⟩ | h
                · rw [h]
                  simp only [ht]
                  rw [h3] at h1
                  exact h1
                · rw [h]
                  simp only [ht]
                  exact h1
              apply hstep
              show rest.wpS P (bodyPostS P fn c₀ cs0 R) _ _ _
              apply wpS_of_wp
              have hE0 : EnvRel B [] [] ρ H fn.ntmps ((List.range cs.length).zip cs) { tmps := us ++ Array.replicate (fn.ntmps - us.size) undef, defers := [] } := q0j hB hcs (by omega)
              have hE1 := (hE0.put (x := v) (v := uv) (some t') (fun t ht => by cases ht; exact ⟨htN, fun x hx => by cases hx⟩) hvu).put (x := v) (v := uv) (some r.hv) (fun t ht => by cases ht; exact ⟨hvN, fun x hx => by cases hx⟩) hvu
              have hE2 : EnvRel B [] [] ρ H fn.ntmps ((r.hv, v) :: (List.range cs.length).zip cs) ((({ tmps := tm, defers := [] } : Act).put (some t') uv).put (some r.hv) uv) := ⟨hE1.size, hE1.defers, fun t x hg => by
                refine hE1.rel t x ?_
                simp only [putT, getE] at hg ⊢
                split at hg
                · rename_i h; rw [if_pos h]; exact hg
                · rename_i h
                  rw [if_neg h]
                  have ht : t < cs.length := by
                    rw [List.range_eq_range'] at hg
                    have := (qv2 hg).1
                    omega
                  rw [if_neg (by omega)]
                  exact hg, hE1.base, hE1.fix⟩
              refine qcj (ds := []) (fx := []) (p := heap.length) hcf hfs r.hcode _ hrest (qdu _) n _ x e ρ H w _ _ ⟨hH, hE2, honly⟩ (Nat.le_refl _) ?_
              · obtain ⟨ex, st⟩ := x
                have hre : ∀ (a : Act) (w : World), (results fn a.tmps).run P w = .ok (.tuple #[]) w := fun a w => by
                  unfold results
                  rw [qrc hres, Array.mapM_eq_mapM_toList]
                  rfl
                cases ex with
                | nrm =>
                  intro ρ' H' a' w' q1 q2 q3 q4
                  exact ⟨q1.env.defers, u', rfl, _, hre a' w', hx ρ' H' w' q1.heap q1.only q2 q3 q4 _ _ hset⟩
                | ret =>
                  intro ρ' H' a' w' q1 q2 q3 q4
                  exact ⟨q1.env.defers, u', rfl, _, hre a' w', hx ρ' H' w' q1.heap q1.only q2 q3 q4 _ _ hset⟩
                | out => obtain ⟨w0, h0⟩ := hx; exact ⟨{ tmps := #[], defers := [] }, w0, u, h0⟩
                | pan v => exact hx.elim
                | exit id => exact hx.elim
            · cases hop1
          · cases hd0
        · cases hcal
      · cases hop0
    · cases hb
  · cases hok
def EndR (ρ : Map) (H : Ice) (w : World) (n : Nat) (x : CRes) : Ending → World → Prop := fun e w' => match e with
  | .outgrown => x = .out
  | .returned v => ∃ rs os ρ' H', x = .ret rs os ∧ CallEnd ρ H w n os ρ' H' w' ∧ VRel ρ' H' (untup rs) v
  | .panicked chain => ∃ y os ρ' H' u, x = .pan y os ∧ chain = [{ v := u, recovered := false }] ∧ CallEnd ρ H w n os ρ' H' w' ∧ VRel ρ' H' y u
theorem qtw : ∀ {ts : List Nat} {vs : List V} {t : Nat} {v : V}, getE (ts.zip vs) t = some v → t ∈ ts
  | [], vs, t, v, h => by simp [getE] at h
  | s :: ts, [], t, v, h => by simp [getE] at h
  | s :: ts, x :: vs, t, v, h => by
    simp only [List.zip_cons_cons, getE] at h
    split at h
    · rename_i hs; subst hs; exact List.mem_cons_self ..
    · exact List.mem_cons_of_mem _ (qtw h)
theorem qvz {env : List (Nat × V)} : ∀ (ks : List Nat), ∀ t ∈ (keptE env ks).1, t ∈ ks
  | [], t, h => by simp [keptE] at h
  | k :: ks, t, h => by
    simp only [keptE] at h
    cases hg : getE env k with
    | none => simp only [hg] at h; exact List.mem_cons_of_mem _ (qvz ks t h)
    | some v =>
      simp only [hg] at h
      rcases List.mem_cons.1 h with rfl | h
      · exact List.mem_cons_self ..
      · exact List.mem_cons_of_mem _ (qvz ks t h)
theorem qeg.le {p p' : Nat} {ρ ρ' : Map} (h : p ≤ p') (k : qeg p' ρ ρ') : qeg p ρ ρ' := fun j hj => k j (by omega)
theorem q9i (hcf : CFOk B P cf) (hfs : ∀ g vs hp r, cf g vs hp = some r → funOk P g = true) {f : FuncId} {r : ARec} (hok : qvt P f r = true) {n : Nat} {vs : List V} {heap : List Obj} {x : CRes}
    (e : recG (fun p a st => code T cf p n a st) r vs heap = some x) {ρ : Map} {H : Ice} {w : World} {args : Array Value} (hB : B.le H) (hH : HRel ρ H (qa6 heap) w) (hv : VRels ρ H vs args.toList)
    (honly : ∀ l, ρ l ≠ .none → ∃ k, k < heap.length ∧ l = .b k) : qof P f args w ρ H heap.length x := by
  simp only [qvt, Bool.and_eq_true] at hok
  obtain ⟨⟨⟨⟨_, hfh⟩, hhand⟩, hfun⟩, hav⟩ := hok
  split at hfun
  · rename_i fn hfn
    simp only [Bool.and_eq_true, decide_eq_true_eq] at hfun
    obtain ⟨⟨hbd, hres⟩, hnp⟩ := hfun
    cases hb : fn.body with
    | none => rw [hb] at hbd; cases hbd
    | some c =>
    rw [hb] at hbd
    simp only at hbd
    unfold recG at e
    split at e
    · rename_i hl
      dsimp only at e
      show Calls P f args w (EndR ρ H w heap.length x)
      generalize hR : EndR ρ H w heap.length x = R
      apply calls_of_wp_defers hfn hb
      have hS : StRel B [] [] ρ H fn.ntmps { env := (List.range r.np).zip vs, heap := heap } { tmps := args ++ Array.replicate (fn.ntmps - args.size) undef, defers := [] } w :=
        ⟨hH, by rw [← hl]; exact q0j hB hv (by omega), honly⟩
      have stays : ∀ {ρ' : Map}, qeg heap.length ρ ρ' → Stays ρ ρ' := fun h l hl => by
        obtain ⟨k, hk, rfl⟩ := honly l hl
        exact h k hk hl
      have hout0 : x = .out → ∀ w, R .outgrown w := fun hx w => by subst hR; exact hx
      have hout : x = .out → LetsOut (bodyPostD P fn R) := fun hx => ⟨{ tmps := #[], defers := [] }, w, hout0 hx w⟩
      have fin : ∀ {st : St}, qjh heap.length r.res st = some x → ∀ ρ' H' (a' : Act) w', HRel ρ' H' (qa6 st.heap) w' → (∀ t v, getE st.env t = some v → VRel ρ' H' v (a'.tmps.getD t undef)) → Trans ρ H w ρ' H' w' → qeg heap.length ρ ρ' →
          ∃ v, (results fn a'.tmps).run P w' = .ok v w' ∧ R (.returned v) w' := by
        intro st e ρ' H' a' w' q1 q1' q2 q3
        obtain ⟨rs, os, ρ2, H2, v, rfl, r1, r2, r3, r4, r5, r6, r7⟩ := qx2 q1 q1' hres e
        subst hR
        exact ⟨v, r1, rs, os, ρ2, H2, rfl, ⟨r2, q2.trans r3, stays (q3.trans r5), r4, r6⟩, r7⟩
      cases h1 : code T cf heap.length n r.pre { env := (List.range r.np).zip vs, heap := heap } with
      | none => rw [h1] at e; cases e
      | some y =>
      rw [h1] at e
      refine q1j hcf hfs r.pre c hbd _ y h1 ρ H w _ _ hS (Nat.le_refl _) ?_ ?_
      · rintro st rfl rest hrest ρ1 H1 a1 w1 s1 s2 s3 s4
        obtain ⟨cs, hcs, e⟩ := qan (show bnd _ _ = some x from e)
        unfold zem at hrest
        split at hrest
        · rename_i id ops rest2
          simp only [Bool.and_eq_true] at hrest
          obtain ⟨hdef, hbody⟩ := hrest
          cases hops : ops.toList with
          | nil => rw [hops] at hdef; cases hdef
          | cons o0 l =>
          cases l with
          | nil => rw [hops] at hdef; cases hdef
          | cons o1 l =>
          cases l with
          | cons _ _ => rw [hops] at hdef; cases hdef
          | nil =>
          rw [hops] at hdef
          have hopsA : ops = #[o0, o1] := Array.toList_inj.1 hops
          subst hopsA
          simp only [okDef, Bool.and_eq_true, decide_eq_true_eq] at hdef
          obtain ⟨⟨⟨⟨⟨⟨⟨htks, hg0⟩, hg1⟩, hd0⟩, htN⟩, hd1⟩, hop0⟩, hop1⟩ := hdef
          have g0 : o0.guard = none := by simpa using hg0
          have g1 : o1.guard = none := by simpa using hg1
          split at hop0
          · rename_i g first caps hm0
            simp only [Bool.and_eq_true, decide_eq_true_eq] at hop0
            obtain ⟨⟨rfl, hfirst⟩, hcaps⟩ := hop0
            split at hop1
            · rename_i cl hm1
              simp only [Bool.and_eq_true] at hop1
              obtain ⟨hcal, hargs⟩ := hop1
              split at hcal
              · rename_i tt hcv
                simp only [decide_eq_true_eq] at hcal
                subst hcal
                obtain ⟨hcr, hcl⟩ := q6d s1.env.rel hcaps hcs
                let fv : Value := .func (.func r.hf) #[] (caps.map a1.eval)
                let d : Deferred := { target := .fn (.func r.hf) (caps.map a1.eval), args := #[] }
                let a2 : Act := { a1.put (some r.t) fv with defers := [d] }
                have hx0 : (execOp a1.eval o0).run P w1 = .ok (.value fv) w1 := by
                  unfold execOp
                  simp only [hm0, Instr.makeFunc]
                  rw [qrc hfirst]
                  simp [fv]
                have hev : (a1.put (some r.t) fv).eval (.tmp r.t) = fv := by
                  simp only [Act.put, Act.eval]
                  simp [Array.getD, s1.env.size, htN]
                have hx1 : (execOp (a1.put (some r.t) fv).eval o1).run P w1 = .ok (.defer d) w1 := by
                  unfold execOp
                  simp only [hm1, resolve, hcv, hev, fv, Deferred.ofValue]
                  rw [qrc hargs]
                  simp [d]
                have hdef0 : a1.defers = [] := s1.env.defers
                apply wp_seq
                apply wp_region
                have hstep : ∀ Q' : Exit → Act → World → Prop, Q' .normal a2 w1 → wpOps P #[o0, o1] Q' [0, 1] a1 w1 := by
                  intro Q' hq
                  simp only [wpOps, show (#[o0, o1] : Array Oper)[0]? = some o0 from rfl, show (#[o0, o1] : Array Oper)[1]? = some o1 from rfl, Region.wanted, g0, g1, if_true]
                  left
                  unfold Oper.wp
                  rw [hx0]
                  simp only [Oper.upon, hd0]
                  left
                  rw [hx1]
                  simp only [hd1]
                  have : (({ a1.put (some r.t) fv with defers := d :: (a1.put (some r.t) fv).defers } : Act).put none undef) = a2 := by
                    simp only [Act.put, a2, hdef0]
                  rw [this]
                  exact hq
                apply hstep
                show rest2.wp P (bodyPostD P fn R) a2 w1
                let ks : List Nat := r.res.map (·.1.slot)
                let fx : List (Nat × Value) := ks.map fun t => (t, a2.tmps.getD t undef)
                have hfx : fx.map (·.1) = ks := by simp [fx, Function.comp_def]
                have hE1 := s1.env.put (x := .junk) (v := fv) (some r.t) (fun t ht => by cases ht; exact ⟨htN, fun x hx => by cases hx⟩) rfl
                have hE2 : EnvRel B [d] fx ρ1 H1 fn.ntmps ((r.t, .junk) :: st.env) a2 := ⟨hE1.size, rfl, hE1.rel, hE1.base, fun t u hm => by
                  obtain ⟨t', _, h⟩ := List.mem_map.1 hm
                  cases h
                  rfl⟩
                have hst1 : ∀ {ρ' : Map}, qeg st.heap.length ρ1 ρ' → Stays ρ1 ρ' := fun h l hl => by
                  obtain ⟨k, hk, rfl⟩ := s1.only l hl
                  exact h k hk hl
                have later : ∀ {ρ' H' w'} {a' : Act}, Trans ρ1 H1 w1 ρ' H' w' → Stays ρ1 ρ' → (∀ t u, (t, u) ∈ fx → a'.tmps.getD t undef = u) → ∀ t v, getE (qk0 r st.env) t = some v → VRel ρ' H' v (a'.tmps.getD t undef) := by
                  intro ρ' H' w' a' q1 q2 q3 t v hg
                  have hk := qyb (qz0 s1.env ks) t v hg
                  have htk : t ∈ ks := qvz ks t (qtw hg)
                  rw [q3 t _ (List.mem_map.2 ⟨t, htk, rfl⟩)]
                  have hne : r.t ≠ t := fun h => by
                    subst h
                    have : ks.contains r.t = true := List.contains_iff_mem.2 htk
                    rw [this] at htks
                    cases htks
                  have : a2.tmps.getD t undef = a1.tmps.getD t undef := by
                    simp only [a2, Act.put, Array.getD_eq_getD_getElem?, Array.getElem?_setIfInBounds, if_neg hne]
                  rw [this]
                  exact hk.mono q2 (q1.le s1.heap)
                have leave : ∀ {u : FrameMode} {v : V} {hp : List Obj} {ρ' H'} {a' : Act} {w'}, hEnd heap.length r.res (qk0 r st.env) (code T cf hp.length n r.hcode { env := (r.hv, v) :: (List.range cs.length).zip cs, heap := hp }) = some x → u ≠ .run → Mode ρ' H' u v → HRel ρ' H' (qa6 hp) w' →
                    (∀ l, ρ' l ≠ .none → ∃ k, k < hp.length ∧ l = .b k) → a'.defers = [d] → (∀ t u, (t, u) ∈ fx → a'.tmps.getD t undef = u) → Trans ρ1 H1 w1 ρ' H' w' → qeg st.heap.length ρ1 ρ' → st.heap.length ≤ hp.length → Leaves P fn a'.tmps R a'.defers u w' := by
                  intro u v hp ρ' H' a' w' e3 hu hm k1 k2 k3 k4 k5 k6 k7
                  rw [k3]
                  have hinv : (invoke (.fn (.func r.hf) (caps.map a1.eval)) #[]).run P w' = .ok (.enter r.hf (#[] ++ caps.map a1.eval)) w' := by
                    simp only [invoke]
                    exact qme hfh _
                  cases h3 : code T cf hp.length n r.hcode { env := (r.hv, v) :: (List.range cs.length).zip cs, heap := hp } with
                  | none => rw [h3] at e3; cases e3
                  | some z =>
                  rw [h3] at e3
                  refine leaves_cons hu hinv ?_
                  refine q7w hcf hfs hhand (fun b o v h => k5.le s1.heap b o v (s1.env.base b o v h)) k1 k2 hm (cs := cs) ?_ hcl h3 ?_
                  · have : (#[] ++ caps.map a1.eval).toList = caps.toList.map a1.eval := by simp
                    rw [this]
                    exact VRels.mono (hst1 k6) (k5.le s1.heap) cs hcr
                  · have done : ∀ {st3 : St}, qjh heap.length r.res { env := qk0 r st.env, heap := st3.heap } = some x → ∀ ρ2 H2 w2, HRel ρ2 H2 (qa6 st3.heap) w2 → Trans ρ' H' w' ρ2 H2 w2 → qeg hp.length ρ' ρ2 → ∀ u', settle u' = .returning → Leaves P fn a'.tmps R [] (settle u') w2 := by
                      intro st3 e4 ρ2 H2 w2 t1 t2 t3 u' hset
                      rw [hset]
                      have hst2 : Stays ρ' ρ2 := fun l hl => by
                        obtain ⟨k, hk, rfl⟩ := k2 l hl
                        exact t3 k hk hl
                      exact fin e4 ρ2 H2 a' w2 t1 (later (k5.trans t2) ((hst1 k6).trans hst2) k4) ((s2.trans k5).trans t2) ((s3.trans (k6.le s4)).trans (t3.le (Nat.le_trans s4 k7)))
                    obtain ⟨ex, st3⟩ := z
                    cases ex with
                    | nrm => exact fun ρ2 H2 w2 t1 _ t2 t3 _ v' u' hset => done e3 ρ2 H2 w2 t1 t2 t3 u' hset
                    | ret => exact fun ρ2 H2 w2 t1 _ t2 t3 _ v' u' hset => done e3 ρ2 H2 w2 t1 t2 t3 u' hset
                    | out => (cases e3; exact ⟨w', hout0 rfl w'⟩)
                    | pan v => cases e3
                    | exit id => cases e3
                cases h2 : code T cf st.heap.length n r.body { env := (r.t, .junk) :: st.env, heap := st.heap } with
                | none => rw [h2] at e; cases e
                | some z =>
                rw [h2] at e
                refine qcj (B := B) (ds := [d]) (fx := fx) (p := st.heap.length) hcf hfs r.body _ hbody (by rw [hfx]; exact hav) n _ z h2 ρ1 H1 w1 a2 _ ⟨s1.heap, hE2, s1.only⟩ (Nat.le_refl _) ?_
                obtain ⟨ex, st2⟩ := z
                cases ex with
                | nrm => exact fun ρ' H' a' w' q1 q2 q3 q4 => leave (u := .returning) e (fun h => by cases h) .ret q1.heap q1.only q1.env.defers q1.env.fix q2 q3 q4
                | ret => exact fun ρ' H' a' w' q1 q2 q3 q4 => leave (u := .returning) e (fun h => by cases h) .ret q1.heap q1.only q1.env.defers q1.env.fix q2 q3 q4
                | out => (cases e; exact hout rfl)
                | exit id => cases e
                | pan v =>
                  cases v <;> first | (cases e; done) | skip
                  rename_i yv
                  cases yv <;> first | (cases e; done) | skip
                  exact fun ρ' H' a' w' u q1 q2 q3 q4 q4x q5 q6 q7 => leave (u := .panicking _) e (fun h => by cases h) (.pan q3) q1 q2 q4 q4x q5 q6 q7
              · cases hcal
            · cases hop1
          · cases hop0
        · cases hrest
      · intro hne
        obtain ⟨ex, st⟩ := y
        cases ex with
        | nrm => exact (hne rfl).elim
        | exit id => cases e
        | out => (cases e; exact hout rfl)
        | ret =>
          intro ρ' H' a' w' q1 q2 q3 q4
          show Leaves P fn a'.tmps R a'.defers .returning w'
          rw [q1.env.defers]
          exact fin e ρ' H' a' w' q1.heap q1.env.rel q2 q3
        | pan v =>
          intro ρ' H' a' w' u q1 q2 q3 q4 _ q5 q6 q7
          show Leaves P fn a'.tmps R a'.defers _ w'
          rw [q4]
          cases e
          subst hR
          exact ⟨v, st.heap, ρ', H', u, rfl, rfl, ⟨q1, q5, stays q6, fun l hl => by obtain ⟨k, _, hk⟩ := q2 l hl; exact ⟨k, hk⟩, q7⟩, q3⟩
    · cases e
  · cases hfun
end
end Go.Rf

namespace Go.Rf
variable {B : Ice}
section
variable {P : Program} {N p : Nat} {ρ : Map} {H : Ice} {w : World}
theorem za7 {T : Tab} {X : Exts} (hT : ∀ f af, T.funs f = some af → okFun P f af = true) (hR : ∀ f r, T.recs f = some r → qvt P f r = true) (hX : ∀ f e, X.run f = some e → ExtOk B P f e) : ∀ n, CFOk B P (call T X n) ∧ ∀ g vs hp r, call T X n g vs hp = some r → funOk P g = true
  | 0 => ⟨fun f vs heap r e => by simp [call] at e, fun g vs hp r e => by simp [call] at e⟩
  | n + 1 => by
    obtain ⟨ih1, ih2⟩ := za7 hT hR hX n
    refine ⟨fun f vs heap r e ρ H w args hB hH hv honly => ?_, fun g vs hp r e => ?_⟩
    · simp only [call] at e
      split at e
      · rename_i ex hex
        exact (hX f ex hex).2 _ ih1 vs heap r e ρ H w args hB hH hv honly
      · split at e
        · split at e
          · rename_i r hr
            exact q9i ih1 ih2 (hR f r hr) e hB hH hv honly
          · cases e
        · rename_i af haf
          have hok := hT f af haf
          simp only [okFun, Bool.and_eq_true] at hok
          obtain ⟨_, hok⟩ := hok
          split at hok
          · rename_i fn hfn
            simp only [Bool.and_eq_true, decide_eq_true_eq] at hok
            obtain ⟨⟨k1, k2⟩, k3⟩ := hok
            cases hb : fn.body with
            | none => rw [hb] at k1; cases k1
            | some c =>
            rw [hb] at k1
            simp only at k1
            split at e
            · rename_i hnp
              have hS : StRel B [] [] ρ H fn.ntmps { env := (List.range af.np).zip vs, heap := heap } { tmps := args ++ Array.replicate (fn.ntmps - args.size) undef, defers := [] } w :=
                ⟨hH, by rw [← hnp]; exact q0j hB hv (by omega), honly⟩
              have stays : ∀ {ρ' : Map}, qeg heap.length ρ ρ' → Stays ρ ρ' := fun h l hl => by
                obtain ⟨k, hk, rfl⟩ := honly l hl
                exact h k hk hl
              unfold qof
              apply calls_of_wp hfn hb
              have fin : ∀ {st : St}, qjh heap.length af.res st = some r → ∀ ρ' H' a' w', StRel B [] [] ρ' H' fn.ntmps st a' w' → Trans ρ H w ρ' H' w' → qeg heap.length ρ ρ' →
                  a'.defers = [] ∧ ∃ v, (results fn a'.tmps).run P w' = .ok v w' ∧ ∃ rs os ρ2 H2, r = .ret rs os ∧ CallEnd ρ H w heap.length os ρ2 H2 w' ∧ VRel ρ2 H2 (untup rs) v := by
                intro st e ρ' H' a' w' q1 q2 q3
                obtain ⟨rs, os, ρ2, H2, v, rfl, r1, r2, r3, r4, r5, r6, r7⟩ := qx2 q1.heap q1.env.rel k2 e
                exact ⟨q1.env.defers, v, r1, rs, os, ρ2, H2, rfl, ⟨r2, q2.trans r3, stays (q3.trans r5), r4, r6⟩, r7⟩
              split at e
              · rename_i st e1
                exact qcj (ds := []) (fx := []) (p := heap.length) ih1 ih2 af.code c k1 (qdu _) n _ _ e1 ρ H w _ _ hS (Nat.le_refl _) (fun ρ' H' a' w' q1 q2 q3 _ => fin e ρ' H' a' w' q1 q2 q3)
              · rename_i st e1
                exact qcj (ds := []) (fx := []) (p := heap.length) ih1 ih2 af.code c k1 (qdu _) n _ _ e1 ρ H w _ _ hS (Nat.le_refl _) (fun ρ' H' a' w' q1 q2 q3 _ => fin e ρ' H' a' w' q1 q2 q3)
              · rename_i v st e1
                cases e
                exact qcj (ds := []) (fx := []) (p := heap.length) ih1 ih2 af.code c k1 (qdu _) n _ _ e1 ρ H w _ _ hS (Nat.le_refl _) (fun ρ' H' a' w' u q1 q2 q3 q4 _ q5 q6 q7 =>
                  ⟨q4, v, st.heap, ρ', H', u, rfl, rfl, ⟨q1, q5, stays q6, (fun l hl => by obtain ⟨k, _, hk⟩ := q2 l hl; exact ⟨k, hk⟩), q7⟩, q3⟩)
              · rename_i st e1
                cases e
                exact qcj (ds := []) (fx := []) (p := heap.length) ih1 ih2 af.code c k1 (qdu _) n _ _ e1 ρ H w _ _ hS (Nat.le_refl _) ⟨{ tmps := #[], defers := [] }, w, rfl⟩
              · cases e
            · cases e
          · cases hok
    · simp only [call] at e
      split at e
      · rename_i ex hex
        exact (hX g ex hex).1
      · split at e
        · split at e
          · rename_i r hr
            have hok := hR g r hr
            simp only [qvt, Bool.and_eq_true] at hok
            exact hok.1.1.1.1
          · cases e
        · rename_i af haf
          have hok := hT g af haf
          simp only [okFun, Bool.and_eq_true] at hok
          exact hok.1
end
end Go.Rf
