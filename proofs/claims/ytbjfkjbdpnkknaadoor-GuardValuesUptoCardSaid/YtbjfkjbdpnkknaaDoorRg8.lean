/- Parts of the proof: RfDraw3, RfDraw4, RfCode2. -/
import Derived.Test.YtbjfkjbdpnkknaaDoorRg7
import Derived.Scope

/- Regions whose order is drawn: every order that can come. -/
namespace Go.Rf
variable {B : Ice} {ds : List Deferred} {fx : List (Nat × Value)}

/-! ### What must come before what -/
def edgesOf (ops : Array Oper) (j : Nat) : List Nat := ((ops[j]?).map fun o => (o.after.toList.filter (Region.binds .any ·)).map (·.on)).getD []

theorem ready_edges {ops : Array Oper} {listed : Array Bool} {i : Nat} : i ∈ Region.ready .any ops listed ↔ i < ops.size ∧ listed.getD i true = false ∧ ∀ j ∈ edgesOf ops i, listed.getD j false = true := by
  unfold Region.ready
  simp only [List.mem_filter, List.mem_range, Bool.and_eq_true, Bool.not_eq_true']
  refine and_congr_right fun hi => and_congr_right fun _ => ?_
  unfold edgesOf
  rw [Array.getElem?_eq_getElem hi]
  simp only [Option.map_some, Option.getD_some, List.mem_map, List.mem_filter]
  rw [← Array.all_toList, List.all_eq_true]
  constructor
  · rintro h j ⟨e, ⟨h1, h2⟩, rfl⟩
    have := h e h1
    rw [h2] at this
    simpa using this
  · intro h e he
    cases hb : Region.binds .any e with
    | false => rfl
    | true => simpa using h e.on ⟨e, ⟨he, hb⟩, rfl⟩

def maskOf (tbl : List Nat) : List Nat → Nat
  | [] => 0
  | e :: es => 2 ^ e ||| tbl.getD e 0 ||| maskOf tbl es

def musts : List (List Nat) → List Nat → List Nat
  | [], tbl => tbl
  | es :: rest, tbl => musts rest (tbl ++ [maskOf tbl es])

def mustT (ops : Array Oper) : List Nat := musts ((List.range ops.size).map (edgesOf ops)) []
def must (tbl : List Nat) (i j : Nat) : Bool := (tbl.getD j 0).testBit i

theorem maskOf_bit {tbl : List Nat} {i : Nat} : ∀ {es : List Nat}, (maskOf tbl es).testBit i = true → ∃ e ∈ es, i = e ∨ (tbl.getD e 0).testBit i = true
  | [], h => by simp [maskOf] at h
  | e :: es, h => by
    simp only [maskOf, Nat.testBit_or, Bool.or_eq_true] at h
    rcases h with (h | h) | h
    · rw [Nat.testBit_two_pow] at h
      exact ⟨e, List.mem_cons_self .., .inl (by simpa using (of_decide_eq_true h).symm)⟩
    · exact ⟨e, List.mem_cons_self .., .inr h⟩
    · obtain ⟨x, h1, h2⟩ := maskOf_bit h
      exact ⟨x, List.mem_cons_of_mem _ h1, h2⟩

theorem musts_prefix : ∀ (ess : List (List Nat)) (tbl : List Nat), tbl <+: musts ess tbl
  | [], _ => List.prefix_refl _
  | _ :: rest, tbl => (List.prefix_append tbl _).trans (musts_prefix rest _)

theorem getD_prefix {a b : List Nat} (h : a <+: b) {e i : Nat} (k : (a.getD e 0).testBit i = true) : (b.getD e 0).testBit i = true := by
  obtain ⟨t, rfl⟩ := h
  by_cases he : e < a.length
  · rw [List.getD_eq_getElem?_getD, List.getElem?_append_left he, ← List.getD_eq_getElem?_getD]; exact k
  · rw [List.getD_eq_getElem?_getD, List.getElem?_eq_none (by omega)] at k
    simp at k

theorem musts_get : ∀ (ess : List (List Nat)) (tbl : List Nat) (k : Nat) (es : List Nat), ess[k]? = some es → ∃ tb, tb <+: musts ess tbl ∧ (musts ess tbl).getD (tbl.length + k) 0 = maskOf tb es
  | [], _, k, _, h => by simp at h
  | e :: rest, tbl, 0, es, h => by
    simp only [List.getElem?_cons_zero, Option.some.injEq] at h
    subst h
    refine ⟨tbl, musts_prefix _ _, ?_⟩
    obtain ⟨t, ht⟩ := musts_prefix rest (tbl ++ [maskOf tbl e])
    simp only [musts, ← ht]
    simp
  | e :: rest, tbl, k + 1, es, h => by
    obtain ⟨tb, h1, h2⟩ := musts_get rest (tbl ++ [maskOf tbl e]) k es (by simpa using h)
    refine ⟨tb, h1, ?_⟩
    rw [← h2]
    simp only [musts, List.length_append, List.length_singleton]
    congr 1
    omega

theorem must_step {ops : Array Oper} {i j : Nat} (h : must (mustT ops) i j = true) : ∃ e ∈ edgesOf ops j, i = e ∨ must (mustT ops) i e = true := by
  unfold must at h
  by_cases hj : j < ops.size
  · obtain ⟨tb, h1, h2⟩ := musts_get ((List.range ops.size).map (edgesOf ops)) [] j (edgesOf ops j) (by simp [hj])
    simp only [List.length_nil, Nat.zero_add] at h2
    unfold mustT at h
    rw [h2] at h
    obtain ⟨e, a1, a2⟩ := maskOf_bit h
    exact ⟨e, a1, a2.imp id (getD_prefix h1)⟩
  · exfalso
    have hl : (mustT ops).length = ops.size := by
      have : ∀ (ess : List (List Nat)) (tbl : List Nat), (musts ess tbl).length = tbl.length + ess.length := by
        intro ess
        induction ess with
        | nil => intro tbl; rfl
        | cons e ess ih => intro tbl; simp only [musts, ih, List.length_append, List.length_cons, List.length_nil]; omega
      unfold mustT
      rw [this]
      simp
    rw [List.getD_eq_getElem?_getD, List.getElem?_eq_none (by omega)] at h
    simp at h

theorem listed_must {ops : Array Oper} {listed : Array Bool} (hlow : ∀ j, ∀ e ∈ edgesOf ops j, e < j) (hdown : ∀ j, listed.getD j false = true → ∀ e ∈ edgesOf ops j, listed.getD e false = true) :
    ∀ (j : Nat), (∀ e ∈ edgesOf ops j, listed.getD e false = true) → ∀ i, must (mustT ops) i j = true → listed.getD i false = true := by
  intro j
  induction j using Nat.strongRecOn with
  | _ j ih =>
    intro he i hm
    obtain ⟨e, h1, h2⟩ := must_step hm
    rcases h2 with rfl | h2
    · exact he _ h1
    · exact ih e (hlow j e h1) (hdown e (he e h1)) i h2

/-! ### One step of the machine -/
section
variable {P : Program} {T : Tab} {cf : CF} {N : Nat} {ops : Array Oper}

theorem exec_callEff {i : Nat} {op : AOp} {ev : Opnd → Option V} {h : Loc → Option Obj} {r : R} (hc : isCall op = true) (e : exec T cf i op ev h = some r) : ∃ f args, callEff cf f i h args = some r := by
  cases op with
  | call f args => obtain ⟨vs, _, e⟩ := bnd_eq e; exact ⟨_, _, e⟩
  | callV f args =>
    obtain ⟨g, _, e⟩ := bnd_eq e
    obtain ⟨vs, _, e⟩ := bnd_eq e
    obtain ⟨⟨fid, cap⟩, _, e⟩ := bnd_eq e
    exact ⟨_, _, e⟩
  | inv m x args =>
    obtain ⟨v, _, e⟩ := bnd_eq e
    obtain ⟨vs, _, e⟩ := bnd_eq e
    obtain ⟨⟨t, y⟩, _, e⟩ := bnd_eq e
    obtain ⟨⟨f, path⟩, _, e⟩ := bnd_eq e
    cases path with
    | none => exact ⟨_, _, e⟩
    | some p =>
      obtain ⟨off, n, ag⟩ := p
      obtain ⟨r, _, e⟩ := bnd_eq e
      exact ⟨_, _, e⟩
  | build z ps own => cases own <;> cases hc
  | conv k x => cases k <;> cases hc
  | _ => cases hc

theorem execD_sound {o : Oper} {a : Act} {w : World} {ρ : Map} {H : Ice} {h : Loc → Option Obj} {i : Nat} {env : List (Nat × V)} {op : AOp} {A : List Loc} {r : R} (hcf : CFOk B P cf) (hfs : ∀ g vs hp r, cf g vs hp = some r → funOk P g = true)
    (hH : HRel ρ H h w) (hE : EnvRel B ds fx ρ H N env a) (hN : ∀ k, ρ (.n i k) = .none) (hok : okOp P op o.op = true) (e : execD T cf i op A (evO env) h = some r) (hw : ∀ e, r = .ok e ∨ r = .pan e → okRec (kindOf op) A i e.wr = true) : Sound P o a w ρ H h i r := by
  unfold execD at e
  cases hc : isCall op with
  | false => rw [hc, sel_false] at e; exact exec_sound hcf hfs hH hE hN hok e
  | true =>
    rw [hc, sel_true] at e
    have hk : kindOf op = 3 := by simpa [isCall] using hc
    have hs := exec_sound (o := o) hcf hfs (hH.only A.contains) (hE.mono (onlyM_stays _ ρ) (fun _ _ _ e => e)) (fun k => onlyM_none (hN k)) hok e
    obtain ⟨f, args, ec⟩ := exec_callEff hc e
    refine hs.widen hH hN fun ef hef => ⟨?_, callEff_locs ec ef hef⟩
    have := hw ef hef
    rw [hk] at this
    exact this

theorem comes_sound (hcf : CFOk B P cf) (hfs : ∀ g vs hp r, cf g vs hp = some r → funOk P g = true) {Q : Exit → Act → World → Prop} {o : Oper} {ai : AIns} (ho : ops[ai.i]? = some o) (hok : okIns P N ops o ai = true) (hav : ∀ x ∈ fx, ai.dst ≠ some x.1)
    {A : List Loc} {s : RS} {x : SR} (e : Comes T cf ai A s x) {ρ : Map} {H : Ice} {w : World} {a : Act} {K : Act → World → Prop} (hH : HRel ρ H s.h w) (hE : EnvRel B ds fx ρ H N s.env a) (hN : ∀ k, ρ (.n ai.i k) = .none)
    (hk : match x with
      | .go s1 _ => ∀ ρ' H' a' w', HRel ρ' H' s1.h w' → EnvRel B ds fx ρ' H' N s1.env a' → Trans ρ H w ρ' H' w' → Stays ρ ρ' → NewAt ai.i ρ ρ' → K a' w'
      | .pan v s1 _ => ∀ ρ' H' w' u, HRel ρ' H' s1.h w' → Trans ρ H w ρ' H' w' → Stays ρ ρ' → VRel ρ' H' v u → Q (.panic [{ v := u, recovered := false }]) a w'
      | .out => LetsOut Q) : wpOp P ops Q ai.i K a w := by
  simp only [okIns, Bool.and_eq_true, decide_eq_true_eq] at hok
  obtain ⟨⟨⟨k1, k2⟩, k3⟩, k4⟩ := hok
  have hdst : ∀ t, o.dst = some t → t < N ∧ ∀ x ∈ fx, x.1 ≠ t := fun t ht => by
    rw [k2] at ht
    refine ⟨?_, fun x hx he => hav x hx (by rw [ht, he])⟩
    rw [ht] at k3
    simpa using k3
  unfold wpOp
  simp only [ho]
  cases e with
  | skip hg =>
    rw [wanted_rel (ops := ops) (o := o) hE k4 hg]
    simp only [Bool.false_eq_true, if_false]
    exact hk ρ H _ w hH (by rw [← k2]; exact hE.put o.dst hdst ⟨[], rfl, rfl⟩) (Trans.refl ..) (Stays.refl _) (NewAt.refl _ _)
  | ok hg k q =>
    rw [wanted_rel (ops := ops) (o := o) hE k4 hg]
    simp only [if_true]
    refine execD_sound (o := o) hcf hfs hH hE hN k1 k (fun ef hef => by rcases hef with h | h <;> cases h; exact q) _ _ ?_
    intro ρ' H' v w' hp
    exact hk ρ' H' _ w' hp.heap (by rw [← k2]; exact (hE.mono hp.stays (hp.trans.le hH)).put o.dst hdst hp.val) hp.trans hp.stays hp.new
  | pan hg k q =>
    rw [wanted_rel (ops := ops) (o := o) hE k4 hg]
    simp only [if_true]
    refine execD_sound (o := o) hcf hfs hH hE hN k1 k (fun ef hef => by rcases hef with h | h <;> cases h; exact q.2) _ _ ?_
    intro ρ' H' v w' hp
    exact hk ρ' H' w' v hp.heap hp.trans hp.stays hp.val
  | out hg k q =>
    rw [wanted_rel (ops := ops) (o := o) hE k4 hg]
    simp only [if_true]
    exact execD_sound (o := o) hcf hfs hH hE hN k1 k (fun ef hef => by rcases hef with h | h <;> cases h) _ _ hk

/-! ### All of them -/
def PostD (B : Ice) (ds : List Deferred) (fx : List (Nat × Value)) (ρ : Map) (H : Ice) (w : World) (N : Nat) (Q : Exit → Act → World → Prop) : RR → Prop
  | .nrm s => ∀ ρ' H' a' w' env', (∀ t, getE s.env t = getE env' t) → HRel ρ' H' s.h w' → EnvRel B ds fx ρ' H' N env' a' → Trans ρ H w ρ' H' w' → Stays ρ ρ' → Q .normal a' w'
  | .pan i v s => ∀ ρ' H' a' w' u h', (∀ l, Loc.oldOr i l = true → s.h l = h' l) → HRel ρ' H' h' w' → a'.defers = ds → (∀ t u, (t, u) ∈ fx → a'.tmps.getD t undef = u) → Trans ρ H w ρ' H' w' → Stays ρ ρ' → VRel ρ' H' v u → Q (.panic [{ v := u, recovered := false }]) a' w'
  | .out => LetsOut Q

theorem PostD.eqv {ρ : Map} {H : Ice} {w : World} {Q : Exit → Act → World → Prop} {r r' : RR} (h : PostD B ds fx ρ H w N Q r) (e : EqvR r r') : PostD B ds fx ρ H w N Q r' := by
  cases e with
  | nrm e => exact fun ρ' H' a' w' env' h1 h2 => h ρ' H' a' w' env' (fun t => (e.2 t).trans (h1 t)) (by rw [e.1]; exact h2)
  | pan e => exact fun ρ' H' a' w' u h' h1 => h ρ' H' a' w' u h' (fun l hl => (e l hl).trans (h1 l hl))
  | out => exact h

theorem PostD.shift {ρ ρ1 : Map} {H H1 : Ice} {w w1 : World} {Q : Exit → Act → World → Prop} {r : RR} (h : PostD B ds fx ρ H w N Q r) (ht : Trans ρ H w ρ1 H1 w1) (hs : Stays ρ ρ1) : PostD B ds fx ρ1 H1 w1 N Q r := by
  cases r with
  | nrm s => exact fun ρ' H' a' w' env' h1 h2 h3 h4 h5 => h ρ' H' a' w' env' h1 h2 h3 (ht.trans h4) (hs.trans h5)
  | pan i v s => exact fun ρ' H' a' w' u h' h1 h2 h3 h3x h4 h5 => h ρ' H' a' w' u h' h1 h2 h3 h3x (ht.trans h4) (hs.trans h5)
  | out => exact h

theorem drawn_sound (hcf : CFOk B P cf) (hfs : ∀ g vs hp r, cf g vs hp = some r → funOk P g = true) {Q : Exit → Act → World → Prop} (hlow : ∀ j, ∀ e ∈ edgesOf ops j, e < j) :
    ∀ (fuel : Nat) (listed : Array Bool) (E : List Item) (U : List AIns) (s : RS) (rr : RR) (ρ : Map) (H : Ice) (a : Act) (w : World),
    listed.size = ops.size → E.length + U.length ≤ fuel →
    (∀ j, j < ops.size → (listed.getD j false = false ↔ j ∈ E.map (·.1.i) ++ U.map (·.i))) → (E.map (·.1.i) ++ U.map (·.i)).Nodup → (∀ j, j ∈ E.map (·.1.i) ++ U.map (·.i) → j < ops.size) →
    (∀ j, listed.getD j false = true → ∀ e ∈ edgesOf ops j, listed.getD e false = true) →
    (∀ ai ∈ E.map (·.1) ++ U, (∃ o, ops[ai.i]? = some o ∧ okIns P N ops o ai = true) ∧ ∀ x ∈ fx, ai.dst ≠ some x.1) →
    E.Pairwise (fun p x => must (mustT ops) p.1.i x.1.i = true ∨ Ind p x) →
    (U = [] ∨ ∃ E0 z, E = E0 ++ [z] ∧ (∀ s2, rr ≠ .nrm s2) ∧ ∀ y ∈ U, must (mustT ops) z.1.i y.i = true) →
    (∀ E0 z, E = E0 ++ [z] → (∃ j v s2, rr = .pan j v s2) → ∀ p ∈ E0, must (mustT ops) p.1.i z.1.i = true ∨ ∀ l ∈ p.2.2.wr, Loc.oldOr z.1.i l = false) →
    Runs T cf E s rr → HRel ρ H s.h w → EnvRel B ds fx ρ H N s.env a → (∀ j ∈ E.map (·.1.i) ++ U.map (·.i), ∀ k, ρ (.n j k) = .none) → PostD B ds fx ρ H w N Q rr →
    wpAny P .any ops Q fuel listed a w := by
  intro fuel
  induction fuel with
  | zero =>
    intro listed E U s rr ρ H a w hsz hlen hl hnd hlt hdown hins hpw hU hpan hr hH hE hN hp
    have hE0 : E = [] := List.eq_nil_of_length_eq_zero (by omega)
    have hU0 : U = [] := List.eq_nil_of_length_eq_zero (by omega)
    subst hE0
    subst hU0
    cases hr
    refine ⟨?_, hp ρ H a w s.env (fun _ => rfl) hH hE (Trans.refl ..) (Stays.refl _)⟩
    rw [List.eq_nil_iff_forall_not_mem]
    intro i hi
    obtain ⟨h1, h2, _⟩ := ready_edges.1 hi
    have : listed.getD i false = false := by
      rw [← h2]
      simp [Array.getD, hsz, h1]
    have := (hl i h1).1 this
    simp at this
  | succ fuel ih =>
    intro listed E U s rr ρ H a w hsz hlen hl hnd hlt hdown hins hpw hU hpan hr hH hE hN hp
    have getd : ∀ i, i < ops.size → listed.getD i true = listed.getD i false := fun i hi => by simp [Array.getD, hsz, hi]
    refine ⟨fun hready => ?_, fun i hi => ?_⟩
    · -- all of them are listed
      have hall : E.map (·.1.i) ++ U.map (·.i) = [] := by
        rw [List.eq_nil_iff_forall_not_mem]
        have : ∀ j, j ∉ E.map (·.1.i) ++ U.map (·.i) := by
          intro j
          induction j using Nat.strongRecOn with
          | _ j ihj =>
            intro hm
            have hjs := hlt j hm
            have : j ∈ Region.ready .any ops listed := ready_edges.2 ⟨hjs, by rw [getd j hjs]; exact (hl j hjs).2 hm, fun e he => by
              have hej := hlow j e he
              cases hle : listed.getD e false with
              | true => rfl
              | false => exact (ihj e hej ((hl e (by omega)).1 hle)).elim⟩
            rw [hready] at this
            cases this
        exact this
      rw [List.append_eq_nil_iff, List.map_eq_nil_iff, List.map_eq_nil_iff] at hall
      obtain ⟨rfl, rfl⟩ := hall
      cases hr
      exact hp ρ H a w s.env (fun _ => rfl) hH hE (Trans.refl ..) (Stays.refl _)
    · obtain ⟨h1, h2, h3⟩ := ready_edges.1 hi
      rw [getd i h1] at h2
      have hmem := (hl i h1).1 h2
      have hmust := listed_must hlow hdown i h3
      have nolist : ∀ j ∈ E.map (·.1.i) ++ U.map (·.i), must (mustT ops) j i = false := fun j hj => by
        cases hm : must (mustT ops) j i with
        | false => rfl
        | true =>
          have a1 := hmust j hm
          have a2 := (hl j (hlt j hj)).2 hj
          rw [a1] at a2
          cases a2
      rcases List.mem_append.1 hmem with hm | hm
      · obtain ⟨x, hx, rfl⟩ := List.mem_map.1 hm
        obtain ⟨pre, post, rfl⟩ := List.append_of_mem hx
        obtain ⟨⟨o, ho, hok⟩, hav⟩ := hins x.1 (List.mem_append_left _ (List.mem_map_of_mem hx))
        have hpre : ∀ p ∈ pre, must (mustT ops) p.1.i x.1.i = false := fun p hp => nolist _ (List.mem_append_left _ (List.mem_map_of_mem (f := fun z : Item => z.1.i) (List.mem_append_left _ hp)))
        have hfront := front pre post x s rr hr (fun p hp => by
          refine ⟨?_, fun hpost hpn l' hl' => ?_⟩
          · rcases (List.pairwise_append.1 hpw).2.2 p hp x (List.mem_cons_self ..) with h | h
            · rw [hpre p hp] at h; cases h
            · exact h
          · subst hpost
            rcases hpan pre x rfl hpn p hp with h | h
            · rw [hpre p hp] at h; cases h
            · exact h l' hl')
        have hNx : ∀ k, ρ (.n x.1.i k) = .none := hN _ (List.mem_append_left _ hm)
        cases hfront with
        | out hA h hrd e => exact comes_sound hcf hfs ho hok hav h hH hE hNx (by subst e; exact hp)
        | pan hA h e hpost => exact comes_sound hcf hfs ho hok hav h hH hE hNx (fun ρ' H' w' u q1 q2 q3 q4 => (hp.eqv e) ρ' H' a w' u _ (fun _ _ => rfl) q1 hE.defers hE.fix q2 q3 q4)
        | @go s1 rr' hA h k e hpost =>
          refine comes_sound hcf hfs ho hok hav h hH hE hNx (fun ρ' H' a' w' q1 q2 q3 q4 q5 => ?_)
          -- what is left
          have hsub : ∀ j, j ∈ (pre ++ post).map (fun z : Item => z.1.i) ++ U.map (·.i) → j ∈ (pre ++ x :: post).map (fun z : Item => z.1.i) ++ U.map (·.i) := fun j hj => by
            simp only [List.map_append, List.map_cons, List.mem_append, List.mem_cons] at hj ⊢
            rcases hj with (hj | hj) | hj
            · exact .inl (.inl hj)
            · exact .inl (.inr (.inr hj))
            · exact .inr hj
          have hperm : (x.1.i :: ((pre ++ post).map (fun z : Item => z.1.i) ++ U.map (·.i))).Nodup := by
            refine List.Perm.nodup ?_ hnd
            simp only [List.map_append, List.map_cons, List.append_assoc, List.cons_append]
            exact List.perm_middle
          have hne : ∀ j, j ∈ (pre ++ post).map (fun z : Item => z.1.i) ++ U.map (·.i) → j ≠ x.1.i := fun j hj he => (List.nodup_cons.1 hperm).1 (he ▸ hj)
          have upd : ∀ j, (listed.setIfInBounds x.1.i true).getD j false = if j = x.1.i then true else listed.getD j false := fun j => by
            by_cases hj : j = x.1.i
            · subst hj
              simp [Array.getD, hsz, h1]
            · simp only [Array.getD_eq_getD_getElem?, Array.getElem?_setIfInBounds_ne (Ne.symm hj), if_neg hj]
          refine ih (listed.setIfInBounds x.1.i true) (pre ++ post) U s1 rr' ρ' H' a' w' (by simpa using hsz) ?_ (fun j hj => ?_) (List.nodup_cons.1 hperm).2 (fun j hj => hlt j (hsub j hj)) (fun j hj e he => ?_) (fun ai hai => ?_) ?_ ?_ ?_ k q1 q2 (fun j hj kk => ?_) ((hp.eqv e).shift q3 q4)
          · simp only [List.length_append, List.length_cons] at hlen ⊢; omega
          · rw [upd]
            by_cases hjx : j = x.1.i
            · rw [if_pos hjx]
              refine ⟨fun h => absurd h (by simp), fun h => (hne j h hjx).elim⟩
            · rw [if_neg hjx, hl j hj]
              refine ⟨fun h => ?_, hsub j⟩
              simp only [List.map_append, List.map_cons, List.mem_append, List.mem_cons] at h ⊢
              rcases h with (h | h | h) | h
              · exact .inl (.inl h)
              · exact (hjx h).elim
              · exact .inl (.inr h)
              · exact .inr h
          · rw [upd] at hj ⊢
            by_cases hex : e = x.1.i
            · rw [if_pos hex]
            · rw [if_neg hex]
              by_cases hjx : j = x.1.i
              · subst hjx; exact h3 e he
              · rw [if_neg hjx] at hj
                exact hdown j hj e he
          · refine hins ai ?_
            simp only [List.map_append, List.map_cons, List.mem_append, List.mem_cons] at hai ⊢
            rcases hai with (h | h) | h
            · exact .inl (.inl h)
            · exact .inl (.inr (.inr h))
            · exact .inr h
          · obtain ⟨p1, p2, p3⟩ := List.pairwise_append.1 hpw
            exact List.pairwise_append.2 ⟨p1, (List.pairwise_cons.1 p2).2, fun p hp y hy => p3 p hp y (List.mem_cons_of_mem _ hy)⟩
          · rcases hU with h | ⟨E0, z, h1, h2, h3⟩
            · exact .inl h
            · right
              have hnn : post ≠ [] := fun hpo => by obtain ⟨s2, hs2⟩ := hpost hpo; exact h2 s2 hs2
              obtain ⟨post0, z', rfl⟩ : ∃ p0 z', post = p0 ++ [z'] := ⟨post.dropLast, post.getLast hnn, (List.dropLast_concat_getLast hnn).symm⟩
              have hz : E0 ++ [z] = (pre ++ x :: post0) ++ [z'] := by rw [← h1]; simp
              have hzz := (List.append_inj' hz rfl).2
              simp only [List.cons.injEq, and_true] at hzz
              subst hzz
              refine ⟨pre ++ post0, z, by simp, fun s2 hs2 => ?_, h3⟩
              subst hs2
              cases e with
              | nrm _ => exact h2 _ rfl
          · intro E0 z hz hpn p hp
            have hnn : post ≠ [] := fun hpo => by
              obtain ⟨s2, hs2⟩ := hpost hpo
              subst hs2
              obtain ⟨j, v, s3, h⟩ := hpn
              subst h
              cases e
            obtain ⟨post0, z', rfl⟩ : ∃ p0 z', post = p0 ++ [z'] := ⟨post.dropLast, post.getLast hnn, (List.dropLast_concat_getLast hnn).symm⟩
            have hz2 : E0 ++ [z] = (pre ++ post0) ++ [z'] := by rw [← hz]; simp
            obtain ⟨hz3, hzz⟩ := List.append_inj' hz2 rfl
            simp only [List.cons.injEq, and_true] at hzz
            subst hzz
            subst hz3
            refine hpan (pre ++ x :: post0) z (by simp) ?_ p ?_
            · obtain ⟨j, v, s3, h⟩ := hpn
              subst h
              cases e with
              | pan _ => exact ⟨_, _, _, rfl⟩
            · rcases List.mem_append.1 hp with h | h
              · exact List.mem_append_left _ h
              · exact List.mem_append_right _ (List.mem_cons_of_mem _ h)
          · cases hq : ρ' (.n j kk) with
            | none => rfl
            | _ =>
              exfalso
              obtain ⟨k', hk'⟩ := q5 _ (hN j (hsub j hj) kk) (by rw [hq]; intro h; cases h)
              injection hk' with hk' _
              exact hne j hj hk'
      · rcases hU with h | ⟨E0, z, h1', h2', h3'⟩
        · subst h; simp at hm
        · obtain ⟨y, hy, rfl⟩ := List.mem_map.1 hm
          have := nolist z.1.i (List.mem_append_left _ (List.mem_map_of_mem (f := fun z : Item => z.1.i) (by rw [h1']; simp)))
          rw [h3' y hy] at this
          cases this
end
end Go.Rf

/- Regions whose order is drawn: what a digest is asked, and that the machine does what it says. -/
namespace Go.Rf
variable {B : Ice} {ds : List Deferred} {fx : List (Nat × Value)}

def calm (a b : AOp) : Bool := kindOf a == 0 || kindOf b == 0 || (kindOf a == 1 && kindOf b == 1)

def indS (p x : AIns) : Bool :=
  (match p.dst with | some t => !(slotsOf x).contains t && decide (x.dst ≠ some t) | none => true) && (match x.dst with | some t => !(slotsOf p).contains t | none => true)

def okPairs (tbl : List Nat) (ps : List (Nat × Nat)) : List AIns → Bool
  | [] => true
  | p :: L => L.all (fun x => must tbl p.i x.i || (indS p x && (calm p.op x.op || ps.contains (p.i, x.i)))) && okPairs tbl ps L

def okEnds (tbl : List Nat) (es : List Nat) : List AIns → Bool
  | [] => true
  | z :: L => (!es.contains z.i || L.all (fun y => must tbl z.i y.i)) && okEnds tbl es L

def okRegionD (P : Program) (N : Nat) (ops : Array Oper) (L : List AIns) (d : List (Nat × Nat) × List Nat) : Bool :=
  P.follows .mixedOrders && (List.range ops.size).all (fun j => (edgesOf ops j).all fun e => decide (e < j)) &&
  (List.range ops.size).all (fun j => (L.map (·.i)).contains j) && decide (L.map (·.i)).Nodup && L.all (fun ai => match ops[ai.i]? with
    | some o => okIns P N ops o ai
    | none => false) && (okPairs (mustT ops) d.1 L && okEnds (mustT ops) d.2 L)

def Apt (tbl : List Nat) (ps : List (Nat × Nat)) (p x : AIns) : Prop := must tbl p.i x.i = true ∨ (indS p x = true ∧ (calm p.op x.op = true ∨ (p.i, x.i) ∈ ps))

theorem okPairs_pw {tbl : List Nat} {ps : List (Nat × Nat)} : ∀ {L : List AIns}, okPairs tbl ps L = true → L.Pairwise (Apt tbl ps)
  | [], _ => .nil
  | p :: L, h => by
    simp only [okPairs, Bool.and_eq_true, List.all_eq_true, Bool.or_eq_true, List.contains_iff_mem] at h
    exact .cons (fun x hx => h.1 x hx) (okPairs_pw h.2)

theorem okEnds_at {tbl : List Nat} {es : List Nat} {z : AIns} {U : List AIns} : ∀ {E : List AIns}, okEnds tbl es (E ++ z :: U) = true → z.i ∈ es → ∀ y ∈ U, must tbl z.i y.i = true
  | [], h, hz => by
    simp only [List.nil_append, okEnds, Bool.and_eq_true, Bool.or_eq_true, Bool.not_eq_true', List.all_eq_true] at h
    rcases h.1 with h' | h'
    · rw [← Bool.not_eq_true, List.contains_iff_mem] at h'; exact (h' hz).elim
    · exact h'
  | e :: E, h, hz => by
    simp only [List.cons_append, okEnds, Bool.and_eq_true] at h
    exact okEnds_at h.2 hz

section
variable {P : Program} {T : Tab} {cf : CF} {N : Nat} {ops : Array Oper}

structure Fact (x : Item) : Prop where
  i : x.2.2.i = x.1.i
  k0 : kindOf x.1.op = 0 → x.2.2.rd = [] ∧ x.2.2.wr = []
  k1 : kindOf x.1.op = 1 → x.2.2.wr = []
  sub : ∀ l ∈ x.2.2.ch, l ∈ x.2.2.wr

theorem fact_go {o : AIns} {A : List Loc} {s s' : RS} {r : Rec} (h : Comes T cf o A s (.go s' r)) : Fact (o, A, r) := by
  cases h with
  | skip _ => exact ⟨rfl, fun _ => ⟨rfl, rfl⟩, fun _ => rfl, fun _ h => h⟩
  | ok _ _ q =>
    refine ⟨rfl, fun hk => ?_, fun hk => ?_, fun l hl => chX_sub hl⟩
    · simp only [hk, okRec, Bool.and_eq_true, List.isEmpty_iff] at q
      exact ⟨q.1, by simp only [q.2, List.map_nil]⟩
    · simp only [hk, okRec, List.isEmpty_iff] at q
      simp only [q, List.map_nil]

theorem fact_pan {o : AIns} {A : List Loc} {s s' : RS} {v : V} {r : Rec} (h : Comes T cf o A s (.pan v s' r)) : Fact (o, A, r) ∧ 2 ≤ kindOf o.op := by
  cases h with
  | pan _ _ q => exact ⟨⟨rfl, fun hk => absurd q.1 (by rw [show kindOf o.op = 0 from hk]; omega), fun hk => absurd q.1 (by rw [show kindOf o.op = 1 from hk]; omega), fun _ h => h⟩, q.1⟩

theorem runD_runs {ps : List (Nat × Nat)} {es : List Nat} : ∀ (L : List AIns) (s : RS) (rs : List Rec) (rr : RR) (rs' : List Rec), runD T cf ps es L s rs = some (rr, rs') →
    ∃ (E : List Item) (U : List AIns), L = E.map (·.1) ++ U ∧ Runs T cf E s rr ∧ rs' = (E.map (·.2.2)).reverse ++ rs ∧ (∀ x ∈ E, Fact x) ∧
      ((U = [] ∧ ∃ s2, rr = .nrm s2) ∨ ∃ E0 z, E = E0 ++ [z] ∧ (∀ s2, rr ≠ .nrm s2) ∧ z.1.i ∈ es ∧ ((∃ j v s2, rr = .pan j v s2) → 2 ≤ kindOf z.1.op ∧ panOk ps ((E0.map (·.2.2)).reverse ++ rs) z.1.i = true))
  | [], s, rs, rr, rs', e => by
    cases e
    exact ⟨[], [], rfl, .nil s, rfl, (fun x h => by cases h), .inl ⟨rfl, _, rfl⟩⟩
  | o :: os, s, rs, rr, rs', e => by
    obtain ⟨x, e1, e2⟩ := bnd_eq e
    have hc := comes_iff.1 e1
    cases x with
    | go s1 r =>
      obtain ⟨E, U, a1, a2, a3, a4, a5⟩ := runD_runs os s1 (r :: rs) rr rs' e2
      refine ⟨(o, _, r) :: E, U, by simp [a1], .go (fun _ => rfl) hc a2, by simp [a3], fun x hx => ?_, ?_⟩
      · rcases List.mem_cons.1 hx with rfl | hx
        · exact fact_go hc
        · exact a4 x hx
      · rcases a5 with h | ⟨E0, z, h1, h2, h3, h4⟩
        · exact .inl h
        · refine .inr ⟨(o, _, r) :: E0, z, by rw [h1]; rfl, h2, h3, fun hpn => ?_⟩
          have := h4 hpn
          simpa using this
    | pan v s1 r =>
      obtain ⟨hk, h⟩ := sel_some e2
      cases h
      simp only [Bool.and_eq_true, List.contains_iff_mem] at hk
      obtain ⟨hf, hq⟩ := fact_pan hc
      refine ⟨[(o, _, r)], os, rfl, .pan (fun _ => rfl) hc, rfl, fun x hx => ?_, .inr ⟨[], (o, _, r), rfl, (fun s2 h => by cases h), hk.1, fun _ => ⟨hq, hk.2⟩⟩⟩
      rw [List.mem_singleton] at hx
      subst hx
      exact hf
    | out =>
      obtain ⟨hk, h⟩ := sel_some e2
      cases h
      simp only [List.contains_iff_mem] at hk
      refine ⟨[(o, _, _)], os, rfl, .out (fun _ => rfl) hc, rfl, fun x hx => ?_, .inr ⟨[], (o, _, _), rfl, (fun s2 h => by cases h), hk, fun hpn => ?_⟩⟩
      · rw [List.mem_singleton] at hx
        subst hx
        refine ⟨rfl, fun h0 => ?_, fun _ => rfl, fun _ h => h⟩
        cases hc with
        | out _ _ q =>
          rcases q with q | q
          · exact (q h0).elim
          · exact ⟨q, rfl⟩
      · obtain ⟨j, v, s2, h⟩ := hpn
        cases h

theorem recOf_mem : ∀ {l : List Rec} {r : Rec}, (l.map (·.i)).Nodup → r ∈ l → recOf l r.i = some r
  | x :: l, r, hn, hr => by
    rw [List.map_cons, List.nodup_cons] at hn
    unfold recOf
    rw [List.find?_cons]
    rcases List.mem_cons.1 hr with rfl | hr
    · simp
    · have : (x.i == r.i) = false := by
        rw [beq_eq_false_iff_ne]
        intro h
        exact hn.1 (h ▸ List.mem_map_of_mem hr)
      simp only [this]
      exact recOf_mem hn.2 hr

theorem indS_slots {p x : AIns} (h : indS p x = true) : (∀ t, p.dst = some t → t ∉ slotsOf x) ∧ (∀ t, x.dst = some t → t ∉ slotsOf p) ∧ ∀ t, p.dst = some t → x.dst ≠ some t := by
  unfold indS at h
  rw [Bool.and_eq_true] at h
  obtain ⟨h1, h2⟩ := h
  refine ⟨fun t ht => ?_, fun t ht => ?_, fun t ht => ?_⟩
  · rw [ht] at h1
    simp only [Bool.and_eq_true, Bool.not_eq_true'] at h1
    rw [← List.contains_iff_mem, h1.1]
    exact Bool.false_ne_true
  · rw [ht] at h2
    simp only [Bool.not_eq_true'] at h2
    rw [← List.contains_iff_mem, h2]
    exact Bool.false_ne_true
  · rw [ht] at h1
    simp only [Bool.and_eq_true, decide_eq_true_eq] at h1
    exact h1.2

theorem region_soundD (hcf : CFOk B P cf) (hfs : ∀ g vs hp r, cf g vs hp = some r → funOk P g = true) {L : List AIns} {d : List (Nat × Nat) × List Nat} {keep : List Nat} {id p : Nat} (hok : okRegionD P N ops L d = true) (hav : ∀ ai ∈ L, ∀ x ∈ fx, ai.dst ≠ some x.1) {st : St} {r : Ex × St}
    (e : region T cf p L (some d) keep st = some r) {ρ : Map} {H : Ice} {w : World} {a : Act} {Q : Exit → Act → World → Prop} (hS : StRel B ds fx ρ H N st a w) (hp : PostC B ds fx ρ H w N p Q r) :
    (Code.region id ops true).wp P Q a w := by
  simp only [okRegionD, Bool.and_eq_true, List.all_eq_true, List.mem_range, decide_eq_true_eq, List.contains_iff_mem] at hok
  obtain ⟨⟨⟨⟨⟨hm, hlow⟩, hall⟩, hnd⟩, hins⟩, hpairs, hends⟩ := hok
  obtain ⟨⟨rr, rs⟩, e1, e2⟩ := bnd_eq (show (bnd _ _ : Option _) = some r from e)
  simp only at e2
  have hpo : pairsOk d.1 rs = true := by
    cases h : pairsOk d.1 rs with
    | true => rfl
    | false => rw [h] at e2; cases e2
  rw [hpo, sel_true] at e2
  obtain ⟨E, U, a1, a2, a3, a4, a5⟩ := runD_runs L _ _ rr rs e1
  rw [List.append_nil] at a3
  have hids : L.map (·.i) = E.map (·.1.i) ++ U.map (·.i) := by rw [a1]; simp [Function.comp_def]
  have hndE : (E.map (·.1.i)).Nodup := by rw [hids] at hnd; exact (List.nodup_append.1 hnd).1
  have hrecs : ∀ (F : List Item), (∀ x ∈ F, Fact x) → (F.map (·.1.i)).Nodup → ∀ x ∈ F, recOf (F.map (·.2.2)).reverse x.1.i = some x.2.2 := fun F hF hn x hx => by
    rw [← (hF x hx).i]
    refine recOf_mem ?_ (List.mem_reverse.2 (List.mem_map_of_mem hx))
    rw [← List.map_reverse, List.map_map]
    have : F.reverse.map ((fun r : Rec => r.i) ∘ fun x : Item => x.2.2) = (F.map (·.1.i)).reverse := by
      rw [← List.map_reverse]
      exact List.map_congr_left fun y hy => (hF y (List.mem_reverse.1 hy)).i
    rw [this]
    exact (List.reverse_perm _).symm.nodup hn
  have hpw0 : (E.map (·.1)).Pairwise (Apt (mustT ops) d.1) := by
    have := okPairs_pw hpairs
    rw [a1] at this
    exact (List.pairwise_append.1 this).1
  rw [List.pairwise_map] at hpw0
  have hpw : E.Pairwise (fun p x => must (mustT ops) p.1.i x.1.i = true ∨ Ind p x) := by
    refine List.Pairwise.imp_of_mem ?_ hpw0
    intro q x hq hx h
    rcases h with h | ⟨h, hc⟩
    · exact .inl h
    · right
      obtain ⟨s1, s2, s3⟩ := indS_slots h
      have fq := a4 q hq
      have fx := a4 x hx
      rcases hc with hc | hc
      · simp only [calm, Bool.or_eq_true, beq_iff_eq, Bool.and_eq_true] at hc
        rcases hc with (hc | hc) | ⟨hc1, hc2⟩
        · exact ⟨s1, s2, s3, (fun l hl => by have := fq.sub l hl; rw [(fq.k0 hc).2] at this; cases this), (fun l _ hl => by rw [(fq.k0 hc).1] at hl; cases hl)⟩
        · exact ⟨s1, s2, s3, (fun l _ => ⟨by rw [(fx.k0 hc).1]; exact List.not_mem_nil, fun hl => by have := fx.sub l hl; rw [(fx.k0 hc).2] at this; cases this⟩), (fun l hl => by have := fx.sub l hl; rw [(fx.k0 hc).2] at this; cases this)⟩
        · exact ⟨s1, s2, s3, (fun l hl => by have := fq.sub l hl; rw [fq.k1 hc1] at this; cases this), (fun l hl => by have := fx.sub l hl; rw [fx.k1 hc2] at this; cases this)⟩
      · have := List.all_eq_true.1 hpo _ hc
        simp only [a3, hrecs E a4 hndE q hq, hrecs E a4 hndE x hx] at this
        simp only [apart, Bool.or_eq_true, Bool.and_eq_true, List.all_eq_true, Bool.not_eq_true'] at this
        have nc : ∀ {l : Loc} {xs : List Loc}, xs.contains l = false → l ∉ xs := fun {l xs} h hm => by
          rw [List.contains_iff_mem.2 hm] at h; cases h
        rcases this with this | this
        · exact ⟨s1, s2, s3, fun l hl => ⟨nc (this.1 l (fq.sub l hl)).2, fun h => nc (this.1 l (fq.sub l hl)).1 (fx.sub l h)⟩, fun l hl => nc (this.2 l (fx.sub l hl))⟩
        · exact ⟨s1, s2, s3, fun l hl => ⟨nc (this.1 l hl).2, nc (this.1 l hl).1⟩, fun l hl => nc (this.2 l hl)⟩
  have hlt : ∀ j, j ∈ L.map (·.i) → j < ops.size := fun j hj => by
    obtain ⟨ai, h1, rfl⟩ := List.mem_map.1 hj
    have := hins ai h1
    split at this
    · rename_i o ho; exact (Array.getElem?_eq_some_iff.1 ho).1
    · cases this
  refine wp_region_any hm ?_
  refine drawn_sound (T := T) (N := N) hcf hfs (fun j e he => ?_) ops.size (Array.replicate ops.size false) E U { env := st.env, h := ofList st.heap } rr ρ H a { w with drawn := w.drawn + 1 } (by simp) ?_ (fun j hj => ?_) (hids ▸ hnd) (fun j hj => hlt j (hids ▸ hj)) (fun j hj => ?_) (fun ai hai => ?_) hpw ?_ ?_ a2
    (hS.heap.drawn _) hS.env (fun j _ k => ?_) ?_
  · by_cases hj : j < ops.size
    · exact hlow j hj e he
    · unfold edgesOf at he
      rw [Array.getElem?_eq_none (by omega)] at he
      cases he
  · have h1 : (L.map (·.i)).length ≤ (List.range ops.size).length := List.Nodup.length_le_of_subset hnd (fun j hj => List.mem_range.2 (hlt j hj))
    rw [hids] at h1
    simpa using h1
  · rw [← hids]
    simp [hj]
    simpa using hall j hj
  · simp only [Array.getD_eq_getD_getElem?, Array.getElem?_replicate] at hj
    split at hj <;> cases hj
  · rw [← a1] at hai
    have := hins ai hai
    refine ⟨?_, hav ai hai⟩
    split at this
    · rename_i o ho; exact ⟨o, ho, this⟩
    · cases this
  · rcases a5 with ⟨h, _⟩ | ⟨E0, z, h1, h2, h3, _⟩
    · exact .inl h
    · refine .inr ⟨E0, z, h1, h2, ?_⟩
      rw [a1, h1, List.map_append, List.map_cons, List.map_nil, List.append_assoc, List.singleton_append] at hends
      exact okEnds_at hends h3
  · intro E0 z hE hpn q hq
    rcases a5 with ⟨_, s2, h⟩ | ⟨E1, z1, h1, h2, h3, h4⟩
    · subst h; obtain ⟨j, v, s2, h⟩ := hpn; cases h
    · obtain ⟨rfl, hz⟩ := List.append_inj' (hE.symm.trans h1) rfl
      simp only [List.cons.injEq, and_true] at hz
      subst hz
      obtain ⟨k1, k2⟩ := h4 hpn
      rw [List.append_nil] at k2
      have hqE : q ∈ E := by rw [hE]; exact List.mem_append_left _ hq
      have hqz : Apt (mustT ops) d.1 q.1 z.1 := by
        rw [hE] at hpw0
        exact (List.pairwise_append.1 hpw0).2.2 q hq z (List.mem_singleton.2 rfl)
      have hiz : q.1.i ≠ z.1.i := by
        rw [hE, List.map_append] at hndE
        exact (List.nodup_append.1 hndE).2.2 _ (List.mem_map_of_mem (f := fun x : Item => x.1.i) hq) _ (by simp)
      rcases hqz with h | ⟨_, hc⟩
      · exact .inl h
      · right
        intro l hl
        rcases hc with hc | hc
        · simp only [calm, Bool.or_eq_true, beq_iff_eq, Bool.and_eq_true] at hc
          rcases hc with (hc | hc) | ⟨hc1, hc2⟩
          · rw [((a4 q hqE).k0 hc).2] at hl; cases hl
          · omega
          · omega
        · have := List.all_eq_true.1 k2 _ hc
          have hn0 : (E0.map (·.1.i)).Nodup := by
            rw [hE, List.map_append] at hndE
            exact (List.nodup_append.1 hndE).1
          simp only [beq_self_eq_true, sel_true, hrecs E0 (fun x hx => a4 x (by rw [hE]; exact List.mem_append_left _ hx)) hn0 q hq, onO_some, List.all_eq_true] at this
          obtain ⟨k, rfl⟩ := isOf_iff.1 (this l hl)
          simp only [Loc.oldOr, beq_eq_false_iff_ne]
          exact hiz
  · cases hq : ρ (.n j k) with
    | none => rfl
    | _ =>
      obtain ⟨_, _, hk⟩ := hS.only (.n j k) (by rw [hq]; intro h; cases h)
      cases hk
  · cases rr with
    | out => (cases e2; exact hp)
    | nrm s' =>
      intro ρ' H' a' w' env' henv q1 q2 q3 q4
      obtain ⟨st', e3, e4⟩ := bnd_eq e2
      cases e4
      have hk : ∀ ks, keptE s'.env ks = keptE env' ks := by
        intro ks
        induction ks with
        | nil => rfl
        | cons t ks ih => simp only [keptE, henv t, ih]
      have e5 : endR p keep env' s'.h = some st' := by
        unfold endR at e3 ⊢
        rw [← hk]
        exact e3
      obtain ⟨M, m1, m2, m3, m4⟩ := endR_rel q1 q2 e5
      exact hp _ _ _ _ m1 (((Trans.drawn ρ H w _).trans q3).trans m3) ((q4.toP p).trans m2) m4
    | pan j v s' =>
      intro ρ' H' a' w' u h' hh q1 q2 q2x q3 q4 q5
      obtain ⟨ex, st'⟩ := r
      have hfun : only (Loc.oldOr j) s'.h = only (Loc.oldOr j) h' := by
        funext l
        cases hl : Loc.oldOr j l with
        | true => rw [only_pos hl, only_pos hl, hh l hl]
        | false => rw [only_neg hl, only_neg hl]
      have e3 : endP p v (only (Loc.oldOr j) h') = some (ex, st') := by rw [← hfun]; exact e2
      obtain ⟨x, ρ2, H2, rfl, m1, m2, m3, m4, m5, m6⟩ := endP_rel (q1.only (Loc.oldOr j)) (q5.mono (onlyM_stays _ _) (fun _ _ _ e => e)) e3
      exact hp _ _ _ _ u m1 m2 m3 q2 q2x ((((Trans.drawn ρ H w _).trans q3).trans (onlyM_trans _ _ _ _)).trans m4) (((q4.trans (onlyM_stays _ _)).toP p).trans m5) m6
end
end Go.Rf

/- Code does what its digest does. -/
namespace Go.Rf
variable {B : Ice} {ds : List Deferred} {fx : List (Nat × Value)}

def okRegion (P : Program) (N : Nat) (ops : Array Oper) (L : List AIns) : Bool :=
  decide (L.map (·.i) = List.range ops.size) && L.all fun ai => match ops[ai.i]? with
    | some o => okIns P N ops o ai
    | none => false

section
variable {P : Program} {T : Tab} {cf : CF} {N p : Nat}

theorem region_sound (hcf : CFOk B P cf) (hfs : ∀ g vs hp r, cf g vs hp = some r → funOk P g = true) {ops : Array Oper} {L : List AIns} {keep : List Nat} {id : Nat} (hok : okRegion P N ops L = true) (hav : ∀ ai ∈ L, ∀ x ∈ fx, ai.dst ≠ some x.1) {st : St} {r : Ex × St}
    (e : region T cf p L none keep st = some r) {ρ : Map} {H : Ice} {w : World} {a : Act} {Q : Exit → Act → World → Prop} (hS : StRel B ds fx ρ H N st a w) (hp : PostC B ds fx ρ H w N p Q r) :
    (Code.region id ops false).wp P Q a w := by
  simp only [okRegion, Bool.and_eq_true, decide_eq_true_eq] at hok
  obtain ⟨h1, h2⟩ := hok
  obtain ⟨⟨rr, rs⟩, e1, e2⟩ := bnd_eq (show (bnd _ _ : Option _) = some r from e)
  apply wp_region
  rw [← h1]
  refine runL_sound hcf hfs L _ _ rr rs (fun ai hai => ?_) (by rw [h1]; exact List.nodup_range) hav e1 ρ H w a hS.heap hS.env (fun ai _ k => ?_) ?_
  · have := List.all_eq_true.1 h2 ai hai
    split at this
    · rename_i o ho; exact ⟨o, ho, this⟩
    · cases this
  · cases hq : ρ (.n ai.i k) with
    | none => rfl
    | _ =>
      obtain ⟨_, _, hk⟩ := hS.only (.n ai.i k) (by rw [hq]; intro h; cases h)
      cases hk
  · cases rr with
    | out => (cases e2; exact hp)
    | nrm s' =>
      intro ρ' H' a' w' q1 q2 q3 q4 _
      obtain ⟨st', e3, e4⟩ := bnd_eq e2
      cases e4
      obtain ⟨M, m1, m2, m3, m4⟩ := endR_rel q1 q2 e3
      exact hp _ _ _ _ m1 (q3.trans m3) ((q4.toP p).trans m2) m4
    | pan j v s' =>
      intro ρ' H' a' w' u q1 q2 q2' q3 q4 _ q5
      obtain ⟨ex, st'⟩ := r
      obtain ⟨x, ρ2, H2, rfl, m1, m2, m3, m4, m5, m6⟩ := endP_rel q1 q5 (show endP p v s'.h = some (ex, st') from e2)
      exact hp _ _ _ _ u m1 m2 m3 q2 q2' (q3.trans m4) ((q4.toP p).trans m5) m6

/-- Does the digest stand for the code? -/
def okC (P : Program) (N : Nat) : ACode → Code → Bool
  | .skip, c => match c with | .skip => true | .label _ => true | _ => false
  | .region L draw _, c => match c, draw with | .region _ ops false, none => okRegion P N ops L | .region _ ops true, some d => okRegionD P N ops L d | _, _ => false
  | .seq a b, c => match c with | .seq x y => okC P N a x && okC P N b y | _ => false
  | .cond x a b, c => match c with | .cond x' y z => okO x' x && okC P N a y && okC P N b z | _ => false
  | .block id a, c => match c with | .block id' x => decide (id = id') && okC P N a x | _ => false
  | .loop _ a, c => match c with | .loop x => okC P N a x | _ => false
  | .exit id _, c => match c with | .exit id' => decide (id = id') | _ => false
  | .scope a, c => match c with | .scope x => okC P N a x | _ => false
  | .ret, c => match c with | .ret => true | _ => false
  | .refuse, _ => false

/-- Does the code leave slots alone? -/
def avoids (ks : List Nat) : ACode → Bool
  | .region L _ _ => L.all fun ai => match ai.dst with | some t => !ks.contains t | none => true
  | .seq a b => avoids ks a && avoids ks b
  | .cond _ a b => avoids ks a && avoids ks b
  | .block _ a => avoids ks a
  | .loop _ a => avoids ks a
  | .scope a => avoids ks a
  | _ => true

theorem avoids_region {L : List AIns} {d : Option (List (Nat × Nat) × List Nat)} {keep : List Nat} (h : avoids (fx.map (·.1)) (.region L d keep) = true) : ∀ ai ∈ L, ∀ x ∈ fx, ai.dst ≠ some x.1 := fun ai hai x hx he => by
  simp only [avoids, List.all_eq_true] at h
  have := h ai hai
  rw [he] at this
  simp only [Bool.not_eq_true'] at this
  have hm : (fx.map (·.1)).contains x.1 = true := List.contains_iff_mem.2 (List.mem_map_of_mem hx)
  rw [hm] at this
  cases this

theorem exists_least {q : Nat → Prop} (h : ∃ n, q n) : ∃ n, q n ∧ ∀ m, q m → n ≤ m := by
  obtain ⟨n, hn⟩ := h
  induction n using Nat.strongRecOn with
  | _ n ih =>
    by_cases hm : ∃ m, m < n ∧ q m
    · obtain ⟨m, h1, h2⟩ := hm
      exact ih m h1 h2
    · refine ⟨n, hn, fun m hq => ?_⟩
      by_cases hmn : n ≤ m
      · exact hmn
      · exact (hm ⟨m, by omega, hq⟩).elim

noncomputable def least {q : Nat → Prop} (h : ∃ n, q n) : Nat := Classical.choose (exists_least h)
theorem least_spec {q : Nat → Prop} (h : ∃ n, q n) : q (least h) := (Classical.choose_spec (exists_least h)).1
theorem least_le {q : Nat → Prop} (h : ∃ n, q n) {m : Nat} (hm : q m) : least h ≤ m := (Classical.choose_spec (exists_least h)).2 m hm

theorem loop_sound {c : Code} {f : St → Option (Ex × St)} {keep : List Nat} {Q : Exit → Act → World → Prop}
    (hround : ∀ st r, f st = some r → ∀ ρ H w a (Q : Exit → Act → World → Prop), StRel B ds fx ρ H N st a w → p ≤ st.heap.length → PostC B ds fx ρ H w N p Q r → c.wp P Q a w) :
    ∀ (n : Nat) st r, loopN n f st = some r → ∀ ρ H w a, StRel B ds fx ρ H N st a w → p ≤ st.heap.length → PostC B ds fx ρ H w N p Q r → (Code.loop c).wp P Q a w := by
  classical
  let Good : Nat → Act → World → Prop := fun n a w => ∃ st r ρ H, loopN n f st = some r ∧ StRel B ds fx ρ H N st a w ∧ p ≤ st.heap.length ∧ PostC B ds fx ρ H w N p Q r
  intro n st r e ρ H w a hS hpl hp
  refine wp_loop (fun a w => ∃ n, Good n a w) (fun a w => if h : ∃ n, Good n a w then least h else 0) ⟨n, st, r, ρ, H, e, hS, hpl, hp⟩ (fun a w hI => ?_)
  have hg := least_spec hI
  have hmin : ∀ {k a' w'}, Good k a' w' → (if h : ∃ n, Good n a' w' then least h else 0) ≤ k := fun {k a' w'} hk => by
    rw [dif_pos ⟨k, hk⟩]
    exact least_le _ hk
  obtain ⟨st, r, ρ, H, e, hS, hpl, hp⟩ := hg
  rw [dif_pos hI]
  cases hn : least hI with
  | zero => rw [hn] at e; cases e
  | succ k =>
    rw [hn] at e
    simp only [loopN] at e
    split at e
    · rename_i st' hf
      refine hround st _ hf ρ H w a _ hS hpl (fun ρ' H' a' w' q1 q2 q3 q4 => ?_)
      have hg : Good k a' w' := ⟨st', r, ρ', H', e, q1, q4, hp.shift q2 q3⟩
      exact ⟨⟨k, hg⟩, Nat.lt_succ_of_le (hmin hg)⟩
    · rename_i hne
      refine hround st r e ρ H w a _ hS hpl ?_
      obtain ⟨ex, st'⟩ := r
      cases ex with
      | nrm => exact (hne st' e).elim
      | exit id => exact hp
      | ret => exact hp
      | pan v => exact hp
      | out => obtain ⟨a0, w0, h0⟩ := hp; exact ⟨a0, w0, h0⟩

theorem code_sound (hcf : CFOk B P cf) (hfs : ∀ g vs hp r, cf g vs hp = some r → funOk P g = true) : ∀ (ac : ACode) (c : Code), okC P N ac c = true → avoids (fx.map (·.1)) ac = true → ∀ n st r, code T cf p n ac st = some r →
    ∀ ρ H w a (Q : Exit → Act → World → Prop), StRel B ds fx ρ H N st a w → p ≤ st.heap.length → PostC B ds fx ρ H w N p Q r → c.wp P Q a w
  | .skip, c, hok, hav, n, st, r, e, ρ, H, w, a, Q, hS, hpl, hp => by
    cases c <;> first | (simp [okC] at hok; done) | skip
    · cases e
      exact wp_skip (hp ρ H a w hS (Trans.refl ..) (StaysP.refl _ _) hpl)
    · cases e
      exact wp_label (hp ρ H a w hS (Trans.refl ..) (StaysP.refl _ _) hpl)
  | .region L draw keep, c, hok, hav, n, st, r, e, ρ, H, w, a, Q, hS, hpl, hp => by
    cases c <;> first | (simp [okC] at hok; done) | skip
    rename_i id ops d
    cases d <;> cases draw <;> first | (simp [okC] at hok; done) | skip
    · exact region_sound hcf hfs hok (avoids_region hav) e hS hp
    · exact region_soundD hcf hfs hok (avoids_region hav) e hS hp
  | .seq x y, c, hok, hav, n, st, r, e, ρ, H, w, a, Q, hS, hpl, hp => by
    cases c <;> first | (simp [okC] at hok; done) | skip
    simp only [okC, Bool.and_eq_true] at hok
    simp only [code] at e
    apply wp_seq
    split at e
    · rename_i st' e1
      exact code_sound hcf hfs x _ hok.1 (by simp only [avoids, Bool.and_eq_true] at hav; exact hav.1) n st _ e1 ρ H w a _ hS hpl (fun ρ' H' a' w' q1 q2 q3 q4 =>
        code_sound hcf hfs y _ hok.2 (by simp only [avoids, Bool.and_eq_true] at hav; exact hav.2) n st' r e ρ' H' w' a' Q q1 q4 (hp.shift q2 q3))
    · rename_i hne
      refine code_sound hcf hfs x _ hok.1 (by simp only [avoids, Bool.and_eq_true] at hav; exact hav.1) n st r e ρ H w a _ hS hpl ?_
      obtain ⟨ex, st'⟩ := r
      cases ex with
      | nrm => exact (hne st' e).elim
      | exit id => exact hp
      | ret => exact hp
      | pan v => exact hp
      | out => obtain ⟨a0, w0, h0⟩ := hp; exact ⟨a0, w0, h0⟩
  | .cond x y z, c, hok, hav, n, st, r, e, ρ, H, w, a, Q, hS, hpl, hp => by
    cases c <;> first | (simp [okC] at hok; done) | skip
    simp only [okC, Bool.and_eq_true] at hok
    obtain ⟨⟨h1, h2⟩, h3⟩ := hok
    simp only [code] at e
    split at e
    · rename_i hc
      exact wp_cond_true (okO_rel hS.env h1 hc) (code_sound hcf hfs y _ h2 (by simp only [avoids, Bool.and_eq_true] at hav; exact hav.1) n st r e ρ H w a Q hS hpl hp)
    · rename_i hc
      exact wp_cond_false (okO_rel hS.env h1 hc) (code_sound hcf hfs z _ h3 (by simp only [avoids, Bool.and_eq_true] at hav; exact hav.2) n st r e ρ H w a Q hS hpl hp)
    · cases e
  | .block id x, c, hok, hav, n, st, r, e, ρ, H, w, a, Q, hS, hpl, hp => by
    cases c <;> first | (simp [okC] at hok; done) | skip
    simp only [okC, Bool.and_eq_true, decide_eq_true_eq] at hok
    obtain ⟨rfl, h2⟩ := hok
    simp only [code] at e
    apply wp_block
    split at e
    · rename_i id' st' e1
      refine code_sound hcf hfs x _ h2 hav n st _ e1 ρ H w a _ hS hpl (fun ρ' H' a' w' q1 q2 q3 q4 => ?_)
      simp only [Exit.inBlock]
      split at e
      · rename_i hid
        cases e
        rw [if_pos hid]
        exact hp ρ' H' a' w' q1 q2 q3 q4
      · rename_i hid
        cases e
        rw [if_neg hid]
        exact hp ρ' H' a' w' q1 q2 q3 q4
    · rename_i hne
      refine code_sound hcf hfs x _ h2 hav n st r e ρ H w a _ hS hpl ?_
      obtain ⟨ex, st'⟩ := r
      cases ex with
      | nrm => exact hp
      | exit id => exact (hne _ _ e).elim
      | ret => exact hp
      | pan v => exact hp
      | out => obtain ⟨a0, w0, h0⟩ := hp; exact ⟨a0, w0, h0⟩
  | .loop keep x, c, hok, hav, n, st, r, e, ρ, H, w, a, Q, hS, hpl, hp => by
    cases c <;> first | (simp [okC] at hok; done) | skip
    simp only [okC] at hok
    rename_i body
    simp only [code] at e
    have hround : ∀ st1 r1, (match endR p keep st1.env (ofList st1.heap) with
        | some st => code T cf p n x st
        | none => none) = some r1 → ∀ ρ H w a (Q : Exit → Act → World → Prop), StRel B ds fx ρ H N st1 a w → p ≤ st1.heap.length → PostC B ds fx ρ H w N p Q r1 → body.wp P Q a w := by
      intro st1 r1 e1 ρ H w a Q hS hpl hp
      split at e1
      · rename_i st2 e2
        obtain ⟨M, m1, m2, m3, m4⟩ := endR_rel hS.heap hS.env e2
        exact code_sound hcf hfs x _ hok hav n st2 r1 e1 _ H w a Q m1 m4 (hp.shift m3 m2)
      · cases e1
    exact loop_sound (keep := keep) hround n st r e ρ H w a hS hpl hp
  | .exit id keep, c, hok, hav, n, st, r, e, ρ, H, w, a, Q, hS, hpl, hp => by
    cases c <;> first | (simp [okC] at hok; done) | skip
    simp only [okC, decide_eq_true_eq] at hok
    subst hok
    obtain ⟨st2, e1, e2⟩ := bnd_eq e
    cases e2
    obtain ⟨M, m1, m2, m3, m4⟩ := endR_rel hS.heap hS.env e1
    exact wp_exit (hp _ _ _ _ m1 m3 m2 m4)
  | .scope x, c, hok, hav, n, st, r, e, ρ, H, w, a, Q, hS, hpl, hp => by
    cases c <;> first | (simp [okC] at hok; done) | skip
    simp only [okC] at hok
    apply wp_scope_straight
    refine code_sound hcf hfs x _ hok hav n st r e ρ H w a _ hS hpl ?_
    obtain ⟨ex, st'⟩ := r
    cases ex with
    | nrm => exact hp
    | exit id => exact hp
    | ret => exact hp
    | pan v => exact hp
    | out => obtain ⟨a0, w0, h0⟩ := hp; exact ⟨a0, w0, h0⟩
  | .ret, c, hok, hav, n, st, r, e, ρ, H, w, a, Q, hS, hpl, hp => by
    cases c <;> first | (simp [okC] at hok; done) | skip
    cases e
    exact wp_ret (hp ρ H a w hS (Trans.refl ..) (StaysP.refl _ _) hpl)
  | .refuse, c, hok, hav, n, st, r, e, _, _, _, _, _, _, _, _ => by cases e
end
end Go.Rf
