/- Parts of the proof: RfOp7, RfOp8, RfCall, RfOpG. -/
import Derived.Test.YtbjfkjbdpnkknaaDoorRg3

/- Parts of lists and texts. -/
namespace Go.Rf
variable {B : Ice} {ds : List Deferred} {fx : List (Nat × Value)}

section
variable {P : Program} {T : Tab} {cf : CF} {o : Oper} {a : Act} {w : World} {ρ : Map} {H : Ice} {h : Loc → Option Obj} {i N : Nat} {env : List (Nat × V)} {r : R}

def okOo : Option Operand → Option Opnd → Bool
  | none, none => true
  | some x, some y => okO x y
  | _, _ => false

def ok_slice (n : Option W) (x : Opnd) (lo hi : Option Opnd) (P : Program) : Op → Bool
  | .slice t x' lo' hi' mx => okO x' x && okOo lo' lo && okOo hi' hi && mx.isNone && (match n with
    | some n => sliceIs P t n
    | none => match P.underlying t with | some .string => true | _ => false)
  | _ => false

theorem wl_pos : ∀ xs : List D, 1 ≤ wl xs
  | [] => Nat.le_refl _
  | _ :: xs => Nat.le_trans (wl_pos xs) (Nat.le_max_right ..)

theorem wl_sub {xs ys : List D} (hs : ∀ x ∈ ys, x ∈ xs) : wl ys ≤ wl xs := by
  have h1 : ∀ {x : D} {l : List D}, x ∈ l → wt x ≤ wl l := by
    intro x l
    induction l with
    | nil => intro h; cases h
    | cons y l ih =>
      intro h
      simp only [wl]
      rcases List.mem_cons.1 h with rfl | h
      · exact Nat.le_max_left ..
      · exact Nat.le_trans (ih h) (Nat.le_max_right ..)
  have h0 : 1 ≤ wl xs := wl_pos xs
  induction ys with
  | nil => exact h0
  | cons y ys ih =>
    simp only [wl]
    exact Nat.max_le.2 ⟨h1 (hs y (List.mem_cons_self ..)), ih fun x hx => hs x (List.mem_cons_of_mem _ hx)⟩

theorem flat_drop {sz : Nat} : ∀ {us : List Value} (n : Nat), (∀ u ∈ us, u.cells.size = sz) → flat (us.drop n) = (flat us).drop (n * sz)
  | us, 0, _ => by simp
  | [], n + 1, _ => by simp [flat]
  | u :: us, n + 1, h => by
    have hl : u.cells.toList.length = sz := by simpa using h u (List.mem_cons_self ..)
    rw [List.drop_succ_cons, flat_drop n (fun x hx => h x (List.mem_cons_of_mem _ hx)), flat_cons, List.drop_append, hl]
    have : (n + 1) * sz - sz = n * sz := by rw [Nat.add_mul]; omega
    have h0 : List.drop ((n + 1) * sz) u.cells.toList = [] := List.drop_eq_nil_of_le (by rw [hl, Nat.add_mul]; omega)
    rw [this, h0, List.nil_append]

theorem flat_take_get {us : List Value} {n j : Nat} {v : Value} (h : (flat (us.take n))[j]? = some v) : (flat us)[j]? = some v := by
  have : flat us = flat (us.take n) ++ flat (us.drop n) := by rw [← flat_append, List.take_append_drop]
  rw [this]
  have hl := (List.getElem?_eq_some_iff.1 h).1
  rw [List.getElem?_append_left hl]
  exact h

/-- The bounds of a part. -/
theorem run_bounds {b : Bool} {len cap : Nat} {lo hi : Option Value} {l u : Nat} (hlo : lo = none ∧ l = 0 ∨ ∃ k, lo = some (.int k (l : Int))) (hhi : hi = none ∧ u = len ∨ ∃ k, hi = some (.int k (u : Int)))
    (h1 : l ≤ u) (h2 : u ≤ cap) : (Instr.sliceBounds b len cap lo hi none).run P w = .ok (l, u, cap) w := by
  have sb : ∀ k (x y : Nat) c, x ≤ y → (Instr.sliceBound (.int k (x : Int)) y c).run P w = .ok x w := fun k x y c hxy => by
    unfold Instr.sliceBound
    have : (0 : Int) ≤ (x : Int) ∧ (x : Int) ≤ (y : Int) := ⟨by omega, by omega⟩
    simp only [asIntOf, Sem.run_bind, Sem.run_pure, Result.andThen_ok, if_pos this]
    simp
  unfold Instr.sliceBounds
  rcases hlo with ⟨rfl, rfl⟩ | ⟨k, rfl⟩ <;> rcases hhi with ⟨rfl, rfl⟩ | ⟨k', rfl⟩
  · simp
  · simp [sb k' u cap _ h2]
  · simp [sb k l u _ h1]
  · simp [sb k' u cap _ h2, sb k l u _ h1]

theorem s_slice {n x lo hi} (hH : HRel ρ H h w) (hE : EnvRel B ds fx ρ H N env a) (hok : ok_slice n x lo hi P o.op = true) (e : exec T cf i (.slice n x lo hi) (evO env) h = some r) : Sound P o a w ρ H h i r := by
  unfold ok_slice at hok
  split at hok
  · rename_i t x' lo' hi' mx hop
    simp only [Bool.and_eq_true, Option.isNone_iff_eq_none] at hok
    obtain ⟨⟨⟨⟨h1, h2⟩, h3⟩, rfl⟩, h5⟩ := hok
    obtain ⟨v, e1, e2⟩ := bnd_eq e
    have hx := okO_rel hE h1 e1
    split at e2
    · rename_i l u el eu
      obtain ⟨y, e3, e4⟩ := bnd_eq e2
      rw [val_some e4]
      have hlo : (lo'.map a.eval) = none ∧ l = 0 ∨ ∃ k, (lo'.map a.eval) = some (.int k (l : Int)) := by
        cases lo with
        | none =>
          cases lo' with
          | none => cases el; exact .inl ⟨rfl, rfl⟩
          | some q => cases h2
        | some q =>
          cases lo' with
          | none => cases h2
          | some q' =>
            obtain ⟨z, e5, e6⟩ := bnd_eq el
            obtain ⟨k, hk⟩ := natOf_intO (okO_rel hE h2 e5) e6
            exact .inr ⟨k, by simp [hk]⟩
      have hhi : ((hi'.map a.eval) = none ∧ lenOf v = some u) ∨ ∃ k, (hi'.map a.eval) = some (.int k (u : Int)) := by
        cases hi with
        | none =>
          cases hi' with
          | none => exact .inl ⟨rfl, eu⟩
          | some q => cases h3
        | some q =>
          cases hi' with
          | none => cases h3
          | some q' =>
            obtain ⟨z, e5, e6⟩ := bnd_eq eu
            obtain ⟨k, hk⟩ := natOf_intO (okO_rel hE h3 e5) e6
            exact .inr ⟨k, by simp [hk]⟩
      unfold sliceV at e3
      split at e3
      · rename_i hle
        have slice_run : ∀ n el, P.underlying t = some (.slice el) → sizeIs P el n = true → ∀ ad len cap, a.eval x' = .slice ad len cap → lenOf v = some len → u ≤ cap →
            (execOp a.eval o).run P w = .ok (.value (.slice (if cap = l then ad else ad.map (·.add (l * n))) (u - l) (cap - l))) w := by
          intro n el hu hs ad len cap hv hlen hcap
          have hb := run_bounds (P := P) (w := w) (b := true) (len := len) (cap := cap) hlo (hhi.imp (fun ⟨q1, q2⟩ => ⟨q1, by rw [hlen] at q2; injection q2 with q2; exact q2.symm⟩) id) hle hcap
          unfold execOp
          simp only [hop, hv, Instr.sliceAt, Instr.slice, Sem.run_bind, run_underlying hu, Result.andThen_ok, Option.map_none, hb, sizeIs.run hs]
          rfl
        split at e3
        · rename_i s
          split at e3
          · rename_i hu
            cases e3
            have hst : P.underlying t = some .string := by
              simp only at h5
              split at h5
              · assumption
              · cases h5
            obtain ⟨hv, hl⟩ := (hx : a.eval x' = .string ⟨s.toArray⟩ ∧ s.length ≤ long)
            have hb := run_bounds (P := P) (w := w) (b := false) (len := s.length) (cap := s.length) hlo (hhi.imp (fun ⟨q1, q2⟩ => ⟨q1, by cases q2; rfl⟩) id) hle hu
            refine Sound.pure (x := .d (.str ((s.drop l).take (u - l)))) (v := .string ⟨((s.drop l).take (u - l)).toArray⟩) ?_ hH ⟨rfl, ?_⟩
            · unfold execOp
              simp only [hop, hv, Instr.sliceAt, Instr.slice, Sem.run_bind, run_underlying hst, Result.andThen_ok, Option.map_none, bytes_len, Option.isSome_none, Bool.false_eq_true, if_false, hb]
              have : (⟨s.toArray⟩ : ByteArray).extract l u = ⟨((s.drop l).take (u - l)).toArray⟩ := by
                apply ByteArray.ext
                simp [List.extract]
              rw [this]
              rfl
            · have := List.length_take_le (u - l) (s.drop l)
              have h8 := List.length_drop (i := l) (l := s)
              have h9 : ((s.drop l).take (u - l)).length ≤ s.length := by
                rw [List.length_take, List.length_drop]; omega
              omega
          · cases e3
        · rename_i n xs
          split at e3
          · rename_i hc
            obtain ⟨hu, hall⟩ := hc
            cases e3
            obtain ⟨el, inf, hut, _, _, _, hsz⟩ := sliceIs.get h5
            obtain ⟨ad, c, hv, hc1, hc2, hrow⟩ := id hx
            refine Sound.pure (x := .d (.sl ((xs.drop l).take (u - l)))) (slice_run n.c el hut hsz _ _ _ hv rfl (Nat.le_trans hu hc1)) hH ?_
            have hlen : ((xs.drop l).take (u - l)).length = u - l := by rw [List.length_take, List.length_drop]; omega
            have hwl : wl ((xs.drop l).take (u - l)) ≤ wl xs := wl_sub fun x hx => List.mem_of_mem_drop (List.mem_of_mem_take hx)
            refine ⟨_, c - l, by rw [hlen], by rw [hlen]; omega, ?_, fun hne => ?_⟩
            · rw [hlen]
              exact Nat.le_trans (Nat.mul_le_mul (by omega) hwl) hc2
            · have hlu : l < u := by
                by_cases q : l < u
                · exact q
                · exfalso; apply hne; apply List.eq_nil_of_length_eq_zero; omega
              have hxs : xs ≠ [] := fun q => by rw [q] at hu; simp at hu; omega
              obtain ⟨b, off, sz, us, rfl, hus, hs, hcell⟩ := hrow hxs
              have hsn : sz = n.c := by
                obtain ⟨x0, hx0⟩ : ∃ x0, xs[0]? = some x0 := by
                  cases xs with
                  | nil => exact absurd rfl hxs
                  | cons x0 _ => exact ⟨x0, rfl⟩
                obtain ⟨u0, hu0, hr0⟩ := hus.get hx0
                have q1 := (VRel.cells (ρ := ρ) (x := .d x0) hr0 rfl).1.length
                have q2 : x0.cells.length = (V.cells (.d x0)).length := by cases x0 <;> simp [D.cells, V.cells]
                have q3 := hs u0 (List.mem_of_getElem? hu0)
                have q4 : x0.cells.length = n.c := by
                  have := List.all_eq_true.1 hall x0 (List.mem_of_getElem? hx0)
                  simpa using this
                simp at q1
                omega
              subst hsn
              have hcl : c ≠ l := by omega
              refine ⟨b, off + l * n.c, n.c, (us.drop l).take (u - l), by rw [if_neg hcl]; simp [add_at], (hus.drop l).take _, fun u hu => hs u (List.mem_of_mem_drop (List.mem_of_mem_take hu)), fun j v hj => ?_⟩
              have q := flat_take_get hj
              rw [flat_drop l hs, List.getElem?_drop] at q
              rw [Nat.add_assoc]
              exact hcell _ _ q
          · cases e3
        · rename_i n l0 sz off len
          split at e3
          · rename_i hc
            obtain ⟨hu, rfl⟩ := hc
            obtain ⟨el, inf, hut, _, _, _, hsz⟩ := sliceIs.get h5
            have hx : RefAt (ρ l0) sz off len (a.eval x') := hx
            have empty : ∀ ad cap, a.eval x' = .slice ad len cap → u ≤ cap → l = u → Sound P o a w ρ H h i (.ok { v := .d (.sl []) }) := by
              intro ad cap hv hcap hlu
              refine Sound.pure (x := .d (.sl [])) (slice_run sz.c el hut hsz _ _ _ hv rfl hcap) hH ?_
              subst hlu
              refine ⟨(if cap = l then ad else ad.map (·.add (l * sz.c))), cap - l, by rw [Nat.sub_self]; rfl, Nat.zero_le _, by simp, fun h => absurd rfl h⟩
            cases hp : ρ l0 with
            | none => rw [hp] at hx; exact hx.elim
            | dead =>
              rw [hp] at hx
              obtain ⟨ad, c, hv, hb, hc, hq, hll⟩ := hx
              split at e3
              · rename_i hl
                cases e3
                exact empty _ _ hv (by omega) hl
              · rename_i hl
                cases e3
                obtain ⟨q, rfl⟩ := hq (by omega)
                refine Sound.pure (x := .ref l0 sz (off + l) (u - l)) (slice_run sz.c el hut hsz _ _ _ hv rfl (by omega)) hH (show RefAt (ρ l0) _ _ _ _ from ?_)
                rw [hp]
                refine ⟨(if c = l then some q else (some q).map (·.add (l * sz.c))), c - l, rfl, Nat.le_trans (Nat.mul_le_mul_right _ (by omega)) hb, by omega, fun _ => ?_, by omega⟩
                rw [if_neg (by omega)]
                exact ⟨_, rfl⟩
            | virt s =>
              rw [hp] at hx
              obtain ⟨_, _, rfl, hv⟩ := hx
              have hl : l = u := by omega
              rw [if_pos hl] at e3
              cases e3
              exact empty _ _ hv (by omega) hl
            | at_ b base s size =>
              rw [hp] at hx
              obtain ⟨rfl, c, hv, hc1, hc2, hc3, hc4⟩ := hx
              split at e3
              · rename_i hl
                cases e3
                exact empty _ _ hv (by omega) hl
              · rename_i hl
                cases e3
                refine Sound.pure (x := .ref l0 s (off + l) (u - l)) (slice_run s.c el hut hsz _ _ _ hv rfl (by omega)) hH (show RefAt (ρ l0) _ _ _ _ from ?_)
                rw [hp]
                refine ⟨rfl, c - l, ?_, by omega, Nat.le_trans (Nat.mul_le_mul_right _ (by omega)) hc2, ?_, by omega⟩
                · rw [if_neg (by omega)]
                  simp only [Option.map_some, add_at]
                  rw [Nat.add_mul, Nat.add_assoc]
                · have : off + l + (c - l) = off + c := by omega
                  rw [this]
                  exact hc3
            | blk q => rw [hp] at hx; exact hx.elim
          · cases e3
        · cases e3
      · cases e3
    · cases e2
  · cases hok
end
end Go.Rf

/- Operations that make new objects. -/
namespace Go.Rf
variable {B : Ice} {ds : List Deferred} {fx : List (Nat × Value)}

section
variable {P : Program} {T : Tab} {cf : CF} {o : Oper} {a : Act} {w : World} {ρ : Map} {H : Ice} {h : Loc → Option Obj} {i N : Nat} {env : List (Nat × V)} {r : R}

theorem solid_of {x : V} {n : Nat} (h : x.cells.length = n) (hn : n ≠ 0) : solid x = true := by
  cases x <;> first | rfl | (exfalso; simp [V.cells] at h; omega)

/-- A new row in a block of its own. -/
theorem push_arr (hH : HRel ρ H h w) {l : Loc} (hl : ρ l = .none) {xs : List V} {us : List Value} {sz : W} (hv : VRels ρ H xs us) (hj : xs.any ObjRel.isJunk = false) (hs : ∀ u ∈ us, u.cells.size = sz.c)
    (cells : Array Value) (hc : ∀ (j : Nat) (v : Value), (flat us)[j]? = some v → cells[j]? = some v) (elem : TypeId) :
    HRel (updM ρ l (.at_ w.heap.size 0 sz cells.size)) H (updH h l (some (.arr xs sz))) { w with heap := w.heap.push (.cells cells elem (0, 0)) } ∧
    Trans ρ H w (updM ρ l (.at_ w.heap.size 0 sz cells.size)) H { w with heap := w.heap.push (.cells cells elem (0, 0)) } ∧ Stays ρ (updM ρ l (.at_ w.heap.size 0 sz cells.size)) := by
  refine hH.push hl (.arr xs sz) (.cells cells elem (0, 0)) (.at_ w.heap.size 0 sz cells.size) rfl ?_
  refine ⟨rfl, cells, elem, 0, us, by simp, rfl, hv.mono (Stays.upd _ (.inl hl)) (fun _ _ _ e => e), hj, hs, fun j v hj => ?_⟩
  rw [Nat.zero_add]
  exact hc j v hj

theorem run_newVar (t : TypeId) (v : Value) : (newVar t v).run P w = .ok ⟨w.heap.size, 0, Option.none⟩ { w with heap := w.heap.push (.cells v.cells t (0, 0)) } := rfl

def ok_own (n : W) : Op → Bool
  | .move y | .assign y => (match y with | .const (.slice none 0 0) => true | _ => false)
  | _ => false

theorem s_own {n} (hH : HRel ρ H h w) (hN : ∀ k, ρ (.n i k) = .none) (hok : ok_own n o.op = true) (e : exec T cf i (.own n) (evO env) h = some r) : Sound P o a w ρ H h i r := by
  have key : (execOp a.eval o).run P w = .ok (.value (.slice none 0 0)) w := by
    unfold ok_own at hok
    split at hok
    · rename_i y hop
      split at hok
      · unfold execOp; rw [hop]; rfl
      · cases hok
    · rename_i y hop
      split at hok
      · unfold execOp; rw [hop]; rfl
      · cases hok
    · cases hok
  cases e
  obtain ⟨k1, k2, k3⟩ := hH.virt (hN 0) n
  refine Sound.of key ⟨k1, k2, k3, NewAt.upd 0 _, ?_⟩
  show RefAt (updM ρ (.n i 0) _ _) _ _ _ _
  rw [updM_self]
  exact ⟨rfl, rfl, rfl, rfl⟩

def ok_box (n : Nat) (x : Opnd) (P : Program) : Op → Bool
  | .box _ x' => okO x' x && decide (n ≠ 0)
  | _ => false

theorem flat_one (u : Value) : flat [u] = u.cells.toList := by simp [flat]

theorem s_box {n x} (hH : HRel ρ H h w) (hE : EnvRel B ds fx ρ H N env a) (hN : ∀ k, ρ (.n i k) = .none) (hok : ok_box n x P o.op = true) (e : exec T cf i (.box n x) (evO env) h = some r) : Sound P o a w ρ H h i r := by
  unfold ok_box at hok
  split at hok
  · rename_i t x' hop
    simp only [Bool.and_eq_true, decide_eq_true_eq] at hok
    obtain ⟨h1, h2⟩ := hok
    obtain ⟨v, e1, e2⟩ := bnd_eq e
    have hx := okO_rel hE h1 e1
    split at e2
    · rename_i hn
      cases e2
      have hsol := solid_of hn h2
      have hlen := (hx.cells hsol).1.length
      have hsz : (a.eval x').cells.size = n := by simp at hlen; omega
      obtain ⟨k1, k2, k3⟩ := push_arr hH (hN 0) (xs := [v]) (us := [a.eval x']) (sz := ⟨n, 0⟩) ⟨_, [], rfl, hx, rfl⟩ (by simp [solid_isJunk hsol])
        (by intro u hu; simp at hu; subst hu; exact hsz) (a.eval x').cells (fun j v hj => by rw [flat_one] at hj; simpa using hj) t
      refine Sound.of (v := .pointer (some ⟨w.heap.size, 0, Option.none⟩)) ?_ ⟨k1, k2, k3, NewAt.upd 0 _, ?_⟩
      · unfold execOp
        simp only [hop, Instr.box, Sem.run_bind, run_newVar, Result.andThen_ok]
        rfl
      · show PtrAt (updM ρ (.n i 0) _ _) _ _ _
        rw [updM_self]
        simp [PtrAt]
    · cases e2
  · cases hok

/-! ### Rows of nothing inside -/
theorem VRels.setAt : ∀ {cs : List V} {vs : List Value} {c : Nat} {x : V} {v : Value}, VRels ρ H cs vs → vs[c]? = some v → VRel ρ H x v → VRels ρ H (cs.set c x) vs
  | [], _, _, _, _, k, _, _ => by cases k; exact rfl
  | _ :: _, _, 0, _, v, k, hv, h => by
    obtain ⟨u, vs', rfl, k1, k2⟩ := k
    simp at hv; subst hv
    exact ⟨_, vs', rfl, h, k2⟩
  | _ :: _, _, c + 1, _, v, k, hv, h => by
    obtain ⟨u, vs', rfl, k1, k2⟩ := k
    exact ⟨u, vs', rfl, k1, k2.setAt (by simpa using hv) h⟩

def ownOk (vs : List Value) (own : List (Nat × W)) : Bool := own.all fun x => match vs[x.1]? with | some (.slice none 0 0) => true | _ => false

theorem applyW_append (h : Loc → Option Obj) : ∀ (xs ys : List (Loc × Option Obj)), applyW h (xs ++ ys) = applyW (applyW h xs) ys
  | [], _ => rfl
  | (l, o) :: xs, ys => by
    simp only [List.cons_append, applyW]
    exact applyW_append _ xs ys

theorem any_set {α : Type} {p : α → Bool} {l : List α} (h : l.any p = false) {x : α} (hx : p x = false) (n : Nat) : (l.set n x).any p = false := by
  rw [List.any_eq_false] at *
  intro y hy
  rcases List.mem_or_eq_of_mem_set hy with h' | rfl
  · exact h y h'
  · simp [hx]

theorem ownCells_rel (w : World) (vs : List Value) : ∀ (own : List (Nat × W)) (k : Nat) (cs cs' : List V) (wr : List (Loc × Option Obj)) (ρ : Map) (h : Loc → Option Obj), HRel ρ H h w → (∀ j, k ≤ j → ρ (.n i j) = .none) →
    VRels ρ H cs vs → cs.any isAggV = false → ownOk vs own = true → ownCells i k own cs = (cs', wr) →
    ∃ ρ', HRel ρ' H (applyW h wr) w ∧ Trans ρ H w ρ' H w ∧ Stays ρ ρ' ∧ NewAt i ρ ρ' ∧ VRels ρ' H cs' vs ∧ cs'.any isAggV = false ∧ (∀ j, j < k → ρ' (.n i j) = ρ (.n i j))
  | [], k, cs, cs', wr, ρ, h, hH, hN, hv, hag, _, e => by
    cases e
    exact ⟨ρ, hH, Trans.refl .., Stays.refl _, NewAt.refl _ _, hv, hag, fun _ _ => rfl⟩
  | (c, sz) :: own, k, cs, cs', wr, ρ, h, hH, hN, hv, hag, hok, e => by
    simp only [ownOk, List.all_cons, Bool.and_eq_true] at hok
    obtain ⟨ho, hok⟩ := hok
    have hc : vs[c]? = some (.slice none 0 0) := by
      split at ho
      · assumption
      · cases ho
    simp only [ownCells] at e
    cases e1 : ownCells i (k + 1) own (cs.set c (.ref (.n i k) sz 0 0)) with
    | mk cs1 wr1 =>
    rw [e1] at e
    cases e
    obtain ⟨k1, k2, k3⟩ := hH.virt (hN k (Nat.le_refl _)) sz
    have hst : Stays ρ (updM ρ (.n i k) (.virt sz)) := k3
    have hv1 : VRels (updM ρ (.n i k) (.virt sz)) H (cs.set c (.ref (.n i k) sz 0 0)) vs := by
      refine VRels.setAt (hv.mono hst (fun _ _ _ e => e)) hc ?_
      show RefAt (updM ρ (.n i k) _ _) _ _ _ _
      rw [updM_self]
      exact ⟨rfl, rfl, rfl, rfl⟩
    obtain ⟨ρ', q1, q2, q3, q4, q5, q6, q7⟩ := ownCells_rel w vs own (k + 1) _ _ _ _ _ k1 (fun j hj => by
      rw [updM_ne (fun h => by injection h with _ h; omega)]
      exact hN j (by omega)) hv1 (any_set hag rfl c) hok e1
    refine ⟨ρ', q1, k2.trans q2, k3.trans q3, (NewAt.upd k _).trans q4, q5, q6, fun j hj => ?_⟩
    rw [q7 j (by omega), updM_ne (fun h => by injection h with _ h; omega)]

/-- The value with its rows of nothing: it stands to the same machine's value. -/
theorem ownD_rel {k : Nat} {own : List (Nat × W)} {x x' : V} {v : Value} {wr : List (Loc × Option Obj)} (hH : HRel ρ H h w) (hN : ∀ j, k ≤ j → ρ (.n i j) = .none) (hv : VRel ρ H x v) (hsol : solid x = true)
    (hok : ownOk v.cells.toList own = true) (e : ownD i k own x = (x', wr)) :
    ∃ ρ', HRel ρ' H (applyW h wr) w ∧ Trans ρ H w ρ' H w ∧ Stays ρ ρ' ∧ NewAt i ρ ρ' ∧ VRel ρ' H x' v ∧ solid x' = true ∧ (∀ j, j < k → ρ' (.n i j) = ρ (.n i j)) := by
  cases own with
  | nil =>
    cases e
    exact ⟨ρ, hH, Trans.refl .., Stays.refl _, NewAt.refl _ _, hv, hsol, fun _ _ => rfl⟩
  | cons p own =>
    simp only [ownD] at e
    cases e1 : ownCells i k (p :: own) x.cells with
    | mk cs wr1 =>
    rw [e1] at e
    cases e
    obtain ⟨kc, kn⟩ := hv.cells hsol
    obtain ⟨ρ', q1, q2, q3, q4, q5, q6, q7⟩ := ownCells_rel w _ _ _ _ _ _ _ _ hH hN kc kn hok e1
    cases hag : Rf.isAgg x with
    | false =>
      have hone : x.cells = [x] ∧ v.cells = #[v] := by
        cases x with
        | d d => cases d <;> first | exact ⟨rfl, one_cells (VRel.one hv rfl)⟩ | cases hag
        | agg cs => cases hag
        | tup vs => cases hsol
        | junk => exact ⟨rfl, one_cells (VRel.one hv rfl)⟩
        | ref l sz off len => exact ⟨rfl, one_cells (VRel.one hv rfl)⟩
        | ptr l e j => exact ⟨rfl, one_cells (VRel.one hv rfl)⟩
        | iface t y => exact ⟨rfl, one_cells (VRel.one hv rfl)⟩
        | fn f c => exact ⟨rfl, one_cells (VRel.one hv rfl)⟩
        | map l => exact ⟨rfl, one_cells (VRel.one hv rfl)⟩
        | iter l => exact ⟨rfl, one_cells (VRel.one hv rfl)⟩
      rw [hone.2] at q5
      have hlen := q5.length
      cases cs with
      | nil => simp at hlen
      | cons y l =>
        obtain ⟨u, vs', hu, r1, r2⟩ := q5
        simp at hu
        obtain ⟨rfl, rfl⟩ := hu
        simp only [List.any_cons, Bool.or_eq_false_iff] at q6
        refine ⟨ρ', q1, q2, q3, q4, r1, ?_, q7⟩
        show solid y = true
        cases y <;> first | rfl | (simp [isAggV] at q6; done)
    | true =>
    refine ⟨ρ', q1, q2, q3, q4, ?_, mkAgg_solid _, q7⟩
    obtain ⟨vs, hvs⟩ : ∃ vs, v = .agg ⟨vs⟩ := by
      unfold Rf.isAgg at hag
      split at hag
      · obtain ⟨vs, hv, _⟩ := hv; exact ⟨vs, hv⟩
      · obtain ⟨vs, hv, _⟩ := hv; exact ⟨vs, hv⟩
      · cases hag
    subst hvs
    exact mkAgg_rel q5 q6

def ok_alloc (z : D) (own : List (Nat × W)) (P : Program) : Op → Bool
  | .alloc t => zeroIs P t z && ownOkT P t own
  | _ => false
 where ownOkT (P : Program) (t : TypeId) (own : List (Nat × W)) : Bool := match P.info? t with
  | some inf => match inf.zero with
    | some v => ownOk v.cells.toList own
    | none => own.isEmpty
  | none => own.isEmpty

theorem zero_own {t : TypeId} {own : List (Nat × W)} {v : Value} (hz : (zeroValue t).run P w = .ok v w) (ho : ok_alloc.ownOkT P t own = true) : ownOk v.cells.toList own = true := by
  unfold ok_alloc.ownOkT at ho
  unfold zeroValue at hz
  cases hi : P.info? t with
  | none =>
    rw [hi] at ho
    have : own = [] := by simpa using ho
    subst this; rfl
  | some inf =>
    rw [hi] at ho
    rw [Sem.run_bind, run_typeInfo w hi, Result.andThen_ok] at hz
    cases hv : inf.zero with
    | none =>
      simp only [hv] at ho
      have : own = [] := by simpa using ho
      subst this; rfl
    | some u =>
      simp only [hv] at ho hz
      cases hz
      exact ho

theorem s_alloc {z own} (hH : HRel ρ H h w) (hN : ∀ k, ρ (.n i k) = .none) (hok : ok_alloc z own P o.op = true) (e : exec T cf i (.alloc z own) (evO env) h = some r) : Sound P o a w ρ H h i r := by
  unfold ok_alloc at hok
  split at hok
  · rename_i t hop
    simp only [Bool.and_eq_true] at hok
    obtain ⟨h1, h2⟩ := hok
    obtain ⟨v, hz, hr⟩ := zeroIs.run h1 w
    simp only [exec] at e
    cases e1 : ownD i 1 own (.d z) with
    | mk x wr =>
    rw [e1] at e
    cases e
    obtain ⟨ρ', q1, q2, q3, q4, q5, q6, q7⟩ := ownD_rel (k := 1) hH (fun j _ => hN j) (x := .d z) (hr H) rfl (zero_own hz h2) e1
    have hl : ρ' (.n i 0) = .none := by rw [q7 0 (by omega)]; exact hN 0
    have hzc : v.cells.size = z.cells.length := by
      have := (VRel.cells (ρ := ρ) (x := .d z) (hr H) rfl).1.length
      have h2 : z.cells.length = (V.cells (.d z)).length := by cases z <;> simp [D.cells, V.cells]
      simp at this
      omega
    obtain ⟨k1, k2, k3⟩ := push_arr q1 hl (xs := [x]) (us := [v]) (sz := ⟨z.cells.length, 0⟩) ⟨_, [], rfl, q5, rfl⟩ (by simp [solid_isJunk q6])
      (by intro u hu; simp at hu; subst hu; exact hzc) v.cells (fun j v hj => by rw [flat_one] at hj; simpa using hj) t
    refine Sound.of (v := .pointer (some ⟨w.heap.size, 0, Option.none⟩)) ?_ ⟨?_, q2.trans k2, q3.trans k3, q4.trans (NewAt.upd 0 _), ?_⟩
    · unfold execOp
      simp only [hop, Instr.alloc, Sem.run_bind, hz, run_newVar, Result.andThen_ok]
      rfl
    · show HRel _ _ (applyW h (wr ++ _)) _
      rw [applyW_append]
      exact k1
    · show PtrAt (updM ρ' (.n i 0) _ _) _ _ _
      rw [updM_self]
      simp [PtrAt]
  · cases hok
end
end Go.Rf

/- Calls. -/
namespace Go.Rf
variable {B : Ice} {ds : List Deferred} {fx : List (Nat × Value)}

/-! ### Only what lives is named -/
theorem nameOf_alive {al : Loc → Bool} {l : Loc} {m : List Loc} : ∀ x ∈ (nameOf al l m).2, x ∈ m ∨ al x = true := by
  intro x hx
  unfold nameOf at hx
  cases h : al l with
  | false => rw [h] at hx; exact .inl hx
  | true =>
    rw [h, sel_true] at hx
    cases hi : idx m l with
    | none =>
      rw [hi, onO_none] at hx
      rcases List.mem_append.1 hx with h1 | h1
      · exact .inl h1
      · rw [List.mem_singleton.1 h1]; exact .inr h
    | some k => rw [hi, onO_some] at hx; exact .inl hx

mutual
theorem ren_alive (al : Loc → Bool) : ∀ (v : V) (m : List Loc), ∀ x ∈ (V.ren al v m).2, x ∈ m ∨ al x = true
  | .d _, m => fun x h => .inl h
  | .ref .., m | .ptr .., m | .map _, m | .iter _, m => by simp only [V.ren, named, viaP]; exact nameOf_alive
  | .agg cs, m | .fn _ cs, m | .tup cs, m => by simp only [V.ren, viaP]; exact rens_alive al cs m
  | .iface _ v, m => by simp only [V.ren, viaP]; exact ren_alive al v m
  | .junk, m => fun x h => .inl h
theorem rens_alive (al : Loc → Bool) : ∀ (vs : List V) (m : List Loc), ∀ x ∈ (rens al vs m).2, x ∈ m ∨ al x = true
  | [], m => fun x h => .inl h
  | v :: vs, m => by
    simp only [rens, viaP]
    intro x hx
    rcases rens_alive al vs _ x hx with h | h
    · exact ren_alive al v m x h
    · exact .inr h
end

theorem renEs_alive (al : Loc → Bool) : ∀ (es : List (D × V)) (m : List Loc), ∀ x ∈ (renEs al es m).2, x ∈ m ∨ al x = true
  | [], m => fun x h => .inl h
  | (k, v) :: es, m => by
    simp only [renEs, viaP]
    intro x hx
    rcases renEs_alive al es _ x hx with h | h
    · exact ren_alive al v m x h
    · exact .inr h

theorem obj_ren_alive (al : Loc → Bool) (o : Obj) (m : List Loc) : ∀ x ∈ (o.ren al m).2, x ∈ m ∨ al x = true := by
  cases o with
  | arr xs sz => simp only [Obj.ren, viaP]; exact rens_alive al xs m
  | map es => simp only [Obj.ren, viaP]; exact renEs_alive al es m
  | _ => exact fun x h => .inl h

theorem walk_alive (h : Loc → Option Obj) : ∀ (f j : Nat) (m : List Loc) (os : List Obj) (M : List Loc), walkObjs h f j m = some (os, M) → ∀ x ∈ M, x ∈ m ∨ (h x).isSome = true
  | 0, j, m, os, M, e => by cases e
  | f + 1, j, m, os, M, e => by
    simp only [walkObjs] at e
    cases hm : m[j]? with
    | none => rw [hm, onO_none] at e; cases e; exact fun x hx => .inl hx
    | some l =>
      rw [hm, onO_some] at e
      cases hl : h l with
      | none =>
        rw [hl, onO_none] at e
        obtain ⟨⟨os', M'⟩, e1, e2⟩ := bnd_eq e
        cases e2
        exact walk_alive h f (j + 1) m os' M' e1
      | some o =>
        rw [hl, onO_some] at e
        simp only [viaP] at e
        obtain ⟨⟨os', M'⟩, e1, e2⟩ := bnd_eq e
        cases e2
        intro x hx
        rcases walk_alive h f (j + 1) _ os' M' e1 x hx with h' | h'
        · exact obj_ren_alive _ o m x h'
        · exact .inr h'

theorem norm_alive {pin : List Loc} {vs vs' : List V} {h : Loc → Option Obj} {os : List Obj} {M : List Loc} (e : norm pin vs h = some (vs', os, M)) : ∀ x ∈ M, x ∈ pin ∨ (h x).isSome = true := by
  simp only [norm, viaP] at e
  obtain ⟨⟨os', M'⟩, e1, e2⟩ := bnd_eq e
  cases e2
  intro x hx
  rcases walk_alive h 64 0 _ os' M' e1 x hx with h' | h'
  · exact rens_alive _ vs pin x h'
  · exact .inr h'

/-! ### What a call comes to -/
structure CallEnd (ρ : Map) (H : Ice) (w : World) (n : Nat) (os : List Obj) (ρ' : Map) (H' : Ice) (w' : World) : Prop where
  heap : HRel ρ' H' (ofList os) w'
  trans : Trans ρ H w ρ' H' w'
  stays : Stays ρ ρ'
  only : ∀ l, ρ' l ≠ .none → ∃ k, l = .b k
  len : n ≤ os.length

def CallsTo (P : Program) (f : FuncId) (args : Array Value) (w : World) (ρ : Map) (H : Ice) (n : Nat) (r : CRes) : Prop :=
  Calls P f args w fun e w' => match e with
    | .outgrown => r = .out
    | .returned v => ∃ rs os ρ' H', r = .ret rs os ∧ CallEnd ρ H w n os ρ' H' w' ∧ VRel ρ' H' (untup rs) v
    | .panicked chain => ∃ x os ρ' H' u, r = .pan x os ∧ chain = [{ v := u, recovered := false }] ∧ CallEnd ρ H w n os ρ' H' w' ∧ VRel ρ' H' x u

def CFOk (B : Ice) (P : Program) (cf : CF) : Prop := ∀ f vs heap r, cf f vs heap = some r → ∀ (ρ : Map) (H : Ice) (w : World) (args : Array Value), B.le H → HRel ρ H (ofList heap) w → VRels ρ H vs args.toList →
  (∀ l, ρ l ≠ .none → ∃ k, k < heap.length ∧ l = .b k) → CallsTo P f args w ρ H heap.length r

theorem applyW_dead (h : Loc → Option Obj) : ∀ fm : List Loc, applyW h (fm.map (·, none)) = without h fm
  | [] => by funext l; simp [without, applyW]
  | l :: fm => by
    simp only [List.map_cons, applyW]
    rw [applyW_dead _ fm]
    funext l'
    simp only [without, List.mem_cons]
    by_cases h1 : l' ∈ fm
    · simp [h1]
    · by_cases h2 : l' = l <;> simp [h1, h2]

theorem VRels.fits {ρ : Map} {H : Ice} : ∀ {vs : List V} {us : List Value}, VRels ρ H vs us → vs.all fitV = true
  | [], _, _ => rfl
  | v :: vs, _, k => by
    obtain ⟨u, us', rfl, k1, k2⟩ := k
    simp only [List.all_cons, Bool.and_eq_true]
    exact ⟨VRel.fits k1, VRels.fits k2⟩

theorem killM_ne {ρ : Map} {S : List Loc} {l : Loc} (h : ρ l = .none) (hl : l ∉ S) : killM ρ S l = .none := by
  unfold killM
  rw [if_neg hl]
  exact h

theorem callEff_sound {P : Program} {cf : CF} {o : Oper} {a : Act} {w : World} {ρ : Map} {H : Ice} {h : Loc → Option Obj} {i : Nat} {f : FuncId} {args : List (V × Bool)} {us : List Value} {r : R} (hcf : CFOk B P cf)
    (hB : B.le H) (hH : HRel ρ H h w) (hN : ∀ k, ρ (.n i k) = .none) (hv : VRels ρ H (args.map (·.1)) us) (e : callEff cf f i h args = some r)
    (hrun : (execOp a.eval o).run P w = .ok (.enter f ⟨us⟩) w) : Sound P o a w ρ H h i r := by
  obtain ⟨⟨vs, fm⟩, e1, e2⟩ := bnd_eq e
  obtain ⟨⟨vs', os, m⟩, e3, e4⟩ := bnd_eq e2
  obtain ⟨f1, f2, f3, f4⟩ := freeze_heap hH fm
  have hv1 := frzArgs_rel hH args vs fm e1 fm (fun _ h => h) us hv
  obtain ⟨n1, n2, _, n4, n5⟩ := norm_rel f1 List.nodup_nil e3
  have hv2 := n2 us hv1
  rw [hv2.fits, sel_true] at e4
  obtain ⟨cr, e5, e6⟩ := bnd_eq e4
  cases e6
  -- the frozen objects lie somewhere
  have hfm : ∀ l ∈ fm, ∃ xs sz, h l = some (.arr xs sz) := by
    have : ∀ (args : List (V × Bool)) (vs : List V) (m : List Loc), frzArgs h args = some (vs, m) → ∀ l ∈ m, ∃ xs sz, h l = some (.arr xs sz) := by
      intro args
      induction args with
      | nil => intro vs m e l hl; cases e; cases hl
      | cons x args ih =>
        intro vs m e l hl
        obtain ⟨v, fl⟩ := x
        simp only [frzArgs] at e
        split at e
        · rename_i v' m1 vs' m2 q1 q2
          cases e
          rcases List.mem_append.1 hl with h' | h'
          · cases fl with
            | true =>
              simp only [if_true, Option.map_eq_some_iff] at q1
              obtain ⟨⟨y, m'⟩, g1, g2⟩ := q1
              cases g2
              exact (frz_rel hH 24 v y _ g1).1 l h'
            | false =>
              simp only [Bool.false_eq_true, if_false] at q1
              cases q1
              cases h'
          · exact ih vs' m2 q2 l h'
        · cases e
    exact this args vs fm e1
  have alive : ∀ {l}, (h l).isSome = true → ρ l ≠ .none := fun {l} hl hn => by
    obtain ⟨ob, ho⟩ := Option.isSome_iff_exists.1 hl
    have := hH.objs l ob ho
    rw [hn] at this
    cases ob <;> exact this.elim
  have hNf : ∀ k, Loc.n i k ∉ fm := fun k hk => by
    obtain ⟨xs, sz, hh⟩ := hfm _ hk
    exact alive (by rw [hh]; rfl) (hN k)
  have hm : ∀ l ∈ m, killM ρ fm l ≠ .none := fun l hl => by
    rcases norm_alive e3 l hl with h' | h'
    · cases h'
    · obtain ⟨ob, ho⟩ := Option.isSome_iff_exists.1 h'
      intro hn
      have := f1.objs l ob ho
      rw [hn] at this
      cases ob <;> exact this.elim
  have hN1 : ∀ k, killM ρ fm (.n i k) = .none := fun k => killM_ne (hN k) (hNf k)
  have hc := hcf f vs' os cr e5 (renM (killM ρ fm) m) (iceOf ρ H w fm) w ⟨us⟩ (fun b o v e => f2.le hH b o v (hB b o v e)) n1 hv2 (fun l hl => by
    cases l with
    | n a j => exact (hl rfl).elim
    | b k =>
      refine ⟨k, ?_, rfl⟩
      rw [n5]
      by_cases hk : k < m.length
      · exact hk
      · exfalso
        apply hl
        have : m[k]? = none := List.getElem?_eq_none_iff.2 (by omega)
        simp only [renM, this])
  have newAt : NewAt i ρ (killM ρ fm) := fun l h1 h2 => by
    unfold killM at h2
    split at h2
    · rename_i hl
      obtain ⟨xs, sz, hh⟩ := hfm l hl
      exact (alive (by rw [hh]; rfl) h1).elim
    · exact (h2 h1).elim
  -- back in the caller
  have back : ∀ {os' ρ' H' w' v x} (_ : CallEnd (renM (killM ρ fm) m) (iceOf ρ H w fm) w os.length os' ρ' H' w') (_ : VRel ρ' H' x v),
      Post ρ H h w i { v := x.mapL (backL m i), rd := fm ++ m, wr := fm.map (·, none) ++ backObjs m i 0 os' } (backM (killM ρ fm) ρ' m i) H' v w' := by
    intro os' ρ' H' w' v x ce hx
    obtain ⟨b1, b2, b3, b4, b5⟩ := back_rel (i := i) f1 n4 hm hN1 ce.heap ce.trans ce.stays ce.only (by have := ce.len; omega)
    refine ⟨?_, f2.trans b2, f3.trans b3, newAt.trans b4, b5 x v hx⟩
    show HRel _ _ (applyW h (fm.map (·, none) ++ backObjs m i 0 os')) w'
    rw [applyW_append, applyW_dead]
    exact b1
  intro K Q hpost
  refine .inl ?_
  unfold Oper.wp
  rw [hrun]
  show Calls P f ⟨us⟩ w _
  intro cs
  obtain ⟨en, w', fr, hR, rest⟩ := hc cs
  refine ⟨en, w', fr, ?_, rest⟩
  cases en with
  | outgrown => subst hR; exact hpost
  | returned v =>
    obtain ⟨rs, os', ρ', H', rfl, ce, hx⟩ := hR
    exact hpost _ _ _ _ (back ce hx)
  | panicked chain =>
    obtain ⟨x, os', ρ', H', u, rfl, rfl, ce, hx⟩ := hR
    exact hpost _ _ _ _ (back ce hx)
end Go.Rf

/- Calls as operations; going through a text. -/
namespace Go.Rf
variable {B : Ice} {ds : List Deferred} {fx : List (Nat × Value)}

section
variable {P : Program} {T : Tab} {cf : CF} {o : Oper} {a : Act} {w : World} {ρ : Map} {H : Ice} {h : Loc → Option Obj} {i N : Nat} {env : List (Nat × V)} {r : R}

/-- A function with a body. -/
def funOk (P : Program) (f : FuncId) : Bool := match P.funcs[f]? with
  | some fn => !(fn.name == "runtime.NumGoroutine") && fn.body.isSome
  | none => false

def okArgs : List Operand → List (Opnd × Bool) → Bool
  | [], [] => true
  | x :: xs, (y, _) :: ys => okO x y && okArgs xs ys
  | _, _ => false

theorem okArgs_rel (hE : EnvRel B ds fx ρ H N env a) : ∀ {xs ys vs}, okArgs xs ys = true → evs (evO env) ys = some vs → VRels ρ H (vs.map (·.1)) (xs.map a.eval)
  | [], [], vs, _, e => by cases e; rfl
  | [], _ :: _, _, h, _ => by simp [okArgs] at h
  | _ :: _, [], _, h, _ => by simp [okArgs] at h
  | x :: xs, (y, fl) :: ys, vs, h, e => by
    simp only [okArgs, Bool.and_eq_true] at h
    simp only [evs] at e
    split at e
    · rename_i v vs' e1 e2
      cases e
      exact ⟨_, _, rfl, okO_rel hE h.1 e1, okArgs_rel hE h.2 e2⟩
    · cases e

theorem run_callFunc {f : FuncId} (hf : funOk P f = true) (args : Array Value) : (callFunc f args).run P w = .ok (.enter f args) w := by
  unfold funOk at hf
  split at hf
  · rename_i fn hfn
    simp only [Bool.and_eq_true, Bool.not_eq_true'] at hf
    obtain ⟨h1, h2⟩ := hf
    unfold callFunc
    simp only [Sem.run_bind, run_program, Result.andThen_ok, hfn, h1, Bool.false_eq_true, if_false]
    cases hb : fn.body with
    | none => rw [hb] at h2; cases h2
    | some b => simp
  · cases hf

def ok_call (f : FuncId) (args : List (Opnd × Bool)) (P : Program) : Op → Bool
  | .call c => (match c.callee with | .value (.func g) => decide (g = f) | _ => false) && funOk P f && okArgs c.args.toList args
  | _ => false

theorem s_call {f args} (hcf : CFOk B P cf) (hH : HRel ρ H h w) (hE : EnvRel B ds fx ρ H N env a) (hN : ∀ k, ρ (.n i k) = .none) (hok : ok_call f args P o.op = true) (e : exec T cf i (.call f args) (evO env) h = some r) : Sound P o a w ρ H h i r := by
  unfold ok_call at hok
  split at hok
  · rename_i c hop
    simp only [Bool.and_eq_true] at hok
    obtain ⟨⟨h1, h2⟩, h3⟩ := hok
    obtain ⟨vs, e1, e2⟩ := bnd_eq e
    refine callEff_sound hcf hE.base hH hN (okArgs_rel hE h3 e1) e2 ?_
    split at h1
    · rename_i g hc
      simp only [decide_eq_true_eq] at h1
      subst h1
      unfold execOp
      simp only [hop, resolve, hc, Act.eval, Deferred.ofValue]
      rw [Sem.run_bind]
      show Result.andThen (.ok _ w) _ = _
      rw [Result.andThen_ok]
      simp only [invoke]
      rw [run_callFunc h2]
      congr 2
      apply Array.toList_inj.1
      simp
    · cases h1
  · cases hok

def ok_callV (f : Opnd) (args : List (Opnd × Bool)) : Op → Bool
  | .call c => (match c.callee with | .value g => okO g f | _ => false) && okArgs c.args.toList args
  | _ => false

/-- Functions that values hold: what is run has a body. -/
theorem s_callV {f args} (hcf : CFOk B P cf) (hH : HRel ρ H h w) (hE : EnvRel B ds fx ρ H N env a) (hN : ∀ k, ρ (.n i k) = .none) (hfs : ∀ g vs hp r, cf g vs hp = some r → funOk P g = true) (hok : ok_callV f args o.op = true)
    (e : exec T cf i (.callV f args) (evO env) h = some r) : Sound P o a w ρ H h i r := by
  unfold ok_callV at hok
  split at hok
  · rename_i c hop
    simp only [Bool.and_eq_true] at hok
    obtain ⟨h1, h3⟩ := hok
    obtain ⟨g, e1, e2⟩ := bnd_eq e
    obtain ⟨vs, e3, e4⟩ := bnd_eq e2
    obtain ⟨⟨fid, cap⟩, e5, e6⟩ := bnd_eq e4
    split at h1
    · rename_i g' hc
      have hg := okO_rel hE h1 e1
      obtain ⟨us, hgv, hcap⟩ : ∃ us, a.eval g' = .func (.func fid) #[] ⟨us⟩ ∧ VRels ρ H cap us := by
        unfold fnOf at e5
        split at e5
        · cases e5
          obtain ⟨us, hgv, k⟩ := hg
          exact ⟨us, hgv, k.toV⟩
        · cases e5
          obtain ⟨us, hgv, k⟩ := hg
          exact ⟨us, hgv, k⟩
        · cases e5
      have hargs : VRels ρ H ((vs ++ cap.map (·, false)).map (·.1)) (c.args.toList.map a.eval ++ us) := by
        rw [List.map_append]
        refine (okArgs_rel hE h3 e3).append ?_
        rw [List.map_map]
        have : (fun x : V × Bool => x.1) ∘ (fun x : V => (x, false)) = id := rfl
        rw [this, List.map_id]
        exact hcap
      -- the function has a body
      have hb : funOk P fid = true := by
        have e7 : callEff cf fid i h (vs ++ cap.map (·, false)) = some r := e6
        obtain ⟨⟨vs1, fm⟩, f1, f2⟩ := bnd_eq e7
        obtain ⟨⟨vs', os, m⟩, f3, f4⟩ := bnd_eq f2
        obtain ⟨g1, g2, g3, g4⟩ := freeze_heap hH fm
        obtain ⟨n1, n2, _, n4, n5⟩ := norm_rel g1 List.nodup_nil f3
        have hv1 := frzArgs_rel hH _ vs1 fm f1 fm (fun _ h => h) _ hargs
        rw [(n2 _ hv1).fits, sel_true] at f4
        obtain ⟨cr, f5, _⟩ := bnd_eq f4
        exact hfs _ _ _ _ f5
      refine callEff_sound hcf hE.base hH hN hargs e6 ?_
      unfold execOp
      simp only [hop, resolve, hc, hgv, Deferred.ofValue]
      rw [Sem.run_bind]
      show Result.andThen (.ok _ w) _ = _
      rw [Result.andThen_ok]
      simp only [invoke]
      rw [run_callFunc hb]
      congr 2
      apply Array.toList_inj.1
      simp
    · cases h1
  · cases hok

/-! ### Going through a text -/
def ok_range (x : Opnd) (P : Program) : Op → Bool
  | .range t x' => okO x' x && (match P.underlying t with | some .string => true | _ => false)
  | _ => false

theorem s_range {x} (hH : HRel ρ H h w) (hE : EnvRel B ds fx ρ H N env a) (hN : ∀ k, ρ (.n i k) = .none) (hok : ok_range x P o.op = true) (e : exec T cf i (.range x) (evO env) h = some r) : Sound P o a w ρ H h i r := by
  unfold ok_range at hok
  split at hok
  · rename_i t x' hop
    simp only [Bool.and_eq_true] at hok
    obtain ⟨h1, h2⟩ := hok
    have hu : P.underlying t = some .string := by
      split at h2
      · assumption
      · cases h2
    simp only [exec] at e
    split at e
    · rename_i s e1
      cases e
      obtain ⟨hv, hl⟩ := (okO_rel hE h1 e1 : a.eval x' = .string ⟨s.toArray⟩ ∧ s.length ≤ long)
      obtain ⟨k1, k2, k3⟩ := hH.push (hN 0) (.iter s 0) (.stringIter ⟨s.toArray⟩ 0) (.blk w.heap.size) rfl ⟨by simp, hl⟩
      refine Sound.of (v := .pointer (some ⟨w.heap.size, 0, Option.none⟩)) ?_ ⟨k1, k2, k3, NewAt.upd 0 _, ?_⟩
      · unfold execOp
        simp only [hop, hv, Instr.range, Sem.run_bind, run_underlying hu, Result.andThen_ok]
        rfl
      · show BlkAt (updM ρ (.n i 0) _ _) _ _
        rw [updM_self]
        rfl
    · cases e
  · cases hok

def ok_mkMap : Op → Bool
  | .makeMap _ none => true
  | _ => false

theorem s_mkMap (hH : HRel ρ H h w) (hN : ∀ k, ρ (.n i k) = .none) (hok : ok_mkMap o.op = true) (e : exec T cf i .mkMap (evO env) h = some r) : Sound P o a w ρ H h i r := by
  unfold ok_mkMap at hok
  split at hok
  · rename_i t hop
    cases e
    obtain ⟨k1, k2, k3⟩ := hH.push (hN 0) (.map []) (.map #[] 0) (.blk w.heap.size) rfl ⟨[], 0, by simp, .nil⟩
    refine Sound.of (v := .map (some w.heap.size)) ?_ ⟨k1, k2, k3, NewAt.upd 0 _, ?_⟩
    · unfold execOp
      simp only [hop]
      rfl
    · show BlkAt (updM ρ (.n i 0) _ _) _ _
      rw [updM_self]
      rfl
  · cases hok

def ok_next (x : Opnd) : Op → Bool
  | .next x' true => okO x' x
  | _ => false

theorem s_next {x} (hH : HRel ρ H h w) (hE : EnvRel B ds fx ρ H N env a) (hok : ok_next x o.op = true) (e : exec T cf i (.next x) (evO env) h = some r) : Sound P o a w ρ H h i r := by
  unfold ok_next at hok
  split at hok
  · rename_i x' hop
    simp only [exec] at e
    split at e
    · rename_i l e1
      split at e
      · rename_i s pos hl
        have hx : BlkAt (ρ l) (fun r => .pointer (some ⟨r, 0, Option.none⟩)) (a.eval x') := okO_rel hE hok e1
        have hobj := hH.objs l _ hl
        cases hp : ρ l with
        | blk q =>
          rw [hp] at hx hobj
          obtain ⟨hb, hlen⟩ := hobj
          have hx : a.eval x' = .pointer (some ⟨q, 0, Option.none⟩) := hx
          have hlt : q < w.heap.size := (Array.getElem?_eq_some_iff.1 hb).1
          split at e
          · rename_i hpos
            cases e
            have hrun : (Instr.next (a.eval x') true o.type).run P w = .ok (.tuple #[.bool true, .int .i64 pos, .int .i32 (Utf8.decode ⟨s.toArray⟩ pos).1]) { w with heap := w.heap.setIfInBounds q (.stringIter ⟨s.toArray⟩ (pos + (Utf8.decode ⟨s.toArray⟩ pos).2)) } := by
              rw [hx]
              have hps : pos < (⟨s.toArray⟩ : ByteArray).size := by rw [bytes_len]; exact hpos
              simp only [Instr.next, Sem.run_bind, getObj, setObj, Sem.run, hb, Result.andThen_ok]
              simp [hps, Sem.run, hb, goInt]
            obtain ⟨k1, k2⟩ := hH.write (w' := { w with heap := w.heap.setIfInBounds q (.stringIter ⟨s.toArray⟩ (pos + (Utf8.decode ⟨s.toArray⟩ pos).2)) }) (l := l) (b := q) (by rw [hp]; rfl) (.iter s (pos + (dec s pos).2)) ⟨rfl, rfl, rfl, by simp⟩ (fun j hj => by
              show (w.heap.setIfInBounds q _)[j]? = _
              rw [Array.getElem?_setIfInBounds_ne (Ne.symm hj)]) (by
              rw [hp]
              refine ⟨?_, hlen⟩
              show (w.heap.setIfInBounds q _)[q]? = _
              rw [Array.getElem?_setIfInBounds_self]
              simp [hlt, dec])
            refine Sound.of (v := .tuple #[.bool true, .int .i64 pos, .int .i32 (Utf8.decode ⟨s.toArray⟩ pos).1]) ?_ ⟨k1, k2, Stays.refl _, NewAt.refl _ _, ⟨_, rfl, _, _, rfl, rfl, _, _, rfl, rfl, _, _, rfl, rfl, rfl⟩⟩
            unfold execOp
            simp only [hop, Sem.run_bind, hrun, Result.andThen_ok]
            rfl
          · rename_i hpos
            cases e
            have hps : ¬ pos < (⟨s.toArray⟩ : ByteArray).size := by rw [bytes_len]; exact hpos
            refine Sound.pure (x := .tup [.d (.bool false)]) (v := .tuple #[.bool false]) ?_ hH ⟨_, rfl, _, _, rfl, rfl, rfl⟩ [l]
            unfold execOp
            simp only [hop, hx, Instr.next, Sem.run_bind, getObj, Sem.run, hb, Result.andThen_ok]
            simp [hps, Sem.run]
        | none => rw [hp] at hx; exact hx.elim
        | dead => rw [hp] at hobj; exact hobj.elim
        | virt s => rw [hp] at hx; exact hx.elim
        | at_ b1 b2 b3 b4 => rw [hp] at hx; exact hx.elim
      · cases e
    · cases e
  · cases hok
end
end Go.Rf
