/- Parts of the proof: RfData, RfLaw, RfUtf8, RfShape, RfBld. -/
import Derived.Test.YtdgfohkljpjdpaaGreatDoorRg5
import Derived.Below
import Derived.Carry
import Derived.ProofKit
import Derived.Shelf.Unicode.DecodeSlow
import Derived.Shelf.Strings.Builder1

set_option linter.unusedSimpArgs false
set_option linter.unusedVariables false
set_option linter.unnecessarySimpa false
namespace Go.Rf
def ice0 (w : World) : Ice := fun b o => w.cell? ⟨b, o, none⟩
mutual
def toD {H : Type} : DataW H → D
  | .lit (.bool b) => .bool b
  | .lit (.int k n) => .int k n
  | .lit (.string s) => .str s
  | .slice es _ => .sl (toDs es)
  | .agg ps => .agg (toCs ps)
  | .nil => .sl []
  | _ => .nilp
def toDs {H : Type} : List (DataW H) → List D
  | [] => []
  | d :: ds => toD d :: toDs ds
def toCs {H : Type} : List (DataW H) → List D
  | [] => []
  | .agg qs :: ps => toCs qs ++ toCs ps
  | .lit (.bool b) :: ps => .bool b :: toCs ps
  | .lit (.int k n) :: ps => .int k n :: toCs ps
  | .lit (.string s) :: ps => .str s :: toCs ps
  | .nil :: ps => .sl [] :: toCs ps
  | .slice es _ :: ps => .sl (toDs es) :: toCs ps
  | _ :: ps => .nilp :: toCs ps
end
def qig {H : Type} : DataW H → List D
  | .agg qs => toCs qs
  | d => [toD d]
theorem q0v {H : Type} (d : DataW H) (ps : List (DataW H)) : toCs (d :: ps) = qig d ++ toCs ps := by
  cases d with
  | lit l => cases l <;> simp [toCs, qig, toD]
  | _ => simp [toCs, qig, toD]
mutual
def bulk {H : Type} : DataW H → Nat
  | .lit (.string bytes) => bytes.length + 1
  | .lit _ => 1
  | .nil => 1
  | .ptr d => bulk d + 1
  | .slice elems spare => bulks elems + bulks spare + 1
  | .agg parts => bulks parts + 1
  | .iface _ d => bulk d + 1
  | .map entries => q6f entries + 1
  | .held _ => 1
def bulks {H : Type} : List (DataW H) → Nat
  | [] => 0
  | d :: r => bulk d + bulks r
def q6f {H : Type} : List (Lit × DataW H) → Nat
  | [] => 0
  | x :: r => bulkE x + q6f r
def bulkE {H : Type} : Lit × DataW H → Nat
  | (.string bytes, d) => bytes.length + bulk d + 1
  | (_, d) => bulk d + 1
end
theorem q3v {H : Type} (d : DataW H) : 1 ≤ bulk d := by
  cases d with
  | lit l => cases l <;> simp [bulk]
  | _ => simp [bulk]
theorem qtv {H : Type} : ∀ l : List (DataW H), l.length ≤ bulks l
  | [] => Nat.le_refl _
  | d :: l => by have := q3v d; have := qtv l; simp only [bulks, List.length_cons]; omega
mutual
theorem q0o {H : Type} : ∀ d : DataW H, wts (qig d) ≤ 24 * bulk d
  | .lit l => by
    cases l <;> simp [qig, toD, wts, wt, bulk]
    · rename_i k _; cases k <;> simp [IntKind.bits]
    · omega
  | .nil => by simp [qig, toD, wts, wt, bulk]
  | .ptr d => by simp [qig, toD, wts, wt, bulk]; omega
  | .slice _ _ => by simp [qig, toD, wts, wt, bulk]; omega
  | .agg ps => by have := q44 ps; simp only [qig, bulk]; omega
  | .iface _ d => by simp [qig, toD, wts, wt, bulk]; omega
  | .map _ => by simp [qig, toD, wts, wt, bulk]; omega
  | .held _ => by simp [qig, toD, wts, wt, bulk]
theorem q44 {H : Type} : ∀ ps : List (DataW H), wts (toCs ps) ≤ 24 * bulks ps
  | [] => by simp [toCs, wts]
  | d :: ps => by
    have h1 := q0o d
    have h2 := q44 ps
    have happ : ∀ a b : List D, wts (a ++ b) = wts a + wts b := by
      intro a
      induction a with
      | nil => intro b; simp [wts]
      | cons x a ih => intro b; simp only [List.cons_append, wts, ih]; omega
    rw [q0v, happ, bulks]
    omega
end
theorem wt_toD {H : Type} (d : DataW H) : wt (toD d) = wts (qig d) := by
  cases d with
  | agg ps => simp [toD, qig, wt]
  | lit l => cases l <;> simp [toD, qig, wts]
  | _ => simp [toD, qig, wts]
theorem q8k {H : Type} : ∀ ds : List (DataW H), wl (toDs ds) ≤ 1 + 24 * bulks ds
  | [] => by simp [toDs, wl]
  | d :: ds => by
    have h1 := q0o d
    have h2 := q8k ds
    simp only [toDs, wl, bulks, wt_toD]
    omega
theorem qqf {H : Type} : ∀ ds : List (DataW H), (toDs ds).length = ds.length
  | [] => rfl
  | d :: ds => by simp [toDs, qqf ds]
theorem zao {H : Type} {ds : List (DataW H)} (h : bulks ds ≤ 1048576) : (toDs ds).length * wl (toDs ds) ≤ lots := by
  have h1 : (toDs ds).length ≤ 1048576 := by rw [qqf]; exact Nat.le_trans (qtv ds) h
  have h2 : wl (toDs ds) ≤ 1 + 24 * 1048576 := Nat.le_trans (q8k ds) (by omega)
  exact Nat.le_trans (Nat.mul_le_mul h1 h2) (by unfold lots; omega)
mutual
def okT (P : Program) : Nat → TypeId → Bool
  | 0, _ => false
  | f + 1, t => match P.underlying t with
    | some .bool | some (.int _) | some .string => decide (P.cellsOf t = 1)
    | some (.slice e) => decide (P.cellsOf t = 1) && decide (0 < P.cellsOf e) && okT P f e
    | some (.struct fs) => okFs P f fs.toList 0 (P.cellsOf t)
    | _ => false
def okFs (P : Program) : Nat → List Field → Nat → Nat → Bool
  | _, [], o, n => decide (o = n)
  | 0, _ :: _, _, _ => false
  | f + 1, fl :: l, o, n => decide (fl.offset = o) && okT P f fl.type && okFs P f l (o + P.cellsOf fl.type) n
end
theorem zd1 (a : Addr) (x y : Nat) : (a.add x).add y = a.add (x + y) := by
  unfold Addr.add
  by_cases hx : x = 0 <;> by_cases hy : y = 0 <;> simp [hx, hy, Nat.add_assoc]
theorem q2a {α β : Type} {f : α → Option β} : ∀ {l : List α} {ys : List β}, l.mapM f = some ys → All2 (fun a b => f a = some b) l ys
  | [], ys, h => by simp at h; subst h; exact .nil
  | a :: l, ys, h => by
    rw [List.mapM_cons] at h
    cases hf : f a with
    | none => rw [hf] at h; simp at h
    | some b =>
      rw [hf] at h
      cases hm : l.mapM f with
      | none => rw [hm] at h; simp at h
      | some bs =>
        rw [hm] at h
        simp at h
        subst h
        exact .cons hf (q2a hm)
theorem q2z {w : World} {a : Addr} : ∀ {n s : Nat} {cs : List Value}, All2 (fun i v => w.cell? (a.add i) = some v) (List.range' s n) cs → cs.length = n ∧ ∀ j v, cs[j]? = some v → w.cell? (a.add (s + j)) = some v
  | 0, s, _, .nil => ⟨rfl, fun j v h => by simp at h⟩
  | n + 1, s, _, .cons h k => by
    obtain ⟨k1, k2⟩ := q2z k
    refine ⟨by simp [k1], fun j v hj => ?_⟩
    cases j with
    | zero => simp at hj; subst hj; exact h
    | succ j =>
      have := k2 j v (by simpa using hj)
      rwa [Nat.add_right_comm, Nat.add_assoc] at this
section
variable {H : Type} {enc : TypeId × Value → H} {P : Program} {w : World} {sp : Nat → Bool} {held : Bool}
def mkVal (d : DataW H) (cs : List Value) : Value := match d with
  | .agg _ => .agg ⟨cs⟩
  | _ => cs.headD undef
structure Read (P : Program) (w : World) (t : TypeId) (d : DataW H) (cs : List Value) : Prop where
  rel : DRels (ice0 w) (qig d) cs
  flat : (qig d).any qpc = false
  len : cs.length = P.cellsOf t
theorem Read.val {t : TypeId} {d : DataW H} {cs : List Value} (k : Read P w t d cs) : DRel (ice0 w) (toD d) (mkVal d cs) ∧ (mkVal d cs).cells.toList = cs := by
  cases d with
  | agg ps => exact ⟨⟨cs, rfl, k.rel, k.flat⟩, rfl⟩
  | _ =>
    obtain ⟨v, vs, h1, h2, h3⟩ := k.rel
    cases h3
    subst h1
    have := DRel.one h2 (by simpa [qig] using k.flat)
    refine ⟨h2, ?_⟩
    simp only [mkVal, List.headD_cons]
    rw [qbk this]
theorem q1a {a : Addr} {sz : Nat} (hsz : 0 < sz) {e : TypeId} (he : P.cellsOf e = sz) {g : List Value → Option (DataW H × List MemPlace)} (hg : ∀ cs x, g cs = some x → bulk x.1 ≤ 1048576 → Read P w e x.1 cs) :
    ∀ (m s : Nat) (xs : List (DataW H × List MemPlace)), All2 (fun i x => (w.cells? 0 (a.add (i * sz)) sz).bind g = some x) (List.range' s m) xs → bulks (xs.map (·.1)) ≤ 1048576 →
      ∃ us, DRels (ice0 w) (toDs (xs.map (·.1))) us ∧ (∀ u ∈ us, u.cells.size = sz) ∧ (∀ j v, (flat us)[j]? = some v → w.cell? (a.add (s * sz + j)) = some v) ∧ us.length = m
  | 0, s, _, .nil, _ => ⟨[], rfl, (fun u h => by cases h), (fun j v h => by simp [Rf.flat] at h), rfl⟩
  | m + 1, s, x :: xs, .cons h k, hb => by
    simp only [List.map_cons, bulks] at hb
    obtain ⟨us, k1, k2, k3, k4⟩ := q1a hsz he hg m (s + 1) xs k (by omega)
    rw [Option.bind_eq_some_iff] at h
    obtain ⟨cs, h1, h2⟩ := h
    have hr := hg cs x h2 (by omega)
    obtain ⟨r1, r2⟩ := hr.val
    unfold World.cells? at h1
    rw [if_pos (Nat.zero_le _), List.range_eq_range'] at h1
    obtain ⟨c1, c2⟩ := q2z (q2a h1)
    have hs : (mkVal x.1 cs).cells.size = sz := by rw [← Array.length_toList, r2, c1]
    refine ⟨mkVal x.1 cs :: us, ⟨_, _, rfl, r1, k1⟩, fun u hu => ?_, fun j v hj => ?_, by simp [k4]⟩
    · rcases List.mem_cons.1 hu with rfl | hu
      · exact hs
      · exact k2 u hu
    · rw [qeu, r2] at hj
      by_cases hjs : j < sz
      · rw [List.getElem?_append_left (by omega)] at hj
        have := c2 j v hj
        rw [Nat.zero_add] at this
        rwa [zd1] at this
      · rw [List.getElem?_append_right (by omega), c1] at hj
        have := k3 _ v hj
        have e2 : (s + 1) * sz + (j - sz) = s * sz + j := by rw [Nat.add_mul]; omega
        rwa [e2] at this
theorem qya {β : Type} {F : Nat → Option β} : ∀ (n s : Nat) (xs : List β), xs.length = n → (∀ i, i < n → F (s + i) = xs[i]?) → All2 (fun i x => F i = some x) (List.range' s n) xs
  | 0, s, [], _, _ => .nil
  | n + 1, s, x :: xs, hl, h => by
    rw [List.range'_succ]
    refine .cons (by simpa using h 0 (by omega)) (qya n (s + 1) xs (by simpa using hl) fun i hi => ?_)
    have := h (i + 1) (by omega)
    rw [Nat.add_assoc, Nat.add_comm 1 i]
    simpa using this
theorem q29 {α β : Type} {F : α → Option β} : ∀ (l : List α) (xs : List β), xs.length = l.length → (∀ (i : Nat) (f : α), l[i]? = some f → F f = xs[i]?) → All2 (fun f x => F f = some x) l xs
  | [], [], _, _ => .nil
  | f :: l, x :: xs, hl, h => .cons (by simpa using h 0 f rfl) (q29 l xs (by simpa using hl) fun i g hg => by simpa using h (i + 1) g (by simpa using hg))
mutual
theorem qth : ∀ (f : Nat) (t : TypeId), okT P f t = true → ∀ (fuel : Nat) (cs : List Value) (x : DataW H × List MemPlace), DataW.trod enc P w 0 sp held fuel t cs = some x → bulk x.1 ≤ 1048576 → Read P w t x.1 cs
  | 0, t, h, _, _, _, _, _ => by simp [okT] at h
  | f + 1, t, h, fuel, cs, x, e, hb => by
    unfold okT at h
    split at h
    · rename_i hu
      simp only [decide_eq_true_eq] at h
      obtain ⟨b, rfl, rfl⟩ := DataW.trod_bool hu e
      exact ⟨⟨_, _, rfl, rfl, rfl⟩, rfl, by rw [h]; rfl⟩
    · rename_i k hu
      simp only [decide_eq_true_eq] at h
      obtain ⟨n, rfl, rfl, _⟩ := DataW.trod_int hu e
      exact ⟨⟨_, _, rfl, rfl, rfl⟩, rfl, by rw [h]; rfl⟩
    · rename_i hu
      simp only [decide_eq_true_eq] at h
      obtain ⟨s, rfl, rfl, hs⟩ := DataW.trod_string hu e
      refine ⟨⟨_, _, rfl, ⟨rfl, ?_⟩, rfl⟩, rfl, by rw [h]; rfl⟩
      simp only [bulk] at hb
      unfold long
      omega
    · rename_i el hu
      simp only [Bool.and_eq_true, decide_eq_true_eq] at h
      obtain ⟨⟨h1, h2⟩, h3⟩ := h
      rcases DataW.trod_slice hu e with ⟨rfl, rfl⟩ | ⟨a, len, cap, elems, rest, n, rfl, rfl, rfl, _, hlc, _, hel, hget, _⟩
      · exact ⟨⟨_, _, rfl, ⟨none, 0, rfl, Nat.le_refl _, by simp [wl], fun h => absurd rfl h⟩, rfl⟩, rfl, by rw [h1]; rfl⟩
      · simp only [bulk] at hb
        obtain ⟨us, k1, k2, k3, k4⟩ := q1a h2 rfl (fun cs x e hb => qth f el h3 n cs x e hb) len 0 elems (qya (F := fun i => (w.cells? 0 (a.add (i * P.cellsOf el)) (P.cellsOf el)).bind (DataW.trod enc P w 0 sp held n el)) len 0 elems hel (fun i hi => by rw [Nat.zero_add]; exact hget i hi)) (by omega)
        have hlen : (toDs (elems.map (·.1))).length = len := by rw [qqf, List.length_map, hel]
        refine ⟨⟨_, _, rfl, ⟨some a, cap, by rw [hlen], by omega, zao (by omega), fun hne => ?_⟩, rfl⟩, rfl, by rw [h1]; rfl⟩
        obtain ⟨b, off, spot⟩ := a
        have hsp : spot = none := by
          cases hl : len with
          | zero => rw [hl] at hlen; exact (hne (List.eq_nil_of_length_eq_zero hlen)).elim
          | succ m =>
            obtain ⟨u, us', rfl⟩ : ∃ u us', us = u :: us' := by cases us with | nil => simp [hl] at k4 | cons u us' => exact ⟨u, us', rfl⟩
            have hu := k2 u (List.mem_cons_self ..)
            have hc : (Rf.flat (u :: us'))[0]? = some (u.cells.toList[0]'(by simp [hu]; exact h2)) := by
              rw [qeu, List.getElem?_append_left (by simp [hu]; exact h2)]
              exact List.getElem?_eq_getElem _
            have := k3 0 _ hc
            unfold World.cell? at this
            split at this
            · split at this
              · cases this
              · rename_i hn; simpa [Addr.add] using hn
            · cases this
        subst hsp
        exact ⟨b, off, P.cellsOf el, us, rfl, k1, k2, fun j v hj => by
          have := k3 j v hj
          rw [Nat.zero_mul, Nat.zero_add, qmm] at this
          exact this⟩
    · rename_i fs hu
      obtain ⟨xs, n, rfl, rfl, hl, hxs, hget⟩ := DataW.trod_struct hu e
      simp only [bulk] at hb
      obtain ⟨k1, k2⟩ := zak f fs.toList 0 _ h n cs hl xs (q29 _ _ (by simpa using hxs) (fun i g hg => hget i g (by simpa using hg))) (by omega)
      exact ⟨by simpa [qig] using k1, k2, hl⟩
    · cases h
theorem zak : ∀ (f : Nat) (l : List Field) (o n : Nat), okFs P f l o n = true → ∀ (fuel : Nat) (cs : List Value), cs.length = n → ∀ xs, All2 (fun fl (x : DataW H × List MemPlace) => DataW.trod enc P w 0 sp held fuel fl.type ((cs.drop fl.offset).take (P.cellsOf fl.type)) = some x) l xs → bulks (xs.map (·.1)) ≤ 1048576 →
    DRels (ice0 w) (toCs (xs.map (·.1))) (cs.drop o) ∧ (toCs (xs.map (·.1))).any qpc = false
  | f, [], o, n, h, fuel, cs, hl, xs, k, hb => by
    cases k
    have ho : o = n := by cases f <;> simpa [okFs] using h
    rw [List.drop_eq_nil_of_le (by omega)]
    exact ⟨rfl, rfl⟩
  | 0, _ :: _, o, n, h, _, _, _, _, _, _ => by simp [okFs] at h
  | f + 1, fl :: l, o, n, h, fuel, cs, hl, x :: xs, .cons k1 k2, hb => by
    simp only [okFs, Bool.and_eq_true, decide_eq_true_eq] at h
    obtain ⟨⟨h1, h2⟩, h3⟩ := h
    simp only [List.map_cons, bulks] at hb
    have r := qth f fl.type h2 fuel _ x k1 (by omega)
    obtain ⟨s1, s2⟩ := zak f l _ n h3 fuel cs hl xs k2 (by omega)
    rw [List.map_cons, q0v]
    refine ⟨?_, by rw [List.any_append, r.flat, s2]; rfl⟩
    have hsp : cs.drop o = (cs.drop fl.offset).take (P.cellsOf fl.type) ++ cs.drop (o + P.cellsOf fl.type) := by
      rw [h1, ← List.drop_drop, List.take_append_drop]
    rw [hsp]
    have app : ∀ {a b : List D} {u v : List Value}, DRels (ice0 w) a u → DRels (ice0 w) b v → DRels (ice0 w) (a ++ b) (u ++ v) := by
      intro a
      induction a with
      | nil => intro b u v h k; cases h; exact k
      | cons y a ih => intro b u v h k; obtain ⟨z, zs, rfl, h1, h2⟩ := h; exact ⟨z, zs ++ v, rfl, h1, ih h2 k⟩
    exact app r.rel s1
end
end
end Go.Rf

namespace Go.Rf
open Go.ChangeShapes Go.WideShapes Go.RowKit
section
variable {H : Type} {enc : TypeId × Value → H} {P : Program} {w : World} {sp : Nat → Bool} {held : Bool}
theorem zc9 {f : Nat} {t : TypeId} (h : okT P f t = true) {r : Reach} {base fuel : Nat} {v : Value} {x : DataW H × List MemPlace} (hv : Value.okWide P w r base t v) (e : DataW.trod enc P w 0 sp held fuel t v.cells.toList = some x) : mkVal x.1 v.cells.toList = v := by
  cases f with
  | zero => simp [okT] at h
  | succ f =>
    unfold okT at h
    split at h
    · rename_i hu
      obtain ⟨b, rfl⟩ := okWide_bool hu hv
      obtain ⟨b', h1, rfl⟩ := DataW.trod_bool hu e
      rfl
    · rename_i k hu
      obtain ⟨b, rfl⟩ := okWide_int hu hv
      obtain ⟨b', h1, rfl, _⟩ := DataW.trod_int hu e
      rfl
    · rename_i hu
      obtain ⟨b, rfl⟩ := okWide_string hu hv
      obtain ⟨b', h1, rfl, _⟩ := DataW.trod_string hu e
      rfl
    · rename_i el hu
      obtain ⟨a, l, c, rfl⟩ := okWide_slice hu hv
      rcases DataW.trod_slice hu e with ⟨_, rfl⟩ | ⟨a, len, cap, elems, rest, n, _, _, rfl, _⟩
      · rfl
      · rfl
    · rename_i fs hu
      simp only [Value.okWide, hu] at hv
      obtain ⟨cs, rfl, _⟩ := hv
      obtain ⟨xs, n, _, rfl, _⟩ := DataW.trod_struct hu e
      rfl
    · cases h
theorem qtl {f : Nat} {r : Reach} {base : Nat} {ρ : Map} : ∀ (ts : List TypeId) (vs : List Value) (ds : List (DataW H)) (ps : List MemPlace), DataW.TrodAll enc P w 0 sp held ts vs ds ps → (∀ t ∈ ts, okT P f t = true) →
    (∀ (j : Nat) t v, ts[j]? = some t → vs[j]? = some v → Value.okWide P w r base t v) → bulks ds ≤ 1048576 → VRels ρ (ice0 w) (ds.map fun d => .d (toD d)) vs
  | [], [], [], _, _, _, _, _ => rfl
  | t :: ts, v :: vs, d :: ds, ps, h, hok, hv, hb => by
    obtain ⟨p, q, ⟨fuel, h1⟩, h2, _⟩ := h
    simp only [bulks] at hb
    have hr := qth f t (hok t (List.mem_cons_self ..)) fuel _ _ h1 (by simp only; omega)
    have hm := zc9 (hok t (List.mem_cons_self ..)) (hv 0 t v rfl rfl) h1
    refine ⟨v, vs, rfl, ?_, qtl ts vs ds q h2 (fun t' ht => hok t' (List.mem_cons_of_mem _ ht)) (fun j t' v' a b => hv (j + 1) t' v' (by simpa using a) (by simpa using b)) (by omega)⟩
    have := hr.val.1
    rw [hm] at this
    exact this
  | [], _ :: _, _, _, h, _, _, _ => h.elim
  | [], [], _ :: _, _, h, _, _, _ => h.elim
  | _ :: _, [], _, _, h, _, _, _ => h.elim
  | _ :: _, _ :: _, [], _, h, _, _, _ => h.elim
theorem qrf (hl : laidOutB P = true) {W W' : World} (hb : Below W.heap.size W W') : ∀ (ts : List TypeId) (vs : List Value) (ds : List (DataW H)) (ps : List MemPlace), (∀ t ∈ ts, P.readableRec t = true ∧ t < P.types.size) →
    DataW.TrodAll enc P W 0 (fun _ => true) true ts vs ds ps → (∀ x ∈ ps, x.block < W.heap.size) → DataW.TrodAll enc P W' 0 (fun b => decide (b < W.heap.size)) true ts vs ds ps
  | [], [], [], _, _, h, _ => h
  | t :: ts, v :: vs, d :: ds, ps, hok, h, hlt => by
    obtain ⟨p, q, h1, h2, rfl⟩ := h
    exact ⟨p, q, Below.trod hl (hok t (List.mem_cons_self ..)).1 (hok t (List.mem_cons_self ..)).2 h1 hb (fun x hx => hlt x (List.mem_append_left _ hx)), qrf hl hb ts vs ds q (fun t' ht => hok t' (List.mem_cons_of_mem _ ht)) h2 (fun x hx => hlt x (List.mem_append_right _ hx)), rfl⟩
  | [], _ :: _, _, _, _, h, _ => h.elim
  | [], [], _ :: _, _, _, h, _ => h.elim
  | _ :: _, [], _, _, _, h, _ => h.elim
  | _ :: _, _ :: _, [], _, _, h, _ => h.elim
end
theorem q85 (W : World) : HRel (fun _ => .none) (ice0 W) (qa6 []) W where
  ice := fun _ _ _ e => e
  objs := fun l o e => by cases l <;> simp [qa6] at e
  gone := fun _ _ => .inl rfl
  inj := fun _ _ _ e => by cases e
  sep := fun _ _ e => by cases e
theorem zab {P : Program} {T : Tab} {X : Exts} {W : World} (hT : ∀ f af, T.funs f = some af → okFun P f af = true) (hR : ∀ f r, T.recs f = some r → qvt P f r = true) (hX : ∀ f e, X.run f = some e → ExtOk (ice0 W) P f e) {n : Nat} {f : FuncId} {vs : List V} {args : Array Value}
    (hv : VRels (fun _ => .none) (ice0 W) vs args.toList) (hc : call T X n f vs [] = some (.ret [.d (.bool true)] [])) : Calls P f args W fun e W' => e = .returned (.bool true) ∧ Below W.heap.size W W' := by
  have h := (za7 hT hR hX n).1 f vs [] _ hc (fun _ => .none) (ice0 W) W args (fun _ _ _ e => e) (q85 W) hv (fun l hl => (hl rfl).elim)
  unfold qof at h
  refine h.mono fun e W' he => ?_
  cases e with
  | outgrown => cases he
  | panicked ch => obtain ⟨_, _, _, _, _, h1, _⟩ := he; cases h1
  | returned v =>
    obtain ⟨rs, os, ρ', H', h1, h2, h3⟩ := he
    cases h1
    refine ⟨by rw [show v = .bool true from h3], ⟨h2.trans.os, h2.trans.tape, h2.trans.output, h2.trans.size, fun k hk => (h2.trans.keep k hk (fun l hl => by cases hl)).1⟩⟩
end Go.Rf

namespace Go.Rf
variable {B : Ice}
def zbs (B : Ice) (g3 g4 : Nat) : Prop :=
  (∀ c, c < 256 → B g3 c = some (.int .u8 (Lib.firstT c))) ∧ ∀ i, i < 16 → B g4 (2 * i) = some (.int .u8 (Lib.accLo i)) ∧ B g4 (2 * i + 1) = some (.int .u8 (Lib.accHi i))
theorem q79 {w w' : World} (k : RowKit.Below w.heap.size w w') {a : Addr} {v : Value} (h : w.cell? a = some v) : w'.cell? a = some v := by
  rw [k.cell (World.block_lt_of_cell? w a h)]
  exact h
theorem HRel.below {ρ : Map} {H : Ice} {h : Loc → Option Obj} {w w' : World} (hH : HRel ρ H h w) (k : RowKit.Below w.heap.size w w') : HRel ρ H h w' where
  ice := fun b o v e => q79 k (hH.ice b o v e)
  objs := fun l o e => (hH.objs l o e).mono (Stays.refl _) (fun _ _ _ e => e) (fun b hb => k.block b (hH.lt hb))
  gone := hH.gone
  inj := hH.inj
  sep := hH.sep
theorem Trans.below {ρ : Map} {H : Ice} {w w' : World} (k : RowKit.Below w.heap.size w w') : Trans ρ H w ρ H w' :=
  ⟨k.os, k.tape, k.output, k.size, fun b hb _ => ⟨k.block b hb, fun _ => rfl⟩, fun l _ h => .inr ⟨l, h⟩⟩
theorem zh2 {P : Program} {R : Shelf.Ren} (L : Go.Proofs.Lays.n260 P R) (hf : funOk P (R.f 260) = true) (hT : zbs B (R.g 3) (R.g 4)) : ExtOk B P (R.f 260) decX := by
  refine ⟨hf, fun cf _ vs heap r e ρ H w args hB hH hv honly => ?_⟩
  unfold decX at e
  split at e
  · rename_i s
    cases e
    obtain ⟨v, vs', h1, h2, h3⟩ := hv
    cases h3
    obtain ⟨rfl, hl⟩ := (h2 : v = .string ⟨s.toArray⟩ ∧ s.length ≤ long)
    have ha : args = #[.string ⟨s.toArray⟩] := Array.toList_inj.1 h1
    subst ha
    have cell : ∀ {b o v}, B b o = some v → w.cell? ⟨b, o, none⟩ = some v := fun {b o v} h => hH.ice b o v (hB b o v h)
    have tabs : Lib.Utf8Tabs (R.g 3) (R.g 4) w := ⟨fun c hc => cell (hT.1 c hc), fun i hi => ⟨cell (hT.2 i hi).1, cell (hT.2 i hi).2⟩⟩
    unfold qof
    refine (Go.Proofs.Any.utf8_decodeRuneInStringSlow L ⟨s.toArray⟩ w tabs).mono fun e w' he => ?_
    obtain ⟨rfl, hb⟩ := he
    refine ⟨_, _, ρ, H, rfl, ⟨hH.below hb, Trans.below hb, Stays.refl _, fun l hl => by obtain ⟨k, _, hk⟩ := honly l hl; exact ⟨k, hk⟩, Nat.le_refl _⟩, ?_⟩
    have hd : Lib.decodeGo ⟨s.toArray⟩ = decGo s := by
      unfold Lib.decodeGo decGo dec
      simp [ByteArray.size]
    rw [hd]
    exact ⟨[_, _], rfl, _, _, rfl, rfl, _, _, rfl, rfl, rfl⟩
  · cases e
end Go.Rf

namespace Go.Rf
open Go.ChangeShapes
section
variable {H : Type} {enc : TypeId × Value → H} {P : Program} {w : World} {sp : Nat → Bool} {held : Bool} {fuel : Nat} {t : TypeId} {cs : List Value} {x : DataW H × List MemPlace}
theorem q60 (ht : P.underlying t = some .string) (h : DataW.trod enc P w 0 sp held fuel t cs = some x) : ∃ s : List UInt8, toD x.1 = .str s ∧ s.length ≤ bulk x.1 := by
  obtain ⟨s, _, hx, _⟩ := DataW.trod_string ht h
  exact ⟨s.data.toList, by rw [hx]; rfl, by rw [hx]; simp [bulk]⟩
end
end Go.Rf

namespace Go.Rf
variable {B : Ice}
theorem qqv (o : Obj) (os : List Obj) (ho : o ≠ .dead) : qa6 (o :: os) (.b 0) = some o := by
  unfold qa6
  simp only [List.getElem?_cons_zero]
  split
  · rename_i e; cases e; exact absurd rfl ho
  · rfl
theorem q38 (o o' : Obj) (os : List Obj) (ho : o' ≠ .dead) : updH (qa6 (o :: os)) (.b 0) (some o') = qa6 (o' :: os) := by
  funext l
  by_cases h : l = .b 0
  · subst h; rw [qfh, qqv _ _ ho]
  · rw [qhz h]
    cases l with
    | n i k => rfl
    | b n =>
      cases n with
      | zero => exact absurd rfl h
      | succ n => rfl
theorem q13 (o o' : Obj) (os : List Obj) : updH (qa6 (o :: o' :: os)) (.b 1) none = qa6 (o :: .dead :: os) := by
  funext l
  by_cases h : l = .b 1
  · subst h; rw [qfh]; rfl
  · rw [qhz h]
    cases l with
    | n i k => rfl
    | b n =>
      match n with
      | 0 => rfl
      | 1 => exact absurd rfl h
      | n + 2 => rfl
theorem HRel.free {ρ : Map} {H : Ice} {h : Loc → Option Obj} {w w' : World} (k : HRel ρ H h w) {g : Nat} (hg : ∀ l, (ρ l).block ≠ some g) (hi : ∀ o, H g o = none) (hk : ∀ i, i ≠ g → w'.heap[i]? = w.heap[i]?) : HRel ρ H h w' where
  ice := fun b o v e => by
    have hne : b ≠ g := fun hb => by rw [hb, hi o] at e; cases e
    exact (World.cell?_of_block (w := w) (a := ⟨b, o, Option.none⟩) (w' := w') (hk b hne)).trans (k.ice b o v e)
  objs := fun l o e => (k.objs l o e).mono (Stays.refl _) (fun _ _ _ e => e) (fun b hb => hk b (fun e => hg l (e ▸ hb)))
  gone := k.gone
  inj := k.inj
  sep := k.sep
theorem qx5 {ρ : Map} {H : Ice} : ∀ {ys : List V} {us : List Value} {s : List UInt8}, qx6 ys = some s → VRels ρ H ys us → us = Lib.byteCells s ∧ flat us = us
  | [], us, s, e, k => by cases e; cases k; exact ⟨rfl, rfl⟩
  | y :: ys, us, s, e, k => by
    obtain ⟨u, us', rfl, k1, k2⟩ := k
    unfold qx6 at e
    split at e
    · rename_i h; cases h
    · rename_i n l hy
      cases hy
      split at e
      · rename_i hn
        obtain ⟨s', e1, rfl⟩ := Option.map_eq_some_iff.1 e
        obtain ⟨rfl, h3⟩ := qx5 e1 k2
        have k1 : u = .int .u8 n := k1
        subst k1
        have : ((UInt8.ofNat n.toNat).toNat : Int) = n := by
          rw [UInt8.toNat_ofNat', Nat.mod_eq_of_lt (by omega)]
          omega
        refine ⟨congrArg (· :: Lib.byteCells s') (congrArg (Value.int .u8) this.symm), ?_⟩
        simp only [flat, List.flatMap_cons] at h3 ⊢
        rw [h3]
        rfl
      · cases e
    · cases e
open Go.Proofs Go.Shelf Go.RowKit in
theorem ccX_ok {P : Program} {R : Shelf.Ren} (L : Go.Proofs.Lays.n240 P R) (X : Go.Proofs.Builder.X72 P R) (hf : funOk P (R.f 240) = true) : ExtOk B P (R.f 240) (ccX (R.t 72 + 1000000)) := by
  refine ⟨hf, fun cf _ vs heap r e ρ H w args hB hH hv honly => ?_⟩
  have key : ∀ (a rr : V) (rest : List Obj) (args : Array Value), HRel ρ H (qa6 (.arr [.agg [a, rr]] ⟨2, R.t 72 + 1000000⟩ :: rest)) w → VRels ρ H [.ptr (.b 0) 0 0] args.toList →
      ∃ b arr va vr, ρ (.b 0) = .at_ b 0 ⟨2, R.t 72 + 1000000⟩ 2 ∧ args = #[.pointer (some ⟨b, 0, Option.none⟩)] ∧ w.heap[b]? = some (.cells arr (R.t 72) (0, 0)) ∧ arr.size = 2 ∧ VRel ρ H a va ∧ VRel ρ H rr vr ∧ arr[0]? = some va ∧ arr[1]? = some vr ∧ [a, rr].any qfk = false := by
    intro a rr rest args hH hv
    have hobj := hH.objs (.b 0) _ (qqv _ _ (by intro h; cases h))
    obtain ⟨v, vs', h1, h2, h3⟩ := hv
    cases h3
    have h2 : PtrAt (ρ (.b 0)) 0 0 v := h2
    cases hp : ρ (.b 0) with
    | at_ b base s size =>
      rw [hp] at hobj h2
      obtain ⟨rfl, arr, elem, fr, us, hb, hsize, hus, hj, hs, hc, hty⟩ := hobj
      obtain ⟨t1, t2, t3, t4⟩ := hty (Nat.le_add_left ..)
      have t4 := t4 (show (2 : Nat) ≠ 1 by decide)
      have t1 : elem = R.t 72 := Nat.add_right_cancel t1
      subst t1 t2 t3 t4
      obtain ⟨u, us', rfl, k1, k2⟩ := hus
      cases k2
      obtain ⟨cs, rfl, q1, q2⟩ := k1
      obtain ⟨va, l1, rfl, m1, m2⟩ := q1
      obtain ⟨vr, l2, rfl, m3, m4⟩ := m2
      cases m4
      have c0 := hc 0 va rfl
      have c1 := hc 1 vr rfl
      refine ⟨b, arr, va, vr, rfl, ?_, hb, by simpa using hsize, m1, m3, by simpa using c0, by simpa using c1, q2⟩
      have h2 : v = .pointer (some ⟨b, 0 + 0 * 2 + 0, Option.none⟩) := h2
      rw [h2] at h1
      exact Array.toList_inj.1 h1
    | none => rw [hp] at h2; exact h2.elim
    | dead => rw [hp] at hobj; exact hobj.elim
    | virt s => rw [hp] at h2; exact h2.elim
    | blk q => rw [hp] at h2; exact h2.elim
  unfold ccX at e
  split at e
  · rename_i rr k rest
    split at e
    · rename_i hk
      subst hk
      cases e
      obtain ⟨b, arr, va, vr, hp, rfl, hb, hsz, m1, m3, c0, c1, hag⟩ := key _ _ _ _ hH hv
      have m1 : va = .pointer Option.none := m1
      subst m1
      have hlt : b < w.heap.size := (Array.getElem?_eq_some_iff.1 hb).1
      unfold qof
      refine (Any.Builder_copyCheck_fresh L X b w (by simp only [World.cell?, hb]; simpa using c0) (by simp [World.shape?, hb, hsz]) (by simp [World.frozen?, hb])).mono fun e w' he => ?_
      obtain ⟨rfl, rfl⟩ := he
      have hw : (w.setCell ⟨b, 0, Option.none⟩ (.pointer (some ⟨b, 0, Option.none⟩))).heap[b]? = some (.cells (arr.setIfInBounds 0 (.pointer (some ⟨b, 0, Option.none⟩))) (R.t 72) (0, 0)) := by
        simp [World.setCell, Array.getElem?_modify, hb]
      obtain ⟨k1, k2⟩ := hH.write (w' := w.setCell ⟨b, 0, Option.none⟩ (.pointer (some ⟨b, 0, Option.none⟩))) (l := .b 0) (b := b) (by rw [hp]; rfl) (.arr [.agg [.ptr (.b 0) 0 0, rr]] ⟨2, R.t 72 + 1000000⟩) ⟨rfl, rfl, rfl, by simp [World.setCell]⟩
        (fun q hq => by simp [World.setCell, Array.getElem?_modify, Ne.symm hq]) (by
          rw [hp]
          refine ⟨rfl, _, _, 0, [.agg #[.pointer (some ⟨b, 0, Option.none⟩), vr]], hw, by simp [hsz], ⟨_, [], rfl, ⟨_, rfl, ⟨_, _, rfl, ?_, _, _, rfl, m3, rfl⟩, ?_⟩, rfl⟩, rfl, ?_, ?_, fun _ => ⟨rfl, rfl, rfl, fun _ => rfl⟩⟩
          · show PtrAt (ρ (.b 0)) 0 0 _
            rw [hp]; rfl
          · exact hag
          · intro u hu
            rw [List.mem_singleton.1 hu]
            rfl
          · intro i v hi
            match i, hi with
            | 0, hi =>
              have : v = .pointer (some ⟨b, 0, Option.none⟩) := (Option.some.inj hi).symm
              subst this
              simp [Array.getElem?_setIfInBounds, hsz]
            | 1, hi =>
              have : v = vr := (Option.some.inj hi).symm
              subst this
              simpa [Array.getElem?_setIfInBounds] using c1
            | i + 2, hi => cases hi)
      rw [q38 _ _ _ (by intro h; cases h)] at k1
      exact ⟨[], _, ρ, H, rfl, ⟨k1, k2, Stays.refl _, fun l hl => by obtain ⟨k, _, hk⟩ := honly l hl; exact ⟨k, hk⟩, by simp⟩, ⟨[], rfl, rfl⟩⟩
    · cases e
  · rename_i rr k rest
    split at e
    · rename_i hk
      subst hk
      cases e
      obtain ⟨b, arr, va, vr, hp, rfl, hb, hsz, m1, m3, c0, c1, hag⟩ := key _ _ _ _ hH hv
      have m1 : PtrAt (ρ (.b 0)) 0 0 va := m1
      rw [hp] at m1
      have m1 : va = .pointer (some ⟨b, 0, Option.none⟩) := m1
      subst m1
      unfold qof
      refine (Any.Builder_copyCheck_used L X b w (by simp only [World.cell?, hb]; simpa using c0)).mono fun e w' he => ?_
      obtain ⟨rfl, rfl⟩ := he
      exact ⟨[], _, ρ, H, rfl, ⟨hH, Trans.refl .., Stays.refl _, fun l hl => by obtain ⟨k, _, hk⟩ := honly l hl; exact ⟨k, hk⟩, by simp⟩, ⟨[], rfl, rfl⟩⟩
    · cases e
  · cases e
open Go.Proofs Go.Shelf Go.RowKit in
set_option maxHeartbeats 1000000 in
set_option maxRecDepth 100000 in
theorem qw8 {P : Program} {R : Shelf.Ren} (L : Go.Proofs.Lays.n169 P R) (X : Go.Proofs.Builder.Extra P R) (b g cap : Nat) (p : Value) (cur : Array Value) (l : List UInt8) (w : World) (h0 : l ≠ []) (hbk : w.heap[b]? = some (.cells #[p, .slice (some ⟨g, 0, Option.none⟩) l.length cap] (R.t 72) (0, 0)))
    (hg : w.heap[g]? = some (.cells cur (R.t 5) (0, 0))) (hnc : l.length ≤ cap) (hcs : cur.size = cap) (hcm : l.length ≤ 9223372036854775807) (hcell : ∀ (j : Nat) (x : UInt8), l[j]? = some x → cur[j]? = some (Value.int .u8 x.toNat)) :
    Calls P (R.f 169) #[.pointer (some ⟨b, 0, Option.none⟩)] w fun e w' => e = .returned (.string ⟨l.toArray⟩) ∧ w' = w.drew.freeze ⟨g, 0, Option.none⟩ l.length := by
  have hl0 : l.length ≠ 0 := by simpa using h0
  have c1 : w.drew.cell? ⟨b, 1, Option.none⟩ = some (.slice (some ⟨g, 0, Option.none⟩) l.length cap) := by
    have : w.drew.heap[b]? = some (.cells #[p, .slice (some ⟨g, 0, Option.none⟩) l.length cap] (R.t 72) (0, 0)) := hbk
    rw [Lib.cell_of_heap this]; rfl
  have hSD : (Builtin.unsafeSliceData_ #[(R.t 37)] (R.t 127) #[.slice (some ⟨g, 0, Option.none⟩) l.length cap]).run P w.drew = .ok (.pointer (some ⟨g, 0, Option.none⟩)) w.drew :=
    Lib.run_unsafeSliceData_row _ _ _ _ _ _ (by omega)
  have hUS : (Builtin.unsafeString_ #[(R.t 127), (R.t 3)] (R.t 9) #[.pointer (some ⟨g, 0, Option.none⟩), .int .i64 l.length]).run P w.drew = .ok (.string ⟨l.toArray⟩) (w.drew.freeze ⟨g, 0, Option.none⟩ l.length) := by
    refine Lib.run_unsafeString_row w.drew (R.t 127) (R.t 3) (R.t 9) (R.t 5) L.t127 X.cellsByte g cur.size (by have hg' : w.drew.heap[g]? = some (.cells cur (R.t 5) (0, 0)) := hg; simp [World.shape?, hg']) l h0 (by omega) hcm ?_
    intro j x hx
    have hg' : w.drew.heap[g]? = some (.cells cur (R.t 5) (0, 0)) := hg
    have : w.drew.cell? ⟨g, j, Option.none⟩ = some (.int .u8 x.toNat) := by rw [Lib.cell_of_heap hg']; exact hcell j x hx
    simp only [Addr.add]
    split
    · rename_i hj; rw [hj] at this; exact this
    · simpa using this
  have mixed := L.mixed
  have t72 := L.t72; have a72 := L.a72; have z72 := L.z72; have v72 := L.v72; have u72 := run_underlying L.t72
  have t70 := L.t70; have a70 := L.a70; have z70 := L.z70; have v70 := L.v70; have u70 := run_underlying L.t70
  have t37 := L.t37; have a37 := L.a37; have z37 := L.z37; have v37 := L.v37; have u37 := run_underlying L.t37
  have t127 := L.t127; have a127 := L.a127; have z127 := L.z127; have v127 := L.v127; have u127 := run_underlying L.t127
  have t3 := L.t3; have a3 := L.a3; have z3 := L.z3; have v3 := L.v3; have u3 := run_underlying L.t3
  have t9 := L.t9; have a9 := L.a9; have z9 := L.z9; have v9 := L.v9; have u9 := run_underlying L.t9
  have t5 := X.t5; have a5 := X.a5; have z5 := X.z5; have v5 := X.v5; have u5 := run_underlying X.t5
  go_enter L.f169, Body.n169_ntmps R
  go_wp2
  go_region_o
  all_goals (go_wp2; go_ret; exact ⟨rfl, rfl⟩)
open Go.Proofs Go.Shelf Go.RowKit in
theorem bsX_ok {P : Program} {R : Shelf.Ren} (L : Go.Proofs.Lays.n169 P R) (X : Go.Proofs.Builder.Extra P R) (hf : funOk P (R.f 169) = true) : ExtOk B P (R.f 169) (bsX (R.t 72 + 1000000) (R.t 5 + 1000000)) := by
  refine ⟨hf, fun cf _ vs heap r e ρ H w args hB hH hv honly => ?_⟩
  unfold bsX at e
  split at e
  · rename_i a k5 n k xs k6 rest
    split at e
    · rename_i hc
      obtain ⟨rfl, rfl, rfl, rfl, hpos⟩ := hc
      obtain ⟨s, e1, e2⟩ := qan e
      cases e2
      have hobj := hH.objs (.b 0) _ (qqv _ _ (by intro h; cases h))
      have hob1 : qcb ρ H w (.arr xs ⟨1, R.t 5 + 1000000⟩) (ρ (.b 1)) := hH.objs (.b 1) _ rfl
      obtain ⟨v, vs', h1, h2, h3⟩ := hv
      cases h3
      have h2 : PtrAt (ρ (.b 0)) 0 0 v := h2
      cases hp : ρ (.b 0) with
      | none => rw [hp] at h2; exact h2.elim
      | dead => rw [hp] at hobj; exact hobj.elim
      | virt s => rw [hp] at h2; exact h2.elim
      | blk q => rw [hp] at h2; exact h2.elim
      | at_ b base sz size =>
      rw [hp] at hobj h2
      obtain ⟨rfl, arr, elem, fr, us, hb, hsize, hus, hj, hs, hc, hty⟩ := hobj
      obtain ⟨t1, t2, t3, t4⟩ := hty (Nat.le_add_left ..)
      have t4 := t4 (show (2 : Nat) ≠ 1 by decide)
      have t1 : elem = R.t 72 := Nat.add_right_cancel t1
      subst t1 t2 t3 t4
      obtain ⟨u, us', rfl, k1, k2⟩ := hus
      cases k2
      obtain ⟨cs, rfl, q1, q2⟩ := k1
      obtain ⟨va, l1, rfl, m1, m2⟩ := q1
      obtain ⟨vr, l2, rfl, m3, m4⟩ := m2
      cases m4
      have c0 := hc 0 va rfl
      have c1 := hc 1 vr rfl
      have h2 : v = .pointer (some ⟨b, 0 + 0 * 2 + 0, Option.none⟩) := h2
      have m3 : RefAt (ρ (.b 1)) ⟨1, R.t 5 + 1000000⟩ 0 xs.length vr := m3
      cases hq : ρ (.b 1) with
      | none => rw [hq] at m3; exact m3.elim
      | dead => rw [hq] at hob1; exact hob1.elim
      | virt s2 => rw [hq] at m3; obtain ⟨_, _, h, _⟩ := m3; omega
      | blk q => rw [hq] at m3; exact m3.elim
      | at_ g base2 sz2 size2 =>
      rw [hq] at hob1 m3
      obtain ⟨rfl, cur, elem2, fr2, us2, hg, hsize2, hus2, hj2, hs2, hc2, hty2⟩ := hob1
      obtain ⟨t1, t2, t3, _⟩ := hty2 (Nat.le_add_left ..)
      have t1 : elem2 = R.t 5 := Nat.add_right_cancel t1
      subst t1 t2 t3
      obtain ⟨_, cap, rfl, r1, r2, r3, r4, r5⟩ := m3
      obtain ⟨_, _, r6⟩ := r5 (Nat.le_add_left ..)
      have r6 : cap = size2 := by simpa using r6
      obtain ⟨hus2b, hfl⟩ := qx5 e1 hus2
      subst hus2b
      have hlen : xs.length = s.length := by rw [hus2.length]; simp [Lib.byteCells]
      have hsize : arr.size = 2 := hsize
      have harr : arr = #[va, .slice (some ⟨g, 0, Option.none⟩) xs.length cap] := by
        apply Array.ext_getElem?
        intro i
        match i with
        | 0 => simpa using c0
        | 1 => simpa using c1
        | i + 2 => rw [Array.getElem?_eq_none (by rw [show arr.size = 2 from hsize]; omega), Array.getElem?_eq_none (by simp)]
      have ha : args = #[.pointer (some ⟨b, 0, Option.none⟩)] := by rw [h2] at h1; exact Array.toList_inj.1 h1
      subst ha
      have hsize2 : cur.size = cap := by rw [hsize2, r6]
      have hlots : xs.length ≤ lots := r4
      have hlm : s.length ≤ 9223372036854775807 := by rw [← hlen]; unfold lots at hlots; omega
      unfold qof
      refine (qw8 L X b g cap va cur s w (by intro h; rw [h] at hlen; have : xs.length = 0 := hlen; omega) (by rw [hb, harr, hlen]) hg (by omega) hsize2 hlm (fun j x hx => by
        have := hc2 j (.int .u8 x.toNat) (by rw [hfl]; simp [Lib.byteCells, hx])
        simpa using this)).mono fun e w' he => ?_
      obtain ⟨rfl, rfl⟩ := he
      obtain ⟨k1, k2, k3⟩ := hH.kill (.b 1)
      rw [q13] at k1
      have hng : ∀ l, (updM ρ (.b 1) .dead l).block ≠ some g := fun l hl => by
        by_cases h : l = .b 1
        · rw [h, qa5] at hl; cases hl
        · rw [qbg h] at hl
          exact h (hH.inj l (.b 1) g hl (by rw [hq]; rfl))
      have hig : ∀ o, H g o = Option.none := fun o => hH.sep (.b 1) g (by rw [hq]; rfl) o
      have hk : ∀ i, i ≠ g → (w.drew.freeze ⟨g, 0, Option.none⟩ s.length).heap[i]? = w.heap[i]? := fun i hi => by
        unfold World.freeze
        split
        · rfl
        · simp only [Array.getElem?_modify, if_neg (Ne.symm hi)]
          try rfl
      have k4 := k1.free (w' := w.drew.freeze ⟨g, 0, Option.none⟩ s.length) hng hig hk
      refine ⟨_, _, updM ρ (.b 1) .dead, H, rfl, ⟨k4, ⟨?_, ?_, ?_, ?_, fun q hq' hl => ?_, fun l q hl => ?_⟩, k3, fun l hl => ?_, by simp⟩, ?_⟩
      · unfold World.freeze; split <;> rfl
      · unfold World.freeze; split <;> rfl
      · unfold World.freeze; split <;> rfl
      · unfold World.freeze; split
        · exact Nat.le_refl _
        · simp
      · have : q ≠ g := fun h => hl (.b 1) (by rw [hq, h]; rfl)
        exact ⟨hk q this, fun _ => rfl⟩
      · by_cases h : l = .b 1
        · rw [h, qa5] at hl; cases hl
        · rw [qbg h] at hl; exact .inr ⟨l, hl⟩
      · by_cases h : l = .b 1
        · exact ⟨1, h⟩
        · rw [qbg h] at hl
          obtain ⟨k, _, hk⟩ := honly l hl
          exact ⟨k, hk⟩
      · show DRel H (.str s) _
        exact ⟨rfl, by rw [← hlen]; exact Nat.le_trans hlots (by unfold lots long; omega)⟩
    · cases e
  · cases e
end Go.Rf
