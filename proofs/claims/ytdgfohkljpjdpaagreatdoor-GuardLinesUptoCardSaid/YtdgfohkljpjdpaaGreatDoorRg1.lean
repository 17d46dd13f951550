/- Parts of the proof: RfRel, RfHeap, RfVal, RfNorm, RfFrz, RfOp1, RfBack, RfBack2. -/
import Derived.Test.YtdgfohkljpjdpaaGreatDoorRb1
import Derived.WalkKit
import Derived.ChangeKeysEq

set_option linter.unusedSimpArgs false
set_option linter.unusedVariables false
set_option linter.unnecessarySimpa false
namespace Go.Rf
abbrev Ice := Nat → Nat → Option Value
def qwt (H : Ice) (b off : Nat) (vs : List Value) : Prop := ∀ i v, vs[i]? = some v → H b (off + i) = some v
def flat (us : List Value) : List Value := us.flatMap fun u => u.cells.toList
def qpc : D → Bool
  | .agg _ => true
  | _ => false
def one : Value → Bool
  | .agg _ | .tuple _ => false
  | _ => true
mutual
def DRel (H : Ice) : D → Value → Prop
  | .bool b, v => v = .bool b
  | .int k n, v => v = .int k n
  | .str s, v => v = .string ⟨s.toArray⟩ ∧ s.length ≤ long
  | .agg cs, v => ∃ vs, v = .agg ⟨vs⟩ ∧ DRels H cs vs ∧ cs.any qpc = false
  | .iface t x, v => ∃ u, v = .iface t u ∧ DRel H x u
  | .sl xs, v => ∃ a c, v = .slice a xs.length c ∧ xs.length ≤ c ∧ xs.length * wl xs ≤ lots ∧ (xs ≠ [] → ∃ b off sz us, a = some ⟨b, off, none⟩ ∧ DRels H xs us ∧ (∀ u ∈ us, u.cells.size = sz) ∧ qwt H b off (flat us))
  | .box x, v => ∃ b off u, v = .pointer (some ⟨b, off, none⟩) ∧ DRel H x u ∧ qwt H b off u.cells.toList
  | .fn f cap, v => ∃ us, v = .func (.func f) #[] ⟨us⟩ ∧ DRels H cap us
  | .nilp, v => v = .pointer none
  | .nili, v => v = .nilIface
  | .nilf, v => v = .nilFunc
  | .nilm, v => ∃ r, v = .map r
  | .nils, v => v = .slice none 0 0
def DRels (H : Ice) : List D → List Value → Prop
  | [], vs => vs = []
  | d :: ds, vs => ∃ v vs', vs = v :: vs' ∧ DRel H d v ∧ DRels H ds vs'
end
inductive Place where
  | none
  | dead
  | virt (sz : W)
  | at_ (b base : Nat) (sz : W) (size : Nat)
  | blk (r : Nat)
  deriving Inhabited
def Place.block : Place → Option Nat
  | .at_ b _ _ _ => some b
  | .blk r => some r
  | _ => Option.none
abbrev Map := Loc → Place
def qfk : V → Bool
  | .d x => qpc x
  | .agg _ | .tup _ => true
  | _ => false
def RefAt (p : Place) (sz : W) (off len : Nat) (v : Value) : Prop :=
  match p with
  | .none => False
  | .dead => ∃ a c, v = .slice a len c ∧ len * sz.w ≤ lots ∧ len ≤ c ∧ (0 < len → ∃ q, a = some q) ∧ len ≤ lots
  | .virt s => s = sz ∧ off = 0 ∧ len = 0 ∧ v = .slice Option.none 0 0
  | .at_ b base s size => s = sz ∧ ∃ c, v = .slice (some ⟨b, base + off * sz.c, Option.none⟩) len c ∧ len ≤ c ∧ len * sz.w ≤ lots ∧ base + (off + c) * sz.c ≤ size ∧ len ≤ lots ∧ (1000000 ≤ sz.w → off = 0 ∧ base = 0 ∧ c * sz.c = size)
  | .blk _ => False
def PtrAt (p : Place) (e j : Nat) (v : Value) : Prop :=
  match p with
  | .none => False
  | .dead => ∃ a, v = .pointer (some a)
  | .virt _ => False
  | .at_ b base s _ => v = .pointer (some ⟨b, base + e * s.c + j, Option.none⟩)
  | .blk _ => False
def BlkAt (p : Place) (f : Nat → Value) (v : Value) : Prop :=
  match p with
  | .none => False
  | .dead => ∃ r, v = f r
  | .blk r => v = f r
  | _ => False
mutual
def VRel (ρ : Map) (H : Ice) : V → Value → Prop
  | .d x, v => DRel H x v
  | .ref l sz off len, v => RefAt (ρ l) sz off len v
  | .ptr l e j, v => PtrAt (ρ l) e j v
  | .agg cs, v => ∃ vs, v = .agg ⟨vs⟩ ∧ VRels ρ H cs vs ∧ cs.any qfk = false
  | .iface t x, v => ∃ u, v = .iface t u ∧ VRel ρ H x u
  | .fn f cap, v => ∃ us, v = .func (.func f) #[] ⟨us⟩ ∧ VRels ρ H cap us
  | .tup vs, v => ∃ us, v = .tuple ⟨us⟩ ∧ VRels ρ H vs us
  | .map l, v => BlkAt (ρ l) (fun r => .map (some r)) v
  | .iter l, v => BlkAt (ρ l) (fun r => .pointer (some ⟨r, 0, Option.none⟩)) v
  | .junk, v => one v = true
def VRels (ρ : Map) (H : Ice) : List V → List Value → Prop
  | [], vs => vs = []
  | d :: ds, vs => ∃ v vs', vs = v :: vs' ∧ VRel ρ H d v ∧ VRels ρ H ds vs'
end
def KRel : D → Value → Prop
  | .int k n, v => v = .int k n
  | .str s, v => v = .string ⟨s.toArray⟩
  | _, _ => False
def ERel (ρ : Map) (H : Ice) (x : D × V) (e : MapEntry) : Prop := KRel x.1 e.key ∧ VRel ρ H x.2 e.val ∧ qfk x.2 = false
inductive All2 {α β : Type} (R : α → β → Prop) : List α → List β → Prop
  | nil : All2 R [] []
  | cons {a b as bs} : R a b → All2 R as bs → All2 R (a :: as) (b :: bs)
def qcb (ρ : Map) (H : Ice) (w : World) : Obj → Place → Prop
  | .arr xs sz, .virt s => xs = [] ∧ s = sz
  | .arr xs sz, .at_ b base s size => s = sz ∧ ∃ arr elem fr us, w.heap[b]? = some (.cells arr elem (fr, fr)) ∧ arr.size = size ∧ VRels ρ H xs us ∧ xs.any isJunk = false ∧ (∀ u ∈ us, u.cells.size = sz.c) ∧ (∀ i v, (flat us)[i]? = some v → arr[base + i]? = some v) ∧ (1000000 ≤ s.w → elem + 1000000 = s.w ∧ fr = 0 ∧ base = 0 ∧ (s.c ≠ 1 → size = s.c))
  | .map es, .blk r => ∃ ents clock, w.heap[r]? = some (.map ⟨ents⟩ clock) ∧ All2 (ERel ρ H) es ents
  | .iter s pos, .blk r => w.heap[r]? = some (.stringIter ⟨s.toArray⟩ pos) ∧ s.length ≤ long
  | _, _ => False
 where
  isJunk : V → Bool
  | .tup _ => true
  | _ => false
structure HRel (ρ : Map) (H : Ice) (h : Loc → Option Obj) (w : World) : Prop where
  ice : ∀ b o v, H b o = some v → w.cell? ⟨b, o, Option.none⟩ = some v
  objs : ∀ l o, h l = some o → qcb ρ H w o (ρ l)
  gone : ∀ l, h l = Option.none → ρ l = .none ∨ ρ l = .dead
  inj : ∀ l l' b, (ρ l).block = some b → (ρ l').block = some b → l = l'
  sep : ∀ l b, (ρ l).block = some b → ∀ o, H b o = Option.none
structure Trans (ρ : Map) (H : Ice) (w : World) (ρ' : Map) (H' : Ice) (w' : World) : Prop where
  os : w'.os = w.os
  tape : w'.tape = w.tape
  output : w'.output = w.output
  size : w.heap.size ≤ w'.heap.size
  keep : ∀ b, b < w.heap.size → (∀ l, (ρ l).block ≠ some b) → w'.heap[b]? = w.heap[b]? ∧ ∀ o, H' b o = H b o
  new : ∀ l b, (ρ' l).block = some b → w.heap.size ≤ b ∨ ∃ l', (ρ l').block = some b
def Stays (ρ ρ' : Map) : Prop := ∀ l, ρ l ≠ .none → ρ' l = ρ l ∨ ρ' l = .dead
def Ice.le (H H' : Ice) : Prop := ∀ b o v, H b o = some v → H' b o = some v
theorem qwt.mono {H H' : Ice} (h : H.le H') {b off vs} (k : qwt H b off vs) : qwt H' b off vs := fun i v e => h _ _ _ (k i v e)
mutual
theorem DRel.mono {H H' : Ice} (h : H.le H') : ∀ (d : D) {v : Value}, DRel H d v → DRel H' d v
  | .bool _, _, k => k
  | .int _ _, _, k => k
  | .str _, _, k => k
  | .agg cs, _, k => by
    obtain ⟨vs, e, k, n⟩ := k
    exact ⟨vs, e, DRels.mono h cs k, n⟩
  | .iface t x, _, k => by
    obtain ⟨u, e, k⟩ := k
    exact ⟨u, e, DRel.mono h x k⟩
  | .sl xs, _, k => by
    obtain ⟨a, c, e, hc, hl, k⟩ := k
    refine ⟨a, c, e, hc, hl, fun hx => ?_⟩
    obtain ⟨b, off, sz, us, ea, k, hs, hcell⟩ := k hx
    exact ⟨b, off, sz, us, ea, DRels.mono h xs k, hs, hcell.mono h⟩
  | .box x, _, k => by
    obtain ⟨b, off, u, e, k, hc⟩ := k
    exact ⟨b, off, u, e, DRel.mono h x k, hc.mono h⟩
  | .fn f cap, _, k => by
    obtain ⟨us, e, k⟩ := k
    exact ⟨us, e, DRels.mono h cap k⟩
  | .nilp, _, k => k
  | .nili, _, k => k
  | .nilf, _, k => k
  | .nilm, _, k => k
  | .nils, _, k => k
theorem DRels.mono {H H' : Ice} (h : H.le H') : ∀ (ds : List D) {vs : List Value}, DRels H ds vs → DRels H' ds vs
  | [], _, k => k
  | d :: ds, _, k => by
    obtain ⟨v, vs', e, k1, k2⟩ := k
    exact ⟨v, vs', e, DRel.mono h d k1, DRels.mono h ds k2⟩
end
theorem RefAt.stays {p p' : Place} {sz off len v} (h : p ≠ .none → p' = p ∨ p' = .dead) (k : RefAt p sz off len v) : RefAt p' sz off len v := by
  cases p with
  | none => exact k.elim
  | dead => rcases h (by simp) with e | e <;> subst e <;> exact k
  | virt s =>
    rcases h (by simp) with e | e <;> subst e
    · exact k
    · obtain ⟨_, _, rfl, rfl⟩ := k; exact ⟨_, _, rfl, by simp, Nat.le_refl _, (fun h => by cases h), Nat.zero_le _⟩
  | at_ b base s size =>
    rcases h (by simp) with e | e <;> subst e
    · exact k
    · obtain ⟨rfl, c, rfl, h1, h2, _, h3, _⟩ := k; exact ⟨_, _, rfl, h2, h1, fun _ => ⟨_, rfl⟩, h3⟩
  | blk r => exact k.elim
theorem PtrAt.stays {p p' : Place} {e j v} (h : p ≠ .none → p' = p ∨ p' = .dead) (k : PtrAt p e j v) : PtrAt p' e j v := by
  cases p with
  | none => exact k.elim
  | dead => rcases h (by simp) with e | e <;> subst e <;> exact k
  | virt s => exact k.elim
  | at_ b base s size =>
    rcases h (by simp) with e | e <;> subst e
    · exact k
    · exact ⟨_, k⟩
  | blk r => exact k.elim
theorem BlkAt.stays {p p' : Place} {f v} (h : p ≠ .none → p' = p ∨ p' = .dead) (k : BlkAt p f v) : BlkAt p' f v := by
  cases p with
  | none => exact k.elim
  | dead => rcases h (by simp) with e | e <;> subst e <;> exact k
  | virt s => exact k.elim
  | at_ b base s size => exact k.elim
  | blk r =>
    rcases h (by simp) with e | e <;> subst e
    · exact k
    · exact ⟨_, k⟩
mutual
theorem VRel.mono {ρ ρ' : Map} {H H' : Ice} (hs : Stays ρ ρ') (h : H.le H') : ∀ (x : V) {v : Value}, VRel ρ H x v → VRel ρ' H' x v
  | .d x, _, k => DRel.mono h x k
  | .ref l _ _ _, _, k => RefAt.stays (hs l) k
  | .ptr l _ _, _, k => PtrAt.stays (hs l) k
  | .agg cs, _, k => by
    obtain ⟨vs, e, k, n⟩ := k
    exact ⟨vs, e, VRels.mono hs h cs k, n⟩
  | .iface t x, _, k => by
    obtain ⟨u, e, k⟩ := k
    exact ⟨u, e, VRel.mono hs h x k⟩
  | .fn f cap, _, k => by
    obtain ⟨us, e, k⟩ := k
    exact ⟨us, e, VRels.mono hs h cap k⟩
  | .tup cs, _, k => by
    obtain ⟨vs, e, k⟩ := k
    exact ⟨vs, e, VRels.mono hs h cs k⟩
  | .map l, _, k => BlkAt.stays (hs l) k
  | .iter l, _, k => BlkAt.stays (hs l) k
  | .junk, _, k => k
theorem VRels.mono {ρ ρ' : Map} {H H' : Ice} (hs : Stays ρ ρ') (h : H.le H') : ∀ (xs : List V) {vs : List Value}, VRels ρ H xs vs → VRels ρ' H' xs vs
  | [], _, k => k
  | x :: xs, _, k => by
    obtain ⟨v, vs', e, k1, k2⟩ := k
    exact ⟨v, vs', e, VRel.mono hs h x k1, VRels.mono hs h xs k2⟩
end
theorem DRels.length {H : Ice} : ∀ {ds : List D} {vs : List Value}, DRels H ds vs → ds.length = vs.length
  | [], _, k => by cases k; rfl
  | _ :: _, _, k => by obtain ⟨_, _, rfl, _, k⟩ := k; simp [k.length]
theorem VRels.length {ρ : Map} {H : Ice} : ∀ {ds : List V} {vs : List Value}, VRels ρ H ds vs → ds.length = vs.length
  | [], _, k => by cases k; rfl
  | _ :: _, _, k => by obtain ⟨_, _, rfl, _, k⟩ := k; simp [k.length]
theorem DRels.toV {ρ : Map} {H : Ice} : ∀ {ds : List D} {vs : List Value}, DRels H ds vs → VRels ρ H (ds.map .d) vs
  | [], _, k => k
  | _ :: _, _, k => by obtain ⟨v, vs', rfl, k1, k2⟩ := k; exact ⟨v, vs', rfl, k1, k2.toV⟩
theorem VRels.toD {ρ : Map} {H : Ice} : ∀ {ds : List D} {vs : List Value}, VRels ρ H (ds.map .d) vs → DRels H ds vs
  | [], _, k => k
  | _ :: _, _, k => by obtain ⟨v, vs', rfl, k1, k2⟩ := k; exact ⟨v, vs', rfl, k1, VRels.toD k2⟩
theorem VRels.get {ρ : Map} {H : Ice} : ∀ {xs : List V} {vs : List Value} {i : Nat} {x : V}, VRels ρ H xs vs → xs[i]? = some x → ∃ v, vs[i]? = some v ∧ VRel ρ H x v
  | _ :: _, _, 0, _, k, e => by
    obtain ⟨v, vs', rfl, k1, k2⟩ := k
    simp at e; subst e
    exact ⟨v, rfl, k1⟩
  | _ :: _, _, i + 1, _, k, e => by
    obtain ⟨v, vs', rfl, k1, k2⟩ := k
    simpa using k2.get (i := i) (by simpa using e)
theorem DRels.get {H : Ice} : ∀ {xs : List D} {vs : List Value} {i : Nat} {x : D}, DRels H xs vs → xs[i]? = some x → ∃ v, vs[i]? = some v ∧ DRel H x v
  | _ :: _, _, 0, _, k, e => by
    obtain ⟨v, vs', rfl, k1, k2⟩ := k
    simp at e; subst e
    exact ⟨v, rfl, k1⟩
  | _ :: _, _, i + 1, _, k, e => by
    obtain ⟨v, vs', rfl, k1, k2⟩ := k
    simpa using k2.get (i := i) (by simpa using e)
theorem VRels.drop {ρ : Map} {H : Ice} : ∀ (n : Nat) {xs : List V} {vs : List Value}, VRels ρ H xs vs → VRels ρ H (xs.drop n) (vs.drop n)
  | 0, _, _, k => k
  | n + 1, [], _, k => by cases k; exact rfl
  | n + 1, _ :: _, _, k => by obtain ⟨v, vs', rfl, k1, k2⟩ := k; exact k2.drop n
theorem VRels.take {ρ : Map} {H : Ice} : ∀ (n : Nat) {xs : List V} {vs : List Value}, VRels ρ H xs vs → VRels ρ H (xs.take n) (vs.take n)
  | 0, _, _, _ => rfl
  | n + 1, [], _, k => by cases k; exact rfl
  | n + 1, _ :: _, _, k => by obtain ⟨v, vs', rfl, k1, k2⟩ := k; exact ⟨v, vs'.take n, rfl, k1, k2.take n⟩
theorem DRels.drop {H : Ice} : ∀ (n : Nat) {xs : List D} {vs : List Value}, DRels H xs vs → DRels H (xs.drop n) (vs.drop n)
  | 0, _, _, k => k
  | n + 1, [], _, k => by cases k; exact rfl
  | n + 1, _ :: _, _, k => by obtain ⟨v, vs', rfl, k1, k2⟩ := k; exact k2.drop n
theorem DRels.take {H : Ice} : ∀ (n : Nat) {xs : List D} {vs : List Value}, DRels H xs vs → DRels H (xs.take n) (vs.take n)
  | 0, _, _, _ => rfl
  | n + 1, [], _, k => by cases k; exact rfl
  | n + 1, _ :: _, _, k => by obtain ⟨v, vs', rfl, k1, k2⟩ := k; exact ⟨v, vs'.take n, rfl, k1, k2.take n⟩
theorem VRels.append {ρ : Map} {H : Ice} : ∀ {xs ys : List V} {vs us : List Value}, VRels ρ H xs vs → VRels ρ H ys us → VRels ρ H (xs ++ ys) (vs ++ us)
  | [], _, _, _, k, k' => by cases k; exact k'
  | _ :: _, _, _, _, k, k' => by obtain ⟨v, vs', rfl, k1, k2⟩ := k; exact ⟨v, vs' ++ _, rfl, k1, k2.append k'⟩
theorem VRels.set {ρ : Map} {H : Ice} : ∀ {xs : List V} {vs : List Value} (i : Nat) {x : V} {v : Value}, VRels ρ H xs vs → VRel ρ H x v → VRels ρ H (xs.set i x) (vs.set i v)
  | [], _, _, _, _, k, _ => by cases k; exact rfl
  | _ :: _, _, 0, _, v, k, h => by obtain ⟨u, vs', rfl, k1, k2⟩ := k; exact ⟨v, vs', rfl, h, k2⟩
  | _ :: _, _, i + 1, _, v, k, h => by obtain ⟨u, vs', rfl, k1, k2⟩ := k; exact ⟨u, vs'.set i v, rfl, k1, k2.set i h⟩
theorem HRel.lt {ρ H h w} (k : HRel ρ H h w) {l : Loc} {b : Nat} (e : (ρ l).block = some b) : b < w.heap.size := by
  cases ho : h l with
  | none =>
    rcases k.gone l ho with e' | e' <;> rw [e'] at e <;> cases e
  | some o =>
    have hr := k.objs l o ho
    cases hp : ρ l with
    | none => rw [hp] at e; cases e
    | dead => rw [hp] at e; cases e
    | virt s => rw [hp] at e; cases e
    | at_ b' base s size =>
      rw [hp] at e hr
      simp only [Place.block, Option.some.injEq] at e
      subst e
      cases o with
      | arr xs sz =>
        obtain ⟨_, arr, elem, fr, us, hb, _⟩ := hr
        exact (Array.getElem?_eq_some_iff.1 hb).1
      | _ => exact hr.elim
    | blk r =>
      rw [hp] at e hr
      simp only [Place.block, Option.some.injEq] at e
      subst e
      cases o with
      | map es =>
        obtain ⟨_, _, hb, _⟩ := hr
        exact (Array.getElem?_eq_some_iff.1 hb).1
      | iter s pos => exact (Array.getElem?_eq_some_iff.1 hr.1).1
      | _ => exact hr.elim
theorem HRel.iceLt {ρ H h w} (k : HRel ρ H h w) {b o : Nat} {v : Value} (e : H b o = some v) : b < w.heap.size := by
  have := k.ice b o v e
  exact World.block_lt_of_cell? w _ this
theorem Trans.le {ρ H h w ρ' H' w'} (k : HRel ρ H h w) (t : Trans ρ H w ρ' H' w') : H.le H' := fun b o v e => by
  have hlt := k.iceLt e
  rw [(t.keep b hlt (fun l hl => by rw [k.sep l b hl o] at e; cases e)).2 o]
  exact e
theorem Trans.refl (ρ H w) : Trans ρ H w ρ H w := ⟨rfl, rfl, rfl, Nat.le_refl _, fun _ _ _ => ⟨rfl, fun _ => rfl⟩, fun l _ h => .inr ⟨l, h⟩⟩
theorem Trans.trans {ρ H w ρ1 H1 w1 ρ2 H2 w2} (t : Trans ρ H w ρ1 H1 w1) (u : Trans ρ1 H1 w1 ρ2 H2 w2) : Trans ρ H w ρ2 H2 w2 where
  os := u.os.trans t.os
  tape := u.tape.trans t.tape
  output := u.output.trans t.output
  size := Nat.le_trans t.size u.size
  keep := fun b hb hn => by
    have h1 := t.keep b hb hn
    have h2 := u.keep b (Nat.lt_of_lt_of_le hb t.size) (fun l hl => by
      rcases t.new l b hl with h | ⟨l', h⟩
      · omega
      · exact hn l' h)
    exact ⟨h2.1.trans h1.1, fun o => (h2.2 o).trans (h1.2 o)⟩
  new := fun l b h => by
    rcases u.new l b h with h | ⟨l', h⟩
    · exact .inl (Nat.le_trans t.size h)
    · exact t.new l' b h
theorem Stays.refl (ρ) : Stays ρ ρ := fun _ _ => .inl rfl
theorem Stays.trans {ρ ρ1 ρ2} (h : Stays ρ ρ1) (k : Stays ρ1 ρ2) : Stays ρ ρ2 := fun l hl => by
  rcases h l hl with e | e
  · rcases k l (by rw [e]; exact hl) with e' | e'
    · exact .inl (e'.trans e)
    · exact .inr e'
  · rcases k l (by rw [e]; simp) with e' | e'
    · exact .inr (e'.trans e)
    · exact .inr e'
end Go.Rf

namespace Go.Rf
def updM (ρ : Map) (l : Loc) (p : Place) : Map := fun l' => if l' = l then p else ρ l'
def updH (h : Loc → Option Obj) (l : Loc) (o : Option Obj) : Loc → Option Obj := fun l' => if l' = l then o else h l'
theorem qrd (h l o ws) : qba h ((l, o) :: ws) = qba (updH h l o) ws := rfl
@[simp] theorem qa5 (ρ l p) : updM ρ l p l = p := by simp [updM]
@[simp] theorem qbg {ρ l p l'} (h : l' ≠ l) : updM ρ l p l' = ρ l' := by simp [updM, h]
@[simp] theorem qfh (ρ l p) : updH ρ l p l = p := by simp [updH]
@[simp] theorem qhz {ρ l p l'} (h : l' ≠ l) : updH ρ l p l' = ρ l' := by simp [updH, h]
theorem All2.mono {α β : Type} {R S : α → β → Prop} (h : ∀ a b, R a b → S a b) : ∀ {as bs}, All2 R as bs → All2 S as bs
  | _, _, .nil => .nil
  | _, _, .cons x k => .cons (h _ _ x) (k.mono h)
theorem qcb.mono {ρ ρ' : Map} {H H' : Ice} {w w' : World} {o : Obj} {p : Place} (k : qcb ρ H w o p) (hs : Stays ρ ρ') (hl : H.le H')
    (hb : ∀ b, p.block = some b → w'.heap[b]? = w.heap[b]?) : qcb ρ' H' w' o p := by
  cases o with
  | arr xs sz =>
    cases p with
    | virt s => exact k
    | at_ b base s size =>
      obtain ⟨e, arr, elem, fr, us, h1, h2, h3, h4, h5, h6⟩ := k
      exact ⟨e, arr, elem, fr, us, (hb b rfl).trans h1, h2, h3.mono hs hl, h4, h5, h6⟩
    | _ => exact k.elim
  | map es =>
    cases p with
    | blk r =>
      obtain ⟨ents, clock, h1, h2⟩ := k
      exact ⟨ents, clock, (hb r rfl).trans h1, h2.mono fun a b ⟨x, y, z⟩ => ⟨x, y.mono hs hl, z⟩⟩
    | _ => exact k.elim
  | iter s pos =>
    cases p with
    | blk r => exact ⟨(hb r rfl).trans k.1, k.2⟩
    | _ => exact k.elim
  | dead => cases p <;> exact k.elim
theorem Stays.upd {ρ : Map} {l : Loc} (p : Place) (h : ρ l = .none ∨ p = .dead) : Stays ρ (updM ρ l p) := fun l' hl' => by
  by_cases e : l' = l
  · subst e
    rcases h with h | h
    · exact absurd h hl'
    · right; simp [h]
  · left; simp [e]
theorem HRel.drawn {ρ H h w} (k : HRel ρ H h w) (n : Nat) : HRel ρ H h { w with drawn := n } where
  ice := fun b o v e => k.ice b o v e
  objs := fun l o e => (k.objs l o e).mono (Stays.refl _) (fun _ _ _ e => e) (fun _ _ => rfl)
  gone := k.gone
  inj := k.inj
  sep := k.sep
theorem Trans.drawn (ρ H w) (n : Nat) : Trans ρ H w ρ H { w with drawn := n } := ⟨rfl, rfl, rfl, Nat.le_refl _, fun _ _ _ => ⟨rfl, fun _ => rfl⟩, fun l _ h => .inr ⟨l, h⟩⟩
theorem HRel.push {ρ H h w} (k : HRel ρ H h w) {l : Loc} (hl : ρ l = .none) (o : Obj) (b : Go.Obj) (p : Place) (hp : p.block = some w.heap.size)
    (ho : qcb (updM ρ l p) H { w with heap := w.heap.push b } o p) :
    HRel (updM ρ l p) H (updH h l (some o)) { w with heap := w.heap.push b } ∧ Trans ρ H w (updM ρ l p) H { w with heap := w.heap.push b } ∧ Stays ρ (updM ρ l p) := by
  have hst : Stays ρ (updM ρ l p) := Stays.upd p (.inl hl)
  have old : ∀ i, i < w.heap.size → (w.heap.push b)[i]? = w.heap[i]? := fun i hi => by rw [Array.getElem?_push, if_neg (by omega)]
  refine ⟨⟨?_, ?_, ?_, ?_, ?_⟩, ⟨rfl, rfl, rfl, by simp, ?_, ?_⟩, hst⟩
  · intro b' o' v e
    have hlt := k.iceLt e
    have := k.ice b' o' v e
    exact (World.cell?_of_block (w := w) (a := ⟨b', o', Option.none⟩) (w' := { w with heap := w.heap.push b }) (old b' hlt)).trans this
  · intro l' o' e
    by_cases hh : l' = l
    · subst hh
      rw [qfh] at e
      injection e with e
      subst e
      rw [qa5]
      exact ho
    · rw [qhz hh] at e
      rw [qbg hh]
      exact (k.objs l' o' e).mono hst (fun _ _ _ e => e) (fun b' hb' => old b' (k.lt hb'))
  · intro l' e
    by_cases hh : l' = l
    · subst hh; rw [qfh] at e; cases e
    · rw [qhz hh] at e; rw [qbg hh]; exact k.gone l' e
  · intro l1 l2 b' e1 e2
    by_cases h1 : l1 = l <;> by_cases h2 : l2 = l
    · rw [h1, h2]
    · rw [h1, qa5, hp] at e1
      rw [qbg h2] at e2
      injection e1 with e1
      have := k.lt e2
      omega
    · rw [h2, qa5, hp] at e2
      rw [qbg h1] at e1
      injection e2 with e2
      have := k.lt e1
      omega
    · rw [qbg h1] at e1; rw [qbg h2] at e2; exact k.inj l1 l2 b' e1 e2
  · intro l1 b' e1 o'
    by_cases h1 : l1 = l
    · rw [h1, qa5, hp] at e1
      injection e1 with e1
      cases he : H b' o' with
      | none => rfl
      | some v => have := k.iceLt he; omega
    · rw [qbg h1] at e1; exact k.sep l1 b' e1 o'
  · intro b' hb' _
    exact ⟨old b' hb', fun _ => rfl⟩
  · intro l1 b' e1
    by_cases h1 : l1 = l
    · rw [h1, qa5, hp] at e1
      injection e1 with e1
      exact .inl (by omega)
    · rw [qbg h1] at e1; exact .inr ⟨l1, e1⟩
theorem HRel.virt {ρ H h w} (k : HRel ρ H h w) {l : Loc} (hl : ρ l = .none) (sz : W) :
    HRel (updM ρ l (.virt sz)) H (updH h l (some (.arr [] sz))) w ∧ Trans ρ H w (updM ρ l (.virt sz)) H w ∧ Stays ρ (updM ρ l (.virt sz)) := by
  have hst : Stays ρ (updM ρ l (.virt sz)) := Stays.upd _ (.inl hl)
  refine ⟨⟨k.ice, ?_, ?_, ?_, ?_⟩, ⟨rfl, rfl, rfl, Nat.le_refl _, fun _ _ _ => ⟨rfl, fun _ => rfl⟩, ?_⟩, hst⟩
  · intro l' o' e
    by_cases hh : l' = l
    · subst hh
      rw [qfh] at e
      injection e with e
      subst e
      rw [qa5]
      exact ⟨rfl, rfl⟩
    · rw [qhz hh] at e
      rw [qbg hh]
      exact (k.objs l' o' e).mono hst (fun _ _ _ e => e) (fun _ _ => rfl)
  · intro l' e
    by_cases hh : l' = l
    · subst hh; rw [qfh] at e; cases e
    · rw [qhz hh] at e; rw [qbg hh]; exact k.gone l' e
  · intro l1 l2 b' e1 e2
    have h1 : l1 ≠ l := fun h => by rw [h, qa5] at e1; cases e1
    have h2 : l2 ≠ l := fun h => by rw [h, qa5] at e2; cases e2
    rw [qbg h1] at e1; rw [qbg h2] at e2; exact k.inj l1 l2 b' e1 e2
  · intro l1 b' e1 o'
    have h1 : l1 ≠ l := fun h => by rw [h, qa5] at e1; cases e1
    rw [qbg h1] at e1; exact k.sep l1 b' e1 o'
  · intro l1 b' e1
    have h1 : l1 ≠ l := fun h => by rw [h, qa5] at e1; cases e1
    rw [qbg h1] at e1; exact .inr ⟨l1, e1⟩
theorem HRel.kill {ρ H h w} (k : HRel ρ H h w) (l : Loc) :
    HRel (updM ρ l .dead) H (updH h l none) w ∧ Trans ρ H w (updM ρ l .dead) H w ∧ Stays ρ (updM ρ l .dead) := by
  have hst : Stays ρ (updM ρ l .dead) := Stays.upd _ (.inr rfl)
  refine ⟨⟨k.ice, ?_, ?_, ?_, ?_⟩, ⟨rfl, rfl, rfl, Nat.le_refl _, fun _ _ _ => ⟨rfl, fun _ => rfl⟩, ?_⟩, hst⟩
  · intro l' o' e
    by_cases hh : l' = l
    · subst hh; rw [qfh] at e; cases e
    · rw [qhz hh] at e
      rw [qbg hh]
      exact (k.objs l' o' e).mono hst (fun _ _ _ e => e) (fun _ _ => rfl)
  · intro l' e
    by_cases hh : l' = l
    · subst hh; right; simp
    · rw [qhz hh] at e; rw [qbg hh]; exact k.gone l' e
  · intro l1 l2 b' e1 e2
    have h1 : l1 ≠ l := fun h => by rw [h, qa5] at e1; cases e1
    have h2 : l2 ≠ l := fun h => by rw [h, qa5] at e2; cases e2
    rw [qbg h1] at e1; rw [qbg h2] at e2; exact k.inj l1 l2 b' e1 e2
  · intro l1 b' e1 o'
    have h1 : l1 ≠ l := fun h => by rw [h, qa5] at e1; cases e1
    rw [qbg h1] at e1; exact k.sep l1 b' e1 o'
  · intro l1 b' e1
    have h1 : l1 ≠ l := fun h => by rw [h, qa5] at e1; cases e1
    rw [qbg h1] at e1; exact .inr ⟨l1, e1⟩
theorem HRel.write {ρ H h w w'} (k : HRel ρ H h w) {l : Loc} {b : Nat} (hb : (ρ l).block = some b) (o : Obj)
    (hw : w'.os = w.os ∧ w'.tape = w.tape ∧ w'.output = w.output ∧ w'.heap.size = w.heap.size) (hk : ∀ i, i ≠ b → w'.heap[i]? = w.heap[i]?)
    (ho : qcb ρ H w' o (ρ l)) : HRel ρ H (updH h l (some o)) w' ∧ Trans ρ H w ρ H w' := by
  refine ⟨⟨?_, ?_, ?_, k.inj, k.sep⟩, ⟨hw.1, hw.2.1, hw.2.2.1, by omega, ?_, fun l b h => .inr ⟨l, h⟩⟩⟩
  · intro b' o' v e
    have hne : b' ≠ b := fun h => by rw [h, k.sep l b hb o'] at e; cases e
    exact (World.cell?_of_block (w := w) (a := ⟨b', o', Option.none⟩) (w' := w') (hk b' hne)).trans (k.ice b' o' v e)
  · intro l' o' e
    by_cases hh : l' = l
    · subst hh
      rw [qfh] at e
      injection e with e
      subst e
      exact ho
    · rw [qhz hh] at e
      exact (k.objs l' o' e).mono (Stays.refl _) (fun _ _ _ e => e) (fun b' hb' => hk b' (fun h => hh (k.inj l' l b (h ▸ hb') hb)))
  · intro l' e
    by_cases hh : l' = l
    · subst hh; rw [qfh] at e; cases e
    · rw [qhz hh] at e; exact k.gone l' e
  · intro b' hb' hn
    exact ⟨hk b' (fun h => hn l (h ▸ hb)), fun _ => rfl⟩
theorem HRel.move {ρ H h w w'} (k : HRel ρ H h w) {l l' : Loc} {b : Nat} (hb : (ρ l).block = some b) (hl' : ρ l' = .none) (o : Obj) (p : Place) (hp : p.block = some b)
    (hw : w'.os = w.os ∧ w'.tape = w.tape ∧ w'.output = w.output ∧ w'.heap.size = w.heap.size) (hk : ∀ i, i ≠ b → w'.heap[i]? = w.heap[i]?)
    (ho : qcb (updM (updM ρ l .dead) l' p) H w' o p) :
    HRel (updM (updM ρ l .dead) l' p) H (updH (updH h l none) l' (some o)) w' ∧ Trans ρ H w (updM (updM ρ l .dead) l' p) H w' ∧ Stays ρ (updM (updM ρ l .dead) l' p) := by
  have hll : l ≠ l' := fun e => by rw [← e] at hl'; rw [hl'] at hb; cases hb
  have hst : Stays ρ (updM (updM ρ l .dead) l' p) := (Stays.upd .dead (.inr rfl)).trans (Stays.upd p (.inl (by rw [qbg (Ne.symm hll)]; exact hl')))
  have blk : ∀ l1 b', (updM (updM ρ l .dead) l' p l1).block = some b' → (l1 = l' ∧ b' = b) ∨ (l1 ≠ l' ∧ l1 ≠ l ∧ (ρ l1).block = some b') := by
    intro l1 b' e
    by_cases h1 : l1 = l'
    · rw [h1, qa5, hp] at e; injection e with e; exact .inl ⟨h1, e.symm⟩
    · rw [qbg h1] at e
      by_cases h2 : l1 = l
      · rw [h2, qa5] at e; cases e
      · rw [qbg h2] at e; exact .inr ⟨h1, h2, e⟩
  refine ⟨⟨?_, ?_, ?_, ?_, ?_⟩, ⟨hw.1, hw.2.1, hw.2.2.1, by omega, ?_, ?_⟩, hst⟩
  · intro b' o' v e
    have hne : b' ≠ b := fun h => by rw [h, k.sep l b hb o'] at e; cases e
    exact (World.cell?_of_block (w := w) (a := ⟨b', o', Option.none⟩) (w' := w') (hk b' hne)).trans (k.ice b' o' v e)
  · intro l1 o' e
    by_cases h1 : l1 = l'
    · subst h1
      rw [qfh] at e
      injection e with e
      subst e
      rw [qa5]
      exact ho
    · rw [qhz h1] at e
      by_cases h2 : l1 = l
      · subst h2; rw [qfh] at e; cases e
      · rw [qhz h2] at e
        rw [qbg h1, qbg h2]
        exact (k.objs l1 o' e).mono hst (fun _ _ _ e => e) (fun b' hb' => hk b' (fun h => h2 (k.inj l1 l b (h ▸ hb') hb)))
  · intro l1 e
    by_cases h1 : l1 = l'
    · subst h1; rw [qfh] at e; cases e
    · rw [qhz h1] at e
      rw [qbg h1]
      by_cases h2 : l1 = l
      · subst h2; right; simp
      · rw [qhz h2] at e; rw [qbg h2]; exact k.gone l1 e
  · intro l1 l2 b' e1 e2
    rcases blk l1 b' e1 with ⟨h1, g1⟩ | ⟨h1, h1', g1⟩ <;> rcases blk l2 b' e2 with ⟨h2, g2⟩ | ⟨h2, h2', g2⟩
    · rw [h1, h2]
    · rw [g1] at g2; exact absurd (k.inj l2 l b g2 hb) h2'
    · rw [g2] at g1; exact absurd (k.inj l1 l b g1 hb) h1'
    · exact k.inj l1 l2 b' g1 g2
  · intro l1 b' e1 o'
    rcases blk l1 b' e1 with ⟨h1, g1⟩ | ⟨h1, h1', g1⟩
    · rw [g1]; exact k.sep l b hb o'
    · exact k.sep l1 b' g1 o'
  · intro b' hb' hn
    exact ⟨hk b' (fun h => hn l (h ▸ hb)), fun _ => rfl⟩
  · intro l1 b' e1
    rcases blk l1 b' e1 with ⟨h1, g1⟩ | ⟨h1, h1', g1⟩
    · exact .inr ⟨l, g1 ▸ hb⟩
    · exact .inr ⟨l1, g1⟩
end Go.Rf

namespace Go.Rf
theorem qmm (b off j : Nat) : (⟨b, off, Option.none⟩ : Addr).add j = ⟨b, off + j, Option.none⟩ := by
  unfold Addr.add
  split
  · rename_i h; subst h; rfl
  · rfl
theorem qbk {u : Value} (h : one u = true) : u.cells = #[u] := by cases u <;> first | rfl | cases h
theorem q3u {u : Value} (h : one u = true) : u.oneCell' = true := by cases u <;> first | rfl | cases h
theorem DRel.one {H : Ice} {x : D} {u : Value} (k : DRel H x u) (h : qpc x = false) : one u = true := by
  cases x with
  | agg cs => cases h
  | str s => obtain ⟨rfl, _⟩ := k; rfl
  | iface t x => obtain ⟨_, rfl, _⟩ := k; rfl
  | sl xs => obtain ⟨_, _, rfl, _⟩ := k; rfl
  | box x => obtain ⟨_, _, _, rfl, _⟩ := k; rfl
  | fn f cap => obtain ⟨_, rfl, _⟩ := k; rfl
  | bool b => cases k; rfl
  | int k' n => cases k; rfl
  | nilp => cases k; rfl
  | nili => cases k; rfl
  | nilf => cases k; rfl
  | nilm => obtain ⟨_, rfl⟩ := k; rfl
  | nils => cases k; rfl
theorem RefAt.one {p sz off len u} (k : RefAt p sz off len u) : one u = true := by
  cases p with
  | none => exact k.elim
  | dead => obtain ⟨_, _, rfl, _⟩ := k; rfl
  | virt s => obtain ⟨_, _, _, rfl⟩ := k; rfl
  | at_ b base s size => obtain ⟨_, _, rfl, _⟩ := k; rfl
  | blk r => exact k.elim
theorem PtrAt.one {p e j u} (k : PtrAt p e j u) : one u = true := by
  cases p with
  | none => exact k.elim
  | dead => obtain ⟨_, rfl⟩ := k; rfl
  | virt s => exact k.elim
  | at_ b base s size => cases k; rfl
  | blk r => exact k.elim
theorem VRel.one {ρ : Map} {H : Ice} {x : V} {u : Value} (k : VRel ρ H x u) (h : qfk x = false) : one u = true := by
  cases x with
  | d x => exact DRel.one k h
  | ref l sz off len => exact RefAt.one k
  | ptr l e j => exact PtrAt.one k
  | agg cs => cases h
  | iface t x => obtain ⟨_, rfl, _⟩ := k; rfl
  | fn f cap => obtain ⟨_, rfl, _⟩ := k; rfl
  | tup vs => cases h
  | map l =>
    have k : BlkAt (ρ l) (fun r => .map (some r)) u := k
    cases hp : ρ l with
    | dead => rw [hp] at k; obtain ⟨_, rfl⟩ := k; rfl
    | blk r => rw [hp] at k; cases k; rfl
    | _ => rw [hp] at k; exact k.elim
  | iter l =>
    have k : BlkAt (ρ l) (fun r => .pointer (some ⟨r, 0, Option.none⟩)) u := k
    cases hp : ρ l with
    | dead => rw [hp] at k; obtain ⟨_, rfl⟩ := k; rfl
    | blk r => rw [hp] at k; cases k; rfl
    | _ => rw [hp] at k; exact k.elim
  | junk => exact k
def solid : V → Bool
  | .tup _ => false
  | _ => true
theorem qpb {x : V} (h : qcb.isJunk x = false) : solid x = true := by cases x <;> first | rfl | cases h
theorem qkc {x : V} (h : solid x = true) : qcb.isJunk x = false := by cases x <;> first | rfl | cases h
theorem VRel.cells {ρ : Map} {H : Ice} {x : V} {u : Value} (k : VRel ρ H x u) (h : solid x = true) : VRels ρ H x.cells u.cells.toList ∧ x.cells.any qfk = false := by
  cases x with
  | d x =>
    cases hx : qpc x with
    | false =>
      have hc : V.cells (.d x) = [.d x] := by cases x <;> first | rfl | cases hx
      rw [hc, qbk (DRel.one k hx)]
      exact ⟨⟨u, [], rfl, k, rfl⟩, by simp [qfk, hx]⟩
    | true =>
      cases x with
      | agg cs =>
        obtain ⟨vs, rfl, k, hn⟩ := k
        refine ⟨k.toV, ?_⟩
        show (cs.map V.d).any qfk = false
        rw [List.any_map]
        exact hn
      | _ => cases hx
  | agg cs =>
    obtain ⟨vs, rfl, k, hn⟩ := k
    exact ⟨k, hn⟩
  | tup vs => cases h
  | junk => rw [show V.cells .junk = [.junk] from rfl, qbk (show Rf.one u = true from k)]; exact ⟨⟨u, [], rfl, k, rfl⟩, rfl⟩
  | ref l sz off len => rw [qbk (VRel.one k rfl)]; exact ⟨⟨u, [], rfl, k, rfl⟩, rfl⟩
  | ptr l e j => rw [qbk (VRel.one k rfl)]; exact ⟨⟨u, [], rfl, k, rfl⟩, rfl⟩
  | iface t x => rw [qbk (VRel.one k rfl)]; exact ⟨⟨u, [], rfl, k, rfl⟩, rfl⟩
  | fn f cap => rw [qbk (VRel.one k rfl)]; exact ⟨⟨u, [], rfl, k, rfl⟩, rfl⟩
  | map l => rw [qbk (VRel.one k rfl)]; exact ⟨⟨u, [], rfl, k, rfl⟩, rfl⟩
  | iter l => rw [qbk (VRel.one k rfl)]; exact ⟨⟨u, [], rfl, k, rfl⟩, rfl⟩
theorem q42 : ∀ {l : List V} {ds : List D}, allD l = some ds → l = ds.map .d
  | [], _, h => by cases h; rfl
  | .d x :: l, ds, h => by
    simp only [allD, Option.map_eq_some_iff] at h
    obtain ⟨ds', h1, rfl⟩ := h
    simp [q42 h1]
  | .ref .. :: _, _, h | .ptr .. :: _, _, h | .agg .. :: _, _, h | .iface .. :: _, _, h | .fn .. :: _, _, h | .tup .. :: _, _, h | .map .. :: _, _, h | .iter .. :: _, _, h | .junk :: _, _, h => by cases h
theorem qr7 {ρ : Map} {H : Ice} {l : List V} {vs : List Value} (k : VRels ρ H l vs) (hn : l.any qfk = false) : VRel ρ H (mkAgg l) (.agg ⟨vs⟩) := by
  unfold mkAgg
  cases hd : allD l with
  | none => exact ⟨vs, rfl, k, hn⟩
  | some ds =>
    have := q42 hd
    subst this
    refine ⟨vs, rfl, k.toD, ?_⟩
    rw [List.any_map] at hn
    exact hn
theorem qqy (l : List V) : solid (mkAgg l) = true := by
  unfold mkAgg
  cases allD l <;> rfl
theorem q41 {α : Type} {p : α → Bool} {l : List α} (h : l.any p = false) {i : Nat} {x : α} (e : l[i]? = some x) : p x = false := by
  rw [List.any_eq_false] at h
  have := h x (List.mem_of_getElem? e)
  simpa using this
theorem q0n {α : Type} {p : α → Bool} {l : List α} (h : l.any p = false) (n : Nat) : (l.drop n).any p = false := by
  rw [List.any_eq_false] at *
  exact fun x hx => h x (List.mem_of_mem_drop hx)
theorem q0k {α : Type} {p : α → Bool} {l : List α} (h : l.any p = false) (n : Nat) : (l.take n).any p = false := by
  rw [List.any_eq_false] at *
  exact fun x hx => h x (List.mem_of_mem_take hx)
theorem qui {ρ : Map} {H : Ice} {x y : V} {u : Value} {off n : Nat} {ag : Bool} (k : VRel ρ H x u) (h : solid x = true) (e : part x off n ag = some y) :
    (ag = true → off + n ≤ u.cells.size ∧ VRel ρ H y (.agg ⟨(u.cells.toList.drop off).take n⟩)) ∧
    (ag = false → ∃ v, u.cells.toList[off]? = some v ∧ VRel ρ H y v ∧ qfk y = false) ∧ solid y = true := by
  obtain ⟨kc, hn⟩ := k.cells h
  unfold part at e
  cases ag with
  | true =>
    simp only [if_true] at e
    split at e
    · rename_i hl
      injection e with e
      subst e
      refine ⟨fun _ => ⟨?_, qr7 ((kc.drop off).take n) (q0k (q0n hn off) n)⟩, (fun h => by cases h), qqy _⟩
      have := kc.length
      simp at this
      omega
    · cases e
  | false =>
    simp only [Bool.false_eq_true, if_false] at e
    obtain ⟨v, h1, h2⟩ := kc.get e
    have h3 := q41 hn e
    refine ⟨(fun h => by cases h), fun _ => ⟨v, h1, h2, h3⟩, ?_⟩
    cases y <;> first | rfl | cases h3
theorem qeu (u : Value) (us : List Value) : flat (u :: us) = u.cells.toList ++ flat us := rfl
theorem qlt (us vs : List Value) : flat (us ++ vs) = flat us ++ flat vs := by simp [flat, List.flatMap_append]
theorem qcs {sz : Nat} : ∀ {us : List Value}, (∀ u ∈ us, u.cells.size = sz) → (flat us).length = us.length * sz
  | [], _ => by simp [flat]
  | u :: us, h => by
    rw [qeu, List.length_append, qcs (fun x hx => h x (List.mem_cons_of_mem _ hx))]
    have : u.cells.toList.length = sz := by simpa using h u (List.mem_cons_self ..)
    rw [this, List.length_cons, Nat.add_mul]
    omega
theorem qsb {sz : Nat} : ∀ {us : List Value} {e : Nat} {u : Value} {j : Nat}, (∀ u ∈ us, u.cells.size = sz) → us[e]? = some u → j < sz → (flat us)[e * sz + j]? = u.cells.toList[j]?
  | [], e, u, j, _, he, _ => by simp at he
  | v :: us, 0, u, j, h, he, hj => by
    simp at he
    subst he
    have hl : v.cells.toList.length = sz := by simpa using h v (List.mem_cons_self ..)
    rw [qeu, Nat.zero_mul, Nat.zero_add, List.getElem?_append_left (by omega)]
  | v :: us, e + 1, u, j, h, he, hj => by
    have hl : v.cells.toList.length = sz := by simpa using h v (List.mem_cons_self ..)
    rw [qeu, List.getElem?_append_right (by rw [hl, Nat.add_mul]; omega)]
    have : (e + 1) * sz + j - v.cells.toList.length = e * sz + j := by rw [hl, Nat.add_mul]; omega
    rw [this]
    exact qsb (fun x hx => h x (List.mem_cons_of_mem _ hx)) (by simpa using he) hj
theorem q5m {ρ H w xs sz b base s size} (k : qcb ρ H w (.arr xs sz) (.at_ b base s size)) {e : Nat} {x : V} (he : xs[e]? = some x) :
    ∃ u, VRel ρ H x u ∧ solid x = true ∧ u.cells.size = s.c ∧ ∀ j v, u.cells.toList[j]? = some v → w.cell? ⟨b, base + e * s.c + j, Option.none⟩ = some v := by
  obtain ⟨rfl, arr, elem, fr, us, hb, _, hv, hj, hs, hc, _⟩ := k
  obtain ⟨u, hu, hr⟩ := hv.get he
  refine ⟨u, hr, qpb (q41 hj he), hs u (List.mem_of_getElem? hu), fun j v hv' => ?_⟩
  have hjs : j < s.c := by
    have h1 := hs u (List.mem_of_getElem? hu)
    have := (List.getElem?_eq_some_iff.1 hv').1
    simp at this
    omega
  have := hc (e * s.c + j) v ((qsb hs hu hjs).trans hv')
  simp only [World.cell?, hb]
  rw [show base + e * s.c + j = base + (e * s.c + j) from by omega]
  simpa using this
end Go.Rf

namespace Go.Rf
def renM (ρ : Map) (m : List Loc) : Map
  | .b k => match m[k]? with
    | some l => ρ l
    | none => .none
  | .n _ _ => .none
theorem qv0 : ∀ {m : List Loc} {l : Loc} {k : Nat}, idx m l = some k → m[k]? = some l
  | [], _, _, e => by cases e
  | x :: m, l, k, e => by
    simp only [idx] at e
    split at e
    · rename_i h; cases e; subst h; rfl
    · simp only [Option.map_eq_some_iff] at e
      obtain ⟨k', h1, rfl⟩ := e
      simpa using qv0 h1
theorem qum : ∀ {m : List Loc} {l : Loc}, idx m l = none → l ∉ m
  | [], _, _ => by simp
  | x :: m, l, e => by
    simp only [idx] at e
    split at e
    · cases e
    · rename_i h
      simp only [Option.map_eq_none_iff] at e
      have := qum e
      simp only [List.mem_cons, not_or]
      exact ⟨fun h' => h h'.symm, this⟩
theorem qqj {m m' : List Loc} (h : m <+: m') {k : Nat} {l : Loc} (e : m[k]? = some l) : m'[k]? = some l := by
  obtain ⟨t, rfl⟩ := h
  rw [List.getElem?_append_left (List.getElem?_eq_some_iff.1 e).1]
  exact e
theorem qn4 {al : Loc → Bool} {l : Loc} {m : List Loc} : m <+: (qhl al l m).2 ∧ (m.Nodup → (qhl al l m).2.Nodup) ∧ ∀ k, (qhl al l m).1 = some k → (qhl al l m).2[k]? = some l := by
  unfold qhl
  cases al l with
  | false => exact ⟨List.prefix_refl _, id, fun k h => by cases h⟩
  | true =>
    simp only [qet]
    cases hi : idx m l with
    | none =>
      simp only [qmg]
      refine ⟨List.prefix_append _ _, fun h => ?_, fun k hk => ?_⟩
      · rw [List.nodup_append]
        refine ⟨h, by simp, fun a ha b hb => ?_⟩
        simp only [List.mem_singleton] at hb
        subst hb
        exact fun he => qum hi (he ▸ ha)
      · cases hk
        simp
    | some k =>
      simp only [qjx]
      exact ⟨List.prefix_refl _, id, fun k' hk => by cases hk; exact qv0 hi⟩
theorem qtn {ρ : Map} {m : List Loc} {k : Nat} {l : Loc} (h : m[k]? = some l) : renM ρ m (.b k) = ρ l := by simp only [renM, h]
mutual
theorem qym (al : Loc → Bool) : ∀ (v : V) (m : List Loc), m <+: (V.ren al v m).2 ∧ (m.Nodup → (V.ren al v m).2.Nodup) ∧ qfk (V.ren al v m).1 = qfk v ∧ qcb.isJunk (V.ren al v m).1 = qcb.isJunk v ∧
    ∀ (ρ : Map) (H : Ice) (u : Value) (M : List Loc), (V.ren al v m).2 <+: M → VRel ρ H v u → VRel (renM ρ M) H (V.ren al v m).1 u
  | .d x, m => ⟨List.prefix_refl _, id, rfl, rfl, fun _ _ _ _ _ k => k⟩
  | .ref l sz o n, m => by
    obtain ⟨h1, h2, h3⟩ := qn4 (al := al) (l := l) (m := m)
    simp only [V.ren, named, viaP]
    cases hn : (qhl al l m).1 with
    | none => exact ⟨h1, h2, rfl, rfl, fun ρ H u M _ k => RefAt.one (show RefAt (ρ l) sz o n u from k)⟩
    | some k' =>
      refine ⟨h1, h2, rfl, rfl, fun ρ H u M hM k => ?_⟩
      show RefAt (renM ρ M (.b k')) sz o n u
      rw [qtn (qqj hM (h3 k' hn))]
      exact k
  | .ptr l e j, m => by
    obtain ⟨h1, h2, h3⟩ := qn4 (al := al) (l := l) (m := m)
    simp only [V.ren, named, viaP]
    cases hn : (qhl al l m).1 with
    | none => exact ⟨h1, h2, rfl, rfl, fun ρ H u M _ k => PtrAt.one (show PtrAt (ρ l) e j u from k)⟩
    | some k' =>
      refine ⟨h1, h2, rfl, rfl, fun ρ H u M hM k => ?_⟩
      show PtrAt (renM ρ M (.b k')) e j u
      rw [qtn (qqj hM (h3 k' hn))]
      exact k
  | .map l, m => by
    obtain ⟨h1, h2, h3⟩ := qn4 (al := al) (l := l) (m := m)
    simp only [V.ren, named, viaP]
    cases hn : (qhl al l m).1 with
    | none => exact ⟨h1, h2, rfl, rfl, fun ρ H u M _ k => VRel.one (x := .map l) k rfl⟩
    | some k' =>
      refine ⟨h1, h2, rfl, rfl, fun ρ H u M hM k => ?_⟩
      show BlkAt (renM ρ M (.b k')) _ u
      rw [qtn (qqj hM (h3 k' hn))]
      exact k
  | .iter l, m => by
    obtain ⟨h1, h2, h3⟩ := qn4 (al := al) (l := l) (m := m)
    simp only [V.ren, named, viaP]
    cases hn : (qhl al l m).1 with
    | none => exact ⟨h1, h2, rfl, rfl, fun ρ H u M _ k => VRel.one (x := .iter l) k rfl⟩
    | some k' =>
      refine ⟨h1, h2, rfl, rfl, fun ρ H u M hM k => ?_⟩
      show BlkAt (renM ρ M (.b k')) _ u
      rw [qtn (qqj hM (h3 k' hn))]
      exact k
  | .agg cs, m => by
    obtain ⟨h1, h2, h3, _, h4⟩ := qm7 al cs m
    simp only [V.ren, viaP]
    refine ⟨h1, h2, rfl, rfl, fun ρ H u M hM k => ?_⟩
    obtain ⟨vs, e, k1, k2⟩ := k
    exact ⟨vs, e, h4 ρ H vs M hM k1, by rw [h3]; exact k2⟩
  | .iface t x, m => by
    obtain ⟨h1, h2, _, _, h4⟩ := qym al x m
    simp only [V.ren, viaP]
    refine ⟨h1, h2, rfl, rfl, fun ρ H u M hM k => ?_⟩
    obtain ⟨v, e, k1⟩ := k
    exact ⟨v, e, h4 ρ H v M hM k1⟩
  | .fn f cs, m => by
    obtain ⟨h1, h2, _, _, h4⟩ := qm7 al cs m
    simp only [V.ren, viaP]
    refine ⟨h1, h2, rfl, rfl, fun ρ H u M hM k => ?_⟩
    obtain ⟨vs, e, k1⟩ := k
    exact ⟨vs, e, h4 ρ H vs M hM k1⟩
  | .tup cs, m => by
    obtain ⟨h1, h2, _, _, h4⟩ := qm7 al cs m
    simp only [V.ren, viaP]
    refine ⟨h1, h2, rfl, rfl, fun ρ H u M hM k => ?_⟩
    obtain ⟨vs, e, k1⟩ := k
    exact ⟨vs, e, h4 ρ H vs M hM k1⟩
  | .junk, m => ⟨List.prefix_refl _, id, rfl, rfl, fun _ _ _ _ _ k => k⟩
theorem qm7 (al : Loc → Bool) : ∀ (vs : List V) (m : List Loc), m <+: (rens al vs m).2 ∧ (m.Nodup → (rens al vs m).2.Nodup) ∧ (rens al vs m).1.any qfk = vs.any qfk ∧ (rens al vs m).1.any qcb.isJunk = vs.any qcb.isJunk ∧
    ∀ (ρ : Map) (H : Ice) (us : List Value) (M : List Loc), (rens al vs m).2 <+: M → VRels ρ H vs us → VRels (renM ρ M) H (rens al vs m).1 us
  | [], m => ⟨List.prefix_refl _, id, rfl, rfl, fun _ _ _ _ _ k => k⟩
  | v :: vs, m => by
    obtain ⟨a1, a2, a3, a4, a5⟩ := qym al v m
    obtain ⟨b1, b2, b3, b4, b5⟩ := qm7 al vs (V.ren al v m).2
    simp only [rens, viaP]
    refine ⟨a1.trans b1, fun h => b2 (a2 h), by simp only [List.any_cons, a3, b3], by simp only [List.any_cons, a4, b4], fun ρ H us M hM k => ?_⟩
    obtain ⟨u, us', rfl, k1, k2⟩ := k
    exact ⟨u, us', rfl, a5 ρ H u M (b1.trans hM) k1, b5 ρ H us' M hM k2⟩
end
theorem qxh (al : Loc → Bool) : ∀ (es : List (D × V)) (m : List Loc), m <+: (renEs al es m).2 ∧ (m.Nodup → (renEs al es m).2.Nodup) ∧
    ∀ (ρ : Map) (H : Ice) (ents : List MapEntry) (M : List Loc), (renEs al es m).2 <+: M → All2 (ERel ρ H) es ents → All2 (ERel (renM ρ M) H) (renEs al es m).1 ents
  | [], m => ⟨List.prefix_refl _, id, fun _ _ _ _ _ k => by cases k; exact .nil⟩
  | (key, v) :: es, m => by
    obtain ⟨a1, a2, a3, a4, a5⟩ := qym al v m
    obtain ⟨b1, b2, b5⟩ := qxh al es (V.ren al v m).2
    simp only [renEs, viaP]
    refine ⟨a1.trans b1, fun h => b2 (a2 h), fun ρ H ents M hM k => ?_⟩
    cases k with
    | cons k1 k2 =>
      obtain ⟨c1, c2, c3⟩ := k1
      exact .cons ⟨c1, a5 ρ H _ M (b1.trans hM) c2, by rw [a3]; exact c3⟩ (b5 ρ H _ M hM k2)
theorem q14 (al : Loc → Bool) (o : Obj) (m : List Loc) : m <+: (o.ren al m).2 ∧ (m.Nodup → (o.ren al m).2.Nodup) ∧
    ∀ (ρ : Map) (H : Ice) (w : World) (p : Place) (M : List Loc), (o.ren al m).2 <+: M → qcb ρ H w o p → qcb (renM ρ M) H w (o.ren al m).1 p := by
  cases o with
  | arr xs sz =>
    obtain ⟨a1, a2, a3, a4, a5⟩ := qm7 al xs m
    simp only [Obj.ren, viaP]
    refine ⟨a1, a2, fun ρ H w p M hM k => ?_⟩
    cases p with
    | virt s =>
      obtain ⟨rfl, k2⟩ := k
      exact ⟨rfl, k2⟩
    | at_ b base s size =>
      obtain ⟨e, arr, elem, fr, us, h1, h2, h3, h4, h5, h6⟩ := k
      exact ⟨e, arr, elem, fr, us, h1, h2, a5 ρ H us M hM h3, by rw [a4]; exact h4, h5, h6⟩
    | _ => exact k.elim
  | map es =>
    obtain ⟨a1, a2, a5⟩ := qxh al es m
    simp only [Obj.ren, viaP]
    refine ⟨a1, a2, fun ρ H w p M hM k => ?_⟩
    cases p with
    | blk r =>
      obtain ⟨ents, clock, h1, h2⟩ := k
      exact ⟨ents, clock, h1, a5 ρ H ents M hM h2⟩
    | _ => exact k.elim
  | iter s pos => exact ⟨List.prefix_refl _, id, fun ρ H w p M _ k => by cases p <;> exact k⟩
  | dead => exact ⟨List.prefix_refl _, id, fun ρ H w p M _ k => by cases p <;> exact k⟩
theorem quv (h : Loc → Option Obj) : ∀ (f j : Nat) (m : List Loc) (os : List Obj) (M : List Loc), qdd h f j m = some (os, M) → j ≤ m.length →
    m <+: M ∧ (m.Nodup → M.Nodup) ∧ os.length + j = M.length ∧ ∀ k o', os[k]? = some o' → ∃ l, M[j + k]? = some l ∧ ((h l = none ∧ o' = .dead) ∨ ∃ o, h l = some o ∧
      ∀ (ρ : Map) (H : Ice) (w : World) (p : Place), qcb ρ H w o p → qcb (renM ρ M) H w o' p)
  | 0, j, m, os, M, e, _ => by cases e
  | f + 1, j, m, os, M, e, hj => by
    simp only [qdd] at e
    cases hm : m[j]? with
    | none =>
      rw [hm, qmg] at e
      cases e
      have := List.getElem?_eq_none_iff.1 hm
      exact ⟨List.prefix_refl _, id, by simp; omega, fun k o' hk => by simp at hk⟩
    | some l =>
      rw [hm, qjx] at e
      have hlt := (List.getElem?_eq_some_iff.1 hm).1
      cases hl : h l with
      | none =>
        rw [hl, qmg] at e
        obtain ⟨⟨os', M'⟩, e1, e2⟩ := (show ∃ a, qdd h f (j + 1) m = some a ∧ some (.dead :: a.1, a.2) = some (os, M) from by
          cases hw : qdd h f (j + 1) m with
          | none => rw [hw] at e; cases e
          | some a => rw [hw] at e; exact ⟨a, rfl, e⟩)
        cases e2
        obtain ⟨a1, a2, a3, a4⟩ := quv h f (j + 1) m os' M' e1 hlt
        refine ⟨a1, a2, by simp; omega, fun k o' hk => ?_⟩
        cases k with
        | zero =>
          simp at hk
          subst hk
          exact ⟨l, qqj a1 hm, .inl ⟨hl, rfl⟩⟩
        | succ k =>
          obtain ⟨l', b1, b2⟩ := a4 k o' (by simpa using hk)
          exact ⟨l', by rw [← b1]; congr 1; omega, b2⟩
      | some o =>
        rw [hl, qjx] at e
        obtain ⟨r1, r2, r3⟩ := q14 (fun l => (h l).isSome) o m
        simp only [viaP] at e
        obtain ⟨⟨os', M'⟩, e1, e2⟩ := (show ∃ a, qdd h f (j + 1) (o.ren (fun l => (h l).isSome) m).2 = some a ∧ some ((o.ren (fun l => (h l).isSome) m).1 :: a.1, a.2) = some (os, M) from by
          cases hw : qdd h f (j + 1) (o.ren (fun l => (h l).isSome) m).2 with
          | none => rw [hw] at e; cases e
          | some a => rw [hw] at e; exact ⟨a, rfl, e⟩)
        cases e2
        have hlen := r1.length_le
        obtain ⟨a1, a2, a3, a4⟩ := quv h f (j + 1) _ os' M' e1 (by omega)
        refine ⟨r1.trans a1, fun hn => a2 (r2 hn), by simp; omega, fun k o' hk => ?_⟩
        cases k with
        | zero =>
          simp at hk
          subst hk
          exact ⟨l, qqj (r1.trans a1) hm, .inr ⟨o, hl, fun ρ H w p k => r3 ρ H w p M' a1 k⟩⟩
        | succ k =>
          obtain ⟨l', b1, b2⟩ := a4 k o' (by simpa using hk)
          exact ⟨l', by rw [← b1]; congr 1; omega, b2⟩
theorem q15 {m : List Loc} (h : m.Nodup) {i j : Nat} {l : Loc} (h1 : m[i]? = some l) (h2 : m[j]? = some l) : i = j := by
  obtain ⟨a1, a2⟩ := List.getElem?_eq_some_iff.1 h1
  obtain ⟨b1, b2⟩ := List.getElem?_eq_some_iff.1 h2
  exact (List.getElem_inj h).1 (a2.trans b2.symm)
theorem qr5 {ρ : Map} {H : Ice} {h : Loc → Option Obj} {w : World} {pin : List Loc} {vs vs' : List V} {os : List Obj} {M : List Loc} (hH : HRel ρ H h w) (hp : pin.Nodup) (e : norm pin vs h = some (vs', os, M)) :
    HRel (renM ρ M) H (qa6 os) w ∧ (∀ us, VRels ρ H vs us → VRels (renM ρ M) H vs' us) ∧ pin <+: M ∧ M.Nodup ∧ os.length = M.length := by
  obtain ⟨r1, r2, _, _, r5⟩ := qm7 (fun l => (h l).isSome) vs pin
  simp only [norm, viaP] at e
  obtain ⟨⟨os', M'⟩, e1, e2⟩ := (show ∃ a, qdd h 64 0 (rens (fun l => (h l).isSome) vs pin).2 = some a ∧ some ((rens (fun l => (h l).isSome) vs pin).1, a.1, a.2) = some (vs', os, M) from by
    cases hw : qdd h 64 0 (rens (fun l => (h l).isSome) vs pin).2 with
    | none => rw [hw] at e; cases e
    | some a => rw [hw] at e; exact ⟨a, rfl, e⟩)
  cases e2
  obtain ⟨a1, a2, a3, a4⟩ := quv h 64 0 _ os' M' e1 (Nat.zero_le _)
  have hnd : M'.Nodup := a2 (r2 hp)
  refine ⟨⟨hH.ice, ?_, ?_, ?_, ?_⟩, fun us k => r5 ρ H us M' a1 k, r1.trans a1, hnd, by simpa using a3⟩
  · intro l o ho
    cases l with
    | n i k => simp [qa6] at ho
    | b k =>
      have hk : os'[k]? = some o := by
        simp only [qa6] at ho
        split at ho
        · cases ho
        · exact ho
      obtain ⟨l, b1, b2⟩ := a4 k o hk
      rw [Nat.zero_add] at b1
      rw [qtn b1]
      rcases b2 with ⟨_, rfl⟩ | ⟨o', c1, c2⟩
      · simp [qa6, hk] at ho
      · exact c2 ρ H w _ (hH.objs l o' c1)
  · intro l ho
    cases l with
    | n i k => exact .inl rfl
    | b k =>
      simp only [qa6] at ho
      split at ho
      · rename_i hk
        obtain ⟨l, b1, b2⟩ := a4 k _ hk
        rw [Nat.zero_add] at b1
        rw [qtn b1]
        rcases b2 with ⟨c1, _⟩ | ⟨o', c1, c2⟩
        · exact hH.gone l c1
        · exfalso
          have := c2 ρ H w _ (hH.objs l o' c1)
          cases hp : ρ l <;> rw [hp] at this <;> exact this.elim
      · have : M'[k]? = none := by
          rw [List.getElem?_eq_none_iff] at ho ⊢
          omega
        left
        simp only [renM, this]
  · intro l l' b h1 h2
    cases l with
    | n i k => cases h1
    | b k =>
      cases l' with
      | n i k => cases h2
      | b k' =>
        simp only [renM] at h1 h2
        split at h1
        · rename_i l e1
          split at h2
          · rename_i l' e2
            have := hH.inj l l' b h1 h2
            subst this
            rw [q15 hnd e1 e2]
          · cases h2
        · cases h1
  · intro l b h1 o
    cases l with
    | n i k => cases h1
    | b k =>
      simp only [renM] at h1
      split at h1
      · exact hH.sep _ b h1 o
      · cases h1
end Go.Rf

namespace Go.Rf
open Classical
noncomputable def iceOf (ρ : Map) (H : Ice) (w : World) (S : List Loc) : Ice := fun b o => if ∃ l ∈ S, (ρ l).block = some b then w.cell? ⟨b, o, Option.none⟩ else H b o
noncomputable def killM (ρ : Map) (S : List Loc) : Map := fun l => if l ∈ S then .dead else ρ l
theorem qh3 {ρ : Map} {H : Ice} {h : Loc → Option Obj} {w : World} (hH : HRel ρ H h w) (S : List Loc) :
    HRel (killM ρ S) (iceOf ρ H w S) (qgh h S) w ∧ Trans ρ H w (killM ρ S) (iceOf ρ H w S) w ∧ Stays ρ (killM ρ S) ∧ H.le (iceOf ρ H w S) := by
  have hle : H.le (iceOf ρ H w S) := fun b o v e => by
    unfold iceOf
    split
    · exact hH.ice b o v e
    · exact e
  have hst : Stays ρ (killM ρ S) := fun l _ => by
    unfold killM
    split
    · exact .inr rfl
    · exact .inl rfl
  have blk : ∀ l b, (killM ρ S l).block = some b → l ∉ S ∧ (ρ l).block = some b := fun l b e => by
    unfold killM at e
    split at e
    · cases e
    · rename_i h; exact ⟨h, e⟩
  refine ⟨⟨?_, ?_, ?_, ?_, ?_⟩, ⟨rfl, rfl, rfl, Nat.le_refl _, ?_, ?_⟩, hst, hle⟩
  · intro b o v e
    unfold iceOf at e
    split at e
    · exact e
    · exact hH.ice b o v e
  · intro l o e
    unfold qgh at e
    split at e
    · cases e
    · rename_i hn
      have := (hH.objs l o e).mono hst hle (fun _ _ => rfl)
      unfold killM
      rw [if_neg hn]
      exact this
  · intro l e
    unfold qgh at e
    unfold killM
    split at e
    · rename_i hn; rw [if_pos hn]; exact .inr rfl
    · rename_i hn; rw [if_neg hn]; exact hH.gone l e
  · intro l l' b e e'
    exact hH.inj l l' b (blk l b e).2 (blk l' b e').2
  · intro l b e o
    obtain ⟨hn, e⟩ := blk l b e
    unfold iceOf
    rw [if_neg]
    · exact hH.sep l b e o
    · rintro ⟨l', h1, h2⟩
      exact hn (hH.inj l l' b e h2 ▸ h1)
  · intro b _ hn
    refine ⟨rfl, fun o => ?_⟩
    unfold iceOf
    rw [if_neg]
    rintro ⟨l', _, h2⟩
    exact hn l' h2
  · intro l b e
    exact .inr ⟨l, (blk l b e).2⟩
def FrzOk (ρ : Map) (H : Ice) (h : Loc → Option Obj) (w : World) (v : V) (x : D) (ms : List Loc) : Prop :=
  (∀ l ∈ ms, ∃ o, h l = some o) ∧ qpc x = qfk v ∧ ∀ S : List Loc, (∀ l ∈ ms, l ∈ S) → ∀ u, VRel ρ H v u → DRel (iceOf ρ H w S) x u
theorem qup {ρ : Map} {H : Ice} {h : Loc → Option Obj} {w : World} {f : V → Option (D × List Loc)} (hf : ∀ v x ms, f v = some (x, ms) → FrzOk ρ H h w v x ms) :
    ∀ (vs : List V) (ds : List D) (ms : List Loc), frzL f vs = some (ds, ms) → (∀ l ∈ ms, ∃ o, h l = some o) ∧ ds.any qpc = vs.any qfk ∧
      ∀ S : List Loc, (∀ l ∈ ms, l ∈ S) → ∀ us, VRels ρ H vs us → DRels (iceOf ρ H w S) ds us
  | [], ds, ms, e => by cases e; exact ⟨(fun l hl => (List.not_mem_nil hl).elim), rfl, fun S _ us k => k⟩
  | v :: vs, ds, ms, e => by
    simp only [frzL] at e
    split at e
    · rename_i x m xs m' e1 e2
      cases e
      obtain ⟨a1, a2, a3⟩ := hf v x m e1
      obtain ⟨b1, b2, b3⟩ := qup hf vs xs m' e2
      refine ⟨fun l hl => ?_, by simp only [List.any_cons, a2, b2], fun S hS us k => ?_⟩
      · rcases List.mem_append.1 hl with h | h
        · exact a1 l h
        · exact b1 l h
      · obtain ⟨u, us', rfl, k1, k2⟩ := k
        exact ⟨u, us', rfl, a3 S (fun l hl => hS l (List.mem_append_left _ hl)) u k1, b3 S (fun l hl => hS l (List.mem_append_right _ hl)) us' k2⟩
    · cases e
theorem qw7 {us : List Value} {n j : Nat} {v : Value} (h : (flat (us.take n))[j]? = some v) : (flat us)[j]? = some v := by
  have : flat us = flat (us.take n) ++ flat (us.drop n) := by rw [← qlt, List.take_append_drop]
  rw [this]
  have hl := (List.getElem?_eq_some_iff.1 h).1
  rw [List.getElem?_append_left hl]
  exact h
theorem qx1 {sz : Nat} : ∀ {us : List Value} (n : Nat), (∀ u ∈ us, u.cells.size = sz) → flat (us.drop n) = (flat us).drop (n * sz)
  | us, 0, _ => by simp
  | [], n + 1, _ => by simp [flat]
  | u :: us, n + 1, h => by
    have hl : u.cells.toList.length = sz := by simpa using h u (List.mem_cons_self ..)
    rw [List.drop_succ_cons, qx1 n (fun x hx => h x (List.mem_cons_of_mem _ hx)), qeu, List.drop_append, hl]
    have : (n + 1) * sz - sz = n * sz := by rw [Nat.add_mul]; omega
    have h0 : List.drop ((n + 1) * sz) u.cells.toList = [] := List.drop_eq_nil_of_le (by rw [hl, Nat.add_mul]; omega)
    rw [this, h0, List.nil_append]
theorem q5w {ρ : Map} {H : Ice} {w : World} {S : List Loc} {l : Loc} {b : Nat} (hl : l ∈ S) (hb : (ρ l).block = some b) (o : Nat) : iceOf ρ H w S b o = w.cell? ⟨b, o, Option.none⟩ := by
  unfold iceOf
  rw [if_pos ⟨l, hl, hb⟩]
theorem qpd {ρ : Map} {H : Ice} {h : Loc → Option Obj} {w : World} (hH : HRel ρ H h w) : ∀ (k : Nat) (v : V) (x : D) (ms : List Loc), frz h k v = some (x, ms) → FrzOk ρ H h w v x ms
  | k, .d y, x, ms, e => by
    have : frz h k (.d y) = some (y, []) := by cases k <;> rfl
    rw [this] at e
    cases e
    exact ⟨fun l hl => (List.not_mem_nil hl).elim, rfl, fun S _ u k => DRel.mono (qh3 hH S).2.2.2 _ k⟩
  | 0, .ref .., _, _, e | 0, .ptr .., _, _, e | 0, .agg _, _, _, e | 0, .iface .., _, _, e | 0, .fn .., _, _, e | 0, .tup _, _, _, e | 0, .map _, _, _, e | 0, .iter _, _, _, e | 0, .junk, _, _, e => by cases e
  | k + 1, .tup _, _, _, e | k + 1, .iter _, _, _, e | k + 1, .junk, _, _, e => by cases e
  | k + 1, .map l, x, ms, e => by
    simp only [frz] at e
    split at e
    · rename_i es hl
      cases e
      refine ⟨fun l' hl' => ⟨_, List.mem_singleton.1 hl' ▸ hl⟩, rfl, fun S _ u hu => ?_⟩
      have hu : BlkAt (ρ l) (fun r => .map (some r)) u := hu
      cases hp : ρ l with
      | dead => rw [hp] at hu; obtain ⟨r, hu⟩ := hu; exact ⟨_, hu⟩
      | blk q => rw [hp] at hu; exact ⟨_, hu⟩
      | none => rw [hp] at hu; exact hu.elim
      | virt s => rw [hp] at hu; exact hu.elim
      | at_ a b c d => rw [hp] at hu; exact hu.elim
    · cases e
  | k + 1, .agg cs, x, ms, e => by
    simp only [frz, Option.map_eq_some_iff] at e
    obtain ⟨⟨ds, m⟩, e1, e2⟩ := e
    cases e2
    obtain ⟨a1, a2, a3⟩ := qup (fun v x ms => qpd hH k v x ms) cs ds _ e1
    refine ⟨a1, rfl, fun S hS u hu => ?_⟩
    obtain ⟨vs, rfl, k1, k2⟩ := hu
    exact ⟨vs, rfl, a3 S hS vs k1, by rw [a2]; exact k2⟩
  | k + 1, .iface t v, x, ms, e => by
    simp only [frz, Option.map_eq_some_iff] at e
    obtain ⟨⟨y, m⟩, e1, e2⟩ := e
    cases e2
    obtain ⟨a1, a2, a3⟩ := qpd hH k v y _ e1
    refine ⟨a1, rfl, fun S hS u hu => ?_⟩
    obtain ⟨u', rfl, k1⟩ := hu
    exact ⟨u', rfl, a3 S hS u' k1⟩
  | k + 1, .fn f cs, x, ms, e => by
    simp only [frz, Option.map_eq_some_iff] at e
    obtain ⟨⟨ds, m⟩, e1, e2⟩ := e
    cases e2
    obtain ⟨a1, a2, a3⟩ := qup (fun v x ms => qpd hH k v x ms) cs ds _ e1
    refine ⟨a1, rfl, fun S hS u hu => ?_⟩
    obtain ⟨vs, rfl, k1⟩ := hu
    exact ⟨vs, rfl, a3 S hS vs k1⟩
  | k + 1, .ref l sz off len, x, ms, e => by
    simp only [frz] at e
    split at e
    · rename_i xs sz' hl
      split at e
      · rename_i hle
        simp only [Option.bind_eq_some_iff] at e
        obtain ⟨⟨ds, m⟩, e1, e2⟩ := e
        split at e2
        · rename_i hwl
          cases e2
          obtain ⟨a1, a2, a3⟩ := qup (fun v x ms => qpd hH k v x ms) _ ds m e1
          refine ⟨fun l' hl' => ?_, rfl, fun S hS u hu => ?_⟩
          · rcases List.mem_cons.1 hl' with rfl | h'
            · exact ⟨_, hl⟩
            · exact a1 l' h'
          · have hobj := hH.objs l _ hl
            have hu : RefAt (ρ l) sz off len u := hu
            cases hp : ρ l with
            | none => rw [hp] at hu; exact hu.elim
            | dead => rw [hp] at hobj; exact hobj.elim
            | blk q => rw [hp] at hu; exact hu.elim
            | virt s =>
              rw [hp] at hobj hu
              obtain ⟨rfl, _⟩ := hobj
              obtain ⟨_, rfl, rfl, rfl⟩ := hu
              cases e1
              exact ⟨Option.none, 0, rfl, Nat.le_refl _, by simp, fun h => absurd rfl h⟩
            | at_ b base s size =>
              rw [hp] at hobj hu
              obtain ⟨rfl, arr, elem, fr, us, hb, hsize, hus, hj, hs, hc, _⟩ := hobj
              obtain ⟨rfl, c, rfl, q1, q2, q3, q4, _⟩ := hu
              have hr : VRels ρ H ((xs.drop off).take len) ((us.drop off).take len) := (hus.drop off).take len
              have hd := a3 S (fun l' hl' => hS l' (List.mem_cons_of_mem _ hl')) _ hr
              have hlen : ds.length = len := by
                rw [hd.length, ← hr.length, List.length_take, List.length_drop]; omega
              show DRel _ (.sl ds) _
              refine ⟨some ⟨b, base + off * s.c, Option.none⟩, c, by rw [hlen], by omega, ?_, fun _ => ⟨b, base + off * s.c, s.c, _, rfl, hd, fun u hu => hs u (List.mem_of_mem_drop (List.mem_of_mem_take hu)), fun j v hjv => ?_⟩⟩
              · rw [hlen]
                exact Nat.le_trans (Nat.mul_le_mul_left _ hwl) q2
              · rw [q5w (hS l (List.mem_cons_self ..)) (by rw [hp]; rfl)]
                have q := qw7 hjv
                rw [qx1 off hs, List.getElem?_drop] at q
                have := hc _ _ q
                simp only [World.cell?, hb]
                simpa [Nat.add_assoc] using this
        · cases e2
      · cases e
    · cases e
  | k + 1, .ptr l e' j, x, ms, e => by
    simp only [frz] at e
    split at e
    · rename_i xs sz' hl
      split at e
      · rename_i hj0
        subst hj0
        split at e
        · rename_i v hv
          simp only [Option.map_eq_some_iff] at e
          obtain ⟨⟨y, m⟩, e1, e2⟩ := e
          cases e2
          obtain ⟨a1, a2, a3⟩ := qpd hH k v y m e1
          refine ⟨fun l' hl' => ?_, rfl, fun S hS u hu => ?_⟩
          · rcases List.mem_cons.1 hl' with rfl | h'
            · exact ⟨_, hl⟩
            · exact a1 l' h'
          · have hobj := hH.objs l _ hl
            have hu : PtrAt (ρ l) e' 0 u := hu
            cases hp : ρ l with
            | none => rw [hp] at hu; exact hu.elim
            | dead => rw [hp] at hobj; exact hobj.elim
            | blk q => rw [hp] at hu; exact hu.elim
            | virt s => rw [hp] at hu; exact hu.elim
            | at_ b base s size =>
              rw [hp] at hobj hu
              obtain ⟨u', r1, r2, r3, r4⟩ := q5m hobj hv
              refine ⟨b, base + e' * s.c, u', hu, a3 S (fun l' hl' => hS l' (List.mem_cons_of_mem _ hl')) u' r1, fun q v hq => ?_⟩
              rw [q5w (hS l (List.mem_cons_self ..)) (by rw [hp]; rfl)]
              exact r4 q v hq
        · cases e
      · cases e
    · cases e
end Go.Rf

namespace Go.Rf
variable {B : Ice} {ds : List Deferred} {fx : List (Nat × Value)}
structure EnvRel (B : Ice) (ds : List Deferred) (fx : List (Nat × Value)) (ρ : Map) (H : Ice) (N : Nat) (env : List (Nat × V)) (a : Act) : Prop where
  size : a.tmps.size = N
  defers : a.defers = ds
  rel : ∀ t v, getE env t = some v → VRel ρ H v (a.tmps.getD t undef)
  base : Ice.le B H
  fix : ∀ t u, (t, u) ∈ fx → a.tmps.getD t undef = u
theorem EnvRel.mono {ρ ρ' H H' N env a} (k : EnvRel B ds fx ρ H N env a) (hs : Stays ρ ρ') (hl : H.le H') : EnvRel B ds fx ρ' H' N env a :=
  ⟨k.size, k.defers, fun t v e => (k.rel t v e).mono hs hl, fun b o v e => hl b o v (k.base b o v e), k.fix⟩
theorem EnvRel.put {ρ H N env a x v} (k : EnvRel B ds fx ρ H N env a) (d : Option Nat) (hd : ∀ t, d = some t → t < N ∧ ∀ x ∈ fx, x.1 ≠ t) (hv : VRel ρ H x v) : EnvRel B ds fx ρ H N (putT env d x) (a.put d v) := by
  cases d with
  | none => exact k
  | some t =>
    obtain ⟨ht, hfx⟩ := hd t rfl
    refine ⟨by simpa [Act.put] using k.size, k.defers, fun t' v' e => ?_, k.base, fun t' u' hm => ?_⟩
    · simp only [putT, getE] at e
      by_cases h : t = t'
      · subst h
        rw [if_pos rfl] at e
        injection e with e
        subst e
        have : (a.tmps.setIfInBounds t v).getD t undef = v := by
          simp [Array.getD, k.size, ht]
        simpa [Act.put, this] using hv
      · rw [if_neg h] at e
        have : (a.tmps.setIfInBounds t v).getD t' undef = a.tmps.getD t' undef := by
          simp only [Array.getD_eq_getD_getElem?, Array.getElem?_setIfInBounds, if_neg h]
        simpa [Act.put, this] using k.rel t' v' e
    · have hne := hfx _ hm
      have : (a.tmps.setIfInBounds t v).getD t' undef = a.tmps.getD t' undef := by
        simp only [Array.getD_eq_getD_getElem?, Array.getElem?_setIfInBounds, if_neg (Ne.symm hne)]
      simpa [Act.put, this] using k.fix t' u' hm
mutual
def qjj : D → Value → Bool
  | .bool b, v => match v with | .bool c => b == c | _ => false
  | .int k n, v => match v with | .int j m => decide (k = j) && decide (n = m) | _ => false
  | .str b, v => match v with | .string s => decide (s.data.toList = b) && decide (b.length ≤ long) | _ => false
  | .agg ds, v => match v with | .agg vs => qtf ds vs.toList && !ds.any qpc | _ => false
  | .sl l, v => match l, v with | [], .slice none 0 0 => true | _, _ => false
  | .nilp, v => match v with | .pointer none => true | _ => false
  | .nili, v => match v with | .nilIface => true | _ => false
  | .nilf, v => match v with | .nilFunc => true | _ => false
  | .nilm, v => match v with | .map none => true | _ => false
  | .nils, v => match v with | .slice none 0 0 => true | _ => false
  | .fn f l, v => match l, v with | [], .func (.func g) a b => decide (f = g) && a.toList.isEmpty && b.toList.isEmpty | _, _ => false
  | .iface t x, v => match v with | .iface u v => decide (t = u) && qjj x v | _ => false
  | .box _, _ => false
def qtf : List D → List Value → Bool
  | [], vs => match vs with | [] => true | _ => false
  | d :: ds, vs => match vs with | v :: vs => qjj d v && qtf ds vs | [] => false
end
theorem qrc {α : Type} {a : Array α} (h : a.toList.isEmpty = true) : a = #[] := by
  cases a with
  | mk l => cases l <;> simp_all
mutual
theorem qno {H : Ice} : ∀ (x : D) (v : Value), qjj x v = true → DRel H x v
  | .bool b, v, h => by cases v <;> simp_all [qjj, DRel]
  | .int k n, v, h => by cases v <;> simp_all [qjj, DRel]
  | .str b, v, h => by
    cases v <;> simp_all only [qjj, Bool.false_eq_true]
    rename_i s
    simp only [Bool.and_eq_true, decide_eq_true_eq] at h
    obtain ⟨h1, h2⟩ := h
    subst h1
    exact ⟨rfl, h2⟩
  | .agg ds, v, h => by
    cases v <;> simp_all only [qjj, Bool.false_eq_true]
    rename_i vs
    simp only [Bool.and_eq_true, Bool.not_eq_true'] at h
    exact ⟨vs.toList, rfl, qwe ds _ h.1, h.2⟩
  | .sl l, v, h => by
    unfold qjj at h
    split at h
    · exact ⟨none, 0, rfl, Nat.le_refl _, by simp [wl], fun h => absurd rfl h⟩
    · cases h
  | .nilp, v, h => by unfold qjj at h; split at h <;> first | rfl | cases h
  | .nili, v, h => by unfold qjj at h; split at h <;> first | rfl | cases h
  | .nilf, v, h => by unfold qjj at h; split at h <;> first | rfl | cases h
  | .nilm, v, h => by unfold qjj at h; split at h <;> first | exact ⟨_, rfl⟩ | cases h
  | .nils, v, h => by unfold qjj at h; split at h <;> first | rfl | cases h
  | .fn f l, v, h => by
    unfold qjj at h
    split at h
    · simp only [Bool.and_eq_true, decide_eq_true_eq] at h
      obtain ⟨⟨rfl, h1⟩, h2⟩ := h
      rw [qrc h1, qrc h2]
      exact ⟨[], rfl, rfl⟩
    · cases h
  | .iface t x, v, h => by
    cases v <;> simp_all only [qjj, Bool.false_eq_true]
    rename_i u v
    simp only [Bool.and_eq_true, decide_eq_true_eq] at h
    obtain ⟨rfl, h⟩ := h
    exact ⟨v, rfl, qno x v h⟩
  | .box _, _, h => by simp [qjj] at h
theorem qwe {H : Ice} : ∀ (xs : List D) (vs : List Value), qtf xs vs = true → DRels H xs vs
  | [], vs, h => by cases vs <;> simp_all [qtf, DRels]
  | x :: xs, vs, h => by
    cases vs with
    | nil => simp [qtf] at h
    | cons v vs =>
      simp only [qtf, Bool.and_eq_true] at h
      exact ⟨v, vs, rfl, qno x v h.1, qwe xs vs h.2⟩
end
def okO : Operand → Opnd → Bool
  | .tmp t, .t n => decide (t = n)
  | .const v, .c x => qjj x v
  | .func f, .c (.fn g []) => decide (f = g)
  | _, _ => false
theorem qau {ρ H N env a} (k : EnvRel B ds fx ρ H N env a) {o : Operand} {x : Opnd} (h : okO o x = true) {v : V} (e : evO env x = some v) : VRel ρ H v (a.eval o) := by
  unfold okO at h
  split at h
  · simp only [decide_eq_true_eq] at h; subst h; exact k.rel _ _ e
  · simp only [evO, Option.some.injEq] at e; subst e; exact qno _ _ h
  · simp only [decide_eq_true_eq] at h; subst h
    simp only [evO, Option.some.injEq] at e; subst e
    exact ⟨[], rfl, rfl⟩
  · cases h
def aggT : TypeDesc → Bool
  | .struct _ | .array _ _ => true
  | _ => false
def tyIs (P : Program) (t : TypeId) (n : Nat) (ag : Bool) : Bool :=
  match P.info? t, P.underlying t with
  | some i, some d => decide (i.size = n) && (aggT d == ag)
  | _, _ => false
def qkz (P : Program) (t : TypeId) (n : Nat) : Bool := match P.info? t with
  | some i => decide (i.size = n)
  | none => false
def qia (P : Program) (t : TypeId) (z : D) : Bool := match P.info? t with
  | some i => match i.zero with
    | some v => qjj z v && !(match v with | .tuple _ => true | _ => false)
    | none => false
  | none => false
theorem qkz.run {P : Program} {t n} (h : qkz P t n = true) (w : World) : (sizeOf t).run P w = .ok n w := by
  unfold qkz at h
  split at h
  · rename_i i hi
    simp only [decide_eq_true_eq] at h
    rw [run_sizeOf w hi, Program.cellsOf, hi]
    simp [h]
  · cases h
theorem tyIs.size {P : Program} {t n ag} (h : tyIs P t n ag = true) : qkz P t n = true := by
  unfold tyIs at h
  unfold qkz
  cases hi : P.info? t with
  | none => simp [hi] at h
  | some i =>
    cases hu : P.underlying t with
    | none => simp [hi, hu] at h
    | some d => simp [hi, hu] at h; simp [h.1]
theorem tyIs.isAgg {P : Program} {t n ag} (h : tyIs P t n ag = true) (w : World) : (Go.isAgg t).run P w = .ok ag w := by
  unfold tyIs at h
  cases hi : P.info? t with
  | none => simp [hi] at h
  | some i =>
    cases hu : P.underlying t with
    | none => simp [hi, hu] at h
    | some d =>
      simp [hi, hu] at h
      have h2 := h.2
      unfold Go.isAgg
      rw [Sem.run_bind, run_underlying hu, Result.andThen_ok, ← h2]
      cases d <;> rfl
theorem qia.run {P : Program} {t z} (h : qia P t z = true) (w : World) : ∃ v, (zeroValue t).run P w = .ok v w ∧ ∀ H, DRel H z v := by
  unfold qia at h
  split at h
  · rename_i i hi
    split at h
    · rename_i v hv
      simp only [Bool.and_eq_true] at h
      refine ⟨v, ?_, fun H => qno z v h.1⟩
      unfold zeroValue
      rw [Sem.run_bind, run_typeInfo w hi, Result.andThen_ok, hv]
      rfl
    · cases h
  · cases h
def NewAt (i : Nat) (ρ ρ' : Map) : Prop := ∀ l, ρ l = .none → ρ' l ≠ .none → ∃ k, l = .n i k
theorem NewAt.refl (i ρ) : NewAt i ρ ρ := fun _ h h' => absurd h h'
theorem NewAt.upd {i ρ} (k : Nat) (p : Place) : NewAt i ρ (updM ρ (.n i k) p) := fun l h h' => by
  by_cases e : l = .n i k
  · exact ⟨k, e⟩
  · rw [qbg e] at h'; exact absurd h h'
theorem NewAt.trans {i ρ ρ1 ρ2} (h : NewAt i ρ ρ1) (k : NewAt i ρ1 ρ2) : NewAt i ρ ρ2 := fun l h1 h2 => by
  by_cases e : ρ1 l = .none
  · exact k l e h2
  · exact h l h1 e
theorem NewAt.kill {i ρ l} (h : ρ l ≠ .none) (p : Place) : NewAt i ρ (updM ρ l p) := fun l' h1 h2 => by
  by_cases e : l' = l
  · subst e; exact absurd h1 h
  · rw [qbg e] at h2; exact absurd h1 h2
structure Post (ρ : Map) (H : Ice) (h : Loc → Option Obj) (w : World) (i : Nat) (e : Eff) (ρ' : Map) (H' : Ice) (v : Value) (w' : World) : Prop where
  heap : HRel ρ' H' (qba h e.wr) w'
  trans : Trans ρ H w ρ' H' w'
  stays : Stays ρ ρ'
  new : NewAt i ρ ρ'
  val : VRel ρ' H' e.v v
def Sound (P : Program) (o : Oper) (a : Act) (w : World) (ρ : Map) (H : Ice) (h : Loc → Option Obj) (i : Nat) (r : R) : Prop :=
  ∀ (K : Act → World → Prop) (Q : Exit → Act → World → Prop),
    (match r with
      | .ok e => ∀ ρ' H' v w', Post ρ H h w i e ρ' H' v w' → K (a.put o.dst v) w'
      | .pan e => ∀ ρ' H' v w', Post ρ H h w i e ρ' H' v w' → Q (.panic [{ v, recovered := false }]) a w'
      | .out => LetsOut Q) → o.wp P a w K Q ∨ (o.asks P a w ∧ LetsOut Q)
theorem Sound.of {P : Program} {o : Oper} {a : Act} {w w' : World} {ρ ρ' : Map} {H H' : Ice} {h i} {e : Eff} {v : Value} (hr : (execOp a.eval o).run P w = .ok (.value v) w')
    (hp : Post ρ H h w i e ρ' H' v w') : Sound P o a w ρ H h i (.ok e) := fun K Q hk => .inl (by
  unfold Oper.wp
  rw [hr]
  exact hk _ _ _ _ hp)
theorem Sound.ofU {P : Program} {o : Oper} {a : Act} {w w' : World} {ρ ρ' : Map} {H H' : Ice} {h i} {e : Eff} (hr : (execOp a.eval o).run P w = .ok .skip w')
    (hp : Post ρ H h w i e ρ' H' undef w') : Sound P o a w ρ H h i (.ok e) := fun K Q hk => .inl (by
  unfold Oper.wp
  rw [hr]
  exact hk _ _ _ _ hp)
theorem Post.pure {ρ H h w i} {x : V} {v : Value} (hH : HRel ρ H h w) (hv : VRel ρ H x v) (rd : List Loc) : Post ρ H h w i { v := x, rd := rd } ρ H v w :=
  ⟨hH, Trans.refl .., Stays.refl _, NewAt.refl _ _, hv⟩
theorem Sound.pure {P : Program} {o : Oper} {a : Act} {w : World} {ρ : Map} {H : Ice} {h i} {x : V} {v : Value} (hr : (execOp a.eval o).run P w = .ok (.value v) w)
    (hH : HRel ρ H h w) (hv : VRel ρ H x v) (rd : List Loc := []) : Sound P o a w ρ H h i (.ok { v := x, rd := rd }) := Sound.of hr (Post.pure hH hv rd)
theorem qbx {x : V} {r : R} (h : Rf.val x = some r) : r = .ok { v := x } := by cases h; rfl
theorem qan {α β : Type} {x : Option α} {k : α → Option β} {r : β} (h : bnd x k = some r) : ∃ a, x = some a ∧ k a = some r := by
  cases x with
  | none => cases h
  | some a => exact ⟨a, rfl, h⟩
end Go.Rf

namespace Go.Rf
theorem qn6 {ρ : Map} {H : Ice} {h : Loc → Option Obj} {w : World} (hH : HRel ρ H h w) : ∀ (args : List (V × Bool)) (vs : List V) (m : List Loc), qcc h args = some (vs, m) →
    ∀ S : List Loc, (∀ l ∈ m, l ∈ S) → ∀ us, VRels ρ H (args.map (·.1)) us → VRels (killM ρ S) (iceOf ρ H w S) vs us
  | [], vs, m, e, S, _, us, k => by cases e; exact k
  | (v, fl) :: l, vs, m, e, S, hS, us, k => by
    obtain ⟨u, us', rfl, k1, k2⟩ := k
    simp only [qcc] at e
    split at e
    · rename_i v' m1 vs' m2 e1 e2
      cases e
      have tail := qn6 hH l vs' m2 e2 S (fun x hx => hS x (List.mem_append_right _ hx)) us' k2
      refine ⟨u, us', rfl, ?_, tail⟩
      cases fl with
      | true =>
        simp only [if_true, Option.map_eq_some_iff] at e1
        obtain ⟨⟨x, m'⟩, f1, f2⟩ := e1
        cases f2
        exact (qpd hH 24 v x _ f1).2.2 S (fun x hx => hS x (List.mem_append_left _ hx)) u k1
      | false =>
        simp only [Bool.false_eq_true, if_false] at e1
        cases e1
        exact k1.mono (qh3 hH S).2.2.1 (qh3 hH S).2.2.2
    · cases e
section
variable {m : List Loc} {i : Nat}
theorem qjz {k : Nat} {l : Loc} (h : m[k]? = some l) : backL m i (.b k) = l := by
  have hk := (List.getElem?_eq_some_iff.1 h).1
  simp only [backL, if_pos hk, List.getD, h, Option.getD_some]
theorem qiz {k : Nat} (h : m.length ≤ k) : backL m i (.b k) = .n i (k - m.length) := by
  simp only [backL, if_neg (Nat.not_lt.2 h)]
theorem zbj (hnd : m.Nodup) (hm : ∀ j, .n i j ∉ m) {a b : Nat} (h : backL m i (.b a) = backL m i (.b b)) : a = b := by
  by_cases ha : a < m.length <;> by_cases hb : b < m.length
  · have h1 := List.getElem?_eq_getElem ha
    have h2 := List.getElem?_eq_getElem hb
    rw [qjz h1, qjz h2] at h
    exact (List.getElem_inj hnd).1 h
  · have h1 := List.getElem?_eq_getElem ha
    rw [qjz h1, qiz (by omega)] at h
    exact (hm _ (h ▸ List.getElem_mem ha)).elim
  · have h2 := List.getElem?_eq_getElem hb
    rw [qjz h2, qiz (by omega)] at h
    exact (hm _ (h.symm ▸ List.getElem_mem hb)).elim
  · rw [qiz (by omega), qiz (by omega)] at h
    injection h with _ h
    omega
theorem qwn (hinj : ∀ a b, backL m i (.b a) = backL m i (.b b) → a = b) : ∀ (os : List Obj) (k : Nat) (h : Loc → Option Obj),
    (∀ j o, os[j]? = some o → qba h (qfc m i k os) (backL m i (.b (k + j))) = o.mapL (backL m i)) ∧
    (∀ l, (∀ j, j < os.length → backL m i (.b (k + j)) ≠ l) → qba h (qfc m i k os) l = h l)
  | [], k, h => ⟨fun j o e => by simp at e, fun l _ => rfl⟩
  | o :: os, k, h => by
    obtain ⟨a1, a2⟩ := qwn hinj os (k + 1) (updH h (backL m i (.b k)) (o.mapL (backL m i)))
    refine ⟨fun j o' e => ?_, fun l hl => ?_⟩
    · cases j with
      | zero =>
        simp at e
        subst e
        simp only [qfc, qrd]
        rw [a2]
        · exact qfh ..
        · intro j hj he
          have := hinj _ _ he
          omega
      | succ j =>
        have := a1 j o' (by simpa using e)
        simp only [qfc, qrd]
        rw [show k + (j + 1) = k + 1 + j from by omega]
        exact this
    · simp only [qfc, qrd]
      rw [a2 l (fun j hj he => hl (j + 1) (by simp; omega) (by rw [← he]; congr 2; omega))]
      exact qhz (fun he => hl 0 (by simp) he.symm)
end
mutual
theorem VRel.mapL {ρ ρ' : Map} {H : Ice} {f : Loc → Loc} (hf : ∀ l, ρ l ≠ .none → ρ' (f l) = ρ l) : ∀ (v : V) {u : Value}, VRel ρ H v u → VRel ρ' H (V.mapL f v) u
  | .d x, _, k => k
  | .ref l sz o n, u, k => by
    have k : RefAt (ρ l) sz o n u := k
    show RefAt (ρ' (f l)) sz o n u
    rw [hf l (fun h => by rw [h] at k; exact k)]
    exact k
  | .ptr l e j, u, k => by
    have k : PtrAt (ρ l) e j u := k
    show PtrAt (ρ' (f l)) e j u
    rw [hf l (fun h => by rw [h] at k; exact k)]
    exact k
  | .map l, u, k => by
    have k : BlkAt (ρ l) (fun r => .map (some r)) u := k
    show BlkAt (ρ' (f l)) (fun r => .map (some r)) u
    rw [hf l (fun h => by rw [h] at k; exact k)]
    exact k
  | .iter l, u, k => by
    have k : BlkAt (ρ l) (fun r => .pointer (some ⟨r, 0, Option.none⟩)) u := k
    show BlkAt (ρ' (f l)) (fun r => .pointer (some ⟨r, 0, Option.none⟩)) u
    rw [hf l (fun h => by rw [h] at k; exact k)]
    exact k
  | .agg cs, u, k => by
    obtain ⟨vs, e, k1, k2⟩ := k
    exact ⟨vs, e, (VRels.mapL hf cs k1).1, by rw [(VRels.mapL hf cs k1).2.1]; exact k2⟩
  | .iface t x, u, k => by
    obtain ⟨v, e, k1⟩ := k
    exact ⟨v, e, VRel.mapL hf x k1⟩
  | .fn g cs, u, k => by
    obtain ⟨vs, e, k1⟩ := k
    exact ⟨vs, e, (VRels.mapL hf cs k1).1⟩
  | .tup cs, u, k => by
    obtain ⟨vs, e, k1⟩ := k
    exact ⟨vs, e, (VRels.mapL hf cs k1).1⟩
  | .junk, _, k => k
theorem VRels.mapL {ρ ρ' : Map} {H : Ice} {f : Loc → Loc} (hf : ∀ l, ρ l ≠ .none → ρ' (f l) = ρ l) : ∀ (vs : List V) {us : List Value}, VRels ρ H vs us →
    VRels ρ' H (mapLs f vs) us ∧ (mapLs f vs).any qfk = vs.any qfk ∧ (mapLs f vs).any qcb.isJunk = vs.any qcb.isJunk
  | [], _, k => ⟨k, rfl, rfl⟩
  | v :: vs, us, k => by
    obtain ⟨u, us', rfl, k1, k2⟩ := k
    obtain ⟨a1, a2, a3⟩ := VRels.mapL hf vs k2
    refine ⟨⟨u, us', rfl, VRel.mapL hf v k1, a1⟩, ?_, ?_⟩
    · simp only [mapLs, List.any_cons, a2]
      congr 1
      cases v <;> rfl
    · simp only [mapLs, List.any_cons, a3]
      congr 1
      cases v <;> rfl
end
theorem q2b {ρ ρ' : Map} {H : Ice} {f : Loc → Loc} (hf : ∀ l, ρ l ≠ .none → ρ' (f l) = ρ l) : ∀ (es : List (D × V)) {ents : List MapEntry}, All2 (ERel ρ H) es ents → All2 (ERel ρ' H) (mapLe f es) ents
  | [], _, k => by cases k; exact .nil
  | (key, v) :: es, _, k => by
    cases k with
    | cons k1 k2 =>
      obtain ⟨c1, c2, c3⟩ := k1
      refine .cons ⟨c1, VRel.mapL hf v c2, ?_⟩ (q2b hf es k2)
      rw [← c3]
      cases v <;> rfl
theorem qcb.mapL {ρ ρ' : Map} {H : Ice} {w : World} {f : Loc → Loc} (hf : ∀ l, ρ l ≠ .none → ρ' (f l) = ρ l) {o : Obj} {p : Place} (k : qcb ρ H w o p) : ∃ o', o.mapL f = some o' ∧ qcb ρ' H w o' p := by
  cases o with
  | arr xs sz =>
    refine ⟨_, rfl, ?_⟩
    cases p with
    | virt s =>
      obtain ⟨rfl, k2⟩ := k
      exact ⟨rfl, k2⟩
    | at_ b base s size =>
      obtain ⟨e, arr, elem, fr, us, h1, h2, h3, h4, h5, h6⟩ := k
      obtain ⟨a1, a2, a3⟩ := VRels.mapL hf xs h3
      exact ⟨e, arr, elem, fr, us, h1, h2, a1, by rw [a3]; exact h4, h5, h6⟩
    | _ => exact k.elim
  | map es =>
    refine ⟨_, rfl, ?_⟩
    cases p with
    | blk r =>
      obtain ⟨ents, clock, h1, h2⟩ := k
      exact ⟨ents, clock, h1, q2b hf es h2⟩
    | _ => exact k.elim
  | iter s pos => exact ⟨_, rfl, by cases p <;> exact k⟩
  | dead => cases p <;> exact k.elim
end Go.Rf

namespace Go.Rf
def backM (ρ1 ρ' : Map) (m : List Loc) (i : Nat) : Map := fun l => match idx m l with
  | some k => ρ' (.b k)
  | none => match l with
    | .n a j => if a = i then ρ' (.b (m.length + j)) else ρ1 (.n a j)
    | .b k => ρ1 (.b k)
theorem idx_of {m : List Loc} (hnd : m.Nodup) {k : Nat} {l : Loc} (h : m[k]? = some l) : idx m l = some k := by
  cases hi : idx m l with
  | none => exact (qum hi (List.mem_of_getElem? h)).elim
  | some k' => rw [q15 hnd (qv0 hi) h]
theorem zha {m : List Loc} {l : Loc} (h : l ∉ m) : idx m l = none := by
  cases hi : idx m l with
  | none => rfl
  | some k => exact (h (List.mem_of_getElem? (qv0 hi))).elim
theorem zdy {ρ1 ρ' : Map} {H1 H' : Ice} {h1 : Loc → Option Obj} {w w' : World} {m : List Loc} {i : Nat} {os : List Obj} (hH : HRel ρ1 H1 h1 w) (hnd : m.Nodup) (hm : ∀ l ∈ m, ρ1 l ≠ .none) (hN : ∀ k, ρ1 (.n i k) = .none)
    (hH' : HRel ρ' H' (qa6 os) w') (ht : Trans (renM ρ1 m) H1 w ρ' H' w') (hst : Stays (renM ρ1 m) ρ') (hb : ∀ l, ρ' l ≠ .none → ∃ k, l = .b k) (hlen : m.length ≤ os.length) :
    HRel (backM ρ1 ρ' m i) H' (qba h1 (qfc m i 0 os)) w' ∧ Trans ρ1 H1 w (backM ρ1 ρ' m i) H' w' ∧ Stays ρ1 (backM ρ1 ρ' m i) ∧ NewAt i ρ1 (backM ρ1 ρ' m i) ∧
      ∀ v u, VRel ρ' H' v u → VRel (backM ρ1 ρ' m i) H' (V.mapL (backL m i) v) u := by
  have hni : ∀ j, Loc.n i j ∉ m := fun j hj => hm _ hj (hN j)
  have hinj : ∀ a b, backL m i (.b a) = backL m i (.b b) → a = b := fun a b => zbj hnd hni
  have hback : ∀ k, backM ρ1 ρ' m i (backL m i (.b k)) = ρ' (.b k) := by
    intro k
    by_cases hk : k < m.length
    · have e := List.getElem?_eq_getElem hk
      rw [qjz e]
      simp only [backM, idx_of hnd e]
    · rw [qiz (by omega)]
      simp only [backM, zha (hni _), if_true]
      congr 2
      omega
  have hf : ∀ l, ρ' l ≠ .none → backM ρ1 ρ' m i (backL m i l) = ρ' l := fun l hl => by
    obtain ⟨k, rfl⟩ := hb l hl
    exact hback k
  have hcases : ∀ l, (∃ k, l = backL m i (.b k)) ∨ (l ∉ m ∧ (∀ k, l ≠ backL m i (.b k)) ∧ backM ρ1 ρ' m i l = ρ1 l) := by
    intro l
    cases hi : idx m l with
    | some k => exact .inl ⟨k, (qjz (qv0 hi)).symm⟩
    | none =>
      have hlm := qum hi
      by_cases hni' : ∃ j, l = .n i j
      · obtain ⟨j, rfl⟩ := hni'
        refine .inl ⟨m.length + j, ?_⟩
        rw [qiz (by omega)]
        congr 1
        omega
      · refine .inr ⟨hlm, fun k hk => ?_, ?_⟩
        · by_cases h : k < m.length
          · rw [qjz (List.getElem?_eq_getElem h)] at hk
            exact hlm (hk ▸ List.getElem_mem h)
          · rw [qiz (by omega)] at hk
            exact hni' ⟨_, hk⟩
        · simp only [backM, hi]
          cases l with
          | b k => rfl
          | n a j =>
            simp only
            rw [if_neg (fun h => hni' ⟨j, by rw [h]⟩)]
  have hnew : ∀ k b, (ρ' (.b k)).block = some b → w.heap.size ≤ b ∨ ∃ l ∈ m, (ρ1 l).block = some b := by
    intro k b hkb
    rcases ht.new _ b hkb with h | ⟨l', h⟩
    · exact .inl h
    · right
      cases l' with
      | n a j => cases h
      | b k' =>
        simp only [renM] at h
        split at h
        · rename_i l e; exact ⟨l, List.mem_of_getElem? e, h⟩
        · cases h
  have hstay : Stays ρ1 (backM ρ1 ρ' m i) := by
    intro l hl
    rcases hcases l with ⟨k, rfl⟩ | ⟨_, _, e⟩
    · rw [hback]
      by_cases hk : k < m.length
      · have e := List.getElem?_eq_getElem hk
        rw [qjz e] at hl ⊢
        have := hst (.b k)
        rw [qtn e] at this
        exact this hl
      · rw [qiz (by omega)] at hl
        exact (hl (hN _)).elim
    · exact .inl e
  have hnoc : ∀ b, b < w.heap.size → (∀ l ∈ m, (ρ1 l).block ≠ some b) → w'.heap[b]? = w.heap[b]? ∧ ∀ o, H' b o = H1 b o := fun b hb hn => ht.keep b hb (fun l hl => by
    cases l with
    | n a j => cases hl
    | b k =>
      simp only [renM] at hl
      split at hl
      · rename_i l e; exact hn l (List.mem_of_getElem? e) hl
      · cases hl)
  have hlt : ∀ {l b}, (ρ1 l).block = some b → b < w.heap.size := fun e => hH.lt e
  have hle : H1.le H' := fun b o v e => by
    have hbl := hH.iceLt e
    rw [(hnoc b hbl (fun l _ hl => by rw [hH.sep l b hl o] at e; cases e)).2 o]
    exact e
  obtain ⟨w1, w2⟩ := qwn (m := m) (i := i) hinj os 0 h1
  have ofl : ∀ {k o}, qa6 os (.b k) = some o → os[k]? = some o := fun {k o} ho => by
    simp only [qa6] at ho
    split at ho
    · cases ho
    · exact ho
  refine ⟨⟨hH'.ice, ?_, ?_, ?_, ?_⟩, ⟨ht.os, ht.tape, ht.output, ht.size, ?_, ?_⟩, hstay, ?_, fun v u k => VRel.mapL hf v k⟩
  ·
    intro l o ho
    rcases hcases l with ⟨k, rfl⟩ | ⟨hlm, hne, e⟩
    · rw [hback]
      cases hk : os[k]? with
      | some o' =>
        have := w1 k o' hk
        rw [Nat.zero_add] at this
        rw [this] at ho
        cases hd : qa6 os (.b k) with
        | some o'' =>
          have h2 := ofl hd
          rw [hk] at h2
          cases h2
          obtain ⟨o3, q1, q2⟩ := qcb.mapL hf (hH'.objs _ _ hd)
          rw [q1] at ho
          cases ho
          exact q2
        | none =>
          simp only [qa6, hk] at hd
          split at hd
          · rename_i hdd; cases hdd; cases ho
          · cases hd
      | none =>
        have hkl := List.getElem?_eq_none_iff.1 hk
        rw [w2 _ (fun j hj he => by
          rw [Nat.zero_add] at he
          have := hinj _ _ he
          omega)] at ho
        exfalso
        rw [qiz (by omega)] at ho
        have := hH.objs _ _ ho
        rw [hN] at this
        cases o <;> exact this.elim
    · rw [w2 l (fun j _ he => hne _ he.symm)] at ho
      rw [e]
      refine (hH.objs l o ho).mono hstay hle (fun b hbk => ?_)
      exact (hnoc b (hlt hbk) (fun l' hl' he => hlm (hH.inj l l' b hbk he ▸ hl'))).1
  ·
    intro l ho
    rcases hcases l with ⟨k, rfl⟩ | ⟨hlm, hne, e⟩
    · rw [hback]
      cases hd : qa6 os (.b k) with
      | none => exact hH'.gone _ hd
      | some o =>
        exfalso
        have h2 := ofl hd
        have := w1 k o h2
        rw [Nat.zero_add] at this
        obtain ⟨o3, q1, _⟩ := qcb.mapL hf (hH'.objs _ _ hd)
        rw [this, q1] at ho
        cases ho
    · rw [w2 l (fun j _ he => hne _ he.symm)] at ho
      rw [e]
      exact hH.gone l ho
  ·
    intro l l' b e1 e2
    rcases hcases l with ⟨k, rfl⟩ | ⟨hlm, hne, e⟩ <;> rcases hcases l' with ⟨k', rfl⟩ | ⟨hlm', hne', e'⟩
    · rw [hback] at e1 e2
      have := hH'.inj _ _ b e1 e2
      rw [this]
    · rw [hback] at e1
      rw [e'] at e2
      rcases hnew k b e1 with h | ⟨l2, h2, h3⟩
      · have := hlt e2; omega
      · exact (hlm' (hH.inj l' l2 b e2 h3 ▸ h2)).elim
    · rw [e] at e1
      rw [hback] at e2
      rcases hnew k' b e2 with h | ⟨l2, h2, h3⟩
      · have := hlt e1; omega
      · exact (hlm (hH.inj l l2 b e1 h3 ▸ h2)).elim
    · rw [e] at e1
      rw [e'] at e2
      exact hH.inj l l' b e1 e2
  ·
    intro l b e1 o
    rcases hcases l with ⟨k, rfl⟩ | ⟨hlm, hne, e⟩
    · rw [hback] at e1
      exact hH'.sep _ b e1 o
    · rw [e] at e1
      rw [(hnoc b (hlt e1) (fun l' hl' he => hlm (hH.inj l l' b e1 he ▸ hl'))).2 o]
      exact hH.sep l b e1 o
  · intro b hb hn
    exact hnoc b hb (fun l _ => hn l)
  · intro l b e1
    rcases hcases l with ⟨k, rfl⟩ | ⟨hlm, hne, e⟩
    · rw [hback] at e1
      rcases hnew k b e1 with h | ⟨l2, _, h3⟩
      · exact .inl h
      · exact .inr ⟨l2, h3⟩
    · rw [e] at e1
      exact .inr ⟨l, e1⟩
  · intro l h2 h3
    rcases hcases l with ⟨k, rfl⟩ | ⟨hlm, hne, e⟩
    · by_cases hk : k < m.length
      · have e := List.getElem?_eq_getElem hk
        rw [qjz e] at h2
        exact (hm _ (List.getElem_mem hk) h2).elim
      · exact ⟨_, qiz (by omega)⟩
    · rw [e] at h3
      exact (h3 h2).elim
end Go.Rf
