/- Parts of the proof: RfRel, RfHeap, RfVal. -/
import Derived.Test.YtbjfkjbdpnkknaaDoorRb2
import Derived.WalkKit

/- How abstract values, objects and heaps stand to the machine's. -/
namespace Go.Rf

/-- Cells that nobody writes any more: by block and place. -/
abbrev Ice := Nat → Nat → Option Value

def CellsAt (H : Ice) (b off : Nat) (vs : List Value) : Prop := ∀ i v, vs[i]? = some v → H b (off + i) = some v

def flat (us : List Value) : List Value := us.flatMap fun u => u.cells.toList

def isAggD : D → Bool
  | .agg _ => true
  | _ => false

/-- Neither several cells nor several results. -/
def one : Value → Bool
  | .agg _ | .tuple _ => false
  | _ => true

mutual
def DRel (H : Ice) : D → Value → Prop
  | .bool b, v => v = .bool b
  | .int k n, v => v = .int k n
  | .str s, v => v = .string ⟨s.toArray⟩ ∧ s.length ≤ long
  | .agg cs, v => ∃ vs, v = .agg ⟨vs⟩ ∧ DRels H cs vs ∧ cs.any isAggD = false
  | .iface t x, v => ∃ u, v = .iface t u ∧ DRel H x u
  | .sl xs, v => ∃ a c, v = .slice a xs.length c ∧ xs.length ≤ c ∧ xs.length * wl xs ≤ lots ∧ (xs ≠ [] → ∃ b off sz us, a = some ⟨b, off, none⟩ ∧ DRels H xs us ∧ (∀ u ∈ us, u.cells.size = sz) ∧ CellsAt H b off (flat us))
  | .box x, v => ∃ b off u, v = .pointer (some ⟨b, off, none⟩) ∧ DRel H x u ∧ CellsAt H b off u.cells.toList
  | .fn f cap, v => ∃ us, v = .func (.func f) #[] ⟨us⟩ ∧ DRels H cap us
  | .nilp, v => v = .pointer none
  | .nili, v => v = .nilIface
  | .nilf, v => v = .nilFunc
  | .nilm, v => v = .map none
def DRels (H : Ice) : List D → List Value → Prop
  | [], vs => vs = []
  | d :: ds, vs => ∃ v vs', vs = v :: vs' ∧ DRel H d v ∧ DRels H ds vs'
end

/-- Where an object lies: nowhere as yet; nowhere any more; a row of nothing that has no block; a part of a block (from 'base' on, elements of 'sz' cells, 'size' cells in the block); a block that is no row. -/
inductive Place where
  | none
  | dead
  | virt (sz : W)
  | at_ (b base : Nat) (sz : W) (size : Nat)
  | blk (r : Nat)
  deriving Inhabited

def Place.block : Place → Option Nat
  | .at_ b _ _ _ => some b
  | .blk r => some r
  | _ => Option.none

abbrev Map := Loc → Place

def isAggV : V → Bool
  | .d x => isAggD x
  | .agg _ | .tup _ => true
  | _ => false

def RefAt (p : Place) (sz : W) (off len : Nat) (v : Value) : Prop :=
  match p with
  | .none => False
  | .dead => ∃ a c, v = .slice a len c ∧ len * sz.w ≤ lots ∧ len ≤ c ∧ (0 < len → ∃ q, a = some q) ∧ len ≤ lots
  | .virt s => s = sz ∧ off = 0 ∧ len = 0 ∧ v = .slice Option.none 0 0
  | .at_ b base s size => s = sz ∧ ∃ c, v = .slice (some ⟨b, base + off * sz.c, Option.none⟩) len c ∧ len ≤ c ∧ len * sz.w ≤ lots ∧ base + (off + c) * sz.c ≤ size ∧ len ≤ lots
  | .blk _ => False

def PtrAt (p : Place) (e j : Nat) (v : Value) : Prop :=
  match p with
  | .none => False
  | .dead => ∃ a, v = .pointer (some a)
  | .virt _ => False
  | .at_ b base s _ => v = .pointer (some ⟨b, base + e * s.c + j, Option.none⟩)
  | .blk _ => False

def BlkAt (p : Place) (f : Nat → Value) (v : Value) : Prop :=
  match p with
  | .none => False
  | .dead => ∃ r, v = f r
  | .blk r => v = f r
  | _ => False

mutual
def VRel (ρ : Map) (H : Ice) : V → Value → Prop
  | .d x, v => DRel H x v
  | .ref l sz off len, v => RefAt (ρ l) sz off len v
  | .ptr l e j, v => PtrAt (ρ l) e j v
  | .agg cs, v => ∃ vs, v = .agg ⟨vs⟩ ∧ VRels ρ H cs vs ∧ cs.any isAggV = false
  | .iface t x, v => ∃ u, v = .iface t u ∧ VRel ρ H x u
  | .fn f cap, v => ∃ us, v = .func (.func f) #[] ⟨us⟩ ∧ VRels ρ H cap us
  | .tup vs, v => ∃ us, v = .tuple ⟨us⟩ ∧ VRels ρ H vs us
  | .map l, v => BlkAt (ρ l) (fun r => .map (some r)) v
  | .iter l, v => BlkAt (ρ l) (fun r => .pointer (some ⟨r, 0, Option.none⟩)) v
  | .junk, v => one v = true
def VRels (ρ : Map) (H : Ice) : List V → List Value → Prop
  | [], vs => vs = []
  | d :: ds, vs => ∃ v vs', vs = v :: vs' ∧ VRel ρ H d v ∧ VRels ρ H ds vs'
end

def KRel : D → Value → Prop
  | .int k n, v => v = .int k n
  | .str s, v => v = .string ⟨s.toArray⟩
  | _, _ => False

def ERel (ρ : Map) (H : Ice) (x : D × V) (e : MapEntry) : Prop := KRel x.1 e.key ∧ VRel ρ H x.2 e.val ∧ isAggV x.2 = false

inductive All2 {α β : Type} (R : α → β → Prop) : List α → List β → Prop
  | nil : All2 R [] []
  | cons {a b as bs} : R a b → All2 R as bs → All2 R (a :: as) (b :: bs)

def ObjRel (ρ : Map) (H : Ice) (w : World) : Obj → Place → Prop
  | .arr xs sz, .virt s => xs = [] ∧ s = sz
  | .arr xs sz, .at_ b base s size => s = sz ∧ ∃ arr elem fr us, w.heap[b]? = some (.cells arr elem (fr, fr)) ∧ arr.size = size ∧ VRels ρ H xs us ∧ xs.any isJunk = false ∧ (∀ u ∈ us, u.cells.size = sz.c) ∧ (∀ i v, (flat us)[i]? = some v → arr[base + i]? = some v)
  | .map es, .blk r => ∃ ents clock, w.heap[r]? = some (.map ⟨ents⟩ clock) ∧ All2 (ERel ρ H) es ents
  | .iter s pos, .blk r => w.heap[r]? = some (.stringIter ⟨s.toArray⟩ pos) ∧ s.length ≤ long
  | _, _ => False
 where
  isJunk : V → Bool
  | .tup _ => true
  | _ => false

structure HRel (ρ : Map) (H : Ice) (h : Loc → Option Obj) (w : World) : Prop where
  ice : ∀ b o v, H b o = some v → w.cell? ⟨b, o, Option.none⟩ = some v
  objs : ∀ l o, h l = some o → ObjRel ρ H w o (ρ l)
  gone : ∀ l, h l = Option.none → ρ l = .none ∨ ρ l = .dead
  inj : ∀ l l' b, (ρ l).block = some b → (ρ l').block = some b → l = l'
  sep : ∀ l b, (ρ l).block = some b → ∀ o, H b o = Option.none

/-- From one state to a later one: what is no object's block has not changed, in the world and in the ice. -/
structure Trans (ρ : Map) (H : Ice) (w : World) (ρ' : Map) (H' : Ice) (w' : World) : Prop where
  os : w'.os = w.os
  tape : w'.tape = w.tape
  output : w'.output = w.output
  size : w.heap.size ≤ w'.heap.size
  keep : ∀ b, b < w.heap.size → (∀ l, (ρ l).block ≠ some b) → w'.heap[b]? = w.heap[b]? ∧ ∀ o, H' b o = H b o
  new : ∀ l b, (ρ' l).block = some b → w.heap.size ≤ b ∨ ∃ l', (ρ l').block = some b

/-- Old places stay, or are gone. -/
def Stays (ρ ρ' : Map) : Prop := ∀ l, ρ l ≠ .none → ρ' l = ρ l ∨ ρ' l = .dead

def Ice.le (H H' : Ice) : Prop := ∀ b o v, H b o = some v → H' b o = some v

theorem CellsAt.mono {H H' : Ice} (h : H.le H') {b off vs} (k : CellsAt H b off vs) : CellsAt H' b off vs := fun i v e => h _ _ _ (k i v e)

mutual
theorem DRel.mono {H H' : Ice} (h : H.le H') : ∀ (d : D) {v : Value}, DRel H d v → DRel H' d v
  | .bool _, _, k => k
  | .int _ _, _, k => k
  | .str _, _, k => k
  | .agg cs, _, k => by
    obtain ⟨vs, e, k, n⟩ := k
    exact ⟨vs, e, DRels.mono h cs k, n⟩
  | .iface t x, _, k => by
    obtain ⟨u, e, k⟩ := k
    exact ⟨u, e, DRel.mono h x k⟩
  | .sl xs, _, k => by
    obtain ⟨a, c, e, hc, hl, k⟩ := k
    refine ⟨a, c, e, hc, hl, fun hx => ?_⟩
    obtain ⟨b, off, sz, us, ea, k, hs, hcell⟩ := k hx
    exact ⟨b, off, sz, us, ea, DRels.mono h xs k, hs, hcell.mono h⟩
  | .box x, _, k => by
    obtain ⟨b, off, u, e, k, hc⟩ := k
    exact ⟨b, off, u, e, DRel.mono h x k, hc.mono h⟩
  | .fn f cap, _, k => by
    obtain ⟨us, e, k⟩ := k
    exact ⟨us, e, DRels.mono h cap k⟩
  | .nilp, _, k => k
  | .nili, _, k => k
  | .nilf, _, k => k
  | .nilm, _, k => k
theorem DRels.mono {H H' : Ice} (h : H.le H') : ∀ (ds : List D) {vs : List Value}, DRels H ds vs → DRels H' ds vs
  | [], _, k => k
  | d :: ds, _, k => by
    obtain ⟨v, vs', e, k1, k2⟩ := k
    exact ⟨v, vs', e, DRel.mono h d k1, DRels.mono h ds k2⟩
end

theorem RefAt.stays {p p' : Place} {sz off len v} (h : p ≠ .none → p' = p ∨ p' = .dead) (k : RefAt p sz off len v) : RefAt p' sz off len v := by
  cases p with
  | none => exact k.elim
  | dead => rcases h (by simp) with e | e <;> subst e <;> exact k
  | virt s =>
    rcases h (by simp) with e | e <;> subst e
    · exact k
    · obtain ⟨_, _, rfl, rfl⟩ := k; exact ⟨_, _, rfl, by simp, Nat.le_refl _, (fun h => by cases h), Nat.zero_le _⟩
  | at_ b base s size =>
    rcases h (by simp) with e | e <;> subst e
    · exact k
    · obtain ⟨rfl, c, rfl, h1, h2, _, h3⟩ := k; exact ⟨_, _, rfl, h2, h1, fun _ => ⟨_, rfl⟩, h3⟩
  | blk r => exact k.elim

theorem PtrAt.stays {p p' : Place} {e j v} (h : p ≠ .none → p' = p ∨ p' = .dead) (k : PtrAt p e j v) : PtrAt p' e j v := by
  cases p with
  | none => exact k.elim
  | dead => rcases h (by simp) with e | e <;> subst e <;> exact k
  | virt s => exact k.elim
  | at_ b base s size =>
    rcases h (by simp) with e | e <;> subst e
    · exact k
    · exact ⟨_, k⟩
  | blk r => exact k.elim

theorem BlkAt.stays {p p' : Place} {f v} (h : p ≠ .none → p' = p ∨ p' = .dead) (k : BlkAt p f v) : BlkAt p' f v := by
  cases p with
  | none => exact k.elim
  | dead => rcases h (by simp) with e | e <;> subst e <;> exact k
  | virt s => exact k.elim
  | at_ b base s size => exact k.elim
  | blk r =>
    rcases h (by simp) with e | e <;> subst e
    · exact k
    · exact ⟨_, k⟩

mutual
theorem VRel.mono {ρ ρ' : Map} {H H' : Ice} (hs : Stays ρ ρ') (h : H.le H') : ∀ (x : V) {v : Value}, VRel ρ H x v → VRel ρ' H' x v
  | .d x, _, k => DRel.mono h x k
  | .ref l _ _ _, _, k => RefAt.stays (hs l) k
  | .ptr l _ _, _, k => PtrAt.stays (hs l) k
  | .agg cs, _, k => by
    obtain ⟨vs, e, k, n⟩ := k
    exact ⟨vs, e, VRels.mono hs h cs k, n⟩
  | .iface t x, _, k => by
    obtain ⟨u, e, k⟩ := k
    exact ⟨u, e, VRel.mono hs h x k⟩
  | .fn f cap, _, k => by
    obtain ⟨us, e, k⟩ := k
    exact ⟨us, e, VRels.mono hs h cap k⟩
  | .tup cs, _, k => by
    obtain ⟨vs, e, k⟩ := k
    exact ⟨vs, e, VRels.mono hs h cs k⟩
  | .map l, _, k => BlkAt.stays (hs l) k
  | .iter l, _, k => BlkAt.stays (hs l) k
  | .junk, _, k => k
theorem VRels.mono {ρ ρ' : Map} {H H' : Ice} (hs : Stays ρ ρ') (h : H.le H') : ∀ (xs : List V) {vs : List Value}, VRels ρ H xs vs → VRels ρ' H' xs vs
  | [], _, k => k
  | x :: xs, _, k => by
    obtain ⟨v, vs', e, k1, k2⟩ := k
    exact ⟨v, vs', e, VRel.mono hs h x k1, VRels.mono hs h xs k2⟩
end

/-! ### Lists -/
theorem DRels.length {H : Ice} : ∀ {ds : List D} {vs : List Value}, DRels H ds vs → ds.length = vs.length
  | [], _, k => by cases k; rfl
  | _ :: _, _, k => by obtain ⟨_, _, rfl, _, k⟩ := k; simp [k.length]
theorem VRels.length {ρ : Map} {H : Ice} : ∀ {ds : List V} {vs : List Value}, VRels ρ H ds vs → ds.length = vs.length
  | [], _, k => by cases k; rfl
  | _ :: _, _, k => by obtain ⟨_, _, rfl, _, k⟩ := k; simp [k.length]
theorem DRels.toV {ρ : Map} {H : Ice} : ∀ {ds : List D} {vs : List Value}, DRels H ds vs → VRels ρ H (ds.map .d) vs
  | [], _, k => k
  | _ :: _, _, k => by obtain ⟨v, vs', rfl, k1, k2⟩ := k; exact ⟨v, vs', rfl, k1, k2.toV⟩
theorem VRels.toD {ρ : Map} {H : Ice} : ∀ {ds : List D} {vs : List Value}, VRels ρ H (ds.map .d) vs → DRels H ds vs
  | [], _, k => k
  | _ :: _, _, k => by obtain ⟨v, vs', rfl, k1, k2⟩ := k; exact ⟨v, vs', rfl, k1, VRels.toD k2⟩
theorem VRels.get {ρ : Map} {H : Ice} : ∀ {xs : List V} {vs : List Value} {i : Nat} {x : V}, VRels ρ H xs vs → xs[i]? = some x → ∃ v, vs[i]? = some v ∧ VRel ρ H x v
  | _ :: _, _, 0, _, k, e => by
    obtain ⟨v, vs', rfl, k1, k2⟩ := k
    simp at e; subst e
    exact ⟨v, rfl, k1⟩
  | _ :: _, _, i + 1, _, k, e => by
    obtain ⟨v, vs', rfl, k1, k2⟩ := k
    simpa using k2.get (i := i) (by simpa using e)
theorem DRels.get {H : Ice} : ∀ {xs : List D} {vs : List Value} {i : Nat} {x : D}, DRels H xs vs → xs[i]? = some x → ∃ v, vs[i]? = some v ∧ DRel H x v
  | _ :: _, _, 0, _, k, e => by
    obtain ⟨v, vs', rfl, k1, k2⟩ := k
    simp at e; subst e
    exact ⟨v, rfl, k1⟩
  | _ :: _, _, i + 1, _, k, e => by
    obtain ⟨v, vs', rfl, k1, k2⟩ := k
    simpa using k2.get (i := i) (by simpa using e)
theorem VRels.drop {ρ : Map} {H : Ice} : ∀ (n : Nat) {xs : List V} {vs : List Value}, VRels ρ H xs vs → VRels ρ H (xs.drop n) (vs.drop n)
  | 0, _, _, k => k
  | n + 1, [], _, k => by cases k; exact rfl
  | n + 1, _ :: _, _, k => by obtain ⟨v, vs', rfl, k1, k2⟩ := k; exact k2.drop n
theorem VRels.take {ρ : Map} {H : Ice} : ∀ (n : Nat) {xs : List V} {vs : List Value}, VRels ρ H xs vs → VRels ρ H (xs.take n) (vs.take n)
  | 0, _, _, _ => rfl
  | n + 1, [], _, k => by cases k; exact rfl
  | n + 1, _ :: _, _, k => by obtain ⟨v, vs', rfl, k1, k2⟩ := k; exact ⟨v, vs'.take n, rfl, k1, k2.take n⟩
theorem DRels.drop {H : Ice} : ∀ (n : Nat) {xs : List D} {vs : List Value}, DRels H xs vs → DRels H (xs.drop n) (vs.drop n)
  | 0, _, _, k => k
  | n + 1, [], _, k => by cases k; exact rfl
  | n + 1, _ :: _, _, k => by obtain ⟨v, vs', rfl, k1, k2⟩ := k; exact k2.drop n
theorem DRels.take {H : Ice} : ∀ (n : Nat) {xs : List D} {vs : List Value}, DRels H xs vs → DRels H (xs.take n) (vs.take n)
  | 0, _, _, _ => rfl
  | n + 1, [], _, k => by cases k; exact rfl
  | n + 1, _ :: _, _, k => by obtain ⟨v, vs', rfl, k1, k2⟩ := k; exact ⟨v, vs'.take n, rfl, k1, k2.take n⟩
theorem VRels.append {ρ : Map} {H : Ice} : ∀ {xs ys : List V} {vs us : List Value}, VRels ρ H xs vs → VRels ρ H ys us → VRels ρ H (xs ++ ys) (vs ++ us)
  | [], _, _, _, k, k' => by cases k; exact k'
  | _ :: _, _, _, _, k, k' => by obtain ⟨v, vs', rfl, k1, k2⟩ := k; exact ⟨v, vs' ++ _, rfl, k1, k2.append k'⟩
theorem VRels.set {ρ : Map} {H : Ice} : ∀ {xs : List V} {vs : List Value} (i : Nat) {x : V} {v : Value}, VRels ρ H xs vs → VRel ρ H x v → VRels ρ H (xs.set i x) (vs.set i v)
  | [], _, _, _, _, k, _ => by cases k; exact rfl
  | _ :: _, _, 0, _, v, k, h => by obtain ⟨u, vs', rfl, k1, k2⟩ := k; exact ⟨v, vs', rfl, h, k2⟩
  | _ :: _, _, i + 1, _, v, k, h => by obtain ⟨u, vs', rfl, k1, k2⟩ := k; exact ⟨u, vs'.set i v, rfl, k1, k2.set i h⟩

/-! ### Transitions -/
theorem HRel.lt {ρ H h w} (k : HRel ρ H h w) {l : Loc} {b : Nat} (e : (ρ l).block = some b) : b < w.heap.size := by
  cases ho : h l with
  | none =>
    rcases k.gone l ho with e' | e' <;> rw [e'] at e <;> cases e
  | some o =>
    have hr := k.objs l o ho
    cases hp : ρ l with
    | none => rw [hp] at e; cases e
    | dead => rw [hp] at e; cases e
    | virt s => rw [hp] at e; cases e
    | at_ b' base s size =>
      rw [hp] at e hr
      simp only [Place.block, Option.some.injEq] at e
      subst e
      cases o with
      | arr xs sz =>
        obtain ⟨_, arr, elem, fr, us, hb, _⟩ := hr
        exact (Array.getElem?_eq_some_iff.1 hb).1
      | _ => exact hr.elim
    | blk r =>
      rw [hp] at e hr
      simp only [Place.block, Option.some.injEq] at e
      subst e
      cases o with
      | map es =>
        obtain ⟨_, _, hb, _⟩ := hr
        exact (Array.getElem?_eq_some_iff.1 hb).1
      | iter s pos => exact (Array.getElem?_eq_some_iff.1 hr.1).1
      | _ => exact hr.elim

theorem HRel.iceLt {ρ H h w} (k : HRel ρ H h w) {b o : Nat} {v : Value} (e : H b o = some v) : b < w.heap.size := by
  have := k.ice b o v e
  exact World.block_lt_of_cell? w _ this

/-- The ice only grows. -/
theorem Trans.le {ρ H h w ρ' H' w'} (k : HRel ρ H h w) (t : Trans ρ H w ρ' H' w') : H.le H' := fun b o v e => by
  have hlt := k.iceLt e
  rw [(t.keep b hlt (fun l hl => by rw [k.sep l b hl o] at e; cases e)).2 o]
  exact e

theorem Trans.refl (ρ H w) : Trans ρ H w ρ H w := ⟨rfl, rfl, rfl, Nat.le_refl _, fun _ _ _ => ⟨rfl, fun _ => rfl⟩, fun l _ h => .inr ⟨l, h⟩⟩

theorem Trans.trans {ρ H w ρ1 H1 w1 ρ2 H2 w2} (t : Trans ρ H w ρ1 H1 w1) (u : Trans ρ1 H1 w1 ρ2 H2 w2) : Trans ρ H w ρ2 H2 w2 where
  os := u.os.trans t.os
  tape := u.tape.trans t.tape
  output := u.output.trans t.output
  size := Nat.le_trans t.size u.size
  keep := fun b hb hn => by
    have h1 := t.keep b hb hn
    have h2 := u.keep b (Nat.lt_of_lt_of_le hb t.size) (fun l hl => by
      rcases t.new l b hl with h | ⟨l', h⟩
      · omega
      · exact hn l' h)
    exact ⟨h2.1.trans h1.1, fun o => (h2.2 o).trans (h1.2 o)⟩
  new := fun l b h => by
    rcases u.new l b h with h | ⟨l', h⟩
    · exact .inl (Nat.le_trans t.size h)
    · exact t.new l' b h

theorem Stays.refl (ρ) : Stays ρ ρ := fun _ _ => .inl rfl
theorem Stays.trans {ρ ρ1 ρ2} (h : Stays ρ ρ1) (k : Stays ρ1 ρ2) : Stays ρ ρ2 := fun l hl => by
  rcases h l hl with e | e
  · rcases k l (by rw [e]; exact hl) with e' | e'
    · exact .inl (e'.trans e)
    · exact .inr e'
  · rcases k l (by rw [e]; simp) with e' | e'
    · exact .inr (e'.trans e)
    · exact .inr e'
end Go.Rf

/- Steps of the heap: a new block, a new row of nothing, a store, an object that goes. -/
namespace Go.Rf

def updM (ρ : Map) (l : Loc) (p : Place) : Map := fun l' => if l' = l then p else ρ l'
def updH (h : Loc → Option Obj) (l : Loc) (o : Option Obj) : Loc → Option Obj := fun l' => if l' = l then o else h l'
theorem applyW_cons (h l o ws) : applyW h ((l, o) :: ws) = applyW (updH h l o) ws := rfl
theorem applyW_nil (h) : applyW h [] = h := rfl
@[simp] theorem updM_self (ρ l p) : updM ρ l p l = p := by simp [updM]
@[simp] theorem updM_ne {ρ l p l'} (h : l' ≠ l) : updM ρ l p l' = ρ l' := by simp [updM, h]
@[simp] theorem updH_self (ρ l p) : updH ρ l p l = p := by simp [updH]
@[simp] theorem updH_ne {ρ l p l'} (h : l' ≠ l) : updH ρ l p l' = ρ l' := by simp [updH, h]

theorem All2.mono {α β : Type} {R S : α → β → Prop} (h : ∀ a b, R a b → S a b) : ∀ {as bs}, All2 R as bs → All2 S as bs
  | _, _, .nil => .nil
  | _, _, .cons x k => .cons (h _ _ x) (k.mono h)

theorem ObjRel.mono {ρ ρ' : Map} {H H' : Ice} {w w' : World} {o : Obj} {p : Place} (k : ObjRel ρ H w o p) (hs : Stays ρ ρ') (hl : H.le H')
    (hb : ∀ b, p.block = some b → w'.heap[b]? = w.heap[b]?) : ObjRel ρ' H' w' o p := by
  cases o with
  | arr xs sz =>
    cases p with
    | virt s => exact k
    | at_ b base s size =>
      obtain ⟨e, arr, elem, fr, us, h1, h2, h3, h4, h5, h6⟩ := k
      exact ⟨e, arr, elem, fr, us, (hb b rfl).trans h1, h2, h3.mono hs hl, h4, h5, h6⟩
    | _ => exact k.elim
  | map es =>
    cases p with
    | blk r =>
      obtain ⟨ents, clock, h1, h2⟩ := k
      exact ⟨ents, clock, (hb r rfl).trans h1, h2.mono fun a b ⟨x, y, z⟩ => ⟨x, y.mono hs hl, z⟩⟩
    | _ => exact k.elim
  | iter s pos =>
    cases p with
    | blk r => exact ⟨(hb r rfl).trans k.1, k.2⟩
    | _ => exact k.elim
  | dead => cases p <;> exact k.elim

theorem Stays.upd {ρ : Map} {l : Loc} (p : Place) (h : ρ l = .none ∨ p = .dead) : Stays ρ (updM ρ l p) := fun l' hl' => by
  by_cases e : l' = l
  · subst e
    rcases h with h | h
    · exact absurd h hl'
    · right; simp [h]
  · left; simp [e]

/-- What turns is only the counter of draws. -/
theorem HRel.drawn {ρ H h w} (k : HRel ρ H h w) (n : Nat) : HRel ρ H h { w with drawn := n } where
  ice := fun b o v e => k.ice b o v e
  objs := fun l o e => (k.objs l o e).mono (Stays.refl _) (fun _ _ _ e => e) (fun _ _ => rfl)
  gone := k.gone
  inj := k.inj
  sep := k.sep
theorem Trans.drawn (ρ H w) (n : Nat) : Trans ρ H w ρ H { w with drawn := n } := ⟨rfl, rfl, rfl, Nat.le_refl _, fun _ _ _ => ⟨rfl, fun _ => rfl⟩, fun l _ h => .inr ⟨l, h⟩⟩

/-- A new object in a new block. -/
theorem HRel.push {ρ H h w} (k : HRel ρ H h w) {l : Loc} (hl : ρ l = .none) (o : Obj) (b : Go.Obj) (p : Place) (hp : p.block = some w.heap.size)
    (ho : ObjRel (updM ρ l p) H { w with heap := w.heap.push b } o p) :
    HRel (updM ρ l p) H (updH h l (some o)) { w with heap := w.heap.push b } ∧ Trans ρ H w (updM ρ l p) H { w with heap := w.heap.push b } ∧ Stays ρ (updM ρ l p) := by
  have hst : Stays ρ (updM ρ l p) := Stays.upd p (.inl hl)
  have old : ∀ i, i < w.heap.size → (w.heap.push b)[i]? = w.heap[i]? := fun i hi => by rw [Array.getElem?_push, if_neg (by omega)]
  refine ⟨⟨?_, ?_, ?_, ?_, ?_⟩, ⟨rfl, rfl, rfl, by simp, ?_, ?_⟩, hst⟩
  · intro b' o' v e
    have hlt := k.iceLt e
    have := k.ice b' o' v e
    exact (World.cell?_of_block (w := w) (a := ⟨b', o', Option.none⟩) (w' := { w with heap := w.heap.push b }) (old b' hlt)).trans this
  · intro l' o' e
    by_cases hh : l' = l
    · subst hh
      rw [updH_self] at e
      injection e with e
      subst e
      rw [updM_self]
      exact ho
    · rw [updH_ne hh] at e
      rw [updM_ne hh]
      exact (k.objs l' o' e).mono hst (fun _ _ _ e => e) (fun b' hb' => old b' (k.lt hb'))
  · intro l' e
    by_cases hh : l' = l
    · subst hh; rw [updH_self] at e; cases e
    · rw [updH_ne hh] at e; rw [updM_ne hh]; exact k.gone l' e
  · intro l1 l2 b' e1 e2
    by_cases h1 : l1 = l <;> by_cases h2 : l2 = l
    · rw [h1, h2]
    · rw [h1, updM_self, hp] at e1
      rw [updM_ne h2] at e2
      injection e1 with e1
      have := k.lt e2
      omega
    · rw [h2, updM_self, hp] at e2
      rw [updM_ne h1] at e1
      injection e2 with e2
      have := k.lt e1
      omega
    · rw [updM_ne h1] at e1; rw [updM_ne h2] at e2; exact k.inj l1 l2 b' e1 e2
  · intro l1 b' e1 o'
    by_cases h1 : l1 = l
    · rw [h1, updM_self, hp] at e1
      injection e1 with e1
      cases he : H b' o' with
      | none => rfl
      | some v => have := k.iceLt he; omega
    · rw [updM_ne h1] at e1; exact k.sep l1 b' e1 o'
  · intro b' hb' _
    exact ⟨old b' hb', fun _ => rfl⟩
  · intro l1 b' e1
    by_cases h1 : l1 = l
    · rw [h1, updM_self, hp] at e1
      injection e1 with e1
      exact .inl (by omega)
    · rw [updM_ne h1] at e1; exact .inr ⟨l1, e1⟩

/-- A row of nothing, without a block. -/
theorem HRel.virt {ρ H h w} (k : HRel ρ H h w) {l : Loc} (hl : ρ l = .none) (sz : W) :
    HRel (updM ρ l (.virt sz)) H (updH h l (some (.arr [] sz))) w ∧ Trans ρ H w (updM ρ l (.virt sz)) H w ∧ Stays ρ (updM ρ l (.virt sz)) := by
  have hst : Stays ρ (updM ρ l (.virt sz)) := Stays.upd _ (.inl hl)
  refine ⟨⟨k.ice, ?_, ?_, ?_, ?_⟩, ⟨rfl, rfl, rfl, Nat.le_refl _, fun _ _ _ => ⟨rfl, fun _ => rfl⟩, ?_⟩, hst⟩
  · intro l' o' e
    by_cases hh : l' = l
    · subst hh
      rw [updH_self] at e
      injection e with e
      subst e
      rw [updM_self]
      exact ⟨rfl, rfl⟩
    · rw [updH_ne hh] at e
      rw [updM_ne hh]
      exact (k.objs l' o' e).mono hst (fun _ _ _ e => e) (fun _ _ => rfl)
  · intro l' e
    by_cases hh : l' = l
    · subst hh; rw [updH_self] at e; cases e
    · rw [updH_ne hh] at e; rw [updM_ne hh]; exact k.gone l' e
  · intro l1 l2 b' e1 e2
    have h1 : l1 ≠ l := fun h => by rw [h, updM_self] at e1; cases e1
    have h2 : l2 ≠ l := fun h => by rw [h, updM_self] at e2; cases e2
    rw [updM_ne h1] at e1; rw [updM_ne h2] at e2; exact k.inj l1 l2 b' e1 e2
  · intro l1 b' e1 o'
    have h1 : l1 ≠ l := fun h => by rw [h, updM_self] at e1; cases e1
    rw [updM_ne h1] at e1; exact k.sep l1 b' e1 o'
  · intro l1 b' e1
    have h1 : l1 ≠ l := fun h => by rw [h, updM_self] at e1; cases e1
    rw [updM_ne h1] at e1; exact .inr ⟨l1, e1⟩

/-- An object goes. -/
theorem HRel.kill {ρ H h w} (k : HRel ρ H h w) (l : Loc) :
    HRel (updM ρ l .dead) H (updH h l none) w ∧ Trans ρ H w (updM ρ l .dead) H w ∧ Stays ρ (updM ρ l .dead) := by
  have hst : Stays ρ (updM ρ l .dead) := Stays.upd _ (.inr rfl)
  refine ⟨⟨k.ice, ?_, ?_, ?_, ?_⟩, ⟨rfl, rfl, rfl, Nat.le_refl _, fun _ _ _ => ⟨rfl, fun _ => rfl⟩, ?_⟩, hst⟩
  · intro l' o' e
    by_cases hh : l' = l
    · subst hh; rw [updH_self] at e; cases e
    · rw [updH_ne hh] at e
      rw [updM_ne hh]
      exact (k.objs l' o' e).mono hst (fun _ _ _ e => e) (fun _ _ => rfl)
  · intro l' e
    by_cases hh : l' = l
    · subst hh; right; simp
    · rw [updH_ne hh] at e; rw [updM_ne hh]; exact k.gone l' e
  · intro l1 l2 b' e1 e2
    have h1 : l1 ≠ l := fun h => by rw [h, updM_self] at e1; cases e1
    have h2 : l2 ≠ l := fun h => by rw [h, updM_self] at e2; cases e2
    rw [updM_ne h1] at e1; rw [updM_ne h2] at e2; exact k.inj l1 l2 b' e1 e2
  · intro l1 b' e1 o'
    have h1 : l1 ≠ l := fun h => by rw [h, updM_self] at e1; cases e1
    rw [updM_ne h1] at e1; exact k.sep l1 b' e1 o'
  · intro l1 b' e1
    have h1 : l1 ≠ l := fun h => by rw [h, updM_self] at e1; cases e1
    rw [updM_ne h1] at e1; exact .inr ⟨l1, e1⟩

/-- An object's block is written, the object turned. -/
theorem HRel.write {ρ H h w w'} (k : HRel ρ H h w) {l : Loc} {b : Nat} (hb : (ρ l).block = some b) (o : Obj)
    (hw : w'.os = w.os ∧ w'.tape = w.tape ∧ w'.output = w.output ∧ w'.heap.size = w.heap.size) (hk : ∀ i, i ≠ b → w'.heap[i]? = w.heap[i]?)
    (ho : ObjRel ρ H w' o (ρ l)) : HRel ρ H (updH h l (some o)) w' ∧ Trans ρ H w ρ H w' := by
  refine ⟨⟨?_, ?_, ?_, k.inj, k.sep⟩, ⟨hw.1, hw.2.1, hw.2.2.1, by omega, ?_, fun l b h => .inr ⟨l, h⟩⟩⟩
  · intro b' o' v e
    have hne : b' ≠ b := fun h => by rw [h, k.sep l b hb o'] at e; cases e
    exact (World.cell?_of_block (w := w) (a := ⟨b', o', Option.none⟩) (w' := w') (hk b' hne)).trans (k.ice b' o' v e)
  · intro l' o' e
    by_cases hh : l' = l
    · subst hh
      rw [updH_self] at e
      injection e with e
      subst e
      exact ho
    · rw [updH_ne hh] at e
      exact (k.objs l' o' e).mono (Stays.refl _) (fun _ _ _ e => e) (fun b' hb' => hk b' (fun h => hh (k.inj l' l b (h ▸ hb') hb)))
  · intro l' e
    by_cases hh : l' = l
    · subst hh; rw [updH_self] at e; cases e
    · rw [updH_ne hh] at e; exact k.gone l' e
  · intro b' hb' hn
    exact ⟨hk b' (fun h => hn l (h ▸ hb)), fun _ => rfl⟩

/-- One object goes, and a new one takes its block. -/
theorem HRel.move {ρ H h w w'} (k : HRel ρ H h w) {l l' : Loc} {b : Nat} (hb : (ρ l).block = some b) (hl' : ρ l' = .none) (o : Obj) (p : Place) (hp : p.block = some b)
    (hw : w'.os = w.os ∧ w'.tape = w.tape ∧ w'.output = w.output ∧ w'.heap.size = w.heap.size) (hk : ∀ i, i ≠ b → w'.heap[i]? = w.heap[i]?)
    (ho : ObjRel (updM (updM ρ l .dead) l' p) H w' o p) :
    HRel (updM (updM ρ l .dead) l' p) H (updH (updH h l none) l' (some o)) w' ∧ Trans ρ H w (updM (updM ρ l .dead) l' p) H w' ∧ Stays ρ (updM (updM ρ l .dead) l' p) := by
  have hll : l ≠ l' := fun e => by rw [← e] at hl'; rw [hl'] at hb; cases hb
  have hst : Stays ρ (updM (updM ρ l .dead) l' p) := (Stays.upd .dead (.inr rfl)).trans (Stays.upd p (.inl (by rw [updM_ne (Ne.symm hll)]; exact hl')))
  have blk : ∀ l1 b', (updM (updM ρ l .dead) l' p l1).block = some b' → (l1 = l' ∧ b' = b) ∨ (l1 ≠ l' ∧ l1 ≠ l ∧ (ρ l1).block = some b') := by
    intro l1 b' e
    by_cases h1 : l1 = l'
    · rw [h1, updM_self, hp] at e; injection e with e; exact .inl ⟨h1, e.symm⟩
    · rw [updM_ne h1] at e
      by_cases h2 : l1 = l
      · rw [h2, updM_self] at e; cases e
      · rw [updM_ne h2] at e; exact .inr ⟨h1, h2, e⟩
  refine ⟨⟨?_, ?_, ?_, ?_, ?_⟩, ⟨hw.1, hw.2.1, hw.2.2.1, by omega, ?_, ?_⟩, hst⟩
  · intro b' o' v e
    have hne : b' ≠ b := fun h => by rw [h, k.sep l b hb o'] at e; cases e
    exact (World.cell?_of_block (w := w) (a := ⟨b', o', Option.none⟩) (w' := w') (hk b' hne)).trans (k.ice b' o' v e)
  · intro l1 o' e
    by_cases h1 : l1 = l'
    · subst h1
      rw [updH_self] at e
      injection e with e
      subst e
      rw [updM_self]
      exact ho
    · rw [updH_ne h1] at e
      by_cases h2 : l1 = l
      · subst h2; rw [updH_self] at e; cases e
      · rw [updH_ne h2] at e
        rw [updM_ne h1, updM_ne h2]
        exact (k.objs l1 o' e).mono hst (fun _ _ _ e => e) (fun b' hb' => hk b' (fun h => h2 (k.inj l1 l b (h ▸ hb') hb)))
  · intro l1 e
    by_cases h1 : l1 = l'
    · subst h1; rw [updH_self] at e; cases e
    · rw [updH_ne h1] at e
      rw [updM_ne h1]
      by_cases h2 : l1 = l
      · subst h2; right; simp
      · rw [updH_ne h2] at e; rw [updM_ne h2]; exact k.gone l1 e
  · intro l1 l2 b' e1 e2
    rcases blk l1 b' e1 with ⟨h1, g1⟩ | ⟨h1, h1', g1⟩ <;> rcases blk l2 b' e2 with ⟨h2, g2⟩ | ⟨h2, h2', g2⟩
    · rw [h1, h2]
    · rw [g1] at g2; exact absurd (k.inj l2 l b g2 hb) h2'
    · rw [g2] at g1; exact absurd (k.inj l1 l b g1 hb) h1'
    · exact k.inj l1 l2 b' g1 g2
  · intro l1 b' e1 o'
    rcases blk l1 b' e1 with ⟨h1, g1⟩ | ⟨h1, h1', g1⟩
    · rw [g1]; exact k.sep l b hb o'
    · exact k.sep l1 b' g1 o'
  · intro b' hb' hn
    exact ⟨hk b' (fun h => hn l (h ▸ hb)), fun _ => rfl⟩
  · intro l1 b' e1
    rcases blk l1 b' e1 with ⟨h1, g1⟩ | ⟨h1, h1', g1⟩
    · exact .inr ⟨l, g1 ▸ hb⟩
    · exact .inr ⟨l1, g1⟩
end Go.Rf

/- Cells and parts of related values. -/
namespace Go.Rf

theorem add_at (b off j : Nat) : (⟨b, off, Option.none⟩ : Addr).add j = ⟨b, off + j, Option.none⟩ := by
  unfold Addr.add
  split
  · rename_i h; subst h; rfl
  · rfl

theorem one_cells {u : Value} (h : one u = true) : u.cells = #[u] := by cases u <;> first | rfl | cases h
theorem one_oneCell {u : Value} (h : one u = true) : u.oneCell' = true := by cases u <;> first | rfl | cases h

theorem DRel.one {H : Ice} {x : D} {u : Value} (k : DRel H x u) (h : isAggD x = false) : one u = true := by
  cases x with
  | agg cs => cases h
  | str s => obtain ⟨rfl, _⟩ := k; rfl
  | iface t x => obtain ⟨_, rfl, _⟩ := k; rfl
  | sl xs => obtain ⟨_, _, rfl, _⟩ := k; rfl
  | box x => obtain ⟨_, _, _, rfl, _⟩ := k; rfl
  | fn f cap => obtain ⟨_, rfl, _⟩ := k; rfl
  | bool b => cases k; rfl
  | int k' n => cases k; rfl
  | nilp => cases k; rfl
  | nili => cases k; rfl
  | nilf => cases k; rfl
  | nilm => cases k; rfl

theorem RefAt.one {p sz off len u} (k : RefAt p sz off len u) : one u = true := by
  cases p with
  | none => exact k.elim
  | dead => obtain ⟨_, _, rfl, _⟩ := k; rfl
  | virt s => obtain ⟨_, _, _, rfl⟩ := k; rfl
  | at_ b base s size => obtain ⟨_, _, rfl, _⟩ := k; rfl
  | blk r => exact k.elim
theorem PtrAt.one {p e j u} (k : PtrAt p e j u) : one u = true := by
  cases p with
  | none => exact k.elim
  | dead => obtain ⟨_, rfl⟩ := k; rfl
  | virt s => exact k.elim
  | at_ b base s size => cases k; rfl
  | blk r => exact k.elim

theorem VRel.one {ρ : Map} {H : Ice} {x : V} {u : Value} (k : VRel ρ H x u) (h : isAggV x = false) : one u = true := by
  cases x with
  | d x => exact DRel.one k h
  | ref l sz off len => exact RefAt.one k
  | ptr l e j => exact PtrAt.one k
  | agg cs => cases h
  | iface t x => obtain ⟨_, rfl, _⟩ := k; rfl
  | fn f cap => obtain ⟨_, rfl, _⟩ := k; rfl
  | tup vs => cases h
  | map l =>
    have k : BlkAt (ρ l) (fun r => .map (some r)) u := k
    cases hp : ρ l with
    | dead => rw [hp] at k; obtain ⟨_, rfl⟩ := k; rfl
    | blk r => rw [hp] at k; cases k; rfl
    | _ => rw [hp] at k; exact k.elim
  | iter l =>
    have k : BlkAt (ρ l) (fun r => .pointer (some ⟨r, 0, Option.none⟩)) u := k
    cases hp : ρ l with
    | dead => rw [hp] at k; obtain ⟨_, rfl⟩ := k; rfl
    | blk r => rw [hp] at k; cases k; rfl
    | _ => rw [hp] at k; exact k.elim
  | junk => exact k

/-- A value that is no row of results, and known. -/
def solid : V → Bool
  | .tup _ => false
  | _ => true

theorem isJunk_solid {x : V} (h : ObjRel.isJunk x = false) : solid x = true := by cases x <;> first | rfl | cases h
theorem solid_isJunk {x : V} (h : solid x = true) : ObjRel.isJunk x = false := by cases x <;> first | rfl | cases h

/-- The cells of related values are related. -/
theorem VRel.cells {ρ : Map} {H : Ice} {x : V} {u : Value} (k : VRel ρ H x u) (h : solid x = true) : VRels ρ H x.cells u.cells.toList ∧ x.cells.any isAggV = false := by
  cases x with
  | d x =>
    cases hx : isAggD x with
    | false =>
      have hc : V.cells (.d x) = [.d x] := by cases x <;> first | rfl | cases hx
      rw [hc, one_cells (DRel.one k hx)]
      exact ⟨⟨u, [], rfl, k, rfl⟩, by simp [isAggV, hx]⟩
    | true =>
      cases x with
      | agg cs =>
        obtain ⟨vs, rfl, k, hn⟩ := k
        refine ⟨k.toV, ?_⟩
        show (cs.map V.d).any isAggV = false
        rw [List.any_map]
        exact hn
      | _ => cases hx
  | agg cs =>
    obtain ⟨vs, rfl, k, hn⟩ := k
    exact ⟨k, hn⟩
  | tup vs => cases h
  | junk => rw [show V.cells .junk = [.junk] from rfl, one_cells (show Rf.one u = true from k)]; exact ⟨⟨u, [], rfl, k, rfl⟩, rfl⟩
  | ref l sz off len => rw [one_cells (VRel.one k rfl)]; exact ⟨⟨u, [], rfl, k, rfl⟩, rfl⟩
  | ptr l e j => rw [one_cells (VRel.one k rfl)]; exact ⟨⟨u, [], rfl, k, rfl⟩, rfl⟩
  | iface t x => rw [one_cells (VRel.one k rfl)]; exact ⟨⟨u, [], rfl, k, rfl⟩, rfl⟩
  | fn f cap => rw [one_cells (VRel.one k rfl)]; exact ⟨⟨u, [], rfl, k, rfl⟩, rfl⟩
  | map l => rw [one_cells (VRel.one k rfl)]; exact ⟨⟨u, [], rfl, k, rfl⟩, rfl⟩
  | iter l => rw [one_cells (VRel.one k rfl)]; exact ⟨⟨u, [], rfl, k, rfl⟩, rfl⟩

theorem allD_eq : ∀ {l : List V} {ds : List D}, allD l = some ds → l = ds.map .d
  | [], _, h => by cases h; rfl
  | .d x :: l, ds, h => by
    simp only [allD, Option.map_eq_some_iff] at h
    obtain ⟨ds', h1, rfl⟩ := h
    simp [allD_eq h1]
  | .ref .. :: _, _, h | .ptr .. :: _, _, h | .agg .. :: _, _, h | .iface .. :: _, _, h | .fn .. :: _, _, h | .tup .. :: _, _, h | .map .. :: _, _, h | .iter .. :: _, _, h | .junk :: _, _, h => by cases h

theorem mkAgg_rel {ρ : Map} {H : Ice} {l : List V} {vs : List Value} (k : VRels ρ H l vs) (hn : l.any isAggV = false) : VRel ρ H (mkAgg l) (.agg ⟨vs⟩) := by
  unfold mkAgg
  cases hd : allD l with
  | none => exact ⟨vs, rfl, k, hn⟩
  | some ds =>
    have := allD_eq hd
    subst this
    refine ⟨vs, rfl, k.toD, ?_⟩
    rw [List.any_map] at hn
    exact hn

theorem mkAgg_solid (l : List V) : solid (mkAgg l) = true := by
  unfold mkAgg
  cases allD l <;> rfl

theorem any_get {α : Type} {p : α → Bool} {l : List α} (h : l.any p = false) {i : Nat} {x : α} (e : l[i]? = some x) : p x = false := by
  rw [List.any_eq_false] at h
  have := h x (List.mem_of_getElem? e)
  simpa using this

theorem any_drop {α : Type} {p : α → Bool} {l : List α} (h : l.any p = false) (n : Nat) : (l.drop n).any p = false := by
  rw [List.any_eq_false] at *
  exact fun x hx => h x (List.mem_of_mem_drop hx)
theorem any_take {α : Type} {p : α → Bool} {l : List α} (h : l.any p = false) (n : Nat) : (l.take n).any p = false := by
  rw [List.any_eq_false] at *
  exact fun x hx => h x (List.mem_of_mem_take hx)

/-- A part of a value: what the cells from 'off' on are, as a struct or as one value. -/
theorem part_rel {ρ : Map} {H : Ice} {x y : V} {u : Value} {off n : Nat} {ag : Bool} (k : VRel ρ H x u) (h : solid x = true) (e : part x off n ag = some y) :
    (ag = true → off + n ≤ u.cells.size ∧ VRel ρ H y (.agg ⟨(u.cells.toList.drop off).take n⟩)) ∧
    (ag = false → ∃ v, u.cells.toList[off]? = some v ∧ VRel ρ H y v ∧ isAggV y = false) ∧ solid y = true := by
  obtain ⟨kc, hn⟩ := k.cells h
  unfold part at e
  cases ag with
  | true =>
    simp only [if_true] at e
    split at e
    · rename_i hl
      injection e with e
      subst e
      refine ⟨fun _ => ⟨?_, mkAgg_rel ((kc.drop off).take n) (any_take (any_drop hn off) n)⟩, (fun h => by cases h), mkAgg_solid _⟩
      have := kc.length
      simp at this
      omega
    · cases e
  | false =>
    simp only [Bool.false_eq_true, if_false] at e
    obtain ⟨v, h1, h2⟩ := kc.get e
    have h3 := any_get hn e
    refine ⟨(fun h => by cases h), fun _ => ⟨v, h1, h2, h3⟩, ?_⟩
    cases y <;> first | rfl | cases h3

/-! ### Rows of elements -/
theorem flat_cons (u : Value) (us : List Value) : flat (u :: us) = u.cells.toList ++ flat us := rfl
theorem flat_nil : flat [] = [] := rfl
theorem flat_append (us vs : List Value) : flat (us ++ vs) = flat us ++ flat vs := by simp [flat, List.flatMap_append]

theorem flat_length {sz : Nat} : ∀ {us : List Value}, (∀ u ∈ us, u.cells.size = sz) → (flat us).length = us.length * sz
  | [], _ => by simp [flat]
  | u :: us, h => by
    rw [flat_cons, List.length_append, flat_length (fun x hx => h x (List.mem_cons_of_mem _ hx))]
    have : u.cells.toList.length = sz := by simpa using h u (List.mem_cons_self ..)
    rw [this, List.length_cons, Nat.add_mul]
    omega

theorem flat_get {sz : Nat} : ∀ {us : List Value} {e : Nat} {u : Value} {j : Nat}, (∀ u ∈ us, u.cells.size = sz) → us[e]? = some u → j < sz → (flat us)[e * sz + j]? = u.cells.toList[j]?
  | [], e, u, j, _, he, _ => by simp at he
  | v :: us, 0, u, j, h, he, hj => by
    simp at he
    subst he
    have hl : v.cells.toList.length = sz := by simpa using h v (List.mem_cons_self ..)
    rw [flat_cons, Nat.zero_mul, Nat.zero_add, List.getElem?_append_left (by omega)]
  | v :: us, e + 1, u, j, h, he, hj => by
    have hl : v.cells.toList.length = sz := by simpa using h v (List.mem_cons_self ..)
    rw [flat_cons, List.getElem?_append_right (by rw [hl, Nat.add_mul]; omega)]
    have : (e + 1) * sz + j - v.cells.toList.length = e * sz + j := by rw [hl, Nat.add_mul]; omega
    rw [this]
    exact flat_get (fun x hx => h x (List.mem_cons_of_mem _ hx)) (by simpa using he) hj

/-- Element number e, its cell number j, of an object that is a row. -/
theorem obj_cell {ρ H w xs sz b base s size} (k : ObjRel ρ H w (.arr xs sz) (.at_ b base s size)) {e : Nat} {x : V} (he : xs[e]? = some x) :
    ∃ u, VRel ρ H x u ∧ solid x = true ∧ u.cells.size = s.c ∧ ∀ j v, u.cells.toList[j]? = some v → w.cell? ⟨b, base + e * s.c + j, Option.none⟩ = some v := by
  obtain ⟨rfl, arr, elem, fr, us, hb, _, hv, hj, hs, hc⟩ := k
  obtain ⟨u, hu, hr⟩ := hv.get he
  refine ⟨u, hr, isJunk_solid (any_get hj he), hs u (List.mem_of_getElem? hu), fun j v hv' => ?_⟩
  have hjs : j < s.c := by
    have h1 := hs u (List.mem_of_getElem? hu)
    have := (List.getElem?_eq_some_iff.1 hv').1
    simp at this
    omega
  have := hc (e * s.c + j) v ((flat_get hs hu hjs).trans hv')
  simp only [World.cell?, hb]
  rw [show base + e * s.c + j = base + (e * s.c + j) from by omega]
  simpa using this
end Go.Rf
