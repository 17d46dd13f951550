/- Parts of the proof: RfOpD, RfOpE, RfOpF, RfStep, RfCode. -/
import Derived.Test.YtbjfkjbdpnkknaaDoorRg5

/- Lists grown. -/
namespace Go.Rf

section
variable {P : Program} {T : Tab} {cf : CF} {o : Oper} {a : Act} {w : World} {ρ : Map} {H : Ice} {h : Loc → Option Obj} {i N : Nat} {env : List (Nat × V)} {r : R}

theorem flat_all1 {ys : List V} {us : List Value} (k : VRels ρ H ys us) (hj : ys.any ObjRel.isJunk = false) : ∀ u ∈ flat us, u.oneCell' = true := by
  induction ys generalizing us with
  | nil => cases k; intro u hu; cases hu
  | cons y ys ih =>
    obtain ⟨v, vs', rfl, k1, k2⟩ := k
    simp only [List.any_cons, Bool.or_eq_false_iff] at hj
    intro u hu
    rw [flat_cons] at hu
    rcases List.mem_append.1 hu with hu | hu
    · have := k1.cells (isJunk_solid hj.1)
      exact cells_one this.1 this.2 u hu
    · exact ih k2 hj.2 u hu

/-- The list that is appended, as the kit's laws want it. -/
theorem src_of {n : W} {tx : TypeId} {ys : List V} {us : List Value} {m : List Loc} {v : Value} (hk : (∃ e', P.underlying tx = some (.slice e')) ∨ P.underlying tx = some .string) (k : Row ρ H w m ys us v)
    (hs : ∀ u ∈ us, u.cells.size = n.c) (hys : ys ≠ [] → True) : Src P n.c tx v ys.length (flat us) w ∧ Builtin.lenOf v = Sem.pure ys.length := by
  obtain ⟨ad, c, rfl, hl⟩ := k.lies
  have hlen := k.rel.length
  have hfl : (flat us).length = ys.length * n.c := by rw [flat_length hs, hlen]
  refine ⟨?_, rfl⟩
  by_cases hy : ys = []
  · subst hy
    have hus : us = [] := List.eq_nil_of_length_eq_zero (by simpa using hlen.symm)
    subst hus
    have hf : ∀ w' : World, (Builtin.firstCells n.c 0 (.slice ad 0 c)).run P w' = .ok #[] w' := by
      intro w'
      cases ad with
      | none => simp [Builtin.firstCells]
      | some q => simp [Builtin.firstCells, loadCells, loadCellsFrom]
    exact ⟨hk, fun _ => rfl, hf w, hf w.drew, by simp [flat], fun _ h => by cases h⟩
  · obtain ⟨b, off, sz, rfl, _, hc, _⟩ := hl hy
    exact ⟨hk, fun _ => rfl, run_firstCells_some w n.c _ _ _ _ _ hfl (fun j u hj => by rw [add_at]; exact hc j u hj),
      run_firstCells_some w.drew n.c _ _ _ _ _ hfl (fun j u hj => by rw [add_at]; exact hc j u hj), hfl, flat_all1 k.rel k.junk⟩

def ok_app (n : W) (x : Option Opnd) (y : Opnd) (P : Program) : Op → Bool
  | .call c => (match c.callee with | .builtin .append => true | _ => false) && (match c.args.toList, c.argTypes.toList with
    | [x', y'], [t, tx] => (match x with | some x => okO x' x | none => (match x' with | .const (.slice none 0 0) => true | _ => false)) && okO y' y && sliceIs P t n && decide (n.c ≠ 0) && decide (n.w ≠ 0) &&
      (match P.underlying tx with | some (.slice _) | some .string => true | _ => false) &&
      (match P.underlying t with | some (.slice e) => (match P.info? e with | some inf => (match inf.zero with | some z => decide (z.cells.size = n.c) | none => false) | none => false) | _ => false)
    | _, _ => false)
  | _ => false

/-- What is appended, told once for lists and texts. -/
structure Addend (P : Program) (ρ : Map) (H : Ice) (w : World) (n : W) (tx : TypeId) (m : List Loc) (ys : List V) (us : List Value) (v : Value) : Prop where
  rel : VRels ρ H ys us
  junk : ys.any ObjRel.isJunk = false
  size : ∀ u ∈ us, u.cells.size = n.c
  src : Src P n.c tx v ys.length (flat us) w
  len : Builtin.lenOf v = Sem.pure ys.length
  share : ∀ base sLen, ys ≠ [] → (base = none → sLen = 0) → (∀ q, base = some q → Room.holdsV w q (sLen * n.c) = true ∧ w.frozen? (q.add (sLen / 2 * n.c)) = false ∧ ∃ l, (ρ l).block = some q.block ∧ l ∉ m) → (Builtin.mayShare n.c sLen ys.length base v).runT P w #[] = (.ok false w, #[])

theorem holdsV_of_cell {b off k : Nat} {v : Value} (hk : 0 < k) (h : w.cell? ⟨b, off + (k - 1), Option.none⟩ = some v) : Room.holdsV w ⟨b, off, Option.none⟩ k = true :=
  holdsV_of_last w b off k hk (by rw [h]; rfl) k (Nat.le_refl _)

theorem addend_of {n : W} (hn : n.c ≠ 0) {tx : TypeId} {y : V} {v : Value} {ys : List V} {m : List Loc} (hH : HRel ρ H h w) (hv : VRel ρ H y v) (e : elems h y = some (ys, m))
    (hall : ys.all (fun v => v.cells.length == n.c) = true) (hk : (∃ e', P.underlying tx = some (.slice e')) ∨ P.underlying tx = some .string) : ∃ us, Addend P ρ H w n tx m ys us v := by
  have hys : ∀ y ∈ ys, y.cells.length = n.c := fun y hy => by simpa using List.all_eq_true.1 hall y hy
  rcases elems_rel hH hv e with ⟨s, rfl, rfl, rfl⟩ | ⟨us, k⟩
  · obtain ⟨rfl, hl⟩ := (hv : v = .string ⟨s.toArray⟩ ∧ s.length ≤ long)
    have hrel : ∀ s : List UInt8, VRels ρ H (s.map fun b => V.d (.int .u8 b.toNat)) (s.map fun b => Value.int .u8 b.toNat) := by
      intro s
      induction s with
      | nil => rfl
      | cons b s ih => exact ⟨_, _, rfl, rfl, ih⟩
    have hflat : ∀ s : List UInt8, flat (s.map fun b => Value.int .u8 b.toNat) = s.map fun b => Value.int .u8 b.toNat := by
      intro s
      induction s with
      | nil => rfl
      | cons b s ih => rw [List.map_cons, flat_cons, ih]; rfl
    have hn1 : s = [] ∨ n.c = 1 := by
      cases s with
      | nil => exact .inl rfl
      | cons b s => exact .inr (hys _ (List.mem_cons_self ..)).symm
    have hb : byteCells ⟨s.toArray⟩ = s.map fun b => Value.int .u8 b.toNat := rfl
    refine ⟨s.map fun b => Value.int .u8 b.toNat, hrel s, ?_, ?_, ?_, ?_, ?_⟩
    · rw [List.any_eq_false]; intro x hx; obtain ⟨y, _, rfl⟩ := List.mem_map.1 hx; simp [ObjRel.isJunk]
    · intro u hu
      obtain ⟨b, hbm, rfl⟩ := List.mem_map.1 hu
      rcases hn1 with rfl | hn1
      · cases hbm
      · rw [hn1]; rfl
    · rw [hflat, List.length_map]
      have hf : ∀ w' : World, (Builtin.firstCells n.c s.length (.string ⟨s.toArray⟩)).run P w' = .ok (s.map fun b => Value.int .u8 b.toNat).toArray w' := by
        intro w'
        have := firstCells_string (P := P) ⟨s.toArray⟩ w'
        rw [bytes_len] at this
        exact this
      refine ⟨hk, fun _ => ?_, hf w, hf w.drew, ?_, fun u hu => ?_⟩
      · show Result.ok _ _ = _
        rw [bytes_len]
      · rcases hn1 with rfl | hn1
        · simp
        · rw [hn1]; simp
      · obtain ⟨b, _, rfl⟩ := List.mem_map.1 hu; rfl
    · rw [List.length_map]
      show Sem.pure _ = _
      rw [bytes_len]
    · intro base sLen hne h0 hb
      exact runT_mayShare_string w n.c sLen _ base _ fun q hq => ⟨(hb q hq).1, (hb q hq).2.1⟩
  · have hlen := k.rel.length
    have hs : ∀ u ∈ us, u.cells.size = n.c := by
      intro u hu
      obtain ⟨j, hj⟩ := List.getElem?_of_mem hu
      have hjl : j < ys.length := by rw [hlen]; exact (List.getElem?_eq_some_iff.1 hj).1
      obtain ⟨u', h1, h2⟩ := k.rel.get (List.getElem?_eq_getElem hjl)
      rw [hj] at h1
      cases h1
      have hc := hys _ (List.getElem_mem hjl)
      have := (h2.cells (solid_of hc hn)).1.length
      simp only [Array.length_toList] at this
      omega
    obtain ⟨s1, s2⟩ := src_of (n := n) (tx := tx) hk k hs (fun _ => trivial)
    refine ⟨us, k.rel, k.junk, hs, s1, s2, fun base sLen hne h0 hb => ?_⟩
    obtain ⟨ad, c, rfl, hl⟩ := k.lies
    obtain ⟨b, off, sz, rfl, hsz, hcell, hsep⟩ := hl hne
    have hpos : 0 < (flat us).length := by
      rw [flat_length hs, ← hlen]
      exact Nat.mul_pos (List.length_pos_iff.2 hne) (Nat.pos_of_ne_zero hn)
    have hfl : (flat us).length = ys.length * n.c := by rw [flat_length hs, hlen]
    have hh : Room.holdsV w ⟨b, off, Option.none⟩ (ys.length * n.c) = true := by
      rw [← hfl]
      exact holdsV_of_cell hpos (hcell _ _ (List.getElem?_eq_getElem (by omega)))
    cases base with
    | none =>
      rw [h0 rfl]
      exact runT_mayShare_nil_cells w n.c ys.length _ c hh
    | some q =>
      obtain ⟨h1, h2, l, h3, h4⟩ := hb q rfl
      refine runT_mayShare_apart w n.c sLen ys.length q _ c h1 h2 hh fun hqb => ?_
      have hszn : sz ≠ 0 := by
        intro h0
        cases us with
        | nil => simp [flat] at hpos
        | cons u us => have := hsz u (List.mem_cons_self ..); have h9 := hs u (List.mem_cons_self ..); omega
      exact h4 (hsep hszn l (by rw [h3, hqb]))
end
end Go.Rf

/- Lists grown: the operation. -/
namespace Go.Rf

section
variable {P : Program} {T : Tab} {cf : CF} {o : Oper} {a : Act} {w : World} {ρ : Map} {H : Ice} {h : Loc → Option Obj} {i N : Nat} {env : List (Nat × V)} {r : R}

theorem run_app_in (t tx ty e : TypeId) (inf : TypeInfo) (ht : P.underlying t = some (.slice e)) (hi : P.info? e = some inf) (b off sLen sCap : Nat) (x : Value) (n : Nat) (news : List Value) (hs : Src P inf.size tx x n news w)
    (hroom : sLen + n ≤ sCap) (w' : World) (hst : (storeCells ⟨b, off + sLen * inf.size, Option.none⟩ news).run P w = .ok () w') :
    (Builtin.append_ #[t, tx] ty #[.slice (some ⟨b, off, Option.none⟩) sLen sCap, x]).run P w = .ok (.slice (some ⟨b, off, Option.none⟩) (sLen + n) sCap) w' := by
  rcases hs.kind with ⟨e', hk⟩ | hk <;> simp [Builtin.append_, run_underlying ht, run_underlying hk, sizeOf, typeInfo, hi, hs.len, hroom, hs.cells, add_at, hst]

theorem run_app_nil (t tx ty e : TypeId) (inf : TypeInfo) (ht : P.underlying t = some (.slice e)) (hi : P.info? e = some inf) (x : Value) (news : List Value) (hs : Src P inf.size tx x 0 news w) :
    (Builtin.append_ #[t, tx] ty #[.slice Option.none 0 0, x]).run P w = .ok (.slice Option.none 0 0) w := by
  rcases hs.kind with ⟨e', hk⟩ | hk <;> simp [Builtin.append_, run_underlying ht, run_underlying hk, sizeOf, typeInfo, hi, hs.len, hs.cells]

/-- A list that is grown into a new block, or never was one. -/
theorem app_push {n : W} (hw0 : n.w ≠ 0) {xs : List V} {us : List Value} (hH : HRel ρ H h w) {l : Loc} (hl : ρ l = .none) (hv : VRels ρ H xs us) (hj : xs.any ObjRel.isJunk = false) (hs : ∀ u ∈ us, u.cells.size = n.c)
    (z : Array Value) (hz : z.size = n.c) (need cap : Nat) (hn : xs.length = need) (hnc : need ≤ cap) (e : TypeId) (hfit : need * n.w ≤ lots) :
    ∃ ρ', HRel ρ' H (updH h l (some (.arr xs n))) (w.drew.alloc (.cells ((flat us).toArray ++ Builtin.zeroCells z (cap - need)) e)) ∧
      Trans ρ H w ρ' H (w.drew.alloc (.cells ((flat us).toArray ++ Builtin.zeroCells z (cap - need)) e)) ∧ Stays ρ ρ' ∧ (∀ l', l' ≠ l → ρ' l' = ρ l') ∧
      RefAt (ρ' l) n 0 need (.slice (some ⟨w.heap.size, 0, Option.none⟩) need cap) := by
  have hd := hH.drawn (w.drawn + 1)
  obtain ⟨k1, k2, k3⟩ := push_arr hd hl hv hj hs ((flat us).toArray ++ Builtin.zeroCells z (cap - need)) (fun j v hjv => by
    have := (List.getElem?_eq_some_iff.1 hjv).1
    rw [Array.getElem?_append_left (by simpa using this)]
    simpa using hjv) e
  refine ⟨_, k1, (Trans.drawn ρ H w (w.drawn + 1)).trans k2, k3, fun l' hl' => updM_ne hl', ?_⟩
  rw [updM_self]
  refine ⟨rfl, cap, by simp, hnc, hfit, ?_, ?_⟩
  · simp only [Array.size_append, List.size_toArray, size_zeroCells, hz, flat_length hs, ← hv.length, hn]
    rw [Nat.zero_add, Nat.zero_add, ← Nat.add_mul]
    have : need + (cap - need) = cap := by omega
    rw [this]
    exact Nat.le_refl _
  · have : need * 1 ≤ need * n.w := Nat.mul_le_mul_left _ (Nat.pos_of_ne_zero hw0)
    omega

theorem room_lots : roomBytes = lots := rfl

theorem run_app {P : Program} {o : Oper} {a : Act} {w w' : World} {v : Value} {c : Call} {x y : Operand} {t tx : TypeId} (hop : o.op = .call c) (hc : c.callee = .builtin .append) (ha : c.args = #[x, y]) (ht : c.argTypes = #[t, tx])
    (h : (Builtin.append_ #[t, tx] o.type #[a.eval x, a.eval y]).run P w = .ok v w') : (execOp a.eval o).run P w = .ok (.value v) w' := by
  unfold execOp
  simp only [hop, resolve, hc, ha, ht, invoke, builtin]
  rw [Sem.run_bind]
  show Result.andThen (.ok _ w) _ = _
  rw [Result.andThen_ok]
  simp only [List.map_toArray, List.map_cons, List.map_nil]
  rw [Sem.run_bind, h]
  rfl
end
end Go.Rf

/- Lists grown: the operation as a whole. -/
namespace Go.Rf
variable {B : Ice} {ds : List Deferred} {fx : List (Nat × Value)}

section
variable {P : Program} {T : Tab} {cf : CF} {o : Oper} {a : Act} {w : World} {ρ : Map} {H : Ice} {h : Loc → Option Obj} {i N : Nat} {env : List (Nat × V)} {r : R}

/-- What an append comes to, at the object l. -/
def Grown (P : Program) (t tx ty : TypeId) (n : W) (ρ : Map) (H : Ice) (h' : Loc → Option Obj) (w : World) (l : Loc) (dead : Option Loc) (need : Nat) (first v : Value) : Prop :=
  need * n.w ≤ lots → ∃ v' w', (Builtin.append_ #[t, tx] ty #[first, v]).run P w = .ok v' w' ∧ ∃ ρ', HRel ρ' H h' w' ∧ Trans ρ H w ρ' H w' ∧ Stays ρ ρ' ∧ (∀ l', l' ≠ l → dead ≠ some l' → ρ' l' = ρ l') ∧ RefAt (ρ' l) n 0 need v'

structure AppT (P : Program) (t tx : TypeId) (n : W) (el : TypeId) (inf : TypeInfo) (z : Value) (d : TypeDesc) : Prop where
  ht : P.underlying t = some (.slice el)
  hi : P.info? el = some inf
  hz : inf.zero = some z
  htx : P.underlying tx = some d
  hd : ∀ k, d ≠ .int k
  hsz : inf.size = n.c
  hby : inf.bytes = n.w
  hzs : z.cells.size = n.c
  hc0 : n.c ≠ 0
  hw0 : n.w ≠ 0

theorem app_none {t tx ty : TypeId} {n : W} {el inf z d} (A : AppT P t tx n el inf z d) {m : List Loc} {ys : List V} {us : List Value} {v : Value} (hH : HRel ρ H h w) (D : Addend P ρ H w n tx m ys us v) {l : Loc} (hl : ρ l = .none) :
    Grown P t tx ty n ρ H (updH h l (some (.arr ys n))) w l none ys.length (.slice none 0 0) v := by
  have hs := D.src
  rw [← A.hsz] at hs
  intro hfit0
  have hfit : (0 + ys.length) * inf.bytes ≤ 140737488355328 := by rw [A.hby, Nat.zero_add]; exact hfit0
  by_cases hy : ys = []
  · subst hy
    refine ⟨_, _, run_app_nil t tx ty el inf A.ht A.hi v (flat us) (by simpa using hs), ?_⟩
    obtain ⟨k1, k2, k3⟩ := hH.virt hl n
    refine ⟨_, k1, k2, k3, fun l' hl' _ => updM_ne hl', ?_⟩
    rw [updM_self]
    exact ⟨rfl, rfl, rfl, rfl⟩
  · have hpos : 0 < ys.length := List.length_pos_iff.2 hy
    have hg := run_append_grow_src (P := P) w t tx ty el inf z A.ht A.hi A.hz none 0 0 [] (run_firstCells_none w.drew inf.size 0 0 0) v ys.length (flat us) hs (by omega)
      (by
        have h1 : (0 + ys.length) * 1 ≤ (0 + ys.length) * inf.bytes := Nat.mul_le_mul_left _ (by have := A.hw0; rw [A.hby]; omega)
        omega)
      (growslice_fits (by omega) hfit)
    refine ⟨_, _, hg, ?_⟩
    obtain ⟨ρ', q1, q2, q3, q4, q5⟩ := app_push (n := n) A.hw0 hH hl D.rel D.junk D.size z.cells A.hzs (0 + ys.length) (grownCap w (0 + ys.length) 0 el) (by omega) (grownCap_ge ..) el (by rw [Nat.zero_add]; exact hfit0)
    refine ⟨ρ', ?_, ?_, q3, fun l' hl' _ => q4 l' hl', ?_⟩
    · simpa using q1
    · simpa using q2
    · simpa using q5

theorem app_at {t tx ty : TypeId} {n : W} {el inf z d} (A : AppT P t tx n el inf z d) {m : List Loc} {ys : List V} {us : List Value} {v : Value} (hH : HRel ρ H h w) (D : Addend P ρ H w n tx m ys us v) {l l0 : Loc} (hl : ρ l = .none)
    {xs : List V} {b base size off len cap : Nat} (hl0 : h l0 = some (.arr xs n)) (hp : ρ l0 = .at_ b base n size) (hm : l0 ∉ m) (hle : off + len ≤ xs.length)
    (h1 : len ≤ cap) (h3 : base + (off + cap) * n.c ≤ size) :
    Grown P t tx ty n ρ H (updH (updH h l0 none) l (some (.arr ((xs.drop off).take len ++ ys) n))) w l (some l0) (len + ys.length) (.slice (some ⟨b, base + off * n.c, Option.none⟩) len cap) v := by
  have hs := D.src
  rw [← A.hsz] at hs
  have hobj := hH.objs l0 _ hl0
  rw [hp] at hobj
  obtain ⟨_, arr, elem, fr, vs, hb, hsize, hvs, hj, hvz, hc⟩ := hobj
  have hll : l0 ≠ l := fun e => by rw [e, hl] at hp; cases hp
  -- the old elements
  have holdl : (((vs.drop off).take len)).length = len := by rw [List.length_take, List.length_drop, ← hvs.length]; omega
  have holdz : ∀ u ∈ (vs.drop off).take len, u.cells.size = n.c := fun u hu => hvz u (List.mem_of_mem_drop (List.mem_of_mem_take hu))
  have holdr : VRels ρ H ((xs.drop off).take len) ((vs.drop off).take len) := (hvs.drop off).take len
  have holdj := any_take (any_drop hj off) len
  have hxl : ((xs.drop off).take len).length = len := by rw [List.length_take, List.length_drop]; omega
  have hcell : ∀ j u, (flat ((vs.drop off).take len))[j]? = some u → w.cell? ⟨b, base + off * n.c + j, Option.none⟩ = some u := fun j u hju => by
    have q := flat_take_get hju
    rw [flat_drop off hvz, List.getElem?_drop] at q
    have := hc _ _ q
    simp only [World.cell?, hb]
    simpa [Nat.add_assoc] using this
  have holdf : (flat ((vs.drop off).take len)).length = len * inf.size := by rw [flat_length holdz, holdl, A.hsz]
  have hold : (Builtin.firstCells inf.size len (.slice (some ⟨b, base + off * n.c, Option.none⟩) len cap)).run P w.drew = .ok (flat ((vs.drop off).take len)).toArray w.drew :=
    run_firstCells_some w.drew inf.size len _ len cap _ holdf (fun j u hj => by rw [add_at]; exact hcell j u hj)
  have hnew : VRels ρ H ((xs.drop off).take len ++ ys) ((vs.drop off).take len ++ us) := holdr.append D.rel
  have hnewj : ((xs.drop off).take len ++ ys).any ObjRel.isJunk = false := by rw [List.any_append, holdj, D.junk]; rfl
  have hnewz : ∀ u ∈ (vs.drop off).take len ++ us, u.cells.size = n.c := fun u hu => by
    rcases List.mem_append.1 hu with hu | hu
    · exact holdz u hu
    · exact D.size u hu
  intro hfit0
  have hfit : (len + ys.length) * inf.bytes ≤ 140737488355328 := by rw [A.hby]; exact hfit0
  by_cases hroom : len + ys.length ≤ cap
  · -- there is room
    have hbound : base + off * n.c + len * n.c + (flat us).length ≤ arr.size := by
      rw [flat_length D.size, ← D.rel.length]
      have : (off + (len + ys.length)) * n.c ≤ (off + cap) * n.c := Nat.mul_le_mul_right _ (by omega)
      rw [Nat.add_mul, Nat.add_mul] at this
      omega
    have hst := run_storeCells_mine (P := P) b (base + off * n.c + len * n.c) elem fr (flat us) 0 arr.toList w hb (by simpa using hbound) (flat_all1 D.rel D.junk)
    simp only [Nat.add_zero] at hst
    have hr := run_app_in (P := P) (w := w) t tx ty el inf A.ht A.hi b (base + off * n.c) len cap v ys.length (flat us) hs hroom _ (by rw [A.hsz]; exact hst)
    refine ⟨_, _, hr, ?_⟩
    have hlt : b < w.heap.size := (Array.getElem?_eq_some_iff.1 hb).1
    obtain ⟨k1, k2, k3⟩ := hH.move (w' := { w with heap := w.heap.setIfInBounds b (.cells ⟨putL arr.toList (base + off * n.c + len * n.c) (flat us)⟩ elem (fr, fr)) }) (l := l0) (l' := l) (b := b) (by rw [hp]; rfl) hl
      (.arr ((xs.drop off).take len ++ ys) n) (.at_ b (base + off * n.c) n size) rfl ⟨rfl, rfl, rfl, by simp⟩ (fun q hq => by
        show (w.heap.setIfInBounds b _)[q]? = _
        rw [Array.getElem?_setIfInBounds_ne (Ne.symm hq)]) (by
        have hst' : Stays ρ (updM (updM ρ l0 .dead) l (.at_ b (base + off * n.c) n size)) := (Stays.upd .dead (.inr rfl)).trans (Stays.upd _ (.inl (by rw [updM_ne (Ne.symm hll)]; exact hl)))
        refine ⟨rfl, ⟨putL arr.toList (base + off * n.c + len * n.c) (flat us)⟩, elem, fr, (vs.drop off).take len ++ us, ?_, ?_, hnew.mono hst' (fun _ _ _ e => e), hnewj, hnewz, fun k u hk => ?_⟩
        · show (w.heap.setIfInBounds b _)[b]? = _
          rw [Array.getElem?_setIfInBounds_self]
          simp [hlt]
        · rw [← hsize]; simp [putL_length]
        · rw [flat_append] at hk
          rw [List.getElem?_toArray, putL_get _ _ _ _ (by simpa using hbound)]
          have hfl : (flat ((vs.drop off).take len)).length = len * n.c := by rw [holdf, A.hsz]
          by_cases hkl : k < len * n.c
          · rw [List.getElem?_append_left (by omega)] at hk
            rw [if_neg (by omega)]
            have := hcell k u hk
            simp only [World.cell?, hb] at this
            simpa using this
          · rw [List.getElem?_append_right (by omega), hfl] at hk
            have hlt2 := (List.getElem?_eq_some_iff.1 hk).1
            rw [if_pos (by omega)]
            have : base + off * n.c + k - (base + off * n.c + len * n.c) = k - len * n.c := by omega
            rw [this]
            exact hk)
    refine ⟨_, k1, k2, k3, fun l' hl' hl'' => ?_, ?_⟩
    · rw [updM_ne hl', updM_ne (fun e => hl'' (by rw [e]))]
    · rw [updM_self]
      refine ⟨rfl, cap, by simp, hroom, hfit0, ?_, ?_⟩
      · rw [Nat.zero_add]
        rw [Nat.add_mul] at h3
        omega
      · have : (len + ys.length) * 1 ≤ (len + ys.length) * n.w := Nat.mul_le_mul_left _ (Nat.pos_of_ne_zero A.hw0)
        omega
  · -- a new block
    have hg := run_append_grow_src (P := P) w t tx ty el inf z A.ht A.hi A.hz _ len cap _ hold v ys.length (flat us) hs (by omega)
      (by
        have h1 : (len + ys.length) * 1 ≤ (len + ys.length) * inf.bytes := Nat.mul_le_mul_left _ (by have := A.hw0; rw [A.hby]; omega)
        omega)
      (growslice_fits (by omega) hfit)
    refine ⟨_, _, hg, ?_⟩
    obtain ⟨k1, k2, k3⟩ := hH.kill l0
    obtain ⟨ρ', q1, q2, q3, q4, q5⟩ := app_push (n := n) A.hw0 k1 (l := l) (by rw [updM_ne (Ne.symm hll)]; exact hl) (hnew.mono k3 (fun _ _ _ e => e)) hnewj hnewz z.cells A.hzs (len + ys.length) (grownCap w (len + ys.length) cap el)
      (by rw [List.length_append, hxl]) (grownCap_ge ..) el hfit0
    rw [flat_append] at q1 q2
    exact ⟨ρ', q1, k2.trans q2, k3.trans q3, fun l' hl' hl'' => by rw [q4 l' hl', updM_ne (fun e => hl'' (by rw [e]))], q5⟩

theorem Sound.grown {c : Call} {x y : Operand} {t tx : TypeId} {n : W} {h' : Loc → Option Obj} {dead : Option Loc} {need : Nat} {e : Eff} (hop : o.op = .call c) (hc : c.callee = .builtin .append) (ha : c.args = #[x, y]) (ht : c.argTypes = #[t, tx])
    (g : Grown P t tx o.type n ρ H h' w (.n i 0) dead need (a.eval x) (a.eval y)) (hf : need * n.w ≤ lots) (hev : e.v = .ref (.n i 0) n 0 need) (hwr : applyW h e.wr = h') (hdead : ∀ l, dead = some l → ρ l ≠ .none) :
    Sound P o a w ρ H h i (.ok e) := by
  obtain ⟨v', w', g1, ρ', g2, g3, g4, g5, g6⟩ := g hf
  refine Sound.of (run_app hop hc ha ht g1) ⟨by rw [hwr]; exact g2, g3, g4, fun l h1 h2 => ?_, by rw [hev]; exact g6⟩
  by_cases hl : l = .n i 0
  · exact ⟨0, hl⟩
  · exfalso
    by_cases hd : dead = some l
    · exact hdead l hd h1
    · rw [g5 l hl hd] at h2
      exact h2 h1

theorem s_app {n x y} (hH : HRel ρ H h w) (hE : EnvRel B ds fx ρ H N env a) (hN : ∀ k, ρ (.n i k) = .none) (hok : ok_app n x y P o.op = true) (e : exec T cf i (.app n x y) (evO env) h = some r) : Sound P o a w ρ H h i r := by
  unfold ok_app at hok
  split at hok
  · rename_i c hop
    simp only [Bool.and_eq_true] at hok
    obtain ⟨hok1, hok2⟩ := hok
    have hc : c.callee = .builtin .append := by
      split at hok1
      · assumption
      · cases hok1
    split at hok2
    · rename_i x' y' t tx ha ht
      simp only [Bool.and_eq_true, decide_eq_true_eq] at hok2
      obtain ⟨⟨⟨⟨⟨⟨h1, h2⟩, h3⟩, h4⟩, h5⟩, h6⟩, h7⟩ := hok2
      have ha' : c.args = #[x', y'] := Array.toList_inj.1 ha
      have ht' : c.argTypes = #[t, tx] := Array.toList_inj.1 ht
      obtain ⟨el, inf, hu, hi, hsz, hby, hsi⟩ := sliceIs.get h3
      have htx : ∃ d, P.underlying tx = some d ∧ (∀ k, d ≠ .int k) ∧ ((∃ e', P.underlying tx = some (.slice e')) ∨ P.underlying tx = some .string) := by
        cases hq : P.underlying tx with
        | none => rw [hq] at h6; cases h6
        | some d =>
          rw [hq] at h6
          cases d <;> first | exact ⟨_, rfl, (fun k h => by cases h), .inl ⟨_, rfl⟩⟩ | exact ⟨_, rfl, (fun k h => by cases h), .inr rfl⟩ | cases h6
      obtain ⟨d, hd1, hd2, hd3⟩ := htx
      rw [hu] at h7
      simp only [hi] at h7
      cases hz : inf.zero with
      | none => rw [hz] at h7; cases h7
      | some z =>
      rw [hz] at h7
      simp only [decide_eq_true_eq] at h7
      have A : AppT P t tx n el inf z d := ⟨hu, hi, hz, hd1, hd2, hsz, hby, h7, h4, h5⟩
      -- what is appended
      have main : ∀ vy, evO env y = some vy → ∀ (fx : Option V), (fx = none ∧ a.eval x' = .slice Option.none 0 0 ∨ ∃ vx, fx = some vx ∧ VRel ρ H vx (a.eval x')) → appV h i n fx vy = some r → Sound P o a w ρ H h i r := by
        intro vy ey fx hfx er
        have hy := okO_rel hE h2 ey
        unfold appV at er
        split at er
        · cases er
        · rename_i ys m he
          split at er
          · rename_i hall
            obtain ⟨us, D⟩ := addend_of h4 hH hy he hall hd3
            rcases hfx with ⟨rfl, hx⟩ | ⟨vx, rfl, hx⟩
            · have g := app_none (ty := o.type) A hH D (hN 0)
              rw [← hx] at g
              simp only at er
              split at er
              · rename_i hf
                cases er
                exact Sound.grown (h := h) (i := i) (e := { v := .ref (.n i 0) n 0 ys.length, rd := m, wr := [(.n i 0, some (.arr ys n))] }) hop hc ha' ht' g hf rfl rfl (fun l hl => by cases hl)
              · cases er
            · cases vx with
              | ref l sz off len =>
                simp only at er
                split at er
                · rename_i xs sz' hl
                  split at er
                  · rename_i hcond
                    obtain ⟨rfl, hle, hm⟩ := hcond
                    have hx : RefAt (ρ l) sz off len (a.eval x') := hx
                    have hobj := hH.objs l _ hl
                    have fin : Grown P t tx o.type sz ρ H (updH (updH h l none) (.n i 0) (some (.arr ((xs.drop off).take len ++ ys) sz))) w (.n i 0) (some l) (len + ys.length) (a.eval x') (a.eval y') → ρ l ≠ .none → Sound P o a w ρ H h i r := by
                      intro g hne
                      split at er
                      · rename_i hf
                        cases er
                        exact Sound.grown (h := h) (i := i) (e := { v := .ref (.n i 0) sz 0 (len + ys.length), rd := l :: m, wr := [(l, none), (.n i 0, some (.arr ((xs.drop off).take len ++ ys) sz))] }) hop hc ha' ht' g hf rfl rfl (fun l' hl' => by cases hl'; exact hne)
                      · cases er
                    cases hp : ρ l with
                    | none => rw [hp] at hx; exact hx.elim
                    | dead => rw [hp] at hobj; exact hobj.elim
                    | blk q => rw [hp] at hx; exact hx.elim
                    | virt s =>
                      rw [hp] at hobj hx
                      obtain ⟨rfl, _⟩ := hobj
                      obtain ⟨_, rfl, rfl, hx2⟩ := hx
                      have hll : l ≠ .n i 0 := fun e => by rw [e, hN 0] at hp; cases hp
                      refine fin ?_ (by rw [hp]; intro h; cases h)
                      obtain ⟨k1, k2, k3⟩ := hH.kill l
                      have D' : Addend P (updM ρ l .dead) H w sz tx m ys us (a.eval y') := ⟨D.rel.mono k3 (fun _ _ _ e => e), D.junk, D.size, D.src, D.len, fun base sLen g1 g2 g3 => D.share base sLen g1 g2 fun q hq => by
                        obtain ⟨r1, r2, l', r3, r4⟩ := g3 q hq
                        refine ⟨r1, r2, l', ?_, r4⟩
                        by_cases hl' : l' = l
                        · rw [hl', updM_self] at r3; cases r3
                        · rw [updM_ne hl'] at r3; exact r3⟩
                      have g := app_none (ty := o.type) A k1 D' (l := .n i 0) (by rw [updM_ne (Ne.symm hll)]; exact hN 0)
                      rw [hx2]
                      intro hf
                      obtain ⟨v', w', g1, ρ', g2, g3, g4, g5, g6⟩ := g (by simpa using hf)
                      refine ⟨v', w', g1, ρ', ?_, k2.trans g3, k3.trans g4, fun l' hl' hl'' => ?_, ?_⟩
                      · simpa using g2
                      · rw [g5 l' hl' (by intro h; cases h), updM_ne (fun e => hl'' (by rw [e]))]
                      · simpa using g6
                    | at_ b base s size =>
                      rw [hp] at hobj hx
                      obtain ⟨rfl, _⟩ := hobj
                      obtain ⟨rfl, cap, hx2, q1, q2, q3, q4⟩ := hx
                      refine fin ?_ (by rw [hp]; intro h; cases h)
                      rw [hx2]
                      exact app_at (ty := o.type) A hH D (hN 0) hl hp hm hle q1 q3
                  · cases er
                · cases er
              | _ => cases er
          · cases er
      cases x with
      | none =>
        obtain ⟨vy, ey, er⟩ := bnd_eq e
        refine main vy ey none (.inl ⟨rfl, ?_⟩) er
        split at h1
        · rename_i hh; cases hh
        · split at h1
          · rfl
          · cases h1
      | some q =>
        obtain ⟨vx, ex, e2⟩ := bnd_eq e
        obtain ⟨vy, ey, er⟩ := bnd_eq e2
        exact main vy ey (some vx) (.inr ⟨vx, rfl, okO_rel hE h1 ex⟩) er
    · cases hok2
  · cases hok
end
end Go.Rf

/- Every operation; operations in a row. -/
namespace Go.Rf
variable {B : Ice} {ds : List Deferred} {fx : List (Nat × Value)}

def okOp (P : Program) : AOp → Op → Bool
  | .mv x => ok_mv x
  | .own n => ok_own n
  | .pick c x y => ok_pick c x y
  | .alloc z own => ok_alloc z own P
  | .box n x => ok_box n x P
  | .build z ps own => ok_build z ps own P
  | .buildSl n z len ps => ok_buildSl n z len ps P
  | .load n ag x => ok_load n ag x P
  | .store n x y => ok_store n x y P
  | .nilCk x => ok_nilCk x
  | .bin op x y => ok_bin op x y
  | .un op x => ok_un op x
  | .isN eq ifc x => ok_isN eq ifc x P
  | .eqB eq x y => ok_eqB eq x y P
  | .conv (.int k) x => ok_convI k x P
  | .conv .rune x => ok_convR x P
  | .conv .b2s x => ok_b2s x P
  | .mkI t x => ok_mkI t x P
  | .mkF f cap => ok_mkF f cap
  | .mkSl n z len cap => ok_mkSl n z len cap P
  | .slice n x lo hi => ok_slice n x lo hi P
  | .fieldA off n ag x => ok_fieldA off n ag x P
  | .field off n ag x => ok_field off n ag x P
  | .idxA n x k => ok_idxA n x k P
  | .idxS x k => ok_idxS x k P
  | .extract x k => ok_extract x k
  | .tass t ok z x => ok_tass t ok z x P
  | .call f args => ok_call f args P
  | .callV f args => ok_callV f args
  | .inv _ _ _ => fun _ => false
  | .len s x => ok_len s x P
  | .app n x y => ok_app n x y P
  | .mx x y => ok_mx x y
  | .panic x => ok_panic x
  | .range x => ok_range x P
  | .next x => ok_next x
  | .mkMap => ok_mkMap
  | .look _ _ _ => fun _ => false
  | .upd _ _ _ => fun _ => false

section
variable {P : Program} {T : Tab} {cf : CF} {o : Oper} {a : Act} {w : World} {ρ : Map} {H : Ice} {h : Loc → Option Obj} {i N : Nat} {env : List (Nat × V)} {r : R}

theorem exec_sound {op : AOp} (hcf : CFOk B P cf) (hfs : ∀ g vs hp r, cf g vs hp = some r → funOk P g = true) (hH : HRel ρ H h w) (hE : EnvRel B ds fx ρ H N env a) (hN : ∀ k, ρ (.n i k) = .none) (hok : okOp P op o.op = true)
    (e : exec T cf i op (evO env) h = some r) : Sound P o a w ρ H h i r := by
  cases op with
  | mv x => exact s_mv hH hE hok e
  | own n => exact s_own hH hN hok e
  | pick c x y => exact s_pick hH hE hok e
  | alloc z own => exact s_alloc hH hN hok e
  | box n x => exact s_box hH hE hN hok e
  | build z ps own => exact s_build hH hE hN hok e
  | buildSl n z len ps => exact s_buildSl hH hE hN hok e
  | load n ag x => exact s_load hH hE hok e
  | store n x y => exact s_store hH hE hok e
  | nilCk x => exact s_nilCk hH hE hok e
  | bin op x y => exact s_bin hH hE hok e
  | un op x => exact s_un hH hE hok e
  | isN eq ifc x => exact s_isN hH hE hok e
  | eqB eq x y => exact s_eqB hH hE hok e
  | conv k x =>
    cases k with
    | int k => exact s_convI hH hE hok e
    | rune => exact s_convR hH hE hok e
    | b2s => exact s_b2s hH hE hok e
  | mkI t x => exact s_mkI hH hE hok e
  | mkF f cap => exact s_mkF hH hE hok e
  | mkSl n z len cap => exact s_mkSl hH hE hN hok e
  | slice n x lo hi => exact s_slice hH hE hok e
  | fieldA off n ag x => exact s_fieldA hH hE hok e
  | field off n ag x => exact s_field hH hE hok e
  | idxA n x k => exact s_idxA hH hE hok e
  | idxS x k => exact s_idxS hH hE hok e
  | extract x k => exact s_extract hH hE hok e
  | tass t ok z x => exact s_tass hH hE hok e
  | call f args => exact s_call hcf hH hE hN hok e
  | callV f args => exact s_callV hcf hH hE hN hfs hok e
  | inv m x args => cases hok
  | len s x => exact s_len hH hE hok e
  | app n x y => exact s_app hH hE hN hok e
  | mx x y => exact s_mx hH hE hok e
  | panic x => exact s_panic hH hE hok e
  | range x => exact s_range hH hE hN hok e
  | next x => exact s_next hH hE hok e
  | mkMap => exact s_mkMap hH hN hok e
  | look z x k => cases hok
  | upd x k v => cases hok
end

/-! ### Guards -/
def okG (ops : Array Oper) : Option (Nat × Bool) → Option (Nat × Bool) → Bool
  | none, none => true
  | some (j, b), some (t, c) => decide ((ops[j]?).bind (·.dst) = some t) && decide (b = c)
  | _, _ => false

def okIns (P : Program) (N : Nat) (ops : Array Oper) (o : Oper) (ai : AIns) : Bool :=
  okOp P ai.op o.op && decide (o.dst = ai.dst) && (match ai.dst with | some t => decide (t < N) | none => true) && okG ops o.guard ai.guard

section
variable {P : Program} {T : Tab} {cf : CF} {N : Nat} {ops : Array Oper}

theorem wanted_rel {ρ H env a} {o : Oper} {g : Option (Nat × Bool)} {b : Bool} (hE : EnvRel B ds fx ρ H N env a) (hok : okG ops o.guard g = true) (e : wanted env g = some b) : Region.wanted o (yielded ops a.tmps) = b := by
  unfold okG at hok
  split at hok
  · rename_i hg
    cases e
    simp [Region.wanted, hg]
  · rename_i j b' t c hg
    simp only [Bool.and_eq_true, decide_eq_true_eq] at hok
    obtain ⟨h1, rfl⟩ := hok
    simp only [wanted] at e
    unfold Region.wanted
    rw [hg]
    simp only
    unfold yielded
    rw [h1]
    simp only [Option.bind_some]
    split at e
    · rename_i q hq
      cases e
      have hv : a.tmps.getD t undef = .bool q := hE.rel t _ hq
      have : a.tmps[t]? = some (.bool q) := by
        rw [Array.getD_eq_getD_getElem?] at hv
        cases ht : a.tmps[t]? with
        | none => rw [ht] at hv; cases hv
        | some x => rw [ht] at hv; simp at hv; rw [hv]
      rw [this]
      rfl
    · rename_i hq
      cases e
      obtain ⟨us, hv, hu⟩ := hE.rel t _ hq
      cases hu
      cases ht : a.tmps[t]? with
      | none => rfl
      | some x =>
        rw [Array.getD_eq_getD_getElem?, ht] at hv
        simp at hv
        subst hv
        rfl
    · cases e
  · cases hok

/-- After operations in a row. -/
def PostL (B : Ice) (ds : List Deferred) (fx : List (Nat × Value)) (ρ : Map) (H : Ice) (w : World) (N : Nat) (L : List AIns) (Q : Exit → Act → World → Prop) : RR → Prop
  | .nrm s' => ∀ ρ' H' a' w', HRel ρ' H' s'.h w' → EnvRel B ds fx ρ' H' N s'.env a' → Trans ρ H w ρ' H' w' → Stays ρ ρ' → (∀ l, ρ l = .none → ρ' l ≠ .none → ∃ ai ∈ L, ∃ k, l = .n ai.i k) → Q .normal a' w'
  | .pan _ v s' => ∀ ρ' H' a' w' u, HRel ρ' H' s'.h w' → a'.defers = ds → (∀ t u, (t, u) ∈ fx → a'.tmps.getD t undef = u) → Trans ρ H w ρ' H' w' → Stays ρ ρ' → (∀ l, ρ l = .none → ρ' l ≠ .none → ∃ ai ∈ L, ∃ k, l = .n ai.i k) → VRel ρ' H' v u → Q (.panic [{ v := u, recovered := false }]) a' w'
  | .out => LetsOut Q

theorem runL_sound (hcf : CFOk B P cf) (hfs : ∀ g vs hp r, cf g vs hp = some r → funOk P g = true) {Q : Exit → Act → World → Prop} : ∀ (L : List AIns) (s : RS) (rs : List Rec) (rr : RR) (rs' : List Rec),
    (∀ ai ∈ L, ∃ o, ops[ai.i]? = some o ∧ okIns P N ops o ai = true) → (L.map (·.i)).Nodup → (∀ ai ∈ L, ∀ x ∈ fx, ai.dst ≠ some x.1) → runL T cf L s rs = some (rr, rs') →
    ∀ ρ H w a, HRel ρ H s.h w → EnvRel B ds fx ρ H N s.env a → (∀ ai ∈ L, ∀ k, ρ (.n ai.i k) = .none) → PostL B ds fx ρ H w N L Q rr → wpOps P ops Q (L.map (·.i)) a w
  | [], s, rs, rr, rs', _, _, _, e, ρ, H, w, a, hH, hE, _, hp => by
    cases e
    exact hp ρ H a w hH hE (Trans.refl ..) (Stays.refl _) (fun l h1 h2 => (h2 h1).elim)
  | ai :: L, s, rs, rr, rs', hL, hnd, hav, e, ρ, H, w, a, hH, hE, hN, hp => by
    obtain ⟨o, ho, hok⟩ := hL ai (List.mem_cons_self ..)
    simp only [okIns, Bool.and_eq_true, decide_eq_true_eq] at hok
    obtain ⟨⟨⟨k1, k2⟩, k3⟩, k4⟩ := hok
    rw [List.map_cons, List.nodup_cons] at hnd
    simp only [runL] at e
    obtain ⟨x, e1, e2⟩ := bnd_eq e
    simp only [step] at e1
    obtain ⟨b, e3, e4⟩ := bnd_eq e1
    have hw := wanted_rel (ops := ops) (o := o) hE k4 e3
    have hdst : ∀ t, o.dst = some t → t < N ∧ ∀ x ∈ fx, x.1 ≠ t := fun t ht => by
      rw [k2] at ht
      refine ⟨?_, fun x hx he => hav ai (List.mem_cons_self ..) x hx (by rw [ht, he])⟩
      rw [ht] at k3
      simpa using k3
    simp only [List.map_cons, wpOps, ho]
    rw [hw]
    cases b with
    | false =>
      simp only [sel_false] at e4
      cases e4
      simp only [Bool.false_eq_true, if_false]
      refine runL_sound hcf hfs L _ _ rr rs' (fun x hx => hL x (List.mem_cons_of_mem _ hx)) hnd.2 (fun y hy => hav y (List.mem_cons_of_mem _ hy)) e2 ρ H w _ hH (by rw [← k2]; exact hE.put o.dst hdst ⟨[], rfl, rfl⟩) (fun x hx => hN x (List.mem_cons_of_mem _ hx)) ?_
      cases rr with
      | nrm s' => exact fun ρ' H' a' w' q1 q2 q3 q4 q5 => hp ρ' H' a' w' q1 q2 q3 q4 (fun l h1 h2 => by obtain ⟨x, hx, h3⟩ := q5 l h1 h2; exact ⟨x, List.mem_cons_of_mem _ hx, h3⟩)
      | pan j v s' => exact fun ρ' H' a' w' u q1 q2 q2' q3 q4 q5 => hp ρ' H' a' w' u q1 q2 q2' q3 q4 (fun l h1 h2 => by obtain ⟨x, hx, h3⟩ := q5 l h1 h2; exact ⟨x, List.mem_cons_of_mem _ hx, h3⟩)
      | out => exact hp
    | true =>
      simp only [sel_true] at e4
      obtain ⟨r, e5, e6⟩ := bnd_eq e4
      cases e6
      simp only [if_true]
      have hs := exec_sound (o := o) hcf hfs hH hE (hN ai (List.mem_cons_self ..)) k1 e5
      refine hs _ _ ?_
      cases r with
      | out =>
        simp only [stepR, onSR] at e2
        cases e2
        exact hp
      | pan ev =>
        intro ρ' H' v w' hpost
        simp only [stepR, onSR] at e2
        cases e2
        exact hp ρ' H' a w' v hpost.heap hE.defers hE.fix hpost.trans hpost.stays (fun l h1 h2 => by obtain ⟨k, hk⟩ := hpost.new l h1 h2; exact ⟨ai, List.mem_cons_self .., k, hk⟩) hpost.val
      | ok ev =>
        intro ρ' H' v w' hpost
        simp only [stepR, onSR] at e2
        have hle := hpost.trans.le hH
        refine runL_sound hcf hfs L _ _ rr rs' (fun x hx => hL x (List.mem_cons_of_mem _ hx)) hnd.2 (fun y hy => hav y (List.mem_cons_of_mem _ hy)) e2 ρ' H' w' _ hpost.heap (by rw [← k2]; exact (hE.mono hpost.stays hle).put o.dst hdst hpost.val) (fun x hx k => ?_) ?_
        · cases hq : ρ' (.n x.i k) with
          | none => rfl
          | _ =>
            exfalso
            obtain ⟨k', hk'⟩ := hpost.new _ (hN x (List.mem_cons_of_mem _ hx) k) (by rw [hq]; intro h; cases h)
            injection hk' with hk' _
            exact hnd.1 (hk' ▸ List.mem_map_of_mem hx)
        · have new : ∀ {ρ2 : Map}, (∀ l, ρ' l = .none → ρ2 l ≠ .none → ∃ x ∈ L, ∃ k, l = Loc.n x.i k) → ∀ l, ρ l = .none → ρ2 l ≠ .none → ∃ x ∈ ai :: L, ∃ k, l = Loc.n x.i k := fun q5 l h1 h2 => by
            by_cases h3 : ρ' l = .none
            · obtain ⟨x, hx, h4⟩ := q5 l h3 h2; exact ⟨x, List.mem_cons_of_mem _ hx, h4⟩
            · obtain ⟨k, hk⟩ := hpost.new l h1 h3; exact ⟨ai, List.mem_cons_self .., k, hk⟩
          cases rr with
          | nrm s' => exact fun ρ2 H2 a2 w2 q1 q2 q3 q4 q5 => hp ρ2 H2 a2 w2 q1 q2 (hpost.trans.trans q3) (hpost.stays.trans q4) (new q5)
          | pan j v s' => exact fun ρ2 H2 a2 w2 u q1 q2 q2' q3 q4 q5 => hp ρ2 H2 a2 w2 u q1 q2 q2' (hpost.trans.trans q3) (hpost.stays.trans q4) (new q5)
          | out => exact hp
end
end Go.Rf

/- Code: how a region ends; states between regions. -/
namespace Go.Rf
variable {B : Ice} {ds : List Deferred} {fx : List (Nat × Value)}

structure StRel (B : Ice) (ds : List Deferred) (fx : List (Nat × Value)) (ρ : Map) (H : Ice) (N : Nat) (st : St) (a : Act) (w : World) : Prop where
  heap : HRel ρ H (ofList st.heap) w
  env : EnvRel B ds fx ρ H N st.env a
  only : ∀ l, ρ l ≠ .none → ∃ k, k < st.heap.length ∧ l = .b k

/-- The objects that came in stay, or are gone. -/
def StaysP (p : Nat) (ρ ρ' : Map) : Prop := ∀ k, k < p → ρ (.b k) ≠ .none → ρ' (.b k) = ρ (.b k) ∨ ρ' (.b k) = .dead

theorem StaysP.refl (p ρ) : StaysP p ρ ρ := fun _ _ _ => .inl rfl
theorem Stays.toP {ρ ρ' : Map} (h : Stays ρ ρ') (p : Nat) : StaysP p ρ ρ' := fun _ _ hk => h _ hk
theorem StaysP.trans {p ρ ρ1 ρ2} (h : StaysP p ρ ρ1) (k : StaysP p ρ1 ρ2) : StaysP p ρ ρ2 := fun j hj hn => by
  rcases h j hj hn with e | e
  · rw [← e] at hn ⊢
    exact k j hj hn
  · rcases k j hj (by rw [e]; intro h; cases h) with e' | e'
    · exact .inr (e'.trans e)
    · exact .inr e'

theorem pins_get {n k : Nat} (h : k < n) : (pins n)[k]? = some (.b k) := by simp [pins, h]
theorem pins_nodup (n : Nat) : (pins n).Nodup := by
  unfold pins
  rw [List.Nodup, List.pairwise_map]
  exact List.Pairwise.imp (fun h e => h (by injection e)) List.nodup_range
theorem pins_length (n : Nat) : (pins n).length = n := by simp [pins]

theorem renM_trans {ρ : Map} {H : Ice} {w : World} (M : List Loc) : Trans ρ H w (renM ρ M) H w := ⟨rfl, rfl, rfl, Nat.le_refl _, fun _ _ _ => ⟨rfl, fun _ => rfl⟩, fun l b h => by
  cases l with
  | n i k => cases h
  | b k =>
    simp only [renM] at h
    split at h
    · rename_i l _; exact .inr ⟨l, h⟩
    · cases h⟩

theorem renM_stays {ρ : Map} {p : Nat} {M : List Loc} (h : pins p <+: M) : StaysP p ρ (renM ρ M) := fun k hk _ => .inl (renM_b (pre_get h (pins_get hk)))

theorem renM_only {ρ : Map} {M : List Loc} {n : Nat} (hn : n = M.length) : ∀ l, renM ρ M l ≠ .none → ∃ k, k < n ∧ l = .b k := fun l hl => by
  cases l with
  | n i k => exact (hl rfl).elim
  | b k =>
    refine ⟨k, ?_, rfl⟩
    by_cases hk : k < n
    · exact hk
    · exfalso
      apply hl
      have : M[k]? = none := List.getElem?_eq_none_iff.2 (by omega)
      simp only [renM, this]

theorem kept_rel {ρ : Map} {H : Ice} {N : Nat} {env : List (Nat × V)} {a : Act} (hE : EnvRel B ds fx ρ H N env a) : ∀ keep : List Nat, VRels ρ H (keptE env keep).2 ((keptE env keep).1.map fun t => a.tmps.getD t undef)
  | [] => rfl
  | t :: ks => by
    have ih := kept_rel hE ks
    simp only [keptE]
    cases hg : getE env t with
    | none => exact ih
    | some v =>
      cases hk : keptE env ks with
      | mk ts vs =>
        rw [hk] at ih
        exact ⟨_, _, rfl, hE.rel t v hg, ih⟩

theorem zip_rel {ρ : Map} {H : Ice} {f : Nat → Value} : ∀ {ts : List Nat} {vs : List V}, VRels ρ H vs (ts.map f) → ∀ t v, getE (ts.zip vs) t = some v → VRel ρ H v (f t)
  | [], vs, k, t, v, e => by simp [getE] at e
  | s :: ts, vs, k, t, v, e => by
    cases vs with
    | nil => simp [VRels] at k
    | cons x vs =>
      obtain ⟨u, us, hu, k1, k2⟩ := k
      simp only [List.map_cons, List.cons.injEq] at hu
      obtain ⟨rfl, rfl⟩ := hu
      simp only [List.zip_cons_cons, getE] at e
      split at e
      · rename_i h; cases e; subst h; exact k1
      · exact zip_rel k2 t v e

/-- The state after a renaming. -/
theorem endR_rel {ρ : Map} {H : Ice} {N p : Nat} {keep : List Nat} {env : List (Nat × V)} {h : Loc → Option Obj} {a : Act} {w : World} {st : St} (hH : HRel ρ H h w) (hE : EnvRel B ds fx ρ H N env a) (e : endR p keep env h = some st) :
    ∃ M, StRel B ds fx (renM ρ M) H N st a w ∧ StaysP p ρ (renM ρ M) ∧ Trans ρ H w (renM ρ M) H w ∧ p ≤ st.heap.length := by
  obtain ⟨⟨vs', os, M⟩, e1, e2⟩ := bnd_eq e
  cases e2
  obtain ⟨n1, n2, n3, n4, n5⟩ := norm_rel hH (pins_nodup p) e1
  have hk := n2 _ (kept_rel hE keep)
  refine ⟨M, ⟨n1, ⟨hE.size, hE.defers, fun t v hg => ?_, hE.base, hE.fix⟩, renM_only n5⟩, renM_stays n3, renM_trans M, ?_⟩
  · exact zip_rel hk t v hg
  · have := n3.length_le
    rw [pins_length] at this
    simp only
    omega

/-- What follows after code. -/
def PostC (B : Ice) (ds : List Deferred) (fx : List (Nat × Value)) (ρ : Map) (H : Ice) (w : World) (N p : Nat) (Q : Exit → Act → World → Prop) : Ex × St → Prop
  | (.nrm, st) => ∀ ρ' H' a' w', StRel B ds fx ρ' H' N st a' w' → Trans ρ H w ρ' H' w' → StaysP p ρ ρ' → p ≤ st.heap.length → Q .normal a' w'
  | (.exit id, st) => ∀ ρ' H' a' w', StRel B ds fx ρ' H' N st a' w' → Trans ρ H w ρ' H' w' → StaysP p ρ ρ' → p ≤ st.heap.length → Q (.exit id) a' w'
  | (.ret, st) => ∀ ρ' H' a' w', StRel B ds fx ρ' H' N st a' w' → Trans ρ H w ρ' H' w' → StaysP p ρ ρ' → p ≤ st.heap.length → Q .ret a' w'
  | (.pan v, st) => ∀ ρ' H' a' w' u, HRel ρ' H' (ofList st.heap) w' → (∀ l, ρ' l ≠ .none → ∃ k, k < st.heap.length ∧ l = .b k) → VRel ρ' H' v u → a'.defers = ds → (∀ t u, (t, u) ∈ fx → a'.tmps.getD t undef = u) → Trans ρ H w ρ' H' w' → StaysP p ρ ρ' → p ≤ st.heap.length → Q (.panic [{ v := u, recovered := false }]) a' w'
  | (.out, _) => LetsOut Q

theorem PostC.shift {ρ ρ1 : Map} {H H1 : Ice} {w w1 : World} {N p : Nat} {Q : Exit → Act → World → Prop} {x : Ex × St} (h : PostC B ds fx ρ H w N p Q x) (ht : Trans ρ H w ρ1 H1 w1) (hs : StaysP p ρ ρ1) : PostC B ds fx ρ1 H1 w1 N p Q x := by
  obtain ⟨e, st⟩ := x
  cases e with
  | nrm => exact fun ρ' H' a' w' q1 q2 q3 q4 => h ρ' H' a' w' q1 (ht.trans q2) (hs.trans q3) q4
  | exit id => exact fun ρ' H' a' w' q1 q2 q3 q4 => h ρ' H' a' w' q1 (ht.trans q2) (hs.trans q3) q4
  | ret => exact fun ρ' H' a' w' q1 q2 q3 q4 => h ρ' H' a' w' q1 (ht.trans q2) (hs.trans q3) q4
  | pan v => exact fun ρ' H' a' w' u q1 q2 q3 q3' q3x q4 q5 q6 => h ρ' H' a' w' u q1 q2 q3 q3' q3x (ht.trans q4) (hs.trans q5) q6
  | out => exact h
theorem endP_rel {ρ : Map} {H : Ice} {p : Nat} {v : V} {u : Value} {h : Loc → Option Obj} {w : World} {ex : Ex} {st : St} (hH : HRel ρ H h w) (hv : VRel ρ H v u) (e : endP p v h = some (ex, st)) :
    ∃ x ρ' H', ex = .pan x ∧ HRel ρ' H' (ofList st.heap) w ∧ (∀ l, ρ' l ≠ .none → ∃ k, k < st.heap.length ∧ l = .b k) ∧ VRel ρ' H' x u ∧ Trans ρ H w ρ' H' w ∧ StaysP p ρ ρ' ∧ p ≤ st.heap.length := by
  obtain ⟨⟨x, fm⟩, e1, e2⟩ := bnd_eq e
  split at e2
  · obtain ⟨⟨vs', os, M⟩, e3, e4⟩ := bnd_eq e2
    cases e4
    obtain ⟨f1, f2, f3, f4⟩ := freeze_heap hH fm
    obtain ⟨n1, n2, n3, n4, n5⟩ := norm_rel f1 (pins_nodup p) e3
    refine ⟨.d x, renM (killM ρ fm) M, iceOf ρ H w fm, rfl, n1, fun l hl => ?_, (frz_rel hH 24 v x fm e1).2.2 fm (fun _ h => h) u hv, f2.trans (renM_trans M), (f3.toP p).trans (renM_stays n3), ?_⟩
    · exact renM_only n5 l hl
    · have := n3.length_le
      rw [pins_length] at this
      simp only
      omega
  · cases e2

end Go.Rf
