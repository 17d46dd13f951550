/- Parts of the proof: RfOpF, RfStep, RfCode, RfOnly, RfDraw, RfDraw2. -/
import Derived.Test.YtdgfohkljpjdpaaGreatDoorRg3
import Derived.Orders

/- Lists grown: the operation as a whole. -/
namespace Go.Rf
variable {B : Ice} {ds : List Deferred} {fx : List (Nat × Value)}

section
variable {P : Program} {T : Tab} {cf : CF} {o : Oper} {a : Act} {w : World} {ρ : Map} {H : Ice} {h : Loc → Option Obj} {i N : Nat} {env : List (Nat × V)} {r : R}

/-- What an append comes to, at the object l. -/
def Grown (P : Program) (t tx ty : TypeId) (n : W) (ρ : Map) (H : Ice) (h' : Loc → Option Obj) (w : World) (l : Loc) (dead : Option Loc) (need : Nat) (first v : Value) : Prop :=
  need * n.w ≤ lots → ∃ v' w', (Builtin.append_ #[t, tx] ty #[first, v]).run P w = .ok v' w' ∧ ∃ ρ', HRel ρ' H h' w' ∧ Trans ρ H w ρ' H w' ∧ Stays ρ ρ' ∧ (∀ l', l' ≠ l → dead ≠ some l' → ρ' l' = ρ l') ∧ RefAt (ρ' l) n 0 need v'

structure AppT (P : Program) (t tx : TypeId) (n : W) (el : TypeId) (inf : TypeInfo) (z : Value) (d : TypeDesc) : Prop where
  ht : P.underlying t = some (.slice el)
  hi : P.info? el = some inf
  hz : inf.zero = some z
  htx : P.underlying tx = some d
  hd : ∀ k, d ≠ .int k
  hsz : inf.size = n.c
  hby : inf.bytes ≤ n.w
  hb0 : 0 < inf.bytes
  hzs : z.cells.size = n.c
  hc0 : n.c ≠ 0
  hw0 : n.w ≠ 0
  hw1 : 1000000 ≤ n.w → el + 1000000 = n.w ∧ n.c = 1

theorem app_none {t tx ty : TypeId} {n : W} {el inf z d} (A : AppT P t tx n el inf z d) {m : List Loc} {ys : List V} {us : List Value} {v : Value} (hH : HRel ρ H h w) (D : Addend P ρ H w n tx m ys us v) {l : Loc} (hl : ρ l = .none) :
    Grown P t tx ty n ρ H (updH h l (some (.arr ys n))) w l none ys.length (.slice none 0 0) v := by
  have hs := D.src
  rw [← A.hsz] at hs
  intro hfit0
  have hfit : (0 + ys.length) * inf.bytes ≤ 140737488355328 := by rw [Nat.zero_add]; exact Nat.le_trans (Nat.mul_le_mul_left _ A.hby) hfit0
  by_cases hy : ys = []
  · subst hy
    refine ⟨_, _, run_app_nil t tx ty el inf A.ht A.hi v (flat us) (by simpa using hs), ?_⟩
    obtain ⟨k1, k2, k3⟩ := hH.virt hl n
    refine ⟨_, k1, k2, k3, fun l' hl' _ => updM_ne hl', ?_⟩
    rw [updM_self]
    exact ⟨rfl, rfl, rfl, rfl⟩
  · have hpos : 0 < ys.length := List.length_pos_iff.2 hy
    have hg := run_append_grow_src (P := P) w t tx ty el inf z A.ht A.hi A.hz none 0 0 [] (run_firstCells_none w.drew inf.size 0 0 0) v ys.length (flat us) hs (by omega)
      (by
        have h1 : (0 + ys.length) * 1 ≤ (0 + ys.length) * inf.bytes := Nat.mul_le_mul_left _ A.hb0
        omega)
      (growslice_fits (by omega) hfit)
    refine ⟨_, _, hg, ?_⟩
    obtain ⟨ρ', q1, q2, q3, q4, q5⟩ := app_push (n := n) A.hw1 A.hw0 hH hl D.rel D.junk D.size z.cells A.hzs (0 + ys.length) (grownCap w (0 + ys.length) 0 el) (by omega) (grownCap_ge ..) (by rw [Nat.zero_add]; exact hfit0)
    refine ⟨ρ', ?_, ?_, q3, fun l' hl' _ => q4 l' hl', ?_⟩
    · simpa using q1
    · simpa using q2
    · simpa using q5

theorem app_at {t tx ty : TypeId} {n : W} {el inf z d} (A : AppT P t tx n el inf z d) {m : List Loc} {ys : List V} {us : List Value} {v : Value} (hH : HRel ρ H h w) (D : Addend P ρ H w n tx m ys us v) {l l0 : Loc} (hl : ρ l = .none)
    {xs : List V} {b base size off len cap : Nat} (hl0 : h l0 = some (.arr xs n)) (hp : ρ l0 = .at_ b base n size) (hm : l0 ∉ m) (hle : off + len ≤ xs.length)
    (h1 : len ≤ cap) (h3 : base + (off + cap) * n.c ≤ size) (h4 : 1000000 ≤ n.w → off = 0 ∧ base = 0 ∧ cap * n.c = size) :
    Grown P t tx ty n ρ H (updH (updH h l0 none) l (some (.arr ((xs.drop off).take len ++ ys) n))) w l (some l0) (len + ys.length) (.slice (some ⟨b, base + off * n.c, Option.none⟩) len cap) v := by
  have hs := D.src
  rw [← A.hsz] at hs
  have hobj := hH.objs l0 _ hl0
  rw [hp] at hobj
  obtain ⟨_, arr, elem, fr, vs, hb, hsize, hvs, hj, hvz, hc, hty⟩ := hobj
  have hll : l0 ≠ l := fun e => by rw [e, hl] at hp; cases hp
  -- the old elements
  have holdl : (((vs.drop off).take len)).length = len := by rw [List.length_take, List.length_drop, ← hvs.length]; omega
  have holdz : ∀ u ∈ (vs.drop off).take len, u.cells.size = n.c := fun u hu => hvz u (List.mem_of_mem_drop (List.mem_of_mem_take hu))
  have holdr : VRels ρ H ((xs.drop off).take len) ((vs.drop off).take len) := (hvs.drop off).take len
  have holdj := any_take (any_drop hj off) len
  have hxl : ((xs.drop off).take len).length = len := by rw [List.length_take, List.length_drop]; omega
  have hcell : ∀ j u, (flat ((vs.drop off).take len))[j]? = some u → w.cell? ⟨b, base + off * n.c + j, Option.none⟩ = some u := fun j u hju => by
    have q := flat_take_get hju
    rw [flat_drop off hvz, List.getElem?_drop] at q
    have := hc _ _ q
    simp only [World.cell?, hb]
    simpa [Nat.add_assoc] using this
  have holdf : (flat ((vs.drop off).take len)).length = len * inf.size := by rw [flat_length holdz, holdl, A.hsz]
  have hold : (Builtin.firstCells inf.size len (.slice (some ⟨b, base + off * n.c, Option.none⟩) len cap)).run P w.drew = .ok (flat ((vs.drop off).take len)).toArray w.drew :=
    run_firstCells_some w.drew inf.size len _ len cap _ holdf (fun j u hj => by rw [add_at]; exact hcell j u hj)
  have hnew : VRels ρ H ((xs.drop off).take len ++ ys) ((vs.drop off).take len ++ us) := holdr.append D.rel
  have hnewj : ((xs.drop off).take len ++ ys).any ObjRel.isJunk = false := by rw [List.any_append, holdj, D.junk]; rfl
  have hnewz : ∀ u ∈ (vs.drop off).take len ++ us, u.cells.size = n.c := fun u hu => by
    rcases List.mem_append.1 hu with hu | hu
    · exact holdz u hu
    · exact D.size u hu
  intro hfit0
  have hfit : (len + ys.length) * inf.bytes ≤ 140737488355328 := Nat.le_trans (Nat.mul_le_mul_left _ A.hby) hfit0
  by_cases hroom : len + ys.length ≤ cap
  · -- there is room
    have hbound : base + off * n.c + len * n.c + (flat us).length ≤ arr.size := by
      rw [flat_length D.size, ← D.rel.length]
      have : (off + (len + ys.length)) * n.c ≤ (off + cap) * n.c := Nat.mul_le_mul_right _ (by omega)
      rw [Nat.add_mul, Nat.add_mul] at this
      omega
    have hst := run_storeCells_mine (P := P) b (base + off * n.c + len * n.c) elem fr (flat us) 0 arr.toList w hb (by simpa using hbound) (flat_all1 D.rel D.junk)
    simp only [Nat.add_zero] at hst
    have hr := run_app_in (P := P) (w := w) t tx ty el inf A.ht A.hi b (base + off * n.c) len cap v ys.length (flat us) hs hroom _ (by rw [A.hsz]; exact hst)
    refine ⟨_, _, hr, ?_⟩
    have hlt : b < w.heap.size := (Array.getElem?_eq_some_iff.1 hb).1
    obtain ⟨k1, k2, k3⟩ := hH.move (w' := { w with heap := w.heap.setIfInBounds b (.cells ⟨putL arr.toList (base + off * n.c + len * n.c) (flat us)⟩ elem (fr, fr)) }) (l := l0) (l' := l) (b := b) (by rw [hp]; rfl) hl
      (.arr ((xs.drop off).take len ++ ys) n) (.at_ b (base + off * n.c) n size) rfl ⟨rfl, rfl, rfl, by simp⟩ (fun q hq => by
        show (w.heap.setIfInBounds b _)[q]? = _
        rw [Array.getElem?_setIfInBounds_ne (Ne.symm hq)]) (by
        have hst' : Stays ρ (updM (updM ρ l0 .dead) l (.at_ b (base + off * n.c) n size)) := (Stays.upd .dead (.inr rfl)).trans (Stays.upd _ (.inl (by rw [updM_ne (Ne.symm hll)]; exact hl)))
        refine ⟨rfl, ⟨putL arr.toList (base + off * n.c + len * n.c) (flat us)⟩, elem, fr, (vs.drop off).take len ++ us, ?_, ?_, hnew.mono hst' (fun _ _ _ e => e), hnewj, hnewz, fun k u hk => ?_, fun hw => ⟨(hty hw).1, (hty hw).2.1, by rw [(h4 hw).1, (h4 hw).2.1, Nat.zero_mul], (hty hw).2.2.2⟩⟩
        · show (w.heap.setIfInBounds b _)[b]? = _
          rw [Array.getElem?_setIfInBounds_self]
          simp [hlt]
        · rw [← hsize]; simp [putL_length]
        · rw [flat_append] at hk
          rw [List.getElem?_toArray, putL_get _ _ _ _ (by simpa using hbound)]
          have hfl : (flat ((vs.drop off).take len)).length = len * n.c := by rw [holdf, A.hsz]
          by_cases hkl : k < len * n.c
          · rw [List.getElem?_append_left (by omega)] at hk
            rw [if_neg (by omega)]
            have := hcell k u hk
            simp only [World.cell?, hb] at this
            simpa using this
          · rw [List.getElem?_append_right (by omega), hfl] at hk
            have hlt2 := (List.getElem?_eq_some_iff.1 hk).1
            rw [if_pos (by omega)]
            have : base + off * n.c + k - (base + off * n.c + len * n.c) = k - len * n.c := by omega
            rw [this]
            exact hk)
    refine ⟨_, k1, k2, k3, fun l' hl' hl'' => ?_, ?_⟩
    · rw [updM_ne hl', updM_ne (fun e => hl'' (by rw [e]))]
    · rw [updM_self]
      refine ⟨rfl, cap, by simp, hroom, hfit0, ?_, ?_, fun hw => ⟨rfl, by rw [(h4 hw).1, (h4 hw).2.1, Nat.zero_mul], (h4 hw).2.2⟩⟩
      · rw [Nat.zero_add]
        rw [Nat.add_mul] at h3
        omega
      · have : (len + ys.length) * 1 ≤ (len + ys.length) * n.w := Nat.mul_le_mul_left _ (Nat.pos_of_ne_zero A.hw0)
        omega
  · -- a new block
    have hg := run_append_grow_src (P := P) w t tx ty el inf z A.ht A.hi A.hz _ len cap _ hold v ys.length (flat us) hs (by omega)
      (by
        have h1 : (len + ys.length) * 1 ≤ (len + ys.length) * inf.bytes := Nat.mul_le_mul_left _ A.hb0
        omega)
      (growslice_fits (by omega) hfit)
    refine ⟨_, _, hg, ?_⟩
    obtain ⟨k1, k2, k3⟩ := hH.kill l0
    obtain ⟨ρ', q1, q2, q3, q4, q5⟩ := app_push (n := n) A.hw1 A.hw0 k1 (l := l) (by rw [updM_ne (Ne.symm hll)]; exact hl) (hnew.mono k3 (fun _ _ _ e => e)) hnewj hnewz z.cells A.hzs (len + ys.length) (grownCap w (len + ys.length) cap el)
      (by rw [List.length_append, hxl]) (grownCap_ge ..) hfit0
    rw [flat_append] at q1 q2
    exact ⟨ρ', q1, k2.trans q2, k3.trans q3, fun l' hl' hl'' => by rw [q4 l' hl', updM_ne (fun e => hl'' (by rw [e]))], q5⟩

theorem Sound.grown {c : Call} {x y : Operand} {t tx : TypeId} {n : W} {h' : Loc → Option Obj} {dead : Option Loc} {need : Nat} {e : Eff} (hop : o.op = .call c) (hc : c.callee = .builtin .append) (ha : c.args = #[x, y]) (ht : c.argTypes = #[t, tx])
    (g : Grown P t tx o.type n ρ H h' w (.n i 0) dead need (a.eval x) (a.eval y)) (hf : need * n.w ≤ lots) (hev : e.v = .ref (.n i 0) n 0 need) (hwr : applyW h e.wr = h') (hdead : ∀ l, dead = some l → ρ l ≠ .none) :
    Sound P o a w ρ H h i (.ok e) := by
  obtain ⟨v', w', g1, ρ', g2, g3, g4, g5, g6⟩ := g hf
  refine Sound.of (run_app hop hc ha ht g1) ⟨by rw [hwr]; exact g2, g3, g4, fun l h1 h2 => ?_, by rw [hev]; exact g6⟩
  by_cases hl : l = .n i 0
  · exact ⟨0, hl⟩
  · exfalso
    by_cases hd : dead = some l
    · exact hdead l hd h1
    · rw [g5 l hl hd] at h2
      exact h2 h1

theorem s_app {n x y} (hH : HRel ρ H h w) (hE : EnvRel B ds fx ρ H N env a) (hN : ∀ k, ρ (.n i k) = .none) (hok : ok_app n x y P o.op = true) (e : exec T cf i (.app n x y) (evO env) h = some r) : Sound P o a w ρ H h i r := by
  unfold ok_app at hok
  split at hok
  · rename_i c hop
    simp only [Bool.and_eq_true] at hok
    obtain ⟨hok1, hok2⟩ := hok
    have hc : c.callee = .builtin .append := by
      split at hok1
      · assumption
      · cases hok1
    split at hok2
    · rename_i x' y' t tx ha ht
      simp only [Bool.and_eq_true, decide_eq_true_eq] at hok2
      obtain ⟨⟨⟨⟨⟨⟨h1, h2⟩, h3⟩, h4⟩, h5⟩, h6⟩, h7⟩ := hok2
      have ha' : c.args = #[x', y'] := Array.toList_inj.1 ha
      have ht' : c.argTypes = #[t, tx] := Array.toList_inj.1 ht
      obtain ⟨el, inf, hu, hi, hsz, hby, hb0, hsm⟩ := sliceIsT.get h3 h5
      have htx : ∃ d, P.underlying tx = some d ∧ (∀ k, d ≠ .int k) ∧ ((∃ e', P.underlying tx = some (.slice e')) ∨ P.underlying tx = some .string) := by
        cases hq : P.underlying tx with
        | none => rw [hq] at h6; cases h6
        | some d =>
          rw [hq] at h6
          cases d <;> first | exact ⟨_, rfl, (fun k h => by cases h), .inl ⟨_, rfl⟩⟩ | exact ⟨_, rfl, (fun k h => by cases h), .inr rfl⟩ | cases h6
      obtain ⟨d, hd1, hd2, hd3⟩ := htx
      rw [hu] at h7
      simp only [hi] at h7
      cases hz : inf.zero with
      | none => rw [hz] at h7; cases h7
      | some z =>
      rw [hz] at h7
      simp only [decide_eq_true_eq] at h7
      have A : AppT P t tx n el inf z d := ⟨hu, hi, hz, hd1, hd2, hsz, hby, hb0, h7, h4, h5, hsm⟩
      -- what is appended
      have main : ∀ vy, evO env y = some vy → ∀ (fx : Option V), (fx = none ∧ a.eval x' = .slice Option.none 0 0 ∨ ∃ vx, fx = some vx ∧ VRel ρ H vx (a.eval x')) → appV h i n fx vy = some r → Sound P o a w ρ H h i r := by
        intro vy ey fx hfx er
        have hy := okO_rel hE h2 ey
        unfold appV at er
        split at er
        · cases er
        · rename_i ys m he
          split at er
          · rename_i hall
            obtain ⟨us, D⟩ := addend_of h4 hH hy he hall hd3
            rcases hfx with ⟨rfl, hx⟩ | ⟨vx, rfl, hx⟩
            · have g := app_none (ty := o.type) A hH D (hN 0)
              rw [← hx] at g
              simp only at er
              split at er
              · rename_i hf
                cases er
                exact Sound.grown (h := h) (i := i) (e := { v := .ref (.n i 0) n 0 ys.length, rd := m, wr := [(.n i 0, some (.arr ys n))] }) hop hc ha' ht' g hf rfl rfl (fun l hl => by cases hl)
              · cases er
            · cases vx with
              | ref l sz off len =>
                simp only at er
                split at er
                · rename_i xs sz' hl
                  split at er
                  · rename_i hcond
                    obtain ⟨rfl, hle, hm⟩ := hcond
                    have hx : RefAt (ρ l) sz off len (a.eval x') := hx
                    have hobj := hH.objs l _ hl
                    have fin : Grown P t tx o.type sz ρ H (updH (updH h l none) (.n i 0) (some (.arr ((xs.drop off).take len ++ ys) sz))) w (.n i 0) (some l) (len + ys.length) (a.eval x') (a.eval y') → ρ l ≠ .none → Sound P o a w ρ H h i r := by
                      intro g hne
                      split at er
                      · rename_i hf
                        cases er
                        exact Sound.grown (h := h) (i := i) (e := { v := .ref (.n i 0) sz 0 (len + ys.length), rd := l :: m, wr := [(l, none), (.n i 0, some (.arr ((xs.drop off).take len ++ ys) sz))] }) hop hc ha' ht' g hf rfl rfl (fun l' hl' => by cases hl'; exact hne)
                      · cases er
                    cases hp : ρ l with
                    | none => rw [hp] at hx; exact hx.elim
                    | dead => rw [hp] at hobj; exact hobj.elim
                    | blk q => rw [hp] at hx; exact hx.elim
                    | virt s =>
                      rw [hp] at hobj hx
                      obtain ⟨rfl, _⟩ := hobj
                      obtain ⟨_, rfl, rfl, hx2⟩ := hx
                      have hll : l ≠ .n i 0 := fun e => by rw [e, hN 0] at hp; cases hp
                      refine fin ?_ (by rw [hp]; intro h; cases h)
                      obtain ⟨k1, k2, k3⟩ := hH.kill l
                      have D' : Addend P (updM ρ l .dead) H w sz tx m ys us (a.eval y') := ⟨D.rel.mono k3 (fun _ _ _ e => e), D.junk, D.size, D.src, D.len, fun base sLen g1 g2 g3 => D.share base sLen g1 g2 fun q hq => by
                        obtain ⟨r1, r2, l', r3, r4⟩ := g3 q hq
                        refine ⟨r1, r2, l', ?_, r4⟩
                        by_cases hl' : l' = l
                        · rw [hl', updM_self] at r3; cases r3
                        · rw [updM_ne hl'] at r3; exact r3⟩
                      have g := app_none (ty := o.type) A k1 D' (l := .n i 0) (by rw [updM_ne (Ne.symm hll)]; exact hN 0)
                      rw [hx2]
                      intro hf
                      obtain ⟨v', w', g1, ρ', g2, g3, g4, g5, g6⟩ := g (by simpa using hf)
                      refine ⟨v', w', g1, ρ', ?_, k2.trans g3, k3.trans g4, fun l' hl' hl'' => ?_, ?_⟩
                      · simpa using g2
                      · rw [g5 l' hl' (by intro h; cases h), updM_ne (fun e => hl'' (by rw [e]))]
                      · simpa using g6
                    | at_ b base s size =>
                      rw [hp] at hobj hx
                      obtain ⟨rfl, _⟩ := hobj
                      obtain ⟨rfl, cap, hx2, q1, q2, q3, q4, q5⟩ := hx
                      refine fin ?_ (by rw [hp]; intro h; cases h)
                      rw [hx2]
                      exact app_at (ty := o.type) A hH D (hN 0) hl hp hm hle q1 q3 q5
                  · cases er
                · cases er
              | _ => cases er
          · cases er
      cases x with
      | none =>
        obtain ⟨vy, ey, er⟩ := bnd_eq e
        refine main vy ey none (.inl ⟨rfl, ?_⟩) er
        split at h1
        · rename_i hh; cases hh
        · split at h1
          · rfl
          · cases h1
      | some q =>
        obtain ⟨vx, ex, e2⟩ := bnd_eq e
        obtain ⟨vy, ey, er⟩ := bnd_eq e2
        exact main vy ey (some vx) (.inr ⟨vx, rfl, okO_rel hE h1 ex⟩) er
    · cases hok2
  · cases hok
end
end Go.Rf

/- Every operation; operations in a row. -/
namespace Go.Rf
variable {B : Ice} {ds : List Deferred} {fx : List (Nat × Value)}

def okOp (P : Program) : AOp → Op → Bool
  | .mv x => ok_mv x
  | .own n => ok_own n
  | .pick c x y => ok_pick c x y
  | .alloc z own => ok_alloc z own P
  | .allocT t z own => ok_allocT t z own P
  | .box n x => ok_box n x P
  | .build z ps own => ok_build z ps own P
  | .buildSl n z len ps => ok_buildSl n z len ps P
  | .load n ag x => ok_load n ag x P
  | .store n x y => ok_store n x y P
  | .nilCk x => ok_nilCk x
  | .bin op x y => ok_bin op x y
  | .un op x => ok_un op x
  | .isN eq ifc x => ok_isN eq ifc x P
  | .eqB eq x y => ok_eqB eq x y P
  | .conv (.int k) x => ok_convI k x P
  | .conv .rune x => ok_convR x P
  | .conv .b2s x => ok_b2s x P
  | .mkI t x => ok_mkI t x P
  | .mkF f cap => ok_mkF f cap
  | .mkSl n z len cap => ok_mkSl n z len cap P
  | .slice n x lo hi => ok_slice n x lo hi P
  | .fieldA off n ag x => ok_fieldA off n ag x P
  | .field off n ag x => ok_field off n ag x P
  | .idxA n x k => ok_idxA n x k P
  | .idxS x k => ok_idxS x k P
  | .extract x k => ok_extract x k
  | .tass t ok z x => ok_tass t ok z x P
  | .call f args => ok_call f args P
  | .callV f args => ok_callV f args
  | .inv _ _ _ => fun _ => false
  | .len s x => ok_len s x P
  | .app n x y => ok_app n x y P
  | .mx x y => ok_mx x y
  | .panic x => ok_panic x
  | .range x => ok_range x P
  | .next x => ok_next x
  | .mkMap => ok_mkMap
  | .look _ _ _ => fun _ => false
  | .upd _ _ _ => fun _ => false

section
variable {P : Program} {T : Tab} {cf : CF} {o : Oper} {a : Act} {w : World} {ρ : Map} {H : Ice} {h : Loc → Option Obj} {i N : Nat} {env : List (Nat × V)} {r : R}

theorem exec_sound {op : AOp} (hcf : CFOk B P cf) (hfs : ∀ g vs hp r, cf g vs hp = some r → funOk P g = true) (hH : HRel ρ H h w) (hE : EnvRel B ds fx ρ H N env a) (hN : ∀ k, ρ (.n i k) = .none) (hok : okOp P op o.op = true)
    (e : exec T cf i op (evO env) h = some r) : Sound P o a w ρ H h i r := by
  cases op with
  | mv x => exact s_mv hH hE hok e
  | own n => exact s_own hH hN hok e
  | pick c x y => exact s_pick hH hE hok e
  | alloc z own => exact s_alloc hH hN hok e
  | allocT t z own => exact s_allocT hH hN hok e
  | box n x => exact s_box hH hE hN hok e
  | build z ps own => exact s_build hH hE hN hok e
  | buildSl n z len ps => exact s_buildSl hH hE hN hok e
  | load n ag x => exact s_load hH hE hok e
  | store n x y => exact s_store hH hE hok e
  | nilCk x => exact s_nilCk hH hE hok e
  | bin op x y => exact s_bin hH hE hok e
  | un op x => exact s_un hH hE hok e
  | isN eq ifc x => exact s_isN hH hE hok e
  | eqB eq x y => exact s_eqB hH hE hok e
  | conv k x =>
    cases k with
    | int k => exact s_convI hH hE hok e
    | rune => exact s_convR hH hE hok e
    | b2s => exact s_b2s hH hE hok e
  | mkI t x => exact s_mkI hH hE hok e
  | mkF f cap => exact s_mkF hH hE hok e
  | mkSl n z len cap => exact s_mkSl hH hE hN hok e
  | slice n x lo hi => exact s_slice hH hE hok e
  | fieldA off n ag x => exact s_fieldA hH hE hok e
  | field off n ag x => exact s_field hH hE hok e
  | idxA n x k => exact s_idxA hH hE hok e
  | idxS x k => exact s_idxS hH hE hok e
  | extract x k => exact s_extract hH hE hok e
  | tass t ok z x => exact s_tass hH hE hok e
  | call f args => exact s_call hcf hH hE hN hok e
  | callV f args => exact s_callV hcf hH hE hN hfs hok e
  | inv m x args => cases hok
  | len s x => exact s_len hH hE hok e
  | app n x y => exact s_app hH hE hN hok e
  | mx x y => exact s_mx hH hE hok e
  | panic x => exact s_panic hH hE hok e
  | range x => exact s_range hH hE hN hok e
  | next x => exact s_next hH hE hok e
  | mkMap => exact s_mkMap hH hN hok e
  | look z x k => cases hok
  | upd x k v => cases hok
end

/-! ### Guards -/
def okG (ops : Array Oper) : Option (Nat × Bool) → Option (Nat × Bool) → Bool
  | none, none => true
  | some (j, b), some (t, c) => decide ((ops[j]?).bind (·.dst) = some t) && decide (b = c)
  | _, _ => false

def okIns (P : Program) (N : Nat) (ops : Array Oper) (o : Oper) (ai : AIns) : Bool :=
  okOp P ai.op o.op && decide (o.dst = ai.dst) && (match ai.dst with | some t => decide (t < N) | none => true) && okG ops o.guard ai.guard

section
variable {P : Program} {T : Tab} {cf : CF} {N : Nat} {ops : Array Oper}

theorem wanted_rel {ρ H env a} {o : Oper} {g : Option (Nat × Bool)} {b : Bool} (hE : EnvRel B ds fx ρ H N env a) (hok : okG ops o.guard g = true) (e : wanted env g = some b) : Region.wanted o (yielded ops a.tmps) = b := by
  unfold okG at hok
  split at hok
  · rename_i hg
    cases e
    simp [Region.wanted, hg]
  · rename_i j b' t c hg
    simp only [Bool.and_eq_true, decide_eq_true_eq] at hok
    obtain ⟨h1, rfl⟩ := hok
    simp only [wanted] at e
    unfold Region.wanted
    rw [hg]
    simp only
    unfold yielded
    rw [h1]
    simp only [Option.bind_some]
    split at e
    · rename_i q hq
      cases e
      have hv : a.tmps.getD t undef = .bool q := hE.rel t _ hq
      have : a.tmps[t]? = some (.bool q) := by
        rw [Array.getD_eq_getD_getElem?] at hv
        cases ht : a.tmps[t]? with
        | none => rw [ht] at hv; cases hv
        | some x => rw [ht] at hv; simp at hv; rw [hv]
      rw [this]
      rfl
    · rename_i hq
      cases e
      obtain ⟨us, hv, hu⟩ := hE.rel t _ hq
      cases hu
      cases ht : a.tmps[t]? with
      | none => rfl
      | some x =>
        rw [Array.getD_eq_getD_getElem?, ht] at hv
        simp at hv
        subst hv
        rfl
    · cases e
  · cases hok

/-- After operations in a row. -/
def PostL (B : Ice) (ds : List Deferred) (fx : List (Nat × Value)) (ρ : Map) (H : Ice) (w : World) (N : Nat) (L : List AIns) (Q : Exit → Act → World → Prop) : RR → Prop
  | .nrm s' => ∀ ρ' H' a' w', HRel ρ' H' s'.h w' → EnvRel B ds fx ρ' H' N s'.env a' → Trans ρ H w ρ' H' w' → Stays ρ ρ' → (∀ l, ρ l = .none → ρ' l ≠ .none → ∃ ai ∈ L, ∃ k, l = .n ai.i k) → Q .normal a' w'
  | .pan _ v s' => ∀ ρ' H' a' w' u, HRel ρ' H' s'.h w' → a'.defers = ds → (∀ t u, (t, u) ∈ fx → a'.tmps.getD t undef = u) → Trans ρ H w ρ' H' w' → Stays ρ ρ' → (∀ l, ρ l = .none → ρ' l ≠ .none → ∃ ai ∈ L, ∃ k, l = .n ai.i k) → VRel ρ' H' v u → Q (.panic [{ v := u, recovered := false }]) a' w'
  | .out => LetsOut Q

theorem runL_sound (hcf : CFOk B P cf) (hfs : ∀ g vs hp r, cf g vs hp = some r → funOk P g = true) {Q : Exit → Act → World → Prop} : ∀ (L : List AIns) (s : RS) (rs : List Rec) (rr : RR) (rs' : List Rec),
    (∀ ai ∈ L, ∃ o, ops[ai.i]? = some o ∧ okIns P N ops o ai = true) → (L.map (·.i)).Nodup → (∀ ai ∈ L, ∀ x ∈ fx, ai.dst ≠ some x.1) → runL T cf L s rs = some (rr, rs') →
    ∀ ρ H w a, HRel ρ H s.h w → EnvRel B ds fx ρ H N s.env a → (∀ ai ∈ L, ∀ k, ρ (.n ai.i k) = .none) → PostL B ds fx ρ H w N L Q rr → wpOps P ops Q (L.map (·.i)) a w
  | [], s, rs, rr, rs', _, _, _, e, ρ, H, w, a, hH, hE, _, hp => by
    cases e
    exact hp ρ H a w hH hE (Trans.refl ..) (Stays.refl _) (fun l h1 h2 => (h2 h1).elim)
  | ai :: L, s, rs, rr, rs', hL, hnd, hav, e, ρ, H, w, a, hH, hE, hN, hp => by
    obtain ⟨o, ho, hok⟩ := hL ai (List.mem_cons_self ..)
    simp only [okIns, Bool.and_eq_true, decide_eq_true_eq] at hok
    obtain ⟨⟨⟨k1, k2⟩, k3⟩, k4⟩ := hok
    rw [List.map_cons, List.nodup_cons] at hnd
    simp only [runL] at e
    obtain ⟨x, e1, e2⟩ := bnd_eq e
    simp only [step] at e1
    obtain ⟨b, e3, e4⟩ := bnd_eq e1
    have hw := wanted_rel (ops := ops) (o := o) hE k4 e3
    have hdst : ∀ t, o.dst = some t → t < N ∧ ∀ x ∈ fx, x.1 ≠ t := fun t ht => by
      rw [k2] at ht
      refine ⟨?_, fun x hx he => hav ai (List.mem_cons_self ..) x hx (by rw [ht, he])⟩
      rw [ht] at k3
      simpa using k3
    simp only [List.map_cons, wpOps, ho]
    rw [hw]
    cases b with
    | false =>
      simp only [sel_false] at e4
      cases e4
      simp only [Bool.false_eq_true, if_false]
      refine runL_sound hcf hfs L _ _ rr rs' (fun x hx => hL x (List.mem_cons_of_mem _ hx)) hnd.2 (fun y hy => hav y (List.mem_cons_of_mem _ hy)) e2 ρ H w _ hH (by rw [← k2]; exact hE.put o.dst hdst ⟨[], rfl, rfl⟩) (fun x hx => hN x (List.mem_cons_of_mem _ hx)) ?_
      cases rr with
      | nrm s' => exact fun ρ' H' a' w' q1 q2 q3 q4 q5 => hp ρ' H' a' w' q1 q2 q3 q4 (fun l h1 h2 => by obtain ⟨x, hx, h3⟩ := q5 l h1 h2; exact ⟨x, List.mem_cons_of_mem _ hx, h3⟩)
      | pan j v s' => exact fun ρ' H' a' w' u q1 q2 q2' q3 q4 q5 => hp ρ' H' a' w' u q1 q2 q2' q3 q4 (fun l h1 h2 => by obtain ⟨x, hx, h3⟩ := q5 l h1 h2; exact ⟨x, List.mem_cons_of_mem _ hx, h3⟩)
      | out => exact hp
    | true =>
      simp only [sel_true] at e4
      obtain ⟨r, e5, e6⟩ := bnd_eq e4
      cases e6
      simp only [if_true]
      have hs := exec_sound (o := o) hcf hfs hH hE (hN ai (List.mem_cons_self ..)) k1 e5
      refine hs _ _ ?_
      cases r with
      | out =>
        simp only [stepR, onSR] at e2
        cases e2
        exact hp
      | pan ev =>
        intro ρ' H' v w' hpost
        simp only [stepR, onSR] at e2
        cases e2
        exact hp ρ' H' a w' v hpost.heap hE.defers hE.fix hpost.trans hpost.stays (fun l h1 h2 => by obtain ⟨k, hk⟩ := hpost.new l h1 h2; exact ⟨ai, List.mem_cons_self .., k, hk⟩) hpost.val
      | ok ev =>
        intro ρ' H' v w' hpost
        simp only [stepR, onSR] at e2
        have hle := hpost.trans.le hH
        refine runL_sound hcf hfs L _ _ rr rs' (fun x hx => hL x (List.mem_cons_of_mem _ hx)) hnd.2 (fun y hy => hav y (List.mem_cons_of_mem _ hy)) e2 ρ' H' w' _ hpost.heap (by rw [← k2]; exact (hE.mono hpost.stays hle).put o.dst hdst hpost.val) (fun x hx k => ?_) ?_
        · cases hq : ρ' (.n x.i k) with
          | none => rfl
          | _ =>
            exfalso
            obtain ⟨k', hk'⟩ := hpost.new _ (hN x (List.mem_cons_of_mem _ hx) k) (by rw [hq]; intro h; cases h)
            injection hk' with hk' _
            exact hnd.1 (hk' ▸ List.mem_map_of_mem hx)
        · have new : ∀ {ρ2 : Map}, (∀ l, ρ' l = .none → ρ2 l ≠ .none → ∃ x ∈ L, ∃ k, l = Loc.n x.i k) → ∀ l, ρ l = .none → ρ2 l ≠ .none → ∃ x ∈ ai :: L, ∃ k, l = Loc.n x.i k := fun q5 l h1 h2 => by
            by_cases h3 : ρ' l = .none
            · obtain ⟨x, hx, h4⟩ := q5 l h3 h2; exact ⟨x, List.mem_cons_of_mem _ hx, h4⟩
            · obtain ⟨k, hk⟩ := hpost.new l h1 h3; exact ⟨ai, List.mem_cons_self .., k, hk⟩
          cases rr with
          | nrm s' => exact fun ρ2 H2 a2 w2 q1 q2 q3 q4 q5 => hp ρ2 H2 a2 w2 q1 q2 (hpost.trans.trans q3) (hpost.stays.trans q4) (new q5)
          | pan j v s' => exact fun ρ2 H2 a2 w2 u q1 q2 q2' q3 q4 q5 => hp ρ2 H2 a2 w2 u q1 q2 q2' (hpost.trans.trans q3) (hpost.stays.trans q4) (new q5)
          | out => exact hp
end
end Go.Rf

/- Code: how a region ends; states between regions. -/
namespace Go.Rf
variable {B : Ice} {ds : List Deferred} {fx : List (Nat × Value)}

structure StRel (B : Ice) (ds : List Deferred) (fx : List (Nat × Value)) (ρ : Map) (H : Ice) (N : Nat) (st : St) (a : Act) (w : World) : Prop where
  heap : HRel ρ H (ofList st.heap) w
  env : EnvRel B ds fx ρ H N st.env a
  only : ∀ l, ρ l ≠ .none → ∃ k, k < st.heap.length ∧ l = .b k

/-- The objects that came in stay, or are gone. -/
def StaysP (p : Nat) (ρ ρ' : Map) : Prop := ∀ k, k < p → ρ (.b k) ≠ .none → ρ' (.b k) = ρ (.b k) ∨ ρ' (.b k) = .dead

theorem StaysP.refl (p ρ) : StaysP p ρ ρ := fun _ _ _ => .inl rfl
theorem Stays.toP {ρ ρ' : Map} (h : Stays ρ ρ') (p : Nat) : StaysP p ρ ρ' := fun _ _ hk => h _ hk
theorem StaysP.trans {p ρ ρ1 ρ2} (h : StaysP p ρ ρ1) (k : StaysP p ρ1 ρ2) : StaysP p ρ ρ2 := fun j hj hn => by
  rcases h j hj hn with e | e
  · rw [← e] at hn ⊢
    exact k j hj hn
  · rcases k j hj (by rw [e]; intro h; cases h) with e' | e'
    · exact .inr (e'.trans e)
    · exact .inr e'

theorem pins_get {n k : Nat} (h : k < n) : (pins n)[k]? = some (.b k) := by simp [pins, h]
theorem pins_nodup (n : Nat) : (pins n).Nodup := by
  unfold pins
  rw [List.Nodup, List.pairwise_map]
  exact List.Pairwise.imp (fun h e => h (by injection e)) List.nodup_range
theorem pins_length (n : Nat) : (pins n).length = n := by simp [pins]

theorem renM_trans {ρ : Map} {H : Ice} {w : World} (M : List Loc) : Trans ρ H w (renM ρ M) H w := ⟨rfl, rfl, rfl, Nat.le_refl _, fun _ _ _ => ⟨rfl, fun _ => rfl⟩, fun l b h => by
  cases l with
  | n i k => cases h
  | b k =>
    simp only [renM] at h
    split at h
    · rename_i l _; exact .inr ⟨l, h⟩
    · cases h⟩

theorem renM_stays {ρ : Map} {p : Nat} {M : List Loc} (h : pins p <+: M) : StaysP p ρ (renM ρ M) := fun k hk _ => .inl (renM_b (pre_get h (pins_get hk)))

theorem renM_only {ρ : Map} {M : List Loc} {n : Nat} (hn : n = M.length) : ∀ l, renM ρ M l ≠ .none → ∃ k, k < n ∧ l = .b k := fun l hl => by
  cases l with
  | n i k => exact (hl rfl).elim
  | b k =>
    refine ⟨k, ?_, rfl⟩
    by_cases hk : k < n
    · exact hk
    · exfalso
      apply hl
      have : M[k]? = none := List.getElem?_eq_none_iff.2 (by omega)
      simp only [renM, this]

theorem kept_rel {ρ : Map} {H : Ice} {N : Nat} {env : List (Nat × V)} {a : Act} (hE : EnvRel B ds fx ρ H N env a) : ∀ keep : List Nat, VRels ρ H (keptE env keep).2 ((keptE env keep).1.map fun t => a.tmps.getD t undef)
  | [] => rfl
  | t :: ks => by
    have ih := kept_rel hE ks
    simp only [keptE]
    cases hg : getE env t with
    | none => exact ih
    | some v =>
      cases hk : keptE env ks with
      | mk ts vs =>
        rw [hk] at ih
        exact ⟨_, _, rfl, hE.rel t v hg, ih⟩

theorem zip_rel {ρ : Map} {H : Ice} {f : Nat → Value} : ∀ {ts : List Nat} {vs : List V}, VRels ρ H vs (ts.map f) → ∀ t v, getE (ts.zip vs) t = some v → VRel ρ H v (f t)
  | [], vs, k, t, v, e => by simp [getE] at e
  | s :: ts, vs, k, t, v, e => by
    cases vs with
    | nil => simp [VRels] at k
    | cons x vs =>
      obtain ⟨u, us, hu, k1, k2⟩ := k
      simp only [List.map_cons, List.cons.injEq] at hu
      obtain ⟨rfl, rfl⟩ := hu
      simp only [List.zip_cons_cons, getE] at e
      split at e
      · rename_i h; cases e; subst h; exact k1
      · exact zip_rel k2 t v e

/-- The state after a renaming. -/
theorem endR_rel {ρ : Map} {H : Ice} {N p : Nat} {keep : List Nat} {env : List (Nat × V)} {h : Loc → Option Obj} {a : Act} {w : World} {st : St} (hH : HRel ρ H h w) (hE : EnvRel B ds fx ρ H N env a) (e : endR p keep env h = some st) :
    ∃ M, StRel B ds fx (renM ρ M) H N st a w ∧ StaysP p ρ (renM ρ M) ∧ Trans ρ H w (renM ρ M) H w ∧ p ≤ st.heap.length := by
  obtain ⟨⟨vs', os, M⟩, e1, e2⟩ := bnd_eq e
  cases e2
  obtain ⟨n1, n2, n3, n4, n5⟩ := norm_rel hH (pins_nodup p) e1
  have hk := n2 _ (kept_rel hE keep)
  refine ⟨M, ⟨n1, ⟨hE.size, hE.defers, fun t v hg => ?_, hE.base, hE.fix⟩, renM_only n5⟩, renM_stays n3, renM_trans M, ?_⟩
  · exact zip_rel hk t v hg
  · have := n3.length_le
    rw [pins_length] at this
    simp only
    omega

/-- What follows after code. -/
def PostC (B : Ice) (ds : List Deferred) (fx : List (Nat × Value)) (ρ : Map) (H : Ice) (w : World) (N p : Nat) (Q : Exit → Act → World → Prop) : Ex × St → Prop
  | (.nrm, st) => ∀ ρ' H' a' w', StRel B ds fx ρ' H' N st a' w' → Trans ρ H w ρ' H' w' → StaysP p ρ ρ' → p ≤ st.heap.length → Q .normal a' w'
  | (.exit id, st) => ∀ ρ' H' a' w', StRel B ds fx ρ' H' N st a' w' → Trans ρ H w ρ' H' w' → StaysP p ρ ρ' → p ≤ st.heap.length → Q (.exit id) a' w'
  | (.ret, st) => ∀ ρ' H' a' w', StRel B ds fx ρ' H' N st a' w' → Trans ρ H w ρ' H' w' → StaysP p ρ ρ' → p ≤ st.heap.length → Q .ret a' w'
  | (.pan v, st) => ∀ ρ' H' a' w' u, HRel ρ' H' (ofList st.heap) w' → (∀ l, ρ' l ≠ .none → ∃ k, k < st.heap.length ∧ l = .b k) → VRel ρ' H' v u → a'.defers = ds → (∀ t u, (t, u) ∈ fx → a'.tmps.getD t undef = u) → Trans ρ H w ρ' H' w' → StaysP p ρ ρ' → p ≤ st.heap.length → Q (.panic [{ v := u, recovered := false }]) a' w'
  | (.out, _) => LetsOut Q

theorem PostC.shift {ρ ρ1 : Map} {H H1 : Ice} {w w1 : World} {N p : Nat} {Q : Exit → Act → World → Prop} {x : Ex × St} (h : PostC B ds fx ρ H w N p Q x) (ht : Trans ρ H w ρ1 H1 w1) (hs : StaysP p ρ ρ1) : PostC B ds fx ρ1 H1 w1 N p Q x := by
  obtain ⟨e, st⟩ := x
  cases e with
  | nrm => exact fun ρ' H' a' w' q1 q2 q3 q4 => h ρ' H' a' w' q1 (ht.trans q2) (hs.trans q3) q4
  | exit id => exact fun ρ' H' a' w' q1 q2 q3 q4 => h ρ' H' a' w' q1 (ht.trans q2) (hs.trans q3) q4
  | ret => exact fun ρ' H' a' w' q1 q2 q3 q4 => h ρ' H' a' w' q1 (ht.trans q2) (hs.trans q3) q4
  | pan v => exact fun ρ' H' a' w' u q1 q2 q3 q3' q3x q4 q5 q6 => h ρ' H' a' w' u q1 q2 q3 q3' q3x (ht.trans q4) (hs.trans q5) q6
  | out => exact h
theorem endP_rel {ρ : Map} {H : Ice} {p : Nat} {v : V} {u : Value} {h : Loc → Option Obj} {w : World} {ex : Ex} {st : St} (hH : HRel ρ H h w) (hv : VRel ρ H v u) (e : endP p v h = some (ex, st)) :
    ∃ x ρ' H', ex = .pan x ∧ HRel ρ' H' (ofList st.heap) w ∧ (∀ l, ρ' l ≠ .none → ∃ k, k < st.heap.length ∧ l = .b k) ∧ VRel ρ' H' x u ∧ Trans ρ H w ρ' H' w ∧ StaysP p ρ ρ' ∧ p ≤ st.heap.length := by
  obtain ⟨⟨x, fm⟩, e1, e2⟩ := bnd_eq e
  split at e2
  · obtain ⟨⟨vs', os, M⟩, e3, e4⟩ := bnd_eq e2
    cases e4
    obtain ⟨f1, f2, f3, f4⟩ := freeze_heap hH fm
    obtain ⟨n1, n2, n3, n4, n5⟩ := norm_rel f1 (pins_nodup p) e3
    refine ⟨.d x, renM (killM ρ fm) M, iceOf ρ H w fm, rfl, n1, fun l hl => ?_, (frz_rel hH 24 v x fm e1).2.2 fm (fun _ h => h) u hv, f2.trans (renM_trans M), (f3.toP p).trans (renM_stays n3), ?_⟩
    · exact renM_only n5 l hl
    · have := n3.length_le
      rw [pins_length] at this
      simp only
      omega
  · cases e2

end Go.Rf

/- A part of the heap alone: what is done there leaves the rest. -/
namespace Go.Rf

mutual
def locsV : V → List Loc
  | .d _ => []
  | .ref l _ _ _ => [l]
  | .ptr l _ _ => [l]
  | .agg cs => locsVs cs
  | .iface _ x => locsV x
  | .fn _ cs => locsVs cs
  | .tup cs => locsVs cs
  | .map l => [l]
  | .iter l => [l]
  | .junk => []
def locsVs : List V → List Loc
  | [] => []
  | v :: vs => locsV v ++ locsVs vs
end

def locsE : List (D × V) → List Loc
  | [] => []
  | (_, v) :: es => locsV v ++ locsE es

def locsO : Obj → List Loc
  | .arr xs _ => locsVs xs
  | .map es => locsE es
  | _ => []

mutual
theorem VRel.congr {ρ ρ' : Map} {H : Ice} : ∀ (x : V) {v : Value}, (∀ l ∈ locsV x, ρ l = ρ' l) → VRel ρ H x v → VRel ρ' H x v
  | .d _, _, _, k => k
  | .ref l _ _ _, _, h, k => by
    simp only [VRel] at k ⊢
    rw [← h l (by simp [locsV])]; exact k
  | .ptr l _ _, _, h, k => by
    simp only [VRel] at k ⊢
    rw [← h l (by simp [locsV])]; exact k
  | .map l, _, h, k => by
    simp only [VRel] at k ⊢
    rw [← h l (by simp [locsV])]; exact k
  | .iter l, _, h, k => by
    simp only [VRel] at k ⊢
    rw [← h l (by simp [locsV])]; exact k
  | .agg cs, _, h, k => by
    obtain ⟨vs, e, k, n⟩ := k
    exact ⟨vs, e, VRels.congr cs (fun l hl => h l (by simpa [locsV] using hl)) k, n⟩
  | .iface _ x, _, h, k => by
    obtain ⟨u, e, k⟩ := k
    exact ⟨u, e, VRel.congr x (fun l hl => h l (by simpa [locsV] using hl)) k⟩
  | .fn _ cs, _, h, k => by
    obtain ⟨us, e, k⟩ := k
    exact ⟨us, e, VRels.congr cs (fun l hl => h l (by simpa [locsV] using hl)) k⟩
  | .tup cs, _, h, k => by
    obtain ⟨us, e, k⟩ := k
    exact ⟨us, e, VRels.congr cs (fun l hl => h l (by simpa [locsV] using hl)) k⟩
  | .junk, _, _, k => k
theorem VRels.congr {ρ ρ' : Map} {H : Ice} : ∀ (xs : List V) {vs : List Value}, (∀ l ∈ locsVs xs, ρ l = ρ' l) → VRels ρ H xs vs → VRels ρ' H xs vs
  | [], _, _, k => k
  | x :: xs, _, h, k => by
    obtain ⟨v, vs', e, k1, k2⟩ := k
    exact ⟨v, vs', e, VRel.congr x (fun l hl => h l (by simp [locsVs, hl])) k1, VRels.congr xs (fun l hl => h l (by simp [locsVs, hl])) k2⟩
end

theorem ERels.congr {ρ ρ' : Map} {H : Ice} : ∀ (es : List (D × V)) {ents : List MapEntry}, (∀ l ∈ locsE es, ρ l = ρ' l) → All2 (ERel ρ H) es ents → All2 (ERel ρ' H) es ents
  | [], _, _, .nil => .nil
  | (_, v) :: es, _, h, .cons ⟨k1, k2, k3⟩ k => .cons ⟨k1, VRel.congr v (fun l hl => h l (by simp [locsE, hl])) k2, k3⟩ (ERels.congr es (fun l hl => h l (by simp [locsE, hl])) k)

theorem ObjRel.congr {ρ ρ' : Map} {H : Ice} {w : World} {o : Obj} {p : Place} (h : ∀ l ∈ locsO o, ρ l = ρ' l) (k : ObjRel ρ H w o p) : ObjRel ρ' H w o p := by
  cases o with
  | arr xs sz =>
    cases p with
    | virt s => exact k
    | at_ b base s size =>
      obtain ⟨e, arr, elem, fr, us, h1, h2, h3, h4⟩ := k
      exact ⟨e, arr, elem, fr, us, h1, h2, VRels.congr xs h h3, h4⟩
    | _ => exact k.elim
  | map es =>
    cases p with
    | blk r =>
      obtain ⟨ents, clock, h1, h2⟩ := k
      exact ⟨ents, clock, h1, ERels.congr es h h2⟩
    | _ => exact k.elim
  | iter s pos =>
    cases p with
    | blk r => exact k
    | _ => exact k.elim
  | dead => cases p <;> exact k.elim

/-! ### Renamed values lead to renamed places alone -/
mutual
theorem locs_mapL {f : Loc → Loc} {G : Loc → Prop} (hf : ∀ l, G (f l)) : ∀ (v : V), ∀ l ∈ locsV (V.mapL f v), G l
  | .d _, l, h => by simp [V.mapL, locsV] at h
  | .ref _ _ _ _, l, h => by simp only [V.mapL, locsV, List.mem_singleton] at h; subst h; exact hf _
  | .ptr _ _ _, l, h => by simp only [V.mapL, locsV, List.mem_singleton] at h; subst h; exact hf _
  | .map _, l, h => by simp only [V.mapL, locsV, List.mem_singleton] at h; subst h; exact hf _
  | .iter _, l, h => by simp only [V.mapL, locsV, List.mem_singleton] at h; subst h; exact hf _
  | .agg cs, l, h => locss_mapL hf cs l (by simpa [V.mapL, locsV] using h)
  | .iface _ x, l, h => locs_mapL hf x l (by simpa [V.mapL, locsV] using h)
  | .fn _ cs, l, h => locss_mapL hf cs l (by simpa [V.mapL, locsV] using h)
  | .tup cs, l, h => locss_mapL hf cs l (by simpa [V.mapL, locsV] using h)
  | .junk, l, h => by simp [V.mapL, locsV] at h
theorem locss_mapL {f : Loc → Loc} {G : Loc → Prop} (hf : ∀ l, G (f l)) : ∀ (vs : List V), ∀ l ∈ locsVs (mapLs f vs), G l
  | [], l, h => by simp [mapLs, locsVs] at h
  | v :: vs, l, h => by
    simp only [mapLs, locsVs, List.mem_append] at h
    rcases h with h | h
    · exact locs_mapL hf v l h
    · exact locss_mapL hf vs l h
end
theorem locse_mapL {f : Loc → Loc} {G : Loc → Prop} (hf : ∀ l, G (f l)) : ∀ (es : List (D × V)), ∀ l ∈ locsE (mapLe f es), G l
  | [], l, h => by simp [mapLe, locsE] at h
  | (_, v) :: es, l, h => by
    simp only [mapLe, locsE, List.mem_append] at h
    rcases h with h | h
    · exact locs_mapL hf v l h
    · exact locse_mapL hf es l h
theorem locso_mapL {f : Loc → Loc} {G : Loc → Prop} (hf : ∀ l, G (f l)) {o o' : Obj} (e : o.mapL f = some o') : ∀ l ∈ locsO o', G l := by
  cases o <;> simp only [Obj.mapL, Option.some.injEq, reduceCtorEq] at e <;> subst e
  · exact locss_mapL hf _
  · exact locse_mapL hf _
  · intro l h; simp [locsO] at h

/-! ### What is written -/
theorem applyW_hit : ∀ (ws : List (Loc × Option Obj)) (h : Loc → Option Obj) (l : Loc), l ∈ ws.map (·.1) → ∃ x, (l, x) ∈ ws ∧ ∀ h', applyW h' ws l = x
  | [], _, _, e => by simp at e
  | (l', o) :: ws, h, l, e => by
    by_cases hl : l ∈ ws.map (·.1)
    · obtain ⟨x, h1, h2⟩ := applyW_hit ws h l hl
      exact ⟨x, List.mem_cons_of_mem _ h1, fun h' => h2 _⟩
    · have e' : l = l' := by
        simp only [List.map_cons, List.mem_cons] at e
        rcases e with e | e
        · exact e
        · exact (hl e).elim
      subst e'
      refine ⟨o, List.mem_cons_self .., fun h' => ?_⟩
      have miss : ∀ (ws : List (Loc × Option Obj)) (h : Loc → Option Obj), l ∉ ws.map (·.1) → applyW h ws l = h l := by
        intro ws
        induction ws with
        | nil => intros; rfl
        | cons x ws ih =>
          intro h hn
          obtain ⟨a, b⟩ := x
          simp only [List.map_cons, List.mem_cons, not_or] at hn
          show applyW (fun l' => if l' = a then b else h l') ws l = h l
          rw [ih _ hn.2, if_neg hn.1]
      show applyW (fun l' => if l' = l then o else h' l') ws l = o
      rw [miss ws _ hl, if_pos rfl]
theorem applyW_miss : ∀ (ws : List (Loc × Option Obj)) (h : Loc → Option Obj) (l : Loc), l ∉ ws.map (·.1) → applyW h ws l = h l
  | [], _, _, _ => rfl
  | (a, b) :: ws, h, l, hn => by
    simp only [List.map_cons, List.mem_cons, not_or] at hn
    show applyW (fun l' => if l' = a then b else h l') ws l = h l
    rw [applyW_miss ws _ l hn.2, if_neg hn.1]

theorem isOf_iff {i : Nat} {l : Loc} : l.isOf i = true ↔ ∃ k, l = .n i k := by
  cases l with
  | b n => simp [Loc.isOf]
  | n j k => simp only [Loc.isOf, beq_iff_eq, Loc.n.injEq, exists_and_left, exists_eq', and_true]

/-! ### The rest of the heap, as if it were gone -/
def onlyM (p : Loc → Bool) (ρ : Map) : Map := fun l => if p l = true then ρ l else match ρ l with
  | .none => .none
  | _ => .dead

theorem only_pos {p : Loc → Bool} {h : Loc → Option Obj} {l : Loc} (e : p l = true) : only p h l = h l := by simp only [only, e, sel_true]
theorem only_neg {p : Loc → Bool} {h : Loc → Option Obj} {l : Loc} (e : p l = false) : only p h l = none := by simp only [only, e, sel_false]
theorem onlyM_pos {p : Loc → Bool} {ρ : Map} {l : Loc} (e : p l = true) : onlyM p ρ l = ρ l := by simp only [onlyM, e, if_true]
theorem onlyM_block {p : Loc → Bool} {ρ : Map} {l : Loc} {b : Nat} (e : (onlyM p ρ l).block = some b) : p l = true ∧ (ρ l).block = some b := by
  unfold onlyM at e
  split at e
  · rename_i h; exact ⟨h, e⟩
  · split at e <;> cases e
theorem onlyM_none {p : Loc → Bool} {ρ : Map} {l : Loc} (e : ρ l = .none) : onlyM p ρ l = .none := by
  unfold onlyM
  split
  · exact e
  · rw [e]
theorem onlyM_or (p : Loc → Bool) (ρ : Map) (l : Loc) : onlyM p ρ l = ρ l ∨ (onlyM p ρ l = .dead ∧ ρ l ≠ .none) := by
  unfold onlyM
  split
  · exact .inl rfl
  · cases ρ l <;> simp

theorem onlyM_stays (p : Loc → Bool) (ρ : Map) : Stays ρ (onlyM p ρ) := fun l _ => (onlyM_or p ρ l).imp id (·.1)
theorem onlyM_ne {p : Loc → Bool} {ρ : Map} {l : Loc} (e : ρ l ≠ .none) : onlyM p ρ l ≠ .none := by
  rcases onlyM_or p ρ l with h | h
  · rw [h]; exact e
  · rw [h.1]; intro h; cases h

theorem HRel.only {ρ : Map} {H : Ice} {h : Loc → Option Obj} {w : World} (k : HRel ρ H h w) (p : Loc → Bool) : HRel (onlyM p ρ) H (Rf.only p h) w where
  ice := k.ice
  objs := fun l o e => by
    cases hp : p l with
    | false => rw [only_neg hp] at e; cases e
    | true =>
      rw [only_pos hp] at e
      rw [onlyM_pos hp]
      exact (k.objs l o e).mono (onlyM_stays p ρ) (fun _ _ _ e => e) (fun _ _ => rfl)
  gone := fun l e => by
    rcases onlyM_or p ρ l with h | h
    · cases hp : p l with
      | true => rw [only_pos hp] at e; rw [h]; exact k.gone l e
      | false =>
        unfold onlyM at h ⊢
        simp only [hp, Bool.false_eq_true, if_false] at h ⊢
        split
        · exact .inl rfl
        · exact .inr rfl
    · exact .inr h.1
  inj := fun l l' b e e' => k.inj l l' b (onlyM_block e).2 (onlyM_block e').2
  sep := fun l b e => k.sep l b (onlyM_block e).2

theorem onlyM_trans (p : Loc → Bool) (ρ : Map) (H : Ice) (w : World) : Trans ρ H w (onlyM p ρ) H w :=
  ⟨rfl, rfl, rfl, Nat.le_refl _, fun _ _ _ => ⟨rfl, fun _ => rfl⟩, fun l _ e => .inr ⟨l, (onlyM_block e).2⟩⟩

/-- Where all lies, if something was done to a part alone. -/
def wideM (ρ ρ' : Map) (q : Loc → Bool) : Map := fun l => if q l = true then ρ' l else ρ l

theorem Post.widen {ρ ρ' : Map} {H H' : Ice} {h : Loc → Option Obj} {w w' : World} {i : Nat} {e : Eff} {v : Value} {A : List Loc} (hH : HRel ρ H h w) (hN : ∀ k, ρ (.n i k) = .none)
    (k : Post (onlyM A.contains ρ) H (Rf.only A.contains h) w i e ρ' H' v w') (hw : okW A i e.wr = true)
    (h3 : ∀ l ∈ locsV e.v, l ∈ A ∨ l.isOf i = true) (h4 : ∀ l o, (l, some o) ∈ e.wr → ∀ l' ∈ locsO o, l' ∈ A ∨ l'.isOf i = true) :
    Post ρ H h w i e (wideM ρ ρ' fun l => A.contains l || l.isOf i) H' v w' := by
  simp only [okW, Bool.and_eq_true, List.all_eq_true, Bool.or_eq_true, List.contains_iff_mem] at hw
  obtain ⟨h1, h2⟩ := hw
  let q : Loc → Bool := fun l => A.contains l || l.isOf i
  have hq : ∀ l, q l = true ↔ (l ∈ A ∨ l.isOf i = true) := fun l => by simp [q]
  show Post ρ H h w i e (wideM ρ ρ' q) H' v w'
  have wp : ∀ l, q l = true → wideM ρ ρ' q l = ρ' l := fun l h => by simp only [wideM, h, if_true]
  have wn : ∀ l, q l = false → wideM ρ ρ' q l = ρ l := fun l h => by simp only [wideM, h, Bool.false_eq_true, if_false]
  have hst : Stays ρ (wideM ρ ρ' q) := fun l hl => by
    cases hql : q l with
    | false => exact .inl (wn l hql)
    | true =>
      rw [wp l hql]
      rcases (hq l).1 hql with hA | hi
      · have e1 : onlyM A.contains ρ l = ρ l := onlyM_pos (List.contains_iff_mem.2 hA)
        rcases k.stays l (by rw [e1]; exact hl) with e2 | e2
        · exact .inl (e2.trans e1)
        · exact .inr e2
      · obtain ⟨j, rfl⟩ := isOf_iff.1 hi
        exact (hl (hN j)).elim
  have htr : Trans ρ H w (wideM ρ ρ' q) H' w' := ⟨k.trans.os, k.trans.tape, k.trans.output, k.trans.size, fun b hb hn => k.trans.keep b hb (fun l hl => hn l (onlyM_block hl).2), fun l b hb => by
    cases hql : q l with
    | false => rw [wn l hql] at hb; exact .inr ⟨l, hb⟩
    | true =>
      rw [wp l hql] at hb
      rcases k.trans.new l b hb with h | ⟨l', h⟩
      · exact .inl h
      · exact .inr ⟨l', (onlyM_block h).2⟩⟩
  have hle : H.le H' := k.trans.le (hH.only _)
  -- blocks of what lies outside
  have out : ∀ l b, q l = false → (ρ l).block = some b → w'.heap[b]? = w.heap[b]? ∧ (∀ o, H' b o = H b o) ∧ ∀ l', (ρ' l').block ≠ some b := fun l b hql hb => by
    have hA : l ∉ A := fun hA => by rw [(hq l).2 (.inl hA)] at hql; cases hql
    have hno : ∀ l', (onlyM A.contains ρ l').block ≠ some b := fun l' hl' => by
      obtain ⟨a1, a2⟩ := onlyM_block hl'
      have := hH.inj l' l b a2 hb
      subst this
      exact hA (List.contains_iff_mem.1 a1)
    obtain ⟨b1, b2⟩ := k.trans.keep b (hH.lt hb) hno
    refine ⟨b1, b2, fun l' hl' => ?_⟩
    rcases k.trans.new l' b hl' with h | ⟨l2, h⟩
    · have := hH.lt hb; omega
    · exact hno l2 h
  have hin : ∀ l, q l = true → applyW h e.wr l = applyW (Rf.only A.contains h) e.wr l ∧ ∀ o, applyW h e.wr l = some o → (l, some o) ∈ e.wr := fun l hql => by
    by_cases hm : l ∈ e.wr.map (·.1)
    · obtain ⟨x, a1, a2⟩ := applyW_hit e.wr h l hm
      rw [a2, a2]
      exact ⟨rfl, fun o ho => ho ▸ a1⟩
    · rw [applyW_miss _ _ _ hm, applyW_miss _ _ _ hm]
      rcases (hq l).1 hql with hA | hi
      · exact (hm (h1 l hA)).elim
      · obtain ⟨j, rfl⟩ := isOf_iff.1 hi
        have hn : h (.n i j) = none := by
          cases ho : h (.n i j) with
          | none => rfl
          | some o =>
            have := hH.objs _ o ho
            rw [hN j] at this
            cases o <;> exact this.elim
        refine ⟨?_, fun o ho => by rw [hn] at ho; cases ho⟩
        simp only [Rf.only, hn]
        cases A.contains (.n i j) <;> rfl
  have hout : ∀ l, q l = false → applyW h e.wr l = h l := fun l hql => applyW_miss _ _ _ (fun hm => by rw [(hq l).2 (h2 l hm)] at hql; cases hql)
  refine ⟨⟨k.heap.ice, fun l o ho => ?_, fun l ho => ?_, fun l l' b hb hb' => ?_, fun l b hb => ?_⟩, htr, hst, fun l a1 a2 => ?_, ?_⟩
  · cases hql : q l with
    | true =>
      obtain ⟨a1, a2⟩ := hin l hql
      have ho' := ho
      rw [a1] at ho'
      rw [wp l hql]
      exact (k.heap.objs l o ho').congr fun l' hl' => (wp l' ((hq l').2 (h4 l o (a2 o ho) l' hl'))).symm
    | false =>
      rw [hout l hql] at ho
      rw [wn l hql]
      exact (hH.objs l o ho).mono hst hle fun b hb => (out l b hql hb).1
  · cases hql : q l with
    | true => rw [(hin l hql).1] at ho; rw [wp l hql]; exact k.heap.gone l ho
    | false => rw [hout l hql] at ho; rw [wn l hql]; exact hH.gone l ho
  · cases hql : q l with
    | true =>
      rw [wp l hql] at hb
      cases hql' : q l' with
      | true => rw [wp l' hql'] at hb'; exact k.heap.inj l l' b hb hb'
      | false => rw [wn l' hql'] at hb'; exact ((out l' b hql' hb').2.2 l hb).elim
    | false =>
      rw [wn l hql] at hb
      cases hql' : q l' with
      | true => rw [wp l' hql'] at hb'; exact ((out l b hql hb).2.2 l' hb').elim
      | false => rw [wn l' hql'] at hb'; exact hH.inj l l' b hb hb'
  · intro o
    cases hql : q l with
    | true => rw [wp l hql] at hb; exact k.heap.sep l b hb o
    | false =>
      rw [wn l hql] at hb
      rw [(out l b hql hb).2.1 o]
      exact hH.sep l b hb o
  · cases hql : q l with
    | true => rw [wp l hql] at a2; exact k.new l (onlyM_none a1) a2
    | false => rw [wn l hql] at a2; exact (a2 a1).elim
  · exact VRel.congr e.v (fun l hl => (wp l ((hq l).2 (h3 l hl))).symm) k.val

theorem Sound.widen {P : Program} {o : Oper} {a : Act} {ρ : Map} {H : Ice} {h : Loc → Option Obj} {w : World} {i : Nat} {A : List Loc} {r : R} (hH : HRel ρ H h w) (hN : ∀ k, ρ (.n i k) = .none)
    (k : Sound P o a w (onlyM A.contains ρ) H (Rf.only A.contains h) i r)
    (hr : ∀ e, r = .ok e ∨ r = .pan e → okW A i e.wr = true ∧ (∀ l ∈ locsV e.v, l ∈ A ∨ l.isOf i = true) ∧ ∀ l o, (l, some o) ∈ e.wr → ∀ l' ∈ locsO o, l' ∈ A ∨ l'.isOf i = true) :
    Sound P o a w ρ H h i r := fun K Q hk => by
  refine k K Q ?_
  cases r with
  | out => exact hk
  | ok e =>
    obtain ⟨h1, h2, h3⟩ := hr e (.inl rfl)
    exact fun ρ' H' v w' hp => hk _ _ _ _ (hp.widen hH hN h1 h2 h3)
  | pan e =>
    obtain ⟨h1, h2, h3⟩ := hr e (.inr rfl)
    exact fun ρ' H' v w' hp => hk _ _ _ _ (hp.widen hH hN h1 h2 h3)

/-! ### What a call hands back leads to what it was given, and to what it made -/
theorem mem_backObjs {m : List Loc} {i : Nat} : ∀ (os : List Obj) (k : Nat) {l : Loc} {x : Option Obj}, (l, x) ∈ backObjs m i k os → ∃ o, x = Obj.mapL (backL m i) o
  | [], _, _, _, h => by cases h
  | o :: os, k, l, x, h => by
    rcases List.mem_cons.1 h with h | h
    · cases h; exact ⟨o, rfl⟩
    · exact mem_backObjs os (k + 1) h

theorem callEff_locs {cf : CF} {f : FuncId} {i : Nat} {h : Loc → Option Obj} {A : List Loc} {args : List (V × Bool)} {r : R} (e : callEff cf f i (Rf.only A.contains h) args = some r) :
    ∀ ef, r = .ok ef ∨ r = .pan ef → (∀ l ∈ locsV ef.v, l ∈ A ∨ l.isOf i = true) ∧ ∀ l o, (l, some o) ∈ ef.wr → ∀ l' ∈ locsO o, l' ∈ A ∨ l'.isOf i = true := by
  obtain ⟨⟨vs, fm⟩, e1, e2⟩ := bnd_eq e
  obtain ⟨⟨vs', os, m⟩, e3, e4⟩ := bnd_eq e2
  have hm : ∀ l ∈ m, l ∈ A := fun l hl => by
    rcases norm_alive e3 l hl with h' | h'
    · cases h'
    · simp only [without] at h'
      split at h'
      · cases h'
      · simp only [Rf.only] at h'
        cases hc : A.contains l with
        | true => exact List.contains_iff_mem.1 hc
        | false => rw [hc] at h'; cases h'
  have hf : ∀ l, backL m i l ∈ A ∨ (backL m i l).isOf i = true := fun l => by
    cases l with
    | n a b => exact .inr (by simp [backL, Loc.isOf])
    | b k =>
      by_cases hk : k < m.length
      · rw [backL_lt (List.getElem?_eq_getElem hk)]
        exact .inl (hm _ (List.getElem_mem hk))
      · rw [backL_ge (by omega)]
        exact .inr (by simp [Loc.isOf])
  intro ef hef
  cases hs : (vs'.all fitV) with
  | false =>
    simp only [hs, sel_false] at e4
    cases e4
  | true =>
    simp only [hs, sel_true] at e4
    obtain ⟨cr, e5, e6⟩ := bnd_eq e4
    cases e6
    have hw : ∀ {os : List Obj}, ∀ l o, (l, some o) ∈ fm.map (·, (none : Option Obj)) ++ backObjs m i 0 os → ∀ l' ∈ locsO o, l' ∈ A ∨ l'.isOf i = true := fun {os} l o hmem => by
      rcases List.mem_append.1 hmem with hmem | hmem
      · obtain ⟨_, _, h⟩ := List.mem_map.1 hmem
        cases h
      · obtain ⟨o', ho'⟩ := mem_backObjs os 0 hmem
        exact locso_mapL hf ho'.symm
    cases cr with
    | out => rcases hef with h | h <;> cases h
    | ret rs hp =>
      rcases hef with h | h <;> cases h
      exact ⟨locs_mapL hf _, hw⟩
    | pan v hp =>
      rcases hef with h | h <;> cases h
      exact ⟨locs_mapL hf _, hw⟩
end Go.Rf

/- Regions whose order is drawn: operations looked at one by one. -/
namespace Go.Rf

/-! ### What an operation looks at -/
def opnds : AOp → List Opnd
  | .mv x => [x]
  | .own _ => []
  | .pick c a b => [c, a, b]
  | .alloc _ _ => []
  | .allocT _ _ _ => []
  | .box _ x => [x]
  | .build _ ps _ => ps.map (·.2.2)
  | .buildSl _ _ _ ps => ps.map (·.2)
  | .load _ _ x => [x]
  | .store _ x y => [x, y]
  | .nilCk x => [x]
  | .bin _ x y => [x, y]
  | .un _ x => [x]
  | .isN _ _ x => [x]
  | .eqB _ x y => [x, y]
  | .conv _ x => [x]
  | .mkI _ x => [x]
  | .mkF _ cap => cap
  | .mkSl _ _ a b => [a, b]
  | .slice _ x lo hi => x :: (lo.toList ++ hi.toList)
  | .fieldA _ _ _ x => [x]
  | .field _ _ _ x => [x]
  | .idxA _ x k => [x, k]
  | .idxS x k => [x, k]
  | .extract x _ => [x]
  | .tass _ _ _ x => [x]
  | .call _ args => args.map (·.1)
  | .callV f args => f :: args.map (·.1)
  | .inv _ x args => x :: args.map (·.1)
  | .len _ x => [x]
  | .app _ x y => y :: x.toList
  | .mx x y => [x, y]
  | .panic x => [x]
  | .range x => [x]
  | .next x => [x]
  | .mkMap => []
  | .look _ x k => [x, k]
  | .upd x k v => [x, k, v]

section
variable {ev ev' : Opnd → Option V}
theorem evs_ev : ∀ {l : List (Opnd × Bool)}, (∀ x ∈ l.map (·.1), ev x = ev' x) → evs ev l = evs ev' l
  | [], _ => rfl
  | (x, fl) :: l, h => by
    simp only [List.map_cons, List.mem_cons, forall_eq_or_imp] at h
    simp only [evs, h.1, evs_ev h.2]
theorem evl_ev : ∀ {l : List Opnd}, (∀ x ∈ l, ev x = ev' x) → evl ev l = evl ev' l
  | [], _ => rfl
  | x :: l, h => by
    simp only [List.mem_cons, forall_eq_or_imp] at h
    simp only [evl, h.1, evl_ev h.2]
theorem evp_ev : ∀ {l : List (Nat × Nat × Opnd)}, (∀ x ∈ l.map (·.2.2), ev x = ev' x) → evp ev l = evp ev' l
  | [], _ => rfl
  | (a, b, x) :: l, h => by
    simp only [List.map_cons, List.mem_cons, forall_eq_or_imp] at h
    simp only [evp, h.1, evp_ev h.2]
theorem evq_ev : ∀ {l : List (Nat × Opnd)}, (∀ x ∈ l.map (·.2), ev x = ev' x) → evq ev l = evq ev' l
  | [], _ => rfl
  | (a, x) :: l, h => by
    simp only [List.map_cons, List.mem_cons, forall_eq_or_imp] at h
    simp only [evq, h.1, evq_ev h.2]

theorem exec_ev {T : Tab} {cf : CF} {i : Nat} {op : AOp} {h : Loc → Option Obj} (k : ∀ x ∈ opnds op, ev x = ev' x) : exec T cf i op ev h = exec T cf i op ev' h := by
  cases op with
  | own n => rfl
  | alloc z own => rfl
  | allocT t z own => rfl
  | mkMap => rfl
  | build z ps own => simp only [exec, evp_ev k]
  | buildSl n z len ps => simp only [exec, evq_ev k]
  | mkF f cap => simp only [exec, evl_ev (show ∀ x ∈ cap, ev x = ev' x from k)]
  | call f args => simp only [exec, evs_ev k]
  | callV f args =>
    simp only [opnds, List.mem_cons, forall_eq_or_imp] at k
    simp only [exec, k.1, evs_ev k.2]
  | inv m x args =>
    simp only [opnds, List.mem_cons, forall_eq_or_imp] at k
    simp only [exec, k.1, evs_ev k.2]
  | slice n x lo hi =>
    simp only [opnds, List.mem_cons, forall_eq_or_imp, List.mem_append, Option.mem_toList] at k
    obtain ⟨k1, k2⟩ := k
    cases lo <;> cases hi <;> simp_all [exec]
  | app n x y =>
    simp only [opnds, List.mem_cons, forall_eq_or_imp, Option.mem_toList] at k
    obtain ⟨k1, k2⟩ := k
    cases x <;> simp_all [exec]
  | _ =>
    simp only [opnds, List.mem_cons, forall_eq_or_imp, List.not_mem_nil, false_implies, implies_true, and_true] at k
    simp only [exec, k]

theorem footOf_ev {op : AOp} {h h' : Loc → Option Obj} (hc : isCall op = false) (k : ∀ x ∈ opnds op, ev x = ev' x) : footOf op ev h = footOf op ev' h' := by
  cases op with
  | call f args => cases hc
  | callV f args => cases hc
  | inv m x args => cases hc
  | app n x y =>
    simp only [opnds, List.mem_cons, forall_eq_or_imp, Option.mem_toList] at k
    obtain ⟨k1, k2⟩ := k
    cases x with
    | none => simp only [footOf, k1, onO_none]
    | some x => simp only [footOf, k1, onO_some, k2 x rfl]
  | load n ag x =>
    simp only [opnds, List.mem_cons, forall_eq_or_imp, List.not_mem_nil, false_implies, implies_true, and_true] at k
    simp only [footOf, k]
  | store n x y =>
    simp only [opnds, List.mem_cons, forall_eq_or_imp, List.not_mem_nil, false_implies, implies_true, and_true] at k
    simp only [footOf, k]
  | conv c x =>
    simp only [opnds, List.mem_cons, forall_eq_or_imp, List.not_mem_nil, false_implies, implies_true, and_true] at k
    simp only [footOf, k]
  | next x =>
    simp only [opnds, List.mem_cons, forall_eq_or_imp, List.not_mem_nil, false_implies, implies_true, and_true] at k
    simp only [footOf, k]
  | look z x y =>
    simp only [opnds, List.mem_cons, forall_eq_or_imp, List.not_mem_nil, false_implies, implies_true, and_true] at k
    simp only [footOf, k]
  | upd x y v =>
    simp only [opnds, List.mem_cons, forall_eq_or_imp, List.not_mem_nil, false_implies, implies_true, and_true] at k
    simp only [footOf, k]
  | _ => rfl
end

theorem elems_frame {h h' : Loc → Option Obj} {v : V} (k : ∀ l ∈ locOf (some v), h l = h' l) : elems h v = elems h' v := by
  cases v with
  | d x => cases x <;> rfl
  | ref l sz off len =>
    simp only [locOf, List.mem_singleton, forall_eq] at k
    simp only [elems, k]
  | _ => rfl

theorem loadV_frame {h h' : Loc → Option Obj} {n : Nat} {ag : Bool} {v : V} (k : ∀ l ∈ locOf (some v), h l = h' l) : loadV h n ag v = loadV h' n ag v := by
  cases v with
  | d x => cases x <;> rfl
  | ptr l e j =>
    simp only [locOf, List.mem_singleton, forall_eq] at k
    simp only [loadV, k]
  | _ => rfl

theorem storeV_frame {h h' : Loc → Option Obj} {n : Nat} {v u : V} (k : ∀ l ∈ locOf (some v), h l = h' l) : storeV h n v u = storeV h' n v u := by
  cases v with
  | d x => cases x <;> rfl
  | ptr l e j =>
    simp only [locOf, List.mem_singleton, forall_eq] at k
    simp only [storeV, k]
  | _ => rfl

theorem appV_frame {h h' : Loc → Option Obj} {i : Nat} {n : W} {x : Option V} {y : V} (k1 : ∀ l ∈ locOf x, h l = h' l) (k2 : ∀ l ∈ locOf (some y), h l = h' l) : appV h i n x y = appV h' i n x y := by
  unfold appV
  rw [elems_frame k2]
  cases x with
  | none => rfl
  | some v =>
    cases v <;> first | rfl | skip
    rename_i l sz off len
    simp only [locOf, List.mem_singleton, forall_eq] at k1
    simp only [k1]

theorem exec_frame {T : Tab} {cf : CF} {i : Nat} {op : AOp} {ev : Opnd → Option V} {h h' : Loc → Option Obj} (hc : isCall op = false) (k : ∀ l ∈ footOf op ev h, h l = h' l) : exec T cf i op ev h = exec T cf i op ev h' := by
  cases op with
  | call f args => cases hc
  | callV f args => cases hc
  | inv m x args => cases hc
  | load n ag x =>
    simp only [exec]
    cases hx : ev x with
    | none => rfl
    | some v => simp only [bnd_some]; exact loadV_frame (by simpa only [footOf, hx] using k)
  | store n x y =>
    simp only [exec]
    cases hx : ev x with
    | none => rfl
    | some v =>
      simp only [bnd_some]
      congr 1
      funext u
      exact storeV_frame (by simpa only [footOf, hx] using k)
  | conv c x =>
    simp only [exec]
    cases hx : ev x with
    | none => rfl
    | some v =>
      simp only [bnd_some]
      cases c with
      | int kk => cases v <;> first | rfl | (rename_i y; cases y <;> rfl)
      | rune => cases v <;> first | rfl | (rename_i y; cases y <;> rfl)
      | b2s =>
        simp only
        rw [elems_frame (h' := h') (by simpa only [footOf, hx] using k)]
  | app n x y =>
    simp only [exec]
    simp only [footOf, List.mem_append] at k
    cases x with
    | none =>
      simp only
      cases hy : ev y with
      | none => rfl
      | some v => simp only [bnd_some]; exact appV_frame (fun l h => by cases h) (fun l hl => k l (.inr (by rw [hy]; exact hl)))
    | some x =>
      simp only
      cases hx : ev x with
      | none => rfl
      | some u =>
        simp only [bnd_some]
        cases hy : ev y with
        | none => rfl
        | some v => simp only [bnd_some]; exact appV_frame (fun l hl => k l (.inl (by simp only [onO_some]; rw [hx]; exact hl))) (fun l hl => k l (.inr (by rw [hy]; exact hl)))
  | next x =>
    simp only [exec]
    cases hx : ev x with
    | none => rfl
    | some v =>
      cases v <;> first | rfl | skip
      rename_i l
      have : h l = h' l := k l (by simp [footOf, hx, locOf])
      simp only [this]
  | look z x y =>
    simp only [exec]
    cases hx : ev x with
    | none => rfl
    | some u =>
      cases u with
      | map l =>
        have : h l = h' l := k l (by simp [footOf, hx, locOf])
        cases ev y with
        | none => rfl
        | some w =>
          cases w with
          | d key => simp only [this]
          | _ => rfl
      | _ => (cases ev y <;> first | rfl | (rename_i u; cases u <;> rfl))
  | upd x y v =>
    simp only [exec]
    cases hx : ev x with
    | none => rfl
    | some u =>
      cases u with
      | map l =>
        have : h l = h' l := k l (by simp [footOf, hx, locOf])
        cases ev y with
        | none => rfl
        | some w =>
          cases w with
          | d key => cases ev v with
            | none => rfl
            | some _ => simp only [this]
          | _ => rfl
      | _ => (cases ev y <;> first | rfl | (rename_i u; cases u <;> first | rfl | (cases ev v <;> rfl)))
  | _ => rfl

/-! ### One step, seen from another state -/
def slotsOf (o : AIns) : List Nat := (opnds o.op).filterMap (fun x => match x with | .t n => some n | .c _ => none) ++ (match o.guard with | some (t, _) => [t] | none => [])

theorem evO_slots {o : AIns} {e e' : List (Nat × V)} (h : ∀ t ∈ slotsOf o, getE e t = getE e' t) : ∀ x ∈ opnds o.op, evO e x = evO e' x := fun x hx => by
  cases x with
  | c y => rfl
  | t n => exact h n (List.mem_append_left _ (List.mem_filterMap.2 ⟨_, hx, rfl⟩))

theorem wanted_slots {o : AIns} {e e' : List (Nat × V)} (h : ∀ t ∈ slotsOf o, getE e t = getE e' t) : wanted e o.guard = wanted e' o.guard := by
  cases hg : o.guard with
  | none => rfl
  | some g =>
    obtain ⟨t, b⟩ := g
    have : getE e t = getE e' t := h t (List.mem_append_right _ (by rw [hg]; exact List.mem_singleton.2 rfl))
    simp only [wanted, this]

section
variable {T : Tab} {cf : CF}

theorem only_congr {A : List Loc} {h h' : Loc → Option Obj} (k : ∀ l ∈ A, h l = h' l) : only A.contains h = only A.contains h' := by
  funext l
  cases hc : A.contains l with
  | true => rw [only_pos hc, only_pos hc]; exact k l (List.contains_iff_mem.1 hc)
  | false => rw [only_neg hc, only_neg hc]

theorem execD_move {o : AIns} {A : List Loc} {e e' : List (Nat × V)} {h h' : Loc → Option Obj} (hA : isCall o.op = false → footOf o.op (evO e) h = A) (he : ∀ t ∈ slotsOf o, getE e t = getE e' t) (hh : ∀ l ∈ A, h l = h' l) :
    execD T cf o.i o.op A (evO e) h = execD T cf o.i o.op A (evO e') h' := by
  unfold execD
  have h1 := evO_slots he
  cases hc : isCall o.op with
  | true => simp only [sel_true]; rw [exec_ev h1, only_congr hh]
  | false =>
    simp only [sel_false]
    rw [exec_frame hc (h' := h') (fun l hl => hh l (hA hc ▸ hl)), exec_ev h1]

theorem sel_some {α : Type} {b : Bool} {x : α} {r : α} (e : sel b (some x) none = some r) : b = true ∧ x = r := by
  cases b with
  | true => cases e; exact ⟨rfl, rfl⟩
  | false => cases e

/-- What a step comes to. -/
inductive Comes (T : Tab) (cf : CF) (o : AIns) (A : List Loc) (s : RS) : SR → Prop
  | skip (h : wanted s.env o.guard = some false) : Comes T cf o A s (.go { env := putT s.env o.dst (.tup []), h := s.h } { i := o.i, rd := [], wr := [] })
  | ok {e : Eff} (h : wanted s.env o.guard = some true) (k : execD T cf o.i o.op A (evO s.env) s.h = some (.ok e)) (q : okRec (kindOf o.op) A o.i e.wr = true) :
      Comes T cf o A s (.go { env := putT s.env o.dst e.v, h := applyW s.h e.wr } { i := o.i, rd := A, wr := e.wr.map (·.1), ch := sel (isCall o.op) (chg A s.h e.wr) (e.wr.map (·.1)) })
  | pan {e : Eff} (h : wanted s.env o.guard = some true) (k : execD T cf o.i o.op A (evO s.env) s.h = some (.pan e)) (q : 2 ≤ kindOf o.op ∧ okRec (kindOf o.op) A o.i e.wr = true) :
      Comes T cf o A s (.pan e.v { env := s.env, h := applyW s.h e.wr } { i := o.i, rd := A, wr := e.wr.map (·.1) })
  | out (h : wanted s.env o.guard = some true) (k : execD T cf o.i o.op A (evO s.env) s.h = some .out) (q : kindOf o.op ≠ 0 ∨ A = []) : Comes T cf o A s .out

theorem comes_iff {o : AIns} {A : List Loc} {s : RS} {x : SR} : stepD T cf o A s = some x ↔ Comes T cf o A s x := by
  constructor
  · intro e
    obtain ⟨b, e1, e2⟩ := bnd_eq e
    cases b with
    | false => cases e2; exact .skip e1
    | true =>
      simp only [sel_true] at e2
      obtain ⟨r, e3, e4⟩ := bnd_eq e2
      cases r with
      | ok ef =>
        obtain ⟨q, rfl⟩ := sel_some e4
        exact .ok e1 e3 q
      | pan ef =>
        obtain ⟨q, rfl⟩ := sel_some e4
        simp only [Bool.and_eq_true, decide_eq_true_eq] at q
        exact .pan e1 e3 q
      | out =>
        obtain ⟨q, rfl⟩ := sel_some e4
        simp only [ne_eq, Bool.or_eq_true, decide_eq_true_eq, List.isEmpty_iff] at q
        exact .out e1 e3 q
  · intro k
    cases k with
    | skip h => simp only [stepD, h, bnd_some, sel_false]
    | ok h k q => simp only [stepD, h, bnd_some, sel_true, k, stepRD, q]
    | pan h k q => simp only [stepD, h, bnd_some, sel_true, k, stepRD, q, decide_true, Bool.and_self]
    | out h k q =>
      have : (decide (kindOf o.op ≠ 0) || A.isEmpty) = true := by simpa only [ne_eq, Bool.or_eq_true, decide_eq_true_eq, List.isEmpty_iff] using q
      simp only [stepD, h, bnd_some, sel_true, k, stepRD, this]

def recRd (x : SR) (A : List Loc) : List Loc := match x with
  | .go _ r => r.rd
  | .pan _ _ r => r.rd
  | .out => A

theorem okW_in {A : List Loc} {i : Nat} {wr : List (Loc × Option Obj)} (h : okW A i wr = true) : ∀ l ∈ A, l ∈ wr.map (·.1) := fun l hl => by
  unfold okW at h
  rw [Bool.and_eq_true, List.all_eq_true] at h
  exact List.contains_iff_mem.1 (h.1 l hl)
theorem chg_miss {A : List Loc} {h : Loc → Option Obj} {wr : List (Loc × Option Obj)} {l : Loc} (k : l ∉ chg A h wr) : applyW h wr l = h l := by
  by_cases hm : l ∈ wr.map (·.1)
  · unfold chg at k
    rw [List.mem_filter] at k
    simp only [hm, true_and, Bool.or_eq_true, Bool.not_eq_true', decide_eq_true_eq, ne_eq, not_or, Classical.not_not] at k
    exact k.2
  · exact applyW_miss _ _ _ hm
theorem chg_sub {A : List Loc} {h : Loc → Option Obj} {wr : List (Loc × Option Obj)} {l : Loc} (k : l ∈ chg A h wr) : l ∈ wr.map (·.1) := (List.mem_filter.1 k).1
theorem chg_congr {A : List Loc} {h h' : Loc → Option Obj} {wr : List (Loc × Option Obj)} (k : ∀ l ∈ A, h l = h' l) : chg A h wr = chg A h' wr := by
  unfold chg
  refine List.filter_congr fun l hl => ?_
  cases hA : A.contains l with
  | false => rfl
  | true =>
    have e := k l (List.contains_iff_mem.1 hA)
    obtain ⟨x, _, hx⟩ := applyW_hit wr h l hl
    rw [hx, hx, e]
theorem chX_miss {c : Bool} {A : List Loc} {h : Loc → Option Obj} {wr : List (Loc × Option Obj)} {l : Loc} (k : l ∉ sel c (chg A h wr) (wr.map (·.1))) : applyW h wr l = h l := by
  cases c with
  | true => exact chg_miss k
  | false => exact applyW_miss _ _ _ k
theorem chX_sub {c : Bool} {A : List Loc} {h : Loc → Option Obj} {wr : List (Loc × Option Obj)} {l : Loc} (k : l ∈ sel c (chg A h wr) (wr.map (·.1))) : l ∈ wr.map (·.1) := by
  cases c with
  | true => exact chg_sub k
  | false => exact k

/-- The same step from another state that has the same where the step looks. -/
theorem Comes.move {o : AIns} {A : List Loc} {s s' : RS} {x : SR} (k : Comes T cf o A s x) (hA : isCall o.op = false → footOf o.op (evO s.env) s.h = A) (he : ∀ t ∈ slotsOf o, getE s.env t = getE s'.env t)
    (hh : ∀ l ∈ recRd x A, s.h l = s'.h l) : (match x with
      | .go s1 r => ∃ v wr, s1 = { env := putT s.env o.dst v, h := applyW s.h wr } ∧ (∀ l, l ∉ r.ch → applyW s.h wr l = s.h l ∧ applyW s'.h wr l = s'.h l) ∧ r.wr = wr.map (·.1) ∧ Comes T cf o A s' (.go { env := putT s'.env o.dst v, h := applyW s'.h wr } r)
      | .pan v s1 r => ∃ wr, s1 = { env := s.env, h := applyW s.h wr } ∧ r.wr = wr.map (·.1) ∧ Comes T cf o A s' (.pan v { env := s'.env, h := applyW s'.h wr } r)
      | .out => Comes T cf o A s' .out) := by
  have hw := wanted_slots he
  cases k with
  | skip h => exact ⟨.tup [], [], rfl, fun _ _ => ⟨rfl, rfl⟩, rfl, .skip (hw ▸ h)⟩
  | @ok ef h k q =>
    have e : sel (isCall o.op) (chg A s.h ef.wr) (ef.wr.map (·.1)) = sel (isCall o.op) (chg A s'.h ef.wr) (ef.wr.map (·.1)) := by rw [chg_congr (A := A) (h' := s'.h) hh]
    refine ⟨_, _, rfl, fun l hl => ⟨chX_miss hl, chX_miss (A := A) (c := isCall o.op) ?_⟩, rfl, ?_⟩
    · rw [← e]; exact hl
    · rw [e]; exact .ok (hw ▸ h) (execD_move (T := T) (cf := cf) hA he hh ▸ k) q
  | pan h k q => exact ⟨_, rfl, rfl, .pan (hw ▸ h) (execD_move (T := T) (cf := cf) hA he hh ▸ k) q⟩
  | out h k q => exact .out (hw ▸ h) (execD_move (T := T) (cf := cf) hA he hh ▸ k) q

theorem Comes.foot {o : AIns} {A : List Loc} {s s' : RS} (hA : isCall o.op = false → footOf o.op (evO s.env) s.h = A) (he : ∀ t ∈ slotsOf o, getE s.env t = getE s'.env t) : isCall o.op = false → footOf o.op (evO s'.env) s'.h = A := fun hc =>
  (footOf_ev hc (evO_slots he)).symm.trans (hA hc)
end
end Go.Rf

/- Regions whose order is drawn: operations in a row, one of them taken to the front. -/
namespace Go.Rf

abbrev Item := AIns × List Loc × Rec

section
variable {T : Tab} {cf : CF}

/-- Operations in a row, each with what it looks at and with its record. -/
inductive Runs (T : Tab) (cf : CF) : List Item → RS → RR → Prop
  | nil (s : RS) : Runs T cf [] s (.nrm s)
  | go {o A r s s' L rr} (hA : isCall o.op = false → footOf o.op (evO s.env) s.h = A) (h : Comes T cf o A s (.go s' r)) (k : Runs T cf L s' rr) : Runs T cf ((o, A, r) :: L) s rr
  | pan {o A r s s' v} (hA : isCall o.op = false → footOf o.op (evO s.env) s.h = A) (h : Comes T cf o A s (.pan v s' r)) : Runs T cf [(o, A, r)] s (.pan o.i v s')
  | out {o A s} (hA : isCall o.op = false → footOf o.op (evO s.env) s.h = A) (h : Comes T cf o A s .out) : Runs T cf [(o, A, { i := o.i, rd := A, wr := [] })] s .out

def Eqv (s s' : RS) : Prop := s.h = s'.h ∧ ∀ t, getE s.env t = getE s'.env t

inductive EqvR : RR → RR → Prop
  | nrm {s s'} (h : Eqv s s') : EqvR (.nrm s) (.nrm s')
  | pan {i v s s'} (h : ∀ l, Loc.oldOr i l = true → s.h l = s'.h l) : EqvR (.pan i v s) (.pan i v s')
  | out : EqvR .out .out

theorem Eqv.refl (s : RS) : Eqv s s := ⟨rfl, fun _ => rfl⟩
theorem EqvR.refl (r : RR) : EqvR r r := by
  cases r with
  | nrm s => exact .nrm (.refl s)
  | pan i v s => exact .pan fun _ _ => rfl
  | out => exact .out
theorem EqvR.trans {a b c : RR} (h : EqvR a b) (k : EqvR b c) : EqvR a c := by
  cases h with
  | nrm h => cases k with | nrm k => exact .nrm ⟨h.1.trans k.1, fun t => (h.2 t).trans (k.2 t)⟩
  | pan h => cases k with | pan k => exact .pan fun l hl => (h l hl).trans (k l hl)
  | out => exact k

theorem getE_put {e e' : List (Nat × V)} {d : Option Nat} {v : V} (h : ∀ t, getE e t = getE e' t) (t : Nat) : getE (putT e d v) t = getE (putT e' d v) t := by
  cases d with
  | none => exact h t
  | some d => simp only [putT, getE, h t]

theorem getE_put_ne {e : List (Nat × V)} {d : Option Nat} {v : V} {t : Nat} (h : d ≠ some t) : getE (putT e d v) t = getE e t := by
  cases d with
  | none => rfl
  | some d =>
    simp only [putT, getE]
    rw [if_neg (fun hd => h (by rw [hd]))]

theorem getE_put_swap {e : List (Nat × V)} {d d' : Option Nat} {v v' : V} (h : ∀ t, d = some t → d' ≠ some t) (t : Nat) : getE (putT (putT e d v) d' v') t = getE (putT (putT e d' v') d v) t := by
  cases d with
  | none => rfl
  | some a =>
    cases d' with
    | none => rfl
    | some b =>
      have hab : a ≠ b := fun hab => h a rfl (by rw [hab])
      simp only [putT, getE]
      by_cases h1 : b = t
      · subst h1; simp [hab]
      · simp [h1]

theorem applyW_at {ws : List (Loc × Option Obj)} {h h' : Loc → Option Obj} {l : Loc} (k : h l = h' l) : applyW h ws l = applyW h' ws l := by
  by_cases hm : l ∈ ws.map (·.1)
  · obtain ⟨x, _, h2⟩ := applyW_hit ws h l hm
    rw [h2, h2]
  · rw [applyW_miss _ _ _ hm, applyW_miss _ _ _ hm, k]

theorem Runs.eqv {L : List Item} {s s' : RS} {rr : RR} (k : Runs T cf L s rr) (e : Eqv s s') : ∃ rr', Runs T cf L s' rr' ∧ EqvR rr rr' := by
  induction k generalizing s' with
  | nil s => exact ⟨_, .nil s', .nrm e⟩
  | @go o A r s s1 L rr hA h k ih =>
    obtain ⟨v, wr, rfl, _, h2, h3⟩ := h.move hA (fun t _ => e.2 t) (fun l _ => by rw [e.1])
    obtain ⟨rr', k1, k2⟩ := ih (s' := { env := putT s'.env o.dst v, h := applyW s'.h wr }) ⟨by simp only [e.1], fun t => getE_put e.2 t⟩
    exact ⟨rr', .go (Comes.foot hA (fun t _ => e.2 t)) h3 k1, k2⟩
  | @pan o A r s s1 v hA h =>
    obtain ⟨wr, rfl, h2, h3⟩ := h.move hA (fun t _ => e.2 t) (fun l _ => by rw [e.1])
    exact ⟨_, .pan (Comes.foot hA (fun t _ => e.2 t)) h3, .pan fun l _ => applyW_at (by rw [e.1])⟩
  | @out o A s hA h => exact ⟨_, .out (Comes.foot hA (fun t _ => e.2 t)) (h.move hA (fun t _ => e.2 t) (fun l _ => by rw [e.1])), .out⟩

/-- Neither looks at what the other one does. -/
structure Ind (p x : Item) : Prop where
  s1 : ∀ t, p.1.dst = some t → t ∉ slotsOf x.1
  s2 : ∀ t, x.1.dst = some t → t ∉ slotsOf p.1
  s3 : ∀ t, p.1.dst = some t → x.1.dst ≠ some t
  w1 : ∀ l ∈ p.2.2.ch, l ∉ x.2.2.rd ∧ l ∉ x.2.2.ch
  w2 : ∀ l ∈ x.2.2.ch, l ∉ p.2.2.rd

/-- An operation taken to the front. -/
inductive Front (T : Tab) (cf : CF) (pre post : List Item) (x : Item) (s : RS) (rr : RR) : Prop
  | go {s1 rr'} (hA : isCall x.1.op = false → footOf x.1.op (evO s.env) s.h = x.2.1) (h : Comes T cf x.1 x.2.1 s (.go s1 x.2.2)) (k : Runs T cf (pre ++ post) s1 rr') (e : EqvR rr rr') (hp : post = [] → ∃ s2, rr = .nrm s2)
  | pan {v s1} (hA : isCall x.1.op = false → footOf x.1.op (evO s.env) s.h = x.2.1) (h : Comes T cf x.1 x.2.1 s (.pan v s1 x.2.2)) (e : EqvR rr (.pan x.1.i v s1)) (hp : post = [])
  | out (hA : isCall x.1.op = false → footOf x.1.op (evO s.env) s.h = x.2.1) (h : Comes T cf x.1 x.2.1 s .out) (hrd : x.2.2.rd = x.2.1) (e : rr = .out)

theorem front : ∀ (pre : List Item) (post : List Item) (x : Item) (s : RS) (rr : RR), Runs T cf (pre ++ x :: post) s rr → (∀ p ∈ pre, Ind p x ∧ (post = [] → (∃ j v s2, rr = .pan j v s2) → ∀ l ∈ p.2.2.wr, Loc.oldOr x.1.i l = false)) → Front T cf pre post x s rr
  | [], post, x, s, rr, k, _ => by
    cases k with
    | go hA h k => exact .go hA h k (.refl _) (fun hp => by subst hp; cases k; exact ⟨_, rfl⟩)
    | pan hA h => exact .pan hA h (.refl _) rfl
    | out hA h => exact .out hA h rfl rfl
  | p :: pre, post, x, s, rr, k, hi => by
    obtain ⟨hip, hnp⟩ := hi p (List.mem_cons_self ..)
    generalize hL : p :: pre ++ x :: post = L at k
    cases k with
    | nil => simp at hL
    | pan hA h => simp at hL
    | out hA h => simp at hL
    | @go o A r _ sp L _ hA h k =>
      simp only [List.cons_append, List.cons.injEq] at hL
      obtain ⟨rfl, rfl⟩ := hL
      have ih := front pre post x sp rr k (fun q hq => hi q (List.mem_cons_of_mem _ hq))
      obtain ⟨vp, wp, rfl, hcp, hwp, _⟩ := h.move (s' := s) hA (fun _ _ => rfl) (fun _ _ => rfl)
      -- where x looks, p has done nothing
      have back : ∀ t ∈ slotsOf x.1, getE (putT s.env o.dst vp) t = getE s.env t := fun t ht => getE_put_ne fun hd => hip.s1 t hd ht
      have same : ∀ l ∈ x.2.2.rd, applyW s.h wp l = s.h l := fun l hl => (hcp l fun hm => (hip.w1 l hm).1 hl).1
      cases ih with
      | go hA' h' k' e hp =>
        obtain ⟨vx, wx, rfl, hcx, hwx, hx⟩ := h'.move (s' := s) hA' back same
        -- where p looks, x does nothing
        have hpm := h.move (s' := { env := putT s.env x.1.dst vx, h := applyW s.h wx }) hA (fun t ht => (getE_put_ne fun hd => hip.s2 t hd ht).symm) (fun l hl => ((hcx l fun hm => hip.w2 l hm hl).2).symm)
        have hfoot : isCall o.op = false → footOf o.op (evO (putT s.env x.1.dst vx)) (applyW s.h wx) = A := Comes.foot (s' := { env := putT s.env x.1.dst vx, h := applyW s.h wx }) hA (fun t ht => (getE_put_ne fun hd => hip.s2 t hd ht).symm)
        obtain ⟨v2, w2, e1, hc2, hw2, hp2⟩ := hpm
        simp only [RS.mk.injEq] at e1
        obtain ⟨e1, e2⟩ := e1
        have eqv : Eqv { env := putT (putT s.env o.dst vp) x.1.dst vx, h := applyW (applyW s.h wp) wx } { env := putT (putT s.env x.1.dst vx) o.dst v2, h := applyW (applyW s.h wx) w2 } := by
          refine ⟨?_, fun t => ?_⟩
          · funext l
            simp only
            by_cases hl : l ∈ x.2.2.ch
            · have hlp : l ∉ r.ch := fun hm => (hip.w1 l hm).2 hl
              rw [(hc2 l hlp).2]
              exact applyW_at (hcp l hlp).1
            · refine (hcx l hl).1.trans ?_
              exact (congrFun e2 l).trans (applyW_at (hcx l hl).2.symm)
          · have hput : ∀ (u : List (Nat × V)) t, getE u t = getE u t := fun _ _ => rfl
            have e1' : ∀ t, getE (putT s.env o.dst vp) t = getE (putT s.env o.dst v2) t := fun t => by rw [e1]
            rw [getE_put e1' t]
            exact getE_put_swap (fun t h1 => hip.s3 t h1) t
        obtain ⟨rr2, k2, e3⟩ := k'.eqv eqv
        exact .go (Comes.foot hA' back) hx (.go hfoot hp2 k2) (e.trans e3) hp
      | pan hA' h' e hp =>
        obtain ⟨wx, rfl, hwx, hx⟩ := h'.move (s' := s) hA' back same
        refine .pan (Comes.foot hA' back) hx (e.trans (.pan fun l hl => ?_)) hp
        refine applyW_at ?_
        exact applyW_miss _ _ _ fun hm => by
          have := hnp hp (by cases e; exact ⟨_, _, _, rfl⟩) l (by rw [hwp]; exact hm)
          rw [hl] at this
          cases this
      | out hA' h' hrd e => exact .out (Comes.foot hA' back) (h'.move (s' := s) hA' back (fun l hl => same l (by rw [hrd]; exact hl))) hrd e
end
end Go.Rf
