/- Parts of the proof: RfNorm, RfFrz, RfOp1, RfBack, RfBack2. -/
import Derived.Test.YtbjfkjbdpnkknaaDoorRg1
import Derived.ChangeKeysEq

/- Renaming: what is reached, under new names. -/
namespace Go.Rf

def renM (ρ : Map) (m : List Loc) : Map
  | .b k => match m[k]? with
    | some l => ρ l
    | none => .none
  | .n _ _ => .none

theorem idx_get : ∀ {m : List Loc} {l : Loc} {k : Nat}, idx m l = some k → m[k]? = some l
  | [], _, _, e => by cases e
  | x :: m, l, k, e => by
    simp only [idx] at e
    split at e
    · rename_i h; cases e; subst h; rfl
    · simp only [Option.map_eq_some_iff] at e
      obtain ⟨k', h1, rfl⟩ := e
      simpa using idx_get h1

theorem idx_none : ∀ {m : List Loc} {l : Loc}, idx m l = none → l ∉ m
  | [], _, _ => by simp
  | x :: m, l, e => by
    simp only [idx] at e
    split at e
    · cases e
    · rename_i h
      simp only [Option.map_eq_none_iff] at e
      have := idx_none e
      simp only [List.mem_cons, not_or]
      exact ⟨fun h' => h h'.symm, this⟩

theorem pre_get {m m' : List Loc} (h : m <+: m') {k : Nat} {l : Loc} (e : m[k]? = some l) : m'[k]? = some l := by
  obtain ⟨t, rfl⟩ := h
  rw [List.getElem?_append_left (List.getElem?_eq_some_iff.1 e).1]
  exact e

/-- What nameOf does: the list only grows, stays without doubles, and the name leads back. -/
theorem nameOf_spec {al : Loc → Bool} {l : Loc} {m : List Loc} : m <+: (nameOf al l m).2 ∧ (m.Nodup → (nameOf al l m).2.Nodup) ∧ ∀ k, (nameOf al l m).1 = some k → (nameOf al l m).2[k]? = some l := by
  unfold nameOf
  cases al l with
  | false => exact ⟨List.prefix_refl _, id, fun k h => by cases h⟩
  | true =>
    simp only [sel_true]
    cases hi : idx m l with
    | none =>
      simp only [onO_none]
      refine ⟨List.prefix_append _ _, fun h => ?_, fun k hk => ?_⟩
      · rw [List.nodup_append]
        refine ⟨h, by simp, fun a ha b hb => ?_⟩
        simp only [List.mem_singleton] at hb
        subst hb
        exact fun he => idx_none hi (he ▸ ha)
      · cases hk
        simp
    | some k =>
      simp only [onO_some]
      exact ⟨List.prefix_refl _, id, fun k' hk => by cases hk; exact idx_get hi⟩

theorem renM_b {ρ : Map} {m : List Loc} {k : Nat} {l : Loc} (h : m[k]? = some l) : renM ρ m (.b k) = ρ l := by simp only [renM, h]

mutual
theorem ren_spec (al : Loc → Bool) : ∀ (v : V) (m : List Loc), m <+: (V.ren al v m).2 ∧ (m.Nodup → (V.ren al v m).2.Nodup) ∧ isAggV (V.ren al v m).1 = isAggV v ∧ ObjRel.isJunk (V.ren al v m).1 = ObjRel.isJunk v ∧
    ∀ (ρ : Map) (H : Ice) (u : Value) (M : List Loc), (V.ren al v m).2 <+: M → VRel ρ H v u → VRel (renM ρ M) H (V.ren al v m).1 u
  | .d x, m => ⟨List.prefix_refl _, id, rfl, rfl, fun _ _ _ _ _ k => k⟩
  | .ref l sz o n, m => by
    obtain ⟨h1, h2, h3⟩ := nameOf_spec (al := al) (l := l) (m := m)
    simp only [V.ren, named, viaP]
    cases hn : (nameOf al l m).1 with
    | none => exact ⟨h1, h2, rfl, rfl, fun ρ H u M _ k => RefAt.one (show RefAt (ρ l) sz o n u from k)⟩
    | some k' =>
      refine ⟨h1, h2, rfl, rfl, fun ρ H u M hM k => ?_⟩
      show RefAt (renM ρ M (.b k')) sz o n u
      rw [renM_b (pre_get hM (h3 k' hn))]
      exact k
  | .ptr l e j, m => by
    obtain ⟨h1, h2, h3⟩ := nameOf_spec (al := al) (l := l) (m := m)
    simp only [V.ren, named, viaP]
    cases hn : (nameOf al l m).1 with
    | none => exact ⟨h1, h2, rfl, rfl, fun ρ H u M _ k => PtrAt.one (show PtrAt (ρ l) e j u from k)⟩
    | some k' =>
      refine ⟨h1, h2, rfl, rfl, fun ρ H u M hM k => ?_⟩
      show PtrAt (renM ρ M (.b k')) e j u
      rw [renM_b (pre_get hM (h3 k' hn))]
      exact k
  | .map l, m => by
    obtain ⟨h1, h2, h3⟩ := nameOf_spec (al := al) (l := l) (m := m)
    simp only [V.ren, named, viaP]
    cases hn : (nameOf al l m).1 with
    | none => exact ⟨h1, h2, rfl, rfl, fun ρ H u M _ k => VRel.one (x := .map l) k rfl⟩
    | some k' =>
      refine ⟨h1, h2, rfl, rfl, fun ρ H u M hM k => ?_⟩
      show BlkAt (renM ρ M (.b k')) _ u
      rw [renM_b (pre_get hM (h3 k' hn))]
      exact k
  | .iter l, m => by
    obtain ⟨h1, h2, h3⟩ := nameOf_spec (al := al) (l := l) (m := m)
    simp only [V.ren, named, viaP]
    cases hn : (nameOf al l m).1 with
    | none => exact ⟨h1, h2, rfl, rfl, fun ρ H u M _ k => VRel.one (x := .iter l) k rfl⟩
    | some k' =>
      refine ⟨h1, h2, rfl, rfl, fun ρ H u M hM k => ?_⟩
      show BlkAt (renM ρ M (.b k')) _ u
      rw [renM_b (pre_get hM (h3 k' hn))]
      exact k
  | .agg cs, m => by
    obtain ⟨h1, h2, h3, _, h4⟩ := rens_spec al cs m
    simp only [V.ren, viaP]
    refine ⟨h1, h2, rfl, rfl, fun ρ H u M hM k => ?_⟩
    obtain ⟨vs, e, k1, k2⟩ := k
    exact ⟨vs, e, h4 ρ H vs M hM k1, by rw [h3]; exact k2⟩
  | .iface t x, m => by
    obtain ⟨h1, h2, _, _, h4⟩ := ren_spec al x m
    simp only [V.ren, viaP]
    refine ⟨h1, h2, rfl, rfl, fun ρ H u M hM k => ?_⟩
    obtain ⟨v, e, k1⟩ := k
    exact ⟨v, e, h4 ρ H v M hM k1⟩
  | .fn f cs, m => by
    obtain ⟨h1, h2, _, _, h4⟩ := rens_spec al cs m
    simp only [V.ren, viaP]
    refine ⟨h1, h2, rfl, rfl, fun ρ H u M hM k => ?_⟩
    obtain ⟨vs, e, k1⟩ := k
    exact ⟨vs, e, h4 ρ H vs M hM k1⟩
  | .tup cs, m => by
    obtain ⟨h1, h2, _, _, h4⟩ := rens_spec al cs m
    simp only [V.ren, viaP]
    refine ⟨h1, h2, rfl, rfl, fun ρ H u M hM k => ?_⟩
    obtain ⟨vs, e, k1⟩ := k
    exact ⟨vs, e, h4 ρ H vs M hM k1⟩
  | .junk, m => ⟨List.prefix_refl _, id, rfl, rfl, fun _ _ _ _ _ k => k⟩
theorem rens_spec (al : Loc → Bool) : ∀ (vs : List V) (m : List Loc), m <+: (rens al vs m).2 ∧ (m.Nodup → (rens al vs m).2.Nodup) ∧ (rens al vs m).1.any isAggV = vs.any isAggV ∧ (rens al vs m).1.any ObjRel.isJunk = vs.any ObjRel.isJunk ∧
    ∀ (ρ : Map) (H : Ice) (us : List Value) (M : List Loc), (rens al vs m).2 <+: M → VRels ρ H vs us → VRels (renM ρ M) H (rens al vs m).1 us
  | [], m => ⟨List.prefix_refl _, id, rfl, rfl, fun _ _ _ _ _ k => k⟩
  | v :: vs, m => by
    obtain ⟨a1, a2, a3, a4, a5⟩ := ren_spec al v m
    obtain ⟨b1, b2, b3, b4, b5⟩ := rens_spec al vs (V.ren al v m).2
    simp only [rens, viaP]
    refine ⟨a1.trans b1, fun h => b2 (a2 h), by simp only [List.any_cons, a3, b3], by simp only [List.any_cons, a4, b4], fun ρ H us M hM k => ?_⟩
    obtain ⟨u, us', rfl, k1, k2⟩ := k
    exact ⟨u, us', rfl, a5 ρ H u M (b1.trans hM) k1, b5 ρ H us' M hM k2⟩
end

theorem renEs_spec (al : Loc → Bool) : ∀ (es : List (D × V)) (m : List Loc), m <+: (renEs al es m).2 ∧ (m.Nodup → (renEs al es m).2.Nodup) ∧
    ∀ (ρ : Map) (H : Ice) (ents : List MapEntry) (M : List Loc), (renEs al es m).2 <+: M → All2 (ERel ρ H) es ents → All2 (ERel (renM ρ M) H) (renEs al es m).1 ents
  | [], m => ⟨List.prefix_refl _, id, fun _ _ _ _ _ k => by cases k; exact .nil⟩
  | (key, v) :: es, m => by
    obtain ⟨a1, a2, a3, a4, a5⟩ := ren_spec al v m
    obtain ⟨b1, b2, b5⟩ := renEs_spec al es (V.ren al v m).2
    simp only [renEs, viaP]
    refine ⟨a1.trans b1, fun h => b2 (a2 h), fun ρ H ents M hM k => ?_⟩
    cases k with
    | cons k1 k2 =>
      obtain ⟨c1, c2, c3⟩ := k1
      exact .cons ⟨c1, a5 ρ H _ M (b1.trans hM) c2, by rw [a3]; exact c3⟩ (b5 ρ H _ M hM k2)

theorem obj_ren_spec (al : Loc → Bool) (o : Obj) (m : List Loc) : m <+: (o.ren al m).2 ∧ (m.Nodup → (o.ren al m).2.Nodup) ∧
    ∀ (ρ : Map) (H : Ice) (w : World) (p : Place) (M : List Loc), (o.ren al m).2 <+: M → ObjRel ρ H w o p → ObjRel (renM ρ M) H w (o.ren al m).1 p := by
  cases o with
  | arr xs sz =>
    obtain ⟨a1, a2, a3, a4, a5⟩ := rens_spec al xs m
    simp only [Obj.ren, viaP]
    refine ⟨a1, a2, fun ρ H w p M hM k => ?_⟩
    cases p with
    | virt s =>
      obtain ⟨rfl, k2⟩ := k
      exact ⟨rfl, k2⟩
    | at_ b base s size =>
      obtain ⟨e, arr, elem, fr, us, h1, h2, h3, h4, h5, h6⟩ := k
      exact ⟨e, arr, elem, fr, us, h1, h2, a5 ρ H us M hM h3, by rw [a4]; exact h4, h5, h6⟩
    | _ => exact k.elim
  | map es =>
    obtain ⟨a1, a2, a5⟩ := renEs_spec al es m
    simp only [Obj.ren, viaP]
    refine ⟨a1, a2, fun ρ H w p M hM k => ?_⟩
    cases p with
    | blk r =>
      obtain ⟨ents, clock, h1, h2⟩ := k
      exact ⟨ents, clock, h1, a5 ρ H ents M hM h2⟩
    | _ => exact k.elim
  | iter s pos => exact ⟨List.prefix_refl _, id, fun ρ H w p M _ k => by cases p <;> exact k⟩
  | dead => exact ⟨List.prefix_refl _, id, fun ρ H w p M _ k => by cases p <;> exact k⟩

theorem walk_spec (h : Loc → Option Obj) : ∀ (f j : Nat) (m : List Loc) (os : List Obj) (M : List Loc), walkObjs h f j m = some (os, M) → j ≤ m.length →
    m <+: M ∧ (m.Nodup → M.Nodup) ∧ os.length + j = M.length ∧ ∀ k o', os[k]? = some o' → ∃ l, M[j + k]? = some l ∧ ((h l = none ∧ o' = .dead) ∨ ∃ o, h l = some o ∧
      ∀ (ρ : Map) (H : Ice) (w : World) (p : Place), ObjRel ρ H w o p → ObjRel (renM ρ M) H w o' p)
  | 0, j, m, os, M, e, _ => by cases e
  | f + 1, j, m, os, M, e, hj => by
    simp only [walkObjs] at e
    cases hm : m[j]? with
    | none =>
      rw [hm, onO_none] at e
      cases e
      have := List.getElem?_eq_none_iff.1 hm
      exact ⟨List.prefix_refl _, id, by simp; omega, fun k o' hk => by simp at hk⟩
    | some l =>
      rw [hm, onO_some] at e
      have hlt := (List.getElem?_eq_some_iff.1 hm).1
      cases hl : h l with
      | none =>
        rw [hl, onO_none] at e
        obtain ⟨⟨os', M'⟩, e1, e2⟩ := (show ∃ a, walkObjs h f (j + 1) m = some a ∧ some (.dead :: a.1, a.2) = some (os, M) from by
          cases hw : walkObjs h f (j + 1) m with
          | none => rw [hw] at e; cases e
          | some a => rw [hw] at e; exact ⟨a, rfl, e⟩)
        cases e2
        obtain ⟨a1, a2, a3, a4⟩ := walk_spec h f (j + 1) m os' M' e1 hlt
        refine ⟨a1, a2, by simp; omega, fun k o' hk => ?_⟩
        cases k with
        | zero =>
          simp at hk
          subst hk
          exact ⟨l, pre_get a1 hm, .inl ⟨hl, rfl⟩⟩
        | succ k =>
          obtain ⟨l', b1, b2⟩ := a4 k o' (by simpa using hk)
          exact ⟨l', by rw [← b1]; congr 1; omega, b2⟩
      | some o =>
        rw [hl, onO_some] at e
        obtain ⟨r1, r2, r3⟩ := obj_ren_spec (fun l => (h l).isSome) o m
        simp only [viaP] at e
        obtain ⟨⟨os', M'⟩, e1, e2⟩ := (show ∃ a, walkObjs h f (j + 1) (o.ren (fun l => (h l).isSome) m).2 = some a ∧ some ((o.ren (fun l => (h l).isSome) m).1 :: a.1, a.2) = some (os, M) from by
          cases hw : walkObjs h f (j + 1) (o.ren (fun l => (h l).isSome) m).2 with
          | none => rw [hw] at e; cases e
          | some a => rw [hw] at e; exact ⟨a, rfl, e⟩)
        cases e2
        have hlen := r1.length_le
        obtain ⟨a1, a2, a3, a4⟩ := walk_spec h f (j + 1) _ os' M' e1 (by omega)
        refine ⟨r1.trans a1, fun hn => a2 (r2 hn), by simp; omega, fun k o' hk => ?_⟩
        cases k with
        | zero =>
          simp at hk
          subst hk
          exact ⟨l, pre_get (r1.trans a1) hm, .inr ⟨o, hl, fun ρ H w p k => r3 ρ H w p M' a1 k⟩⟩
        | succ k =>
          obtain ⟨l', b1, b2⟩ := a4 k o' (by simpa using hk)
          exact ⟨l', by rw [← b1]; congr 1; omega, b2⟩

theorem nodup_get {m : List Loc} (h : m.Nodup) {i j : Nat} {l : Loc} (h1 : m[i]? = some l) (h2 : m[j]? = some l) : i = j := by
  obtain ⟨a1, a2⟩ := List.getElem?_eq_some_iff.1 h1
  obtain ⟨b1, b2⟩ := List.getElem?_eq_some_iff.1 h2
  exact (List.getElem_inj h).1 (a2.trans b2.symm)

theorem norm_rel {ρ : Map} {H : Ice} {h : Loc → Option Obj} {w : World} {pin : List Loc} {vs vs' : List V} {os : List Obj} {M : List Loc} (hH : HRel ρ H h w) (hp : pin.Nodup) (e : norm pin vs h = some (vs', os, M)) :
    HRel (renM ρ M) H (ofList os) w ∧ (∀ us, VRels ρ H vs us → VRels (renM ρ M) H vs' us) ∧ pin <+: M ∧ M.Nodup ∧ os.length = M.length := by
  obtain ⟨r1, r2, _, _, r5⟩ := rens_spec (fun l => (h l).isSome) vs pin
  simp only [norm, viaP] at e
  obtain ⟨⟨os', M'⟩, e1, e2⟩ := (show ∃ a, walkObjs h 64 0 (rens (fun l => (h l).isSome) vs pin).2 = some a ∧ some ((rens (fun l => (h l).isSome) vs pin).1, a.1, a.2) = some (vs', os, M) from by
    cases hw : walkObjs h 64 0 (rens (fun l => (h l).isSome) vs pin).2 with
    | none => rw [hw] at e; cases e
    | some a => rw [hw] at e; exact ⟨a, rfl, e⟩)
  cases e2
  obtain ⟨a1, a2, a3, a4⟩ := walk_spec h 64 0 _ os' M' e1 (Nat.zero_le _)
  have hnd : M'.Nodup := a2 (r2 hp)
  refine ⟨⟨hH.ice, ?_, ?_, ?_, ?_⟩, fun us k => r5 ρ H us M' a1 k, r1.trans a1, hnd, by simpa using a3⟩
  · intro l o ho
    cases l with
    | n i k => simp [ofList] at ho
    | b k =>
      have hk : os'[k]? = some o := by
        simp only [ofList] at ho
        split at ho
        · cases ho
        · exact ho
      obtain ⟨l, b1, b2⟩ := a4 k o hk
      rw [Nat.zero_add] at b1
      rw [renM_b b1]
      rcases b2 with ⟨_, rfl⟩ | ⟨o', c1, c2⟩
      · simp [ofList, hk] at ho
      · exact c2 ρ H w _ (hH.objs l o' c1)
  · intro l ho
    cases l with
    | n i k => exact .inl rfl
    | b k =>
      simp only [ofList] at ho
      split at ho
      · rename_i hk
        obtain ⟨l, b1, b2⟩ := a4 k _ hk
        rw [Nat.zero_add] at b1
        rw [renM_b b1]
        rcases b2 with ⟨c1, _⟩ | ⟨o', c1, c2⟩
        · exact hH.gone l c1
        · exfalso
          have := c2 ρ H w _ (hH.objs l o' c1)
          cases hp : ρ l <;> rw [hp] at this <;> exact this.elim
      · have : M'[k]? = none := by
          rw [List.getElem?_eq_none_iff] at ho ⊢
          omega
        left
        simp only [renM, this]
  · intro l l' b h1 h2
    cases l with
    | n i k => cases h1
    | b k =>
      cases l' with
      | n i k => cases h2
      | b k' =>
        simp only [renM] at h1 h2
        split at h1
        · rename_i l e1
          split at h2
          · rename_i l' e2
            have := hH.inj l l' b h1 h2
            subst this
            rw [nodup_get hnd e1 e2]
          · cases h2
        · cases h1
  · intro l b h1 o
    cases l with
    | n i k => cases h1
    | b k =>
      simp only [renM] at h1
      split at h1
      · exact hH.sep _ b h1 o
      · cases h1
end Go.Rf

/- Freezing: objects that become closed data. -/
namespace Go.Rf
open Classical

noncomputable def iceOf (ρ : Map) (H : Ice) (w : World) (S : List Loc) : Ice := fun b o => if ∃ l ∈ S, (ρ l).block = some b then w.cell? ⟨b, o, Option.none⟩ else H b o
noncomputable def killM (ρ : Map) (S : List Loc) : Map := fun l => if l ∈ S then .dead else ρ l

theorem freeze_heap {ρ : Map} {H : Ice} {h : Loc → Option Obj} {w : World} (hH : HRel ρ H h w) (S : List Loc) :
    HRel (killM ρ S) (iceOf ρ H w S) (without h S) w ∧ Trans ρ H w (killM ρ S) (iceOf ρ H w S) w ∧ Stays ρ (killM ρ S) ∧ H.le (iceOf ρ H w S) := by
  have hle : H.le (iceOf ρ H w S) := fun b o v e => by
    unfold iceOf
    split
    · exact hH.ice b o v e
    · exact e
  have hst : Stays ρ (killM ρ S) := fun l _ => by
    unfold killM
    split
    · exact .inr rfl
    · exact .inl rfl
  have blk : ∀ l b, (killM ρ S l).block = some b → l ∉ S ∧ (ρ l).block = some b := fun l b e => by
    unfold killM at e
    split at e
    · cases e
    · rename_i h; exact ⟨h, e⟩
  refine ⟨⟨?_, ?_, ?_, ?_, ?_⟩, ⟨rfl, rfl, rfl, Nat.le_refl _, ?_, ?_⟩, hst, hle⟩
  · intro b o v e
    unfold iceOf at e
    split at e
    · exact e
    · exact hH.ice b o v e
  · intro l o e
    unfold without at e
    split at e
    · cases e
    · rename_i hn
      have := (hH.objs l o e).mono hst hle (fun _ _ => rfl)
      unfold killM
      rw [if_neg hn]
      exact this
  · intro l e
    unfold without at e
    unfold killM
    split at e
    · rename_i hn; rw [if_pos hn]; exact .inr rfl
    · rename_i hn; rw [if_neg hn]; exact hH.gone l e
  · intro l l' b e e'
    exact hH.inj l l' b (blk l b e).2 (blk l' b e').2
  · intro l b e o
    obtain ⟨hn, e⟩ := blk l b e
    unfold iceOf
    rw [if_neg]
    · exact hH.sep l b e o
    · rintro ⟨l', h1, h2⟩
      exact hn (hH.inj l l' b e h2 ▸ h1)
  · intro b _ hn
    refine ⟨rfl, fun o => ?_⟩
    unfold iceOf
    rw [if_neg]
    rintro ⟨l', _, h2⟩
    exact hn l' h2
  · intro l b e
    exact .inr ⟨l, (blk l b e).2⟩

/-- What freezing a value tells. -/
def FrzOk (ρ : Map) (H : Ice) (h : Loc → Option Obj) (w : World) (v : V) (x : D) (ms : List Loc) : Prop :=
  (∀ l ∈ ms, ∃ xs sz, h l = some (.arr xs sz)) ∧ isAggD x = isAggV v ∧ ∀ S : List Loc, (∀ l ∈ ms, l ∈ S) → ∀ u, VRel ρ H v u → DRel (iceOf ρ H w S) x u

theorem frzL_rel {ρ : Map} {H : Ice} {h : Loc → Option Obj} {w : World} {f : V → Option (D × List Loc)} (hf : ∀ v x ms, f v = some (x, ms) → FrzOk ρ H h w v x ms) :
    ∀ (vs : List V) (ds : List D) (ms : List Loc), frzL f vs = some (ds, ms) → (∀ l ∈ ms, ∃ xs sz, h l = some (.arr xs sz)) ∧ ds.any isAggD = vs.any isAggV ∧
      ∀ S : List Loc, (∀ l ∈ ms, l ∈ S) → ∀ us, VRels ρ H vs us → DRels (iceOf ρ H w S) ds us
  | [], ds, ms, e => by cases e; exact ⟨(fun l hl => (List.not_mem_nil hl).elim), rfl, fun S _ us k => k⟩
  | v :: vs, ds, ms, e => by
    simp only [frzL] at e
    split at e
    · rename_i x m xs m' e1 e2
      cases e
      obtain ⟨a1, a2, a3⟩ := hf v x m e1
      obtain ⟨b1, b2, b3⟩ := frzL_rel hf vs xs m' e2
      refine ⟨fun l hl => ?_, by simp only [List.any_cons, a2, b2], fun S hS us k => ?_⟩
      · rcases List.mem_append.1 hl with h | h
        · exact a1 l h
        · exact b1 l h
      · obtain ⟨u, us', rfl, k1, k2⟩ := k
        exact ⟨u, us', rfl, a3 S (fun l hl => hS l (List.mem_append_left _ hl)) u k1, b3 S (fun l hl => hS l (List.mem_append_right _ hl)) us' k2⟩
    · cases e

theorem flat_take_get' {us : List Value} {n j : Nat} {v : Value} (h : (flat (us.take n))[j]? = some v) : (flat us)[j]? = some v := by
  have : flat us = flat (us.take n) ++ flat (us.drop n) := by rw [← flat_append, List.take_append_drop]
  rw [this]
  have hl := (List.getElem?_eq_some_iff.1 h).1
  rw [List.getElem?_append_left hl]
  exact h

theorem flat_drop' {sz : Nat} : ∀ {us : List Value} (n : Nat), (∀ u ∈ us, u.cells.size = sz) → flat (us.drop n) = (flat us).drop (n * sz)
  | us, 0, _ => by simp
  | [], n + 1, _ => by simp [flat]
  | u :: us, n + 1, h => by
    have hl : u.cells.toList.length = sz := by simpa using h u (List.mem_cons_self ..)
    rw [List.drop_succ_cons, flat_drop' n (fun x hx => h x (List.mem_cons_of_mem _ hx)), flat_cons, List.drop_append, hl]
    have : (n + 1) * sz - sz = n * sz := by rw [Nat.add_mul]; omega
    have h0 : List.drop ((n + 1) * sz) u.cells.toList = [] := List.drop_eq_nil_of_le (by rw [hl, Nat.add_mul]; omega)
    rw [this, h0, List.nil_append]

theorem iceOf_in {ρ : Map} {H : Ice} {w : World} {S : List Loc} {l : Loc} {b : Nat} (hl : l ∈ S) (hb : (ρ l).block = some b) (o : Nat) : iceOf ρ H w S b o = w.cell? ⟨b, o, Option.none⟩ := by
  unfold iceOf
  rw [if_pos ⟨l, hl, hb⟩]

theorem frz_rel {ρ : Map} {H : Ice} {h : Loc → Option Obj} {w : World} (hH : HRel ρ H h w) : ∀ (k : Nat) (v : V) (x : D) (ms : List Loc), frz h k v = some (x, ms) → FrzOk ρ H h w v x ms
  | k, .d y, x, ms, e => by
    have : frz h k (.d y) = some (y, []) := by cases k <;> rfl
    rw [this] at e
    cases e
    exact ⟨fun l hl => (List.not_mem_nil hl).elim, rfl, fun S _ u k => DRel.mono (freeze_heap hH S).2.2.2 _ k⟩
  | 0, .ref .., _, _, e | 0, .ptr .., _, _, e | 0, .agg _, _, _, e | 0, .iface .., _, _, e | 0, .fn .., _, _, e | 0, .tup _, _, _, e | 0, .map _, _, _, e | 0, .iter _, _, _, e | 0, .junk, _, _, e => by cases e
  | k + 1, .tup _, _, _, e | k + 1, .map _, _, _, e | k + 1, .iter _, _, _, e | k + 1, .junk, _, _, e => by cases e
  | k + 1, .agg cs, x, ms, e => by
    simp only [frz, Option.map_eq_some_iff] at e
    obtain ⟨⟨ds, m⟩, e1, e2⟩ := e
    cases e2
    obtain ⟨a1, a2, a3⟩ := frzL_rel (fun v x ms => frz_rel hH k v x ms) cs ds _ e1
    refine ⟨a1, rfl, fun S hS u hu => ?_⟩
    obtain ⟨vs, rfl, k1, k2⟩ := hu
    exact ⟨vs, rfl, a3 S hS vs k1, by rw [a2]; exact k2⟩
  | k + 1, .iface t v, x, ms, e => by
    simp only [frz, Option.map_eq_some_iff] at e
    obtain ⟨⟨y, m⟩, e1, e2⟩ := e
    cases e2
    obtain ⟨a1, a2, a3⟩ := frz_rel hH k v y _ e1
    refine ⟨a1, rfl, fun S hS u hu => ?_⟩
    obtain ⟨u', rfl, k1⟩ := hu
    exact ⟨u', rfl, a3 S hS u' k1⟩
  | k + 1, .fn f cs, x, ms, e => by
    simp only [frz, Option.map_eq_some_iff] at e
    obtain ⟨⟨ds, m⟩, e1, e2⟩ := e
    cases e2
    obtain ⟨a1, a2, a3⟩ := frzL_rel (fun v x ms => frz_rel hH k v x ms) cs ds _ e1
    refine ⟨a1, rfl, fun S hS u hu => ?_⟩
    obtain ⟨vs, rfl, k1⟩ := hu
    exact ⟨vs, rfl, a3 S hS vs k1⟩
  | k + 1, .ref l sz off len, x, ms, e => by
    simp only [frz] at e
    split at e
    · rename_i xs sz' hl
      split at e
      · rename_i hle
        simp only [Option.bind_eq_some_iff] at e
        obtain ⟨⟨ds, m⟩, e1, e2⟩ := e
        split at e2
        · rename_i hwl
          cases e2
          obtain ⟨a1, a2, a3⟩ := frzL_rel (fun v x ms => frz_rel hH k v x ms) _ ds m e1
          refine ⟨fun l' hl' => ?_, rfl, fun S hS u hu => ?_⟩
          · rcases List.mem_cons.1 hl' with rfl | h'
            · exact ⟨xs, sz', hl⟩
            · exact a1 l' h'
          · have hobj := hH.objs l _ hl
            have hu : RefAt (ρ l) sz off len u := hu
            cases hp : ρ l with
            | none => rw [hp] at hu; exact hu.elim
            | dead => rw [hp] at hobj; exact hobj.elim
            | blk q => rw [hp] at hu; exact hu.elim
            | virt s =>
              rw [hp] at hobj hu
              obtain ⟨rfl, _⟩ := hobj
              obtain ⟨_, rfl, rfl, rfl⟩ := hu
              cases e1
              exact ⟨Option.none, 0, rfl, Nat.le_refl _, by simp, fun h => absurd rfl h⟩
            | at_ b base s size =>
              rw [hp] at hobj hu
              obtain ⟨rfl, arr, elem, fr, us, hb, hsize, hus, hj, hs, hc⟩ := hobj
              obtain ⟨rfl, c, rfl, q1, q2, q3, q4⟩ := hu
              have hr : VRels ρ H ((xs.drop off).take len) ((us.drop off).take len) := (hus.drop off).take len
              have hd := a3 S (fun l' hl' => hS l' (List.mem_cons_of_mem _ hl')) _ hr
              have hlen : ds.length = len := by
                rw [hd.length, ← hr.length, List.length_take, List.length_drop]; omega
              show DRel _ (.sl ds) _
              refine ⟨some ⟨b, base + off * s.c, Option.none⟩, c, by rw [hlen], by omega, ?_, fun _ => ⟨b, base + off * s.c, s.c, _, rfl, hd, fun u hu => hs u (List.mem_of_mem_drop (List.mem_of_mem_take hu)), fun j v hjv => ?_⟩⟩
              · rw [hlen]
                exact Nat.le_trans (Nat.mul_le_mul_left _ hwl) q2
              · rw [iceOf_in (hS l (List.mem_cons_self ..)) (by rw [hp]; rfl)]
                have q := flat_take_get' hjv
                rw [flat_drop' off hs, List.getElem?_drop] at q
                have := hc _ _ q
                simp only [World.cell?, hb]
                simpa [Nat.add_assoc] using this
        · cases e2
      · cases e
    · cases e
  | k + 1, .ptr l e' j, x, ms, e => by
    simp only [frz] at e
    split at e
    · rename_i xs sz' hl
      split at e
      · rename_i hj0
        subst hj0
        split at e
        · rename_i v hv
          simp only [Option.map_eq_some_iff] at e
          obtain ⟨⟨y, m⟩, e1, e2⟩ := e
          cases e2
          obtain ⟨a1, a2, a3⟩ := frz_rel hH k v y m e1
          refine ⟨fun l' hl' => ?_, rfl, fun S hS u hu => ?_⟩
          · rcases List.mem_cons.1 hl' with rfl | h'
            · exact ⟨xs, sz', hl⟩
            · exact a1 l' h'
          · have hobj := hH.objs l _ hl
            have hu : PtrAt (ρ l) e' 0 u := hu
            cases hp : ρ l with
            | none => rw [hp] at hu; exact hu.elim
            | dead => rw [hp] at hobj; exact hobj.elim
            | blk q => rw [hp] at hu; exact hu.elim
            | virt s => rw [hp] at hu; exact hu.elim
            | at_ b base s size =>
              rw [hp] at hobj hu
              obtain ⟨u', r1, r2, r3, r4⟩ := obj_cell hobj hv
              refine ⟨b, base + e' * s.c, u', hu, a3 S (fun l' hl' => hS l' (List.mem_cons_of_mem _ hl')) u' r1, fun q v hq => ?_⟩
              rw [iceOf_in (hS l (List.mem_cons_self ..)) (by rw [hp]; rfl)]
              exact r4 q v hq
        · cases e
      · cases e
    · cases e
end Go.Rf

/- Slots, operands, types' shapes; what it means that an operation does what the abstract one does. -/
namespace Go.Rf
variable {B : Ice} {ds : List Deferred} {fx : List (Nat × Value)}

/-- The slots hold what the abstract ones hold. -/
structure EnvRel (B : Ice) (ds : List Deferred) (fx : List (Nat × Value)) (ρ : Map) (H : Ice) (N : Nat) (env : List (Nat × V)) (a : Act) : Prop where
  size : a.tmps.size = N
  defers : a.defers = ds
  rel : ∀ t v, getE env t = some v → VRel ρ H v (a.tmps.getD t undef)
  base : Ice.le B H
  fix : ∀ t u, (t, u) ∈ fx → a.tmps.getD t undef = u

theorem EnvRel.mono {ρ ρ' H H' N env a} (k : EnvRel B ds fx ρ H N env a) (hs : Stays ρ ρ') (hl : H.le H') : EnvRel B ds fx ρ' H' N env a :=
  ⟨k.size, k.defers, fun t v e => (k.rel t v e).mono hs hl, fun b o v e => hl b o v (k.base b o v e), k.fix⟩

theorem EnvRel.put {ρ H N env a x v} (k : EnvRel B ds fx ρ H N env a) (d : Option Nat) (hd : ∀ t, d = some t → t < N ∧ ∀ x ∈ fx, x.1 ≠ t) (hv : VRel ρ H x v) : EnvRel B ds fx ρ H N (putT env d x) (a.put d v) := by
  cases d with
  | none => exact k
  | some t =>
    obtain ⟨ht, hfx⟩ := hd t rfl
    refine ⟨by simpa [Act.put] using k.size, k.defers, fun t' v' e => ?_, k.base, fun t' u' hm => ?_⟩
    · simp only [putT, getE] at e
      by_cases h : t = t'
      · subst h
        rw [if_pos rfl] at e
        injection e with e
        subst e
        have : (a.tmps.setIfInBounds t v).getD t undef = v := by
          simp [Array.getD, k.size, ht]
        simpa [Act.put, this] using hv
      · rw [if_neg h] at e
        have : (a.tmps.setIfInBounds t v).getD t' undef = a.tmps.getD t' undef := by
          simp only [Array.getD_eq_getD_getElem?, Array.getElem?_setIfInBounds, if_neg h]
        simpa [Act.put, this] using k.rel t' v' e
    · have hne := hfx _ hm
      have : (a.tmps.setIfInBounds t v).getD t' undef = a.tmps.getD t' undef := by
        simp only [Array.getD_eq_getD_getElem?, Array.getElem?_setIfInBounds, if_neg (Ne.symm hne)]
      simpa [Act.put, this] using k.fix t' u' hm

mutual
def constD : D → Value → Bool
  | .bool b, v => match v with | .bool c => b == c | _ => false
  | .int k n, v => match v with | .int j m => decide (k = j) && decide (n = m) | _ => false
  | .str b, v => match v with | .string s => decide (s.data.toList = b) && decide (b.length ≤ long) | _ => false
  | .agg ds, v => match v with | .agg vs => constDs ds vs.toList && !ds.any isAggD | _ => false
  | .sl l, v => match l, v with | [], .slice none 0 0 => true | _, _ => false
  | .nilp, v => match v with | .pointer none => true | _ => false
  | .nili, v => match v with | .nilIface => true | _ => false
  | .nilf, v => match v with | .nilFunc => true | _ => false
  | .nilm, v => match v with | .map none => true | _ => false
  | .fn f l, v => match l, v with | [], .func (.func g) a b => decide (f = g) && a.toList.isEmpty && b.toList.isEmpty | _, _ => false
  | .iface t x, v => match v with | .iface u v => decide (t = u) && constD x v | _ => false
  | .box _, _ => false
def constDs : List D → List Value → Bool
  | [], vs => match vs with | [] => true | _ => false
  | d :: ds, vs => match vs with | v :: vs => constD d v && constDs ds vs | [] => false
end

theorem arr_nil {α : Type} {a : Array α} (h : a.toList.isEmpty = true) : a = #[] := by
  cases a with
  | mk l => cases l <;> simp_all

mutual
theorem constD_rel {H : Ice} : ∀ (x : D) (v : Value), constD x v = true → DRel H x v
  | .bool b, v, h => by cases v <;> simp_all [constD, DRel]
  | .int k n, v, h => by cases v <;> simp_all [constD, DRel]
  | .str b, v, h => by
    cases v <;> simp_all only [constD, Bool.false_eq_true]
    rename_i s
    simp only [Bool.and_eq_true, decide_eq_true_eq] at h
    obtain ⟨h1, h2⟩ := h
    subst h1
    exact ⟨rfl, h2⟩
  | .agg ds, v, h => by
    cases v <;> simp_all only [constD, Bool.false_eq_true]
    rename_i vs
    simp only [Bool.and_eq_true, Bool.not_eq_true'] at h
    exact ⟨vs.toList, rfl, constDs_rel ds _ h.1, h.2⟩
  | .sl l, v, h => by
    unfold constD at h
    split at h
    · exact ⟨none, 0, rfl, Nat.le_refl _, by simp [wl], fun h => absurd rfl h⟩
    · cases h
  | .nilp, v, h => by unfold constD at h; split at h <;> first | rfl | cases h
  | .nili, v, h => by unfold constD at h; split at h <;> first | rfl | cases h
  | .nilf, v, h => by unfold constD at h; split at h <;> first | rfl | cases h
  | .nilm, v, h => by unfold constD at h; split at h <;> first | rfl | cases h
  | .fn f l, v, h => by
    unfold constD at h
    split at h
    · simp only [Bool.and_eq_true, decide_eq_true_eq] at h
      obtain ⟨⟨rfl, h1⟩, h2⟩ := h
      rw [arr_nil h1, arr_nil h2]
      exact ⟨[], rfl, rfl⟩
    · cases h
  | .iface t x, v, h => by
    cases v <;> simp_all only [constD, Bool.false_eq_true]
    rename_i u v
    simp only [Bool.and_eq_true, decide_eq_true_eq] at h
    obtain ⟨rfl, h⟩ := h
    exact ⟨v, rfl, constD_rel x v h⟩
  | .box _, _, h => by simp [constD] at h
theorem constDs_rel {H : Ice} : ∀ (xs : List D) (vs : List Value), constDs xs vs = true → DRels H xs vs
  | [], vs, h => by cases vs <;> simp_all [constDs, DRels]
  | x :: xs, vs, h => by
    cases vs with
    | nil => simp [constDs] at h
    | cons v vs =>
      simp only [constDs, Bool.and_eq_true] at h
      exact ⟨v, vs, rfl, constD_rel x v h.1, constDs_rel xs vs h.2⟩
end

def okO : Operand → Opnd → Bool
  | .tmp t, .t n => decide (t = n)
  | .const v, .c x => constD x v
  | .func f, .c (.fn g []) => decide (f = g)
  | _, _ => false

theorem okO_rel {ρ H N env a} (k : EnvRel B ds fx ρ H N env a) {o : Operand} {x : Opnd} (h : okO o x = true) {v : V} (e : evO env x = some v) : VRel ρ H v (a.eval o) := by
  unfold okO at h
  split at h
  · simp only [decide_eq_true_eq] at h; subst h; exact k.rel _ _ e
  · simp only [evO, Option.some.injEq] at e; subst e; exact constD_rel _ _ h
  · simp only [decide_eq_true_eq] at h; subst h
    simp only [evO, Option.some.injEq] at e; subst e
    exact ⟨[], rfl, rfl⟩
  · cases h

/-! ### Types -/
def aggT : TypeDesc → Bool
  | .struct _ | .array _ _ => true
  | _ => false

/-- A type's cells, and whether it is a struct (or an array). -/
def tyIs (P : Program) (t : TypeId) (n : Nat) (ag : Bool) : Bool :=
  match P.info? t, P.underlying t with
  | some i, some d => decide (i.size = n) && (aggT d == ag)
  | _, _ => false

def sizeIs (P : Program) (t : TypeId) (n : Nat) : Bool := match P.info? t with
  | some i => decide (i.size = n)
  | none => false

def zeroIs (P : Program) (t : TypeId) (z : D) : Bool := match P.info? t with
  | some i => match i.zero with
    | some v => constD z v && !(match v with | .tuple _ => true | _ => false)
    | none => false
  | none => false

theorem sizeIs.run {P : Program} {t n} (h : sizeIs P t n = true) (w : World) : (sizeOf t).run P w = .ok n w := by
  unfold sizeIs at h
  split at h
  · rename_i i hi
    simp only [decide_eq_true_eq] at h
    rw [run_sizeOf w hi, Program.cellsOf, hi]
    simp [h]
  · cases h

theorem tyIs.size {P : Program} {t n ag} (h : tyIs P t n ag = true) : sizeIs P t n = true := by
  unfold tyIs at h
  unfold sizeIs
  cases hi : P.info? t with
  | none => simp [hi] at h
  | some i =>
    cases hu : P.underlying t with
    | none => simp [hi, hu] at h
    | some d => simp [hi, hu] at h; simp [h.1]

theorem tyIs.isAgg {P : Program} {t n ag} (h : tyIs P t n ag = true) (w : World) : (Go.isAgg t).run P w = .ok ag w := by
  unfold tyIs at h
  cases hi : P.info? t with
  | none => simp [hi] at h
  | some i =>
    cases hu : P.underlying t with
    | none => simp [hi, hu] at h
    | some d =>
      simp [hi, hu] at h
      have h2 := h.2
      unfold Go.isAgg
      rw [Sem.run_bind, run_underlying hu, Result.andThen_ok, ← h2]
      cases d <;> rfl

theorem zeroIs.run {P : Program} {t z} (h : zeroIs P t z = true) (w : World) : ∃ v, (zeroValue t).run P w = .ok v w ∧ ∀ H, DRel H z v := by
  unfold zeroIs at h
  split at h
  · rename_i i hi
    split at h
    · rename_i v hv
      simp only [Bool.and_eq_true] at h
      refine ⟨v, ?_, fun H => constD_rel z v h.1⟩
      unfold zeroValue
      rw [Sem.run_bind, run_typeInfo w hi, Result.andThen_ok, hv]
      rfl
    · cases h
  · cases h

/-! ### What an operation does -/
def NewAt (i : Nat) (ρ ρ' : Map) : Prop := ∀ l, ρ l = .none → ρ' l ≠ .none → ∃ k, l = .n i k

theorem NewAt.refl (i ρ) : NewAt i ρ ρ := fun _ h h' => absurd h h'
theorem NewAt.upd {i ρ} (k : Nat) (p : Place) : NewAt i ρ (updM ρ (.n i k) p) := fun l h h' => by
  by_cases e : l = .n i k
  · exact ⟨k, e⟩
  · rw [updM_ne e] at h'; exact absurd h h'
theorem NewAt.trans {i ρ ρ1 ρ2} (h : NewAt i ρ ρ1) (k : NewAt i ρ1 ρ2) : NewAt i ρ ρ2 := fun l h1 h2 => by
  by_cases e : ρ1 l = .none
  · exact k l e h2
  · exact h l h1 e
theorem NewAt.kill {i ρ l} (h : ρ l ≠ .none) (p : Place) : NewAt i ρ (updM ρ l p) := fun l' h1 h2 => by
  by_cases e : l' = l
  · subst e; exact absurd h1 h
  · rw [updM_ne e] at h2; exact absurd h1 h2

/-- After an operation: the heap as the effect says, the value as it says. -/
structure Post (ρ : Map) (H : Ice) (h : Loc → Option Obj) (w : World) (i : Nat) (e : Eff) (ρ' : Map) (H' : Ice) (v : Value) (w' : World) : Prop where
  heap : HRel ρ' H' (applyW h e.wr) w'
  trans : Trans ρ H w ρ' H' w'
  stays : Stays ρ ρ'
  new : NewAt i ρ ρ'
  val : VRel ρ' H' e.v v

def Sound (P : Program) (o : Oper) (a : Act) (w : World) (ρ : Map) (H : Ice) (h : Loc → Option Obj) (i : Nat) (r : R) : Prop :=
  ∀ (K : Act → World → Prop) (Q : Exit → Act → World → Prop),
    (match r with
      | .ok e => ∀ ρ' H' v w', Post ρ H h w i e ρ' H' v w' → K (a.put o.dst v) w'
      | .pan e => ∀ ρ' H' v w', Post ρ H h w i e ρ' H' v w' → Q (.panic [{ v, recovered := false }]) a w'
      | .out => LetsOut Q) → o.wp P a w K Q ∨ (o.asks P a w ∧ LetsOut Q)

theorem Sound.of {P : Program} {o : Oper} {a : Act} {w w' : World} {ρ ρ' : Map} {H H' : Ice} {h i} {e : Eff} {v : Value} (hr : (execOp a.eval o).run P w = .ok (.value v) w')
    (hp : Post ρ H h w i e ρ' H' v w') : Sound P o a w ρ H h i (.ok e) := fun K Q hk => .inl (by
  unfold Oper.wp
  rw [hr]
  exact hk _ _ _ _ hp)

theorem Sound.ofU {P : Program} {o : Oper} {a : Act} {w w' : World} {ρ ρ' : Map} {H H' : Ice} {h i} {e : Eff} (hr : (execOp a.eval o).run P w = .ok .skip w')
    (hp : Post ρ H h w i e ρ' H' undef w') : Sound P o a w ρ H h i (.ok e) := fun K Q hk => .inl (by
  unfold Oper.wp
  rw [hr]
  exact hk _ _ _ _ hp)

theorem Post.pure {ρ H h w i} {x : V} {v : Value} (hH : HRel ρ H h w) (hv : VRel ρ H x v) (rd : List Loc) : Post ρ H h w i { v := x, rd := rd } ρ H v w :=
  ⟨hH, Trans.refl .., Stays.refl _, NewAt.refl _ _, hv⟩

/-- An operation that touches nothing. -/
theorem Sound.pure {P : Program} {o : Oper} {a : Act} {w : World} {ρ : Map} {H : Ice} {h i} {x : V} {v : Value} (hr : (execOp a.eval o).run P w = .ok (.value v) w)
    (hH : HRel ρ H h w) (hv : VRel ρ H x v) (rd : List Loc := []) : Sound P o a w ρ H h i (.ok { v := x, rd := rd }) := Sound.of hr (Post.pure hH hv rd)

theorem val_some {x : V} {r : R} (h : Rf.val x = some r) : r = .ok { v := x } := by cases h; rfl
theorem bnd_eq {α β : Type} {x : Option α} {k : α → Option β} {r : β} (h : bnd x k = some r) : ∃ a, x = some a ∧ k a = some r := by
  cases x with
  | none => cases h
  | some a => exact ⟨a, rfl, h⟩
end Go.Rf

/- A callee's objects, seen again from its caller. -/
namespace Go.Rf

theorem frzArgs_rel {ρ : Map} {H : Ice} {h : Loc → Option Obj} {w : World} (hH : HRel ρ H h w) : ∀ (args : List (V × Bool)) (vs : List V) (m : List Loc), frzArgs h args = some (vs, m) →
    ∀ S : List Loc, (∀ l ∈ m, l ∈ S) → ∀ us, VRels ρ H (args.map (·.1)) us → VRels (killM ρ S) (iceOf ρ H w S) vs us
  | [], vs, m, e, S, _, us, k => by cases e; exact k
  | (v, fl) :: l, vs, m, e, S, hS, us, k => by
    obtain ⟨u, us', rfl, k1, k2⟩ := k
    simp only [frzArgs] at e
    split at e
    · rename_i v' m1 vs' m2 e1 e2
      cases e
      have tail := frzArgs_rel hH l vs' m2 e2 S (fun x hx => hS x (List.mem_append_right _ hx)) us' k2
      refine ⟨u, us', rfl, ?_, tail⟩
      cases fl with
      | true =>
        simp only [if_true, Option.map_eq_some_iff] at e1
        obtain ⟨⟨x, m'⟩, f1, f2⟩ := e1
        cases f2
        exact (frz_rel hH 24 v x _ f1).2.2 S (fun x hx => hS x (List.mem_append_left _ hx)) u k1
      | false =>
        simp only [Bool.false_eq_true, if_false] at e1
        cases e1
        exact k1.mono (freeze_heap hH S).2.2.1 (freeze_heap hH S).2.2.2
    · cases e

section
variable {m : List Loc} {i : Nat}

theorem backL_lt {k : Nat} {l : Loc} (h : m[k]? = some l) : backL m i (.b k) = l := by
  have hk := (List.getElem?_eq_some_iff.1 h).1
  simp only [backL, if_pos hk, List.getD, h, Option.getD_some]

theorem backL_ge {k : Nat} (h : m.length ≤ k) : backL m i (.b k) = .n i (k - m.length) := by
  simp only [backL, if_neg (Nat.not_lt.2 h)]

theorem backL_inj (hnd : m.Nodup) (hm : ∀ j, .n i j ∉ m) {a b : Nat} (h : backL m i (.b a) = backL m i (.b b)) : a = b := by
  by_cases ha : a < m.length <;> by_cases hb : b < m.length
  · have h1 := List.getElem?_eq_getElem ha
    have h2 := List.getElem?_eq_getElem hb
    rw [backL_lt h1, backL_lt h2] at h
    exact (List.getElem_inj hnd).1 h
  · have h1 := List.getElem?_eq_getElem ha
    rw [backL_lt h1, backL_ge (by omega)] at h
    exact (hm _ (h ▸ List.getElem_mem ha)).elim
  · have h2 := List.getElem?_eq_getElem hb
    rw [backL_lt h2, backL_ge (by omega)] at h
    exact (hm _ (h.symm ▸ List.getElem_mem hb)).elim
  · rw [backL_ge (by omega), backL_ge (by omega)] at h
    injection h with _ h
    omega

theorem applyW_back (hinj : ∀ a b, backL m i (.b a) = backL m i (.b b) → a = b) : ∀ (os : List Obj) (k : Nat) (h : Loc → Option Obj),
    (∀ j o, os[j]? = some o → applyW h (backObjs m i k os) (backL m i (.b (k + j))) = o.mapL (backL m i)) ∧
    (∀ l, (∀ j, j < os.length → backL m i (.b (k + j)) ≠ l) → applyW h (backObjs m i k os) l = h l)
  | [], k, h => ⟨fun j o e => by simp at e, fun l _ => rfl⟩
  | o :: os, k, h => by
    obtain ⟨a1, a2⟩ := applyW_back hinj os (k + 1) (updH h (backL m i (.b k)) (o.mapL (backL m i)))
    refine ⟨fun j o' e => ?_, fun l hl => ?_⟩
    · cases j with
      | zero =>
        simp at e
        subst e
        simp only [backObjs, applyW_cons]
        rw [a2]
        · exact updH_self ..
        · intro j hj he
          have := hinj _ _ he
          omega
      | succ j =>
        have := a1 j o' (by simpa using e)
        simp only [backObjs, applyW_cons]
        rw [show k + (j + 1) = k + 1 + j from by omega]
        exact this
    · simp only [backObjs, applyW_cons]
      rw [a2 l (fun j hj he => hl (j + 1) (by simp; omega) (by rw [← he]; congr 2; omega))]
      exact updH_ne (fun he => hl 0 (by simp) he.symm)
end

mutual
theorem VRel.mapL {ρ ρ' : Map} {H : Ice} {f : Loc → Loc} (hf : ∀ l, ρ l ≠ .none → ρ' (f l) = ρ l) : ∀ (v : V) {u : Value}, VRel ρ H v u → VRel ρ' H (V.mapL f v) u
  | .d x, _, k => k
  | .ref l sz o n, u, k => by
    have k : RefAt (ρ l) sz o n u := k
    show RefAt (ρ' (f l)) sz o n u
    rw [hf l (fun h => by rw [h] at k; exact k)]
    exact k
  | .ptr l e j, u, k => by
    have k : PtrAt (ρ l) e j u := k
    show PtrAt (ρ' (f l)) e j u
    rw [hf l (fun h => by rw [h] at k; exact k)]
    exact k
  | .map l, u, k => by
    have k : BlkAt (ρ l) (fun r => .map (some r)) u := k
    show BlkAt (ρ' (f l)) (fun r => .map (some r)) u
    rw [hf l (fun h => by rw [h] at k; exact k)]
    exact k
  | .iter l, u, k => by
    have k : BlkAt (ρ l) (fun r => .pointer (some ⟨r, 0, Option.none⟩)) u := k
    show BlkAt (ρ' (f l)) (fun r => .pointer (some ⟨r, 0, Option.none⟩)) u
    rw [hf l (fun h => by rw [h] at k; exact k)]
    exact k
  | .agg cs, u, k => by
    obtain ⟨vs, e, k1, k2⟩ := k
    exact ⟨vs, e, (VRels.mapL hf cs k1).1, by rw [(VRels.mapL hf cs k1).2.1]; exact k2⟩
  | .iface t x, u, k => by
    obtain ⟨v, e, k1⟩ := k
    exact ⟨v, e, VRel.mapL hf x k1⟩
  | .fn g cs, u, k => by
    obtain ⟨vs, e, k1⟩ := k
    exact ⟨vs, e, (VRels.mapL hf cs k1).1⟩
  | .tup cs, u, k => by
    obtain ⟨vs, e, k1⟩ := k
    exact ⟨vs, e, (VRels.mapL hf cs k1).1⟩
  | .junk, _, k => k
theorem VRels.mapL {ρ ρ' : Map} {H : Ice} {f : Loc → Loc} (hf : ∀ l, ρ l ≠ .none → ρ' (f l) = ρ l) : ∀ (vs : List V) {us : List Value}, VRels ρ H vs us →
    VRels ρ' H (mapLs f vs) us ∧ (mapLs f vs).any isAggV = vs.any isAggV ∧ (mapLs f vs).any ObjRel.isJunk = vs.any ObjRel.isJunk
  | [], _, k => ⟨k, rfl, rfl⟩
  | v :: vs, us, k => by
    obtain ⟨u, us', rfl, k1, k2⟩ := k
    obtain ⟨a1, a2, a3⟩ := VRels.mapL hf vs k2
    refine ⟨⟨u, us', rfl, VRel.mapL hf v k1, a1⟩, ?_, ?_⟩
    · simp only [mapLs, List.any_cons, a2]
      congr 1
      cases v <;> rfl
    · simp only [mapLs, List.any_cons, a3]
      congr 1
      cases v <;> rfl
end

theorem mapLe_rel {ρ ρ' : Map} {H : Ice} {f : Loc → Loc} (hf : ∀ l, ρ l ≠ .none → ρ' (f l) = ρ l) : ∀ (es : List (D × V)) {ents : List MapEntry}, All2 (ERel ρ H) es ents → All2 (ERel ρ' H) (mapLe f es) ents
  | [], _, k => by cases k; exact .nil
  | (key, v) :: es, _, k => by
    cases k with
    | cons k1 k2 =>
      obtain ⟨c1, c2, c3⟩ := k1
      refine .cons ⟨c1, VRel.mapL hf v c2, ?_⟩ (mapLe_rel hf es k2)
      rw [← c3]
      cases v <;> rfl

theorem ObjRel.mapL {ρ ρ' : Map} {H : Ice} {w : World} {f : Loc → Loc} (hf : ∀ l, ρ l ≠ .none → ρ' (f l) = ρ l) {o : Obj} {p : Place} (k : ObjRel ρ H w o p) : ∃ o', o.mapL f = some o' ∧ ObjRel ρ' H w o' p := by
  cases o with
  | arr xs sz =>
    refine ⟨_, rfl, ?_⟩
    cases p with
    | virt s =>
      obtain ⟨rfl, k2⟩ := k
      exact ⟨rfl, k2⟩
    | at_ b base s size =>
      obtain ⟨e, arr, elem, fr, us, h1, h2, h3, h4, h5, h6⟩ := k
      obtain ⟨a1, a2, a3⟩ := VRels.mapL hf xs h3
      exact ⟨e, arr, elem, fr, us, h1, h2, a1, by rw [a3]; exact h4, h5, h6⟩
    | _ => exact k.elim
  | map es =>
    refine ⟨_, rfl, ?_⟩
    cases p with
    | blk r =>
      obtain ⟨ents, clock, h1, h2⟩ := k
      exact ⟨ents, clock, h1, mapLe_rel hf es h2⟩
    | _ => exact k.elim
  | iter s pos => exact ⟨_, rfl, by cases p <;> exact k⟩
  | dead => cases p <;> exact k.elim
end Go.Rf

/- A callee's heap, put into its caller's. -/
namespace Go.Rf

/-- Where objects lie after a call. -/
def backM (ρ1 ρ' : Map) (m : List Loc) (i : Nat) : Map := fun l => match idx m l with
  | some k => ρ' (.b k)
  | none => match l with
    | .n a j => if a = i then ρ' (.b (m.length + j)) else ρ1 (.n a j)
    | .b k => ρ1 (.b k)

theorem idx_of {m : List Loc} (hnd : m.Nodup) {k : Nat} {l : Loc} (h : m[k]? = some l) : idx m l = some k := by
  cases hi : idx m l with
  | none => exact (idx_none hi (List.mem_of_getElem? h)).elim
  | some k' => rw [nodup_get hnd (idx_get hi) h]

theorem idx_out {m : List Loc} {l : Loc} (h : l ∉ m) : idx m l = none := by
  cases hi : idx m l with
  | none => rfl
  | some k => exact (h (List.mem_of_getElem? (idx_get hi))).elim

theorem back_rel {ρ1 ρ' : Map} {H1 H' : Ice} {h1 : Loc → Option Obj} {w w' : World} {m : List Loc} {i : Nat} {os : List Obj} (hH : HRel ρ1 H1 h1 w) (hnd : m.Nodup) (hm : ∀ l ∈ m, ρ1 l ≠ .none) (hN : ∀ k, ρ1 (.n i k) = .none)
    (hH' : HRel ρ' H' (ofList os) w') (ht : Trans (renM ρ1 m) H1 w ρ' H' w') (hst : Stays (renM ρ1 m) ρ') (hb : ∀ l, ρ' l ≠ .none → ∃ k, l = .b k) (hlen : m.length ≤ os.length) :
    HRel (backM ρ1 ρ' m i) H' (applyW h1 (backObjs m i 0 os)) w' ∧ Trans ρ1 H1 w (backM ρ1 ρ' m i) H' w' ∧ Stays ρ1 (backM ρ1 ρ' m i) ∧ NewAt i ρ1 (backM ρ1 ρ' m i) ∧
      ∀ v u, VRel ρ' H' v u → VRel (backM ρ1 ρ' m i) H' (V.mapL (backL m i) v) u := by
  have hni : ∀ j, Loc.n i j ∉ m := fun j hj => hm _ hj (hN j)
  have hinj : ∀ a b, backL m i (.b a) = backL m i (.b b) → a = b := fun a b => backL_inj hnd hni
  -- the map at a callee's names
  have hback : ∀ k, backM ρ1 ρ' m i (backL m i (.b k)) = ρ' (.b k) := by
    intro k
    by_cases hk : k < m.length
    · have e := List.getElem?_eq_getElem hk
      rw [backL_lt e]
      simp only [backM, idx_of hnd e]
    · rw [backL_ge (by omega)]
      simp only [backM, idx_out (hni _), if_true]
      congr 2
      omega
  have hf : ∀ l, ρ' l ≠ .none → backM ρ1 ρ' m i (backL m i l) = ρ' l := fun l hl => by
    obtain ⟨k, rfl⟩ := hb l hl
    exact hback k
  -- a place of the caller is either a callee's, or as before
  have hcases : ∀ l, (∃ k, l = backL m i (.b k)) ∨ (l ∉ m ∧ (∀ k, l ≠ backL m i (.b k)) ∧ backM ρ1 ρ' m i l = ρ1 l) := by
    intro l
    cases hi : idx m l with
    | some k => exact .inl ⟨k, (backL_lt (idx_get hi)).symm⟩
    | none =>
      have hlm := idx_none hi
      by_cases hni' : ∃ j, l = .n i j
      · obtain ⟨j, rfl⟩ := hni'
        refine .inl ⟨m.length + j, ?_⟩
        rw [backL_ge (by omega)]
        congr 1
        omega
      · refine .inr ⟨hlm, fun k hk => ?_, ?_⟩
        · by_cases h : k < m.length
          · rw [backL_lt (List.getElem?_eq_getElem h)] at hk
            exact hlm (hk ▸ List.getElem_mem h)
          · rw [backL_ge (by omega)] at hk
            exact hni' ⟨_, hk⟩
        · simp only [backM, hi]
          cases l with
          | b k => rfl
          | n a j =>
            simp only
            rw [if_neg (fun h => hni' ⟨j, by rw [h]⟩)]
  -- a callee's block is new, or was the block of one that was handed in
  have hnew : ∀ k b, (ρ' (.b k)).block = some b → w.heap.size ≤ b ∨ ∃ l ∈ m, (ρ1 l).block = some b := by
    intro k b hkb
    rcases ht.new _ b hkb with h | ⟨l', h⟩
    · exact .inl h
    · right
      cases l' with
      | n a j => cases h
      | b k' =>
        simp only [renM] at h
        split at h
        · rename_i l e; exact ⟨l, List.mem_of_getElem? e, h⟩
        · cases h
  have hstay : Stays ρ1 (backM ρ1 ρ' m i) := by
    intro l hl
    rcases hcases l with ⟨k, rfl⟩ | ⟨_, _, e⟩
    · rw [hback]
      by_cases hk : k < m.length
      · have e := List.getElem?_eq_getElem hk
        rw [backL_lt e] at hl ⊢
        have := hst (.b k)
        rw [renM_b e] at this
        exact this hl
      · rw [backL_ge (by omega)] at hl
        exact (hl (hN _)).elim
    · exact .inl e
  have hnoc : ∀ b, b < w.heap.size → (∀ l ∈ m, (ρ1 l).block ≠ some b) → w'.heap[b]? = w.heap[b]? ∧ ∀ o, H' b o = H1 b o := fun b hb hn => ht.keep b hb (fun l hl => by
    cases l with
    | n a j => cases hl
    | b k =>
      simp only [renM] at hl
      split at hl
      · rename_i l e; exact hn l (List.mem_of_getElem? e) hl
      · cases hl)
  have hlt : ∀ {l b}, (ρ1 l).block = some b → b < w.heap.size := fun e => hH.lt e
  have hle : H1.le H' := fun b o v e => by
    have hbl := hH.iceLt e
    rw [(hnoc b hbl (fun l _ hl => by rw [hH.sep l b hl o] at e; cases e)).2 o]
    exact e
  obtain ⟨w1, w2⟩ := applyW_back (m := m) (i := i) hinj os 0 h1
  have ofl : ∀ {k o}, ofList os (.b k) = some o → os[k]? = some o := fun {k o} ho => by
    simp only [ofList] at ho
    split at ho
    · cases ho
    · exact ho
  refine ⟨⟨hH'.ice, ?_, ?_, ?_, ?_⟩, ⟨ht.os, ht.tape, ht.output, ht.size, ?_, ?_⟩, hstay, ?_, fun v u k => VRel.mapL hf v k⟩
  · -- objects
    intro l o ho
    rcases hcases l with ⟨k, rfl⟩ | ⟨hlm, hne, e⟩
    · rw [hback]
      cases hk : os[k]? with
      | some o' =>
        have := w1 k o' hk
        rw [Nat.zero_add] at this
        rw [this] at ho
        cases hd : ofList os (.b k) with
        | some o'' =>
          have h2 := ofl hd
          rw [hk] at h2
          cases h2
          obtain ⟨o3, q1, q2⟩ := ObjRel.mapL hf (hH'.objs _ _ hd)
          rw [q1] at ho
          cases ho
          exact q2
        | none =>
          simp only [ofList, hk] at hd
          split at hd
          · rename_i hdd; cases hdd; cases ho
          · cases hd
      | none =>
        have hkl := List.getElem?_eq_none_iff.1 hk
        rw [w2 _ (fun j hj he => by
          rw [Nat.zero_add] at he
          have := hinj _ _ he
          omega)] at ho
        exfalso
        rw [backL_ge (by omega)] at ho
        have := hH.objs _ _ ho
        rw [hN] at this
        cases o <;> exact this.elim
    · rw [w2 l (fun j _ he => hne _ he.symm)] at ho
      rw [e]
      refine (hH.objs l o ho).mono hstay hle (fun b hbk => ?_)
      exact (hnoc b (hlt hbk) (fun l' hl' he => hlm (hH.inj l l' b hbk he ▸ hl'))).1
  · -- what is gone
    intro l ho
    rcases hcases l with ⟨k, rfl⟩ | ⟨hlm, hne, e⟩
    · rw [hback]
      cases hd : ofList os (.b k) with
      | none => exact hH'.gone _ hd
      | some o =>
        exfalso
        have h2 := ofl hd
        have := w1 k o h2
        rw [Nat.zero_add] at this
        obtain ⟨o3, q1, _⟩ := ObjRel.mapL hf (hH'.objs _ _ hd)
        rw [this, q1] at ho
        cases ho
    · rw [w2 l (fun j _ he => hne _ he.symm)] at ho
      rw [e]
      exact hH.gone l ho
  · -- no block twice
    intro l l' b e1 e2
    rcases hcases l with ⟨k, rfl⟩ | ⟨hlm, hne, e⟩ <;> rcases hcases l' with ⟨k', rfl⟩ | ⟨hlm', hne', e'⟩
    · rw [hback] at e1 e2
      have := hH'.inj _ _ b e1 e2
      rw [this]
    · rw [hback] at e1
      rw [e'] at e2
      rcases hnew k b e1 with h | ⟨l2, h2, h3⟩
      · have := hlt e2; omega
      · exact (hlm' (hH.inj l' l2 b e2 h3 ▸ h2)).elim
    · rw [e] at e1
      rw [hback] at e2
      rcases hnew k' b e2 with h | ⟨l2, h2, h3⟩
      · have := hlt e1; omega
      · exact (hlm (hH.inj l l2 b e1 h3 ▸ h2)).elim
    · rw [e] at e1
      rw [e'] at e2
      exact hH.inj l l' b e1 e2
  · -- apart from the ice
    intro l b e1 o
    rcases hcases l with ⟨k, rfl⟩ | ⟨hlm, hne, e⟩
    · rw [hback] at e1
      exact hH'.sep _ b e1 o
    · rw [e] at e1
      rw [(hnoc b (hlt e1) (fun l' hl' he => hlm (hH.inj l l' b e1 he ▸ hl'))).2 o]
      exact hH.sep l b e1 o
  · intro b hb hn
    exact hnoc b hb (fun l _ => hn l)
  · intro l b e1
    rcases hcases l with ⟨k, rfl⟩ | ⟨hlm, hne, e⟩
    · rw [hback] at e1
      rcases hnew k b e1 with h | ⟨l2, _, h3⟩
      · exact .inl h
      · exact .inr ⟨l2, h3⟩
    · rw [e] at e1
      exact .inr ⟨l, e1⟩
  · intro l h2 h3
    rcases hcases l with ⟨k, rfl⟩ | ⟨hlm, hne, e⟩
    · by_cases hk : k < m.length
      · have e := List.getElem?_eq_getElem hk
        rw [backL_lt e] at h2
        exact (hm _ (List.getElem_mem hk) h2).elim
      · exact ⟨_, backL_ge (by omega)⟩
    · rw [e] at h3
      exact (h3 h2).elim
end Go.Rf
