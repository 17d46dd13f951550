/- Parts of the proof: RfOpH, RfStep, RfCode, RfOnly, RfDraw, RfDraw2. -/
import Derived.Test.YtdgfohkljpjdpaaGreatDoorRg3
import Derived.Orders

set_option linter.unusedSimpArgs false
set_option linter.unusedVariables false
set_option linter.unnecessarySimpa false
namespace Go.Rf
variable {B : Ice} {ds : List Deferred} {fx : List (Nat × Value)}
section
variable {P : Program} {T : Tab} {cf : CF} {o : Oper} {a : Act} {w : World} {ρ : Map} {H : Ice} {h : Loc → Option Obj} {i N : Nat} {env : List (Nat × V)} {r : R}
def noPtr (P : Program) (t : TypeId) : Bool := match P.underlying t with
  | some (.pointer _) => false
  | some _ => true
  | none => false
def rowIs (P : Program) (name : String) (t : TypeId) (f : FuncId) (p : Option (Nat × Nat × Bool)) : Bool :=
  funOk P f && match P.info? t with
  | some info => match info.methods.find? (·.name == name) with
    | some m => m.func == some (f, false) && match m.path.toList, p with
      | [], none => noPtr P t
      | [s], some (off, n, ag) => !s.deref && (match P.underlying s.struct with
        | some (.struct fs) => match fs[s.index]? with
          | some fd => decide (fd.offset = off) && tyIs P fd.type n ag && noPtr P fd.type
          | none => false
        | _ => false)
      | _, _ => false
    | none => false
  | none => false
def q9v (m : List (TypeId × FuncId × Option (Nat × Nat × Bool))) (x : Opnd) (args : List (Opnd × Bool)) (P : Program) : Op → Bool
  | .call c => (match c.callee with | .invoke x' name => okO x' x && m.all (fun y => rowIs P name y.1 y.2.1 y.2.2) | _ => false) && qtr c.args.toList args
  | _ => false
theorem qxr : ∀ {m : List (TypeId × FuncId × Option (Nat × Nat × Bool))} {t y}, qo8 m t = some y → (t, y) ∈ m
  | (t', r) :: l, t, y, e => by
    unfold qo8 at e
    split at e
    · rename_i h; cases e; subst h; exact List.mem_cons_self ..
    · exact List.mem_cons_of_mem _ (qxr e)
theorem q5g {t : TypeId} {u : Value} {b : Option String} (h : noPtr P t = true) : (receiverAt t (.val u) false b).run P w = .ok u w := by
  unfold noPtr at h
  unfold receiverAt
  cases hu : P.underlying t with
  | none => rw [hu] at h; cases h
  | some d =>
    rw [Sem.run_bind, run_underlying hu, Result.andThen_ok]
    rw [hu] at h
    cases d <;> first | rfl | cases h
theorem qst {name t f p} {n : Nat} {u u' : Value} (h : rowIs P name t f p = true) (h0 : p = none → u' = u)
    (h1 : ∀ off m ag, p = some (off, m, ag) → ∃ vs, u = .agg ⟨vs⟩ ∧ (ag = true → off + m ≤ vs.length ∧ u' = .agg ⟨(vs.drop off).take m⟩) ∧ (ag = false → vs[off]? = some u')) :
    (method (n + 1) t u name).run P w = .ok (f, u') w := by
  unfold rowIs at h
  simp only [Bool.and_eq_true] at h
  obtain ⟨_, h⟩ := h
  split at h
  · rename_i info hi
    split at h
    · rename_i m hm
      simp only [Bool.and_eq_true, beq_iff_eq] at h
      obtain ⟨hf, h⟩ := h
      unfold method
      rw [Sem.run_bind, run_typeInfo w hi, Result.andThen_ok]
      simp only [hm, hf]
      split at h
      · rename_i hp
        rw [h0 rfl, hp, Sem.run_bind]
        unfold follow
        rw [Sem.run_pure, Result.andThen_ok]
        simp only [Sem.run_bind, q5g h, Result.andThen_ok, Sem.run_pure]
      · rename_i s off k ag hp
        simp only [Bool.and_eq_true, Bool.not_eq_true'] at h
        obtain ⟨hd, h⟩ := h
        split at h
        · rename_i fs hu
          split at h
          · rename_i fd hfd
            simp only [Bool.and_eq_true, decide_eq_true_eq] at h
            obtain ⟨⟨rfl, ht⟩, hn⟩ := h
            obtain ⟨vs, rfl, q1, q2⟩ := h1 _ _ _ rfl
            rw [hp, Sem.run_bind]
            unfold follow
            simp only [Sem.run_bind, run_underlying hu, Result.andThen_ok, hfd, hd, Bool.false_eq_true, if_false]
            rw [qyk fd.type fd.offset k ag ht vs u' q1 q2, Result.andThen_ok]
            unfold follow
            simp only [Sem.run_pure, Result.andThen_ok, q5g hn]
          · cases h
        · cases h
      · cases h
    · cases h
  · cases h
theorem s_inv {m x args} (hcf : CFOk B P cf) (hH : HRel ρ H h w) (hE : EnvRel B ds fx ρ H N env a) (hN : ∀ k, ρ (.n i k) = .none) (hok : q9v m x args P o.op = true) (e : exec T cf i (.inv m x args) (evO env) h = some r) : Sound P o a w ρ H h i r := by
  unfold q9v at hok
  split at hok
  · rename_i c hop
    simp only [Bool.and_eq_true] at hok
    obtain ⟨h1, h3⟩ := hok
    split at h1
    · rename_i x' name hc
      simp only [Bool.and_eq_true, List.all_eq_true] at h1
      obtain ⟨hx', hm⟩ := h1
      obtain ⟨v, e1, e2⟩ := qan e
      obtain ⟨vs, e3, e4⟩ := qan e2
      obtain ⟨⟨t, y⟩, e5, e6⟩ := qan e4
      obtain ⟨⟨f, p⟩, e7, e8⟩ := qan e6
      obtain ⟨u, hu, hy⟩ := qq2 (qau hE hx' e1) e5
      have hrow := hm _ (qxr e7)
      have hf : funOk P f = true := by
        unfold rowIs at hrow
        simp only [Bool.and_eq_true] at hrow
        exact hrow.1
      have hrun : ∀ u', (method (P.types.size + Made.depth) t u name).run P w = .ok (f, u') w → (execOp a.eval o).run P w = .ok (.enter f ⟨u' :: c.args.toList.map a.eval⟩) w := fun u' hq => by
        unfold execOp
        simp only [hop, resolve, hc]
        rw [Sem.run_bind, Sem.run_pure, Result.andThen_ok]
        have h0 : (#[a.eval x'] ++ Array.map a.eval c.args)[0]? = some (.iface t u) := by
          rw [Array.getElem?_append_left (by simp)]; simp [hu]
        have h1 : (#[a.eval x'] ++ Array.map a.eval c.args).extract 1 (#[a.eval x'] ++ Array.map a.eval c.args).size = Array.map a.eval c.args := by
          apply Array.toList_inj.1; simp [List.take_of_length_le]
        simp only [invoke, h0, h1, callMethod]
        rw [Sem.run_bind, run_program, Result.andThen_ok, Sem.run_bind, hq, Result.andThen_ok]
        rw [qme hf]
        congr 2
        apply Array.toList_inj.1
        simp
      have hd : P.types.size + Made.depth = (P.types.size + 99) + 1 := rfl
      cases p with
      | none => exact qix (args := (y, true) :: vs) (us := u :: c.args.toList.map a.eval) hcf hE.base hH hN ⟨_, _, rfl, hy, qlj hE h3 e3⟩ e8 (hrun u (by rw [hd]; exact qst hrow (fun _ => rfl) (fun _ _ _ h => by cases h)))
      | some q =>
        obtain ⟨off, n, ag⟩ := q
        obtain ⟨y', e9, e10⟩ := qan e8
        unfold partA at e9
        split at e9
        case isFalse => cases e9
        rename_i hag
        have hsol : solid y = true := by cases y <;> first | rfl | cases hag
        obtain ⟨us, rfl⟩ : ∃ vs, u = .agg ⟨vs⟩ := by
          unfold Rf.isAgg at hag
          split at hag
          · obtain ⟨vs, hv, _⟩ := hy; exact ⟨vs, hv⟩
          · obtain ⟨vs, hv, _⟩ := hy; exact ⟨vs, hv⟩
          · cases hag
        obtain ⟨p1, p2, _⟩ := qui hy hsol e9
        cases ag with
        | true =>
          obtain ⟨q1, q2⟩ := p1 rfl
          exact qix (args := (y', true) :: vs) (us := _ :: c.args.toList.map a.eval) hcf hE.base hH hN ⟨_, _, rfl, q2, qlj hE h3 e3⟩ e10 (hrun _ (by rw [hd]; exact qst hrow (fun h => by cases h) (fun _ _ _ h => by cases h; exact ⟨_, rfl, fun _ => ⟨by simpa [Value.cells] using q1, rfl⟩, (fun h => by cases h)⟩)))
        | false =>
          obtain ⟨u', q1, q2, _⟩ := p2 rfl
          exact qix (args := (y', true) :: vs) (us := _ :: c.args.toList.map a.eval) hcf hE.base hH hN ⟨_, _, rfl, q2, qlj hE h3 e3⟩ e10 (hrun _ (by rw [hd]; exact qst hrow (fun h => by cases h) (fun _ _ _ h => by cases h; exact ⟨_, rfl, (fun h => by cases h), fun _ => q1⟩)))
    · cases h1
  · cases hok
def keyT (P : Program) (t : TypeId) (s : Bool) : Bool := match P.underlying t, s with
  | some .string, true => true
  | some (.int .i64), false => true
  | _, _ => false
def kindK (s : Bool) : TypeDesc := match s with | true => .string | false => .int .i64
theorem q4g {t s} (h : keyT P t s = true) : P.underlying t = some (kindK s) := by
  unfold keyT at h
  split at h
  · rename_i hu; exact hu
  · rename_i hu; exact hu
  · cases h
theorem zfa (a b : List UInt8) : ((⟨a.toArray⟩ : ByteArray) == ⟨b.toArray⟩) = (a == b) := by
  show (a.toArray == b.toArray) = _
  simp
theorem q3n {s : Bool} {x y : D} {u v : Value} (hx : KRel x u) (hy : KRel y v) (kx : isKey s x = true) (ky : isKey s y = true) : Instr.sameNow (kindK s) u v = some (qfv x y) := by
  unfold isKey at kx ky
  split at kx
  · split at ky
    · rename_i a _ b
      cases hx; cases hy
      simp only [Instr.sameNow, qfv, kindK]
      rw [zfa]
    · rename_i h; cases h
    · cases ky
  · split at ky
    · rename_i h; cases h
    · cases hx; cases hy
      simp [Instr.sameNow, qfv, kindK]
    · cases ky
  · cases kx
theorem zac {s : Bool} {x : D} {u : Value} (hx : DRel H x u) (k : isKey s x = true) : KRel x u ∧ (u.cells = #[u]) ∧ Instr.sameBits 10000 u u = true := by
  unfold isKey at k
  split at k
  · have e := hx.1
    refine ⟨e, by rw [e]; rfl, by rw [e]; simp only [Instr.sameBits, zfa, beq_self_eq_true]⟩
  · have e : u = .int .i64 _ := hx
    refine ⟨e, by rw [e]; rfl, by rw [e]; simp [Instr.sameBits]⟩
  · cases k
theorem q7a {s : Bool} {x y : D} (kx : isKey s x = true) (ky : isKey s y = true) (h : qfv x y = true) : x = y := by
  unfold isKey at kx ky
  split at kx
  · split at ky
    · simp only [qfv, beq_iff_eq] at h; rw [h]
    · rename_i h; cases h
    · cases ky
  · split at ky
    · rename_i h; cases h
    · simp only [qfv, decide_true, Bool.true_and, beq_iff_eq] at h; rw [h]
    · cases ky
  · cases kx
theorem qq4 {s : Bool} {x : D} {u : Value} (hx : KRel x u) (kx : isKey s x = true) : ∀ {es : List (D × V)} {ents : List MapEntry} (n : Nat), All2 (ERel ρ H) es ents → es.all (fun e => isKey s e.1) = true →
    (∃ j e y, Instr.findNow (kindK s) u ents n = some (some (n + j, e.val)) ∧ ents[j]? = some e ∧ findE es (qfv x) = some y ∧ VRel ρ H y e.val ∧ e.key = u ∧
      ∀ v u', VRel ρ H v u' → qfk v = false → All2 (ERel ρ H) (putE es x v) (ents.modify j fun e => { e with key := u, val := u' })) ∨
    (Instr.findNow (kindK s) u ents n = some none ∧ findE es (qfv x) = none ∧ ∀ v u' c, VRel ρ H v u' → qfk v = false → All2 (ERel ρ H) (putE es x v) (ents ++ [{ key := u, val := u', born := c }]))
  | _, _, n, .nil, _ => .inr ⟨rfl, rfl, fun v u' c h1 h2 => .cons ⟨hx, h1, h2⟩ .nil⟩
  | (k, v) :: es, e :: ents, n, .cons hr h, ha => by
    simp only [List.all_cons, Bool.and_eq_true] at ha
    simp only [findE, putE, Instr.findNow, q3n hx hr.1 kx ha.1]
    cases hs : qfv x k with
    | true =>
      have hk : x = k := q7a kx ha.1 hs
      have hu : e.key = u := by
        have := hr.1
        subst hk
        cases x <;> first | exact this.trans hx.symm | exact hx.elim
      refine .inl ⟨0, e, v, rfl, rfl, by simp, hr.2.1, hu, fun v' u' h1 h2 => ?_⟩
      simp only [if_true, List.modify_zero_cons]
      exact .cons ⟨by subst hk; exact hx, h1, h2⟩ h
    | false =>
      simp only [Bool.false_eq_true, if_false]
      rcases qq4 hx kx (n + 1) h ha.2 with ⟨j, e', y, g1, g2, g3, g4, g5, g6⟩ | ⟨g1, g2, g3⟩
      · exact .inl ⟨j + 1, e', y, by rw [g1]; congr 3; omega, g2, g3, g4, g5, fun v' u' h1 h2 => .cons hr (g6 v' u' h1 h2)⟩
      · exact .inr ⟨g1, g2, fun v' u' c h1 h2 => .cons hr (g3 v' u' c h1 h2)⟩
def q32 (s : Bool) (z : D) (x k : Opnd) (P : Program) : Op → Bool
  | .lookup t x' k' false => okO x' x && okO k' k && (match P.underlying t with
    | some (.map key elem) => keyT P key s && qia P elem z
    | _ => false)
  | _ => false
def q9q (s : Bool) (x k v : Opnd) (P : Program) : Op → Bool
  | .mapUpdate t x' k' v' => okO x' x && okO k' k && okO v' v && (match P.underlying t with
    | some (.map key _) => keyT P key s
    | _ => false)
  | _ => false
theorem qyl {q : Nat} {es : List MapEntry} {clock : Nat} (hb : w.heap[q]? = some (.map ⟨es⟩ clock)) : (getObj q).run P w = .ok (.map ⟨es⟩ clock) w := by simp [getObj, Sem.run, hb]
theorem q5e {q : Nat} {es : List MapEntry} {clock : Nat} (ob : Go.Obj) (hb : w.heap[q]? = some (.map ⟨es⟩ clock)) : (setObj q ob).run P w = .ok () { w with heap := w.heap.setIfInBounds q ob } := by simp [setObj, Sem.run, hb]
theorem qow {b : Bool} {t s n} {u : Value} (h : keyT P t s = true) : (Instr.checkKey b (n + 1) t u).run P w = .ok () w := by
  unfold Instr.checkKey
  rw [Sem.run_bind, run_underlying (q4g h), Result.andThen_ok]
  cases s <;> rfl
theorem s_look {s z x k} (hH : HRel ρ H h w) (hE : EnvRel B ds fx ρ H N env a) (hok : q32 s z x k P o.op = true) (e : exec T cf i (.look s z x k) (evO env) h = some r) : Sound P o a w ρ H h i r := by
  unfold q32 at hok
  split at hok
  · rename_i t x' k' hop
    simp only [Bool.and_eq_true] at hok
    obtain ⟨⟨h1, h2⟩, h3⟩ := hok
    split at h3
    · rename_i key elem hu
      simp only [Bool.and_eq_true] at h3
      obtain ⟨h3, h4⟩ := h3
      simp only [exec] at e
      split at e
      · rename_i l kd e1 e2
        split at e
        · rename_i es hl
          split at e
          · rename_i hk
            simp only [qp7, Bool.and_eq_true] at hk
            cases e
            have hx : BlkAt (ρ l) (fun r => .map (some r)) (a.eval x') := qau hE h1 e1
            have hkey : DRel H kd (a.eval k') := qau hE h2 e2
            have hobj := hH.objs l _ hl
            obtain ⟨z', hz1, hz2⟩ := qia.run h4 w
            cases hp : ρ l with
            | blk q =>
              rw [hp] at hx hobj
              obtain ⟨ents, clock, hb, hall⟩ := hobj
              have hx : a.eval x' = .map (some q) := hx
              have pre : ∀ v, (Instr.findKey key (a.eval k') ents).run P w = .ok v w → (execOp a.eval o).run P w = .ok (.value ((v.map (·.2)).getD z')) w := fun v hv => by
                unfold execOp
                simp only [hop, hx, Instr.lookup, Sem.run_bind, run_underlying hu, Result.andThen_ok, qyl hb, Sem.run_pure, qow h3, hv]
                cases v with
                | none => simp only [Sem.run_bind, hz1, Result.andThen_ok, Sem.run_pure, Bool.false_eq_true, if_false]; rfl
                | some y => simp only [Sem.run_pure, Result.andThen_ok, Bool.false_eq_true, if_false]; rfl
              have fk : ∀ v, Instr.findNow (kindK s) (a.eval k') ents 0 = some v → (Instr.findKey key (a.eval k') ents).run P w = .ok v w := fun v hv => by
                unfold Instr.findKey
                rw [Sem.run_bind, run_underlying (q4g h3), Result.andThen_ok, hv]
                rfl
              rcases qq4 (ρ := ρ) (H := H) (zac hkey hk.1).1 hk.1 0 hall hk.2 with ⟨j, en, y, g1, g2, g3, g4, g5, g6⟩ | ⟨g1, g2, g3⟩
              · rw [g3]
                exact Sound.pure (pre _ (fk _ g1)) hH g4 [l]
              · rw [g2]
                exact Sound.pure (x := .d z) (pre _ (fk _ g1)) hH (hz2 H) [l]
            | none => rw [hp] at hx; exact hx.elim
            | dead => rw [hp] at hobj; exact hobj.elim
            | virt s => rw [hp] at hx; exact hx.elim
            | at_ b1 b2 b3 b4 => rw [hp] at hx; exact hx.elim
          · cases e
        · cases e
      · cases e
    · cases h3
  · cases hok
theorem s_upd {s x k v} (hH : HRel ρ H h w) (hE : EnvRel B ds fx ρ H N env a) (hok : q9q s x k v P o.op = true) (e : exec T cf i (.upd s x k v) (evO env) h = some r) : Sound P o a w ρ H h i r := by
  unfold q9q at hok
  split at hok
  · rename_i t x' k' v' hop
    simp only [Bool.and_eq_true] at hok
    obtain ⟨⟨⟨h1, h2⟩, h5⟩, h3⟩ := hok
    split at h3
    · rename_i key elem hu
      simp only [exec] at e
      split at e
      · rename_i l kd vd e1 e2 e4
        split at e
        · rename_i es hl
          split at e
          · rename_i hk
            simp only [qp7, Bool.and_eq_true, Bool.not_eq_true'] at hk
            obtain ⟨hk, hag⟩ := hk
            cases e
            have hx : BlkAt (ρ l) (fun r => .map (some r)) (a.eval x') := qau hE h1 e1
            have hkey : DRel H kd (a.eval k') := qau hE h2 e2
            have hval : VRel ρ H vd (a.eval v') := qau hE h5 e4
            have hag' : qfk vd = false := by cases vd <;> first | rfl | cases hag | (rename_i x; cases x <;> first | rfl | cases hag)
            have hobj := hH.objs l _ hl
            cases hp : ρ l with
            | blk q =>
              rw [hp] at hx hobj
              obtain ⟨ents, clock, hb, hall⟩ := hobj
              have hx : a.eval x' = .map (some q) := hx
              have hlt : q < w.heap.size := (Array.getElem?_eq_some_iff.1 hb).1
              obtain ⟨hkr, _, hbits⟩ := zac hkey hk.1
              have fk : ∀ v, Instr.findNow (kindK s) (a.eval k') ents 0 = some v → (Instr.findKey key (a.eval k') ents).run P w = .ok v w := fun v hv => by
                unfold Instr.findKey
                rw [Sem.run_bind, run_underlying (q4g h3), Result.andThen_ok, hv]
                rfl
              have fin : ∀ (ents' : List MapEntry) (clock' : Nat), All2 (ERel ρ H) (putE es kd vd) ents' → (execOp a.eval o).run P w = .ok .skip { w with heap := w.heap.setIfInBounds q (.map ⟨ents'⟩ clock') } →
                  Sound P o a w ρ H h i (.ok { v := .tup [], rd := [l], wr := [(l, some (.map (putE es kd vd)))] }) := fun ents' clock' ha hr => by
                obtain ⟨k1, k2⟩ := hH.write (w' := { w with heap := w.heap.setIfInBounds q (.map ⟨ents'⟩ clock') }) (l := l) (b := q) (by rw [hp]; rfl) (.map (putE es kd vd)) ⟨rfl, rfl, rfl, by simp⟩ (fun j hj => by
                  show (w.heap.setIfInBounds q _)[j]? = _
                  rw [Array.getElem?_setIfInBounds_ne (Ne.symm hj)]) (by
                  rw [hp]
                  refine ⟨ents', clock', ?_, ha⟩
                  show (w.heap.setIfInBounds q _)[q]? = _
                  rw [Array.getElem?_setIfInBounds_self]
                  simp [hlt])
                exact Sound.ofU hr ⟨k1, k2, Stays.refl _, NewAt.refl _ _, ⟨[], rfl, rfl⟩⟩
              rcases qq4 (ρ := ρ) (H := H) hkr hk.1 0 hall hk.2 with ⟨j, en, y, g1, g2, g3, g4, g5, g6⟩ | ⟨g1, g2, g3⟩
              · refine fin _ clock (g6 vd _ hval hag') ?_
                unfold execOp
                simp only [hop, hx, Instr.mapUpdate, Sem.run_bind, run_underlying hu, Result.andThen_ok, qyl hb, Sem.run_pure, qow h3, fk _ g1]
                have hj : ((⟨ents⟩ : Array MapEntry)[0 + j]?.map (·.key)).getD (a.eval k') = a.eval k' := by simp [g2, g5]
                simp only [hj, Instr.keyThatStays, hbits, if_true, Sem.run_pure, Result.andThen_ok, q5e _ hb]
                simp
              · refine fin _ (clock + 1) (g3 vd _ clock hval hag') ?_
                unfold execOp
                simp only [hop, hx, Instr.mapUpdate, Sem.run_bind, run_underlying hu, Result.andThen_ok, qyl hb, Sem.run_pure, qow h3, fk _ g1, q5e _ hb]
                simp
            | none => rw [hp] at hx; exact hx.elim
            | dead => rw [hp] at hobj; exact hobj.elim
            | virt s => rw [hp] at hx; exact hx.elim
            | at_ b1 b2 b3 b4 => rw [hp] at hx; exact hx.elim
          · cases e
        · cases e
      · cases e
    · cases h3
  · cases hok
end
end Go.Rf

namespace Go.Rf
variable {B : Ice} {ds : List Deferred} {fx : List (Nat × Value)}
def okOp (P : Program) : AOp → Op → Bool
  | .mv x => ok_mv x
  | .own n => q9r n
  | .pick c x y => q3z c x y
  | .alloc z own => qnz z own P
  | .allocT t z own => qvq t z own P
  | .box n x => q9x n x P
  | .build z ps own => qzq z ps own P
  | .buildSl n z len ps => qs4 n z len ps P
  | .load n ag x => q33 n ag x P
  | .store n x y => qyw n x y P
  | .nilCk x => qy0 x
  | .bin op x y => q9y op x y
  | .un op x => ok_un op x
  | .isN eq ifc x => q9u eq ifc x P
  | .eqB eq x y => q9w eq x y P
  | .conv (.int k) x => qzo k x P
  | .conv .rune x => qzn x P
  | .conv .b2s x => q9z x P
  | .mkI t x => q9s t x P
  | .mkF f cap => qve f cap
  | .mkSl n z len cap => q31 n z len cap P
  | .slice n x lo hi => qyx n x lo hi P
  | .fieldA off n ag x => qvp off n ag x P
  | .field off n ag x => qzm off n ag x P
  | .idxA n x k => q36 n x k P
  | .idxS x k => q35 x k P
  | .extract x k => qs2 x k
  | .tass t ok z x => q3y t ok z x P
  | .call f args => q37 f args P
  | .callV f args => qzp f args
  | .inv m x args => q9v m x args P
  | .len s x => q9t s x P
  | .app n x y => q90 n x y P
  | .mx x y => ok_mx x y
  | .panic x => qyz x
  | .range x => qyy x P
  | .next x => q30 x
  | .mkMap => qy1
  | .look s z x k => q32 s z x k P
  | .upd s x k v => q9q s x k v P
section
variable {P : Program} {T : Tab} {cf : CF} {o : Oper} {a : Act} {w : World} {ρ : Map} {H : Ice} {h : Loc → Option Obj} {i N : Nat} {env : List (Nat × V)} {r : R}
theorem qta {op : AOp} (hcf : CFOk B P cf) (hfs : ∀ g vs hp r, cf g vs hp = some r → funOk P g = true) (hH : HRel ρ H h w) (hE : EnvRel B ds fx ρ H N env a) (hN : ∀ k, ρ (.n i k) = .none) (hok : okOp P op o.op = true)
    (e : exec T cf i op (evO env) h = some r) : Sound P o a w ρ H h i r := by
  cases op with
  | mv x => exact s_mv hH hE hok e
  | own n => exact s_own hH hN hok e
  | pick c x y => exact s_pick hH hE hok e
  | alloc z own => exact zge hH hN hok e
  | allocT t z own => exact zco hH hN hok e
  | box n x => exact s_box hH hE hN hok e
  | build z ps own => exact zgd hH hE hN hok e
  | buildSl n z len ps => exact q9d hH hE hN hok e
  | load n ag x => exact s_load hH hE hok e
  | store n x y => exact zf3 hH hE hok e
  | nilCk x => exact zf7 hH hE hok e
  | bin op x y => exact s_bin hH hE hok e
  | un op x => exact s_un hH hE hok e
  | isN eq ifc x => exact s_isN hH hE hok e
  | eqB eq x y => exact s_eqB hH hE hok e
  | conv k x =>
    cases k with
    | int k => exact zgb hH hE hok e
    | rune => exact zga hH hE hok e
    | b2s => exact s_b2s hH hE hok e
  | mkI t x => exact s_mkI hH hE hok e
  | mkF f cap => exact s_mkF hH hE hok e
  | mkSl n z len cap => exact s_mkSl hH hE hN hok e
  | slice n x lo hi => exact zf4 hH hE hok e
  | fieldA off n ag x => exact zcn hH hE hok e
  | field off n ag x => exact zf9 hH hE hok e
  | idxA n x k => exact s_idxA hH hE hok e
  | idxS x k => exact s_idxS hH hE hok e
  | extract x k => exact q9c hH hE hok e
  | tass t ok z x => exact s_tass hH hE hok e
  | call f args => exact s_call hcf hH hE hN hok e
  | callV f args => exact zgc hcf hH hE hN hfs hok e
  | inv m x args => exact s_inv hcf hH hE hN hok e
  | len s x => exact s_len hH hE hok e
  | app n x y => exact s_app hH hE hN hok e
  | mx x y => exact s_mx hH hE hok e
  | panic x => exact zf6 hH hE hok e
  | range x => exact zf5 hH hE hN hok e
  | next x => exact s_next hH hE hok e
  | mkMap => exact zf8 hH hN hok e
  | look s z x k => exact s_look hH hE hok e
  | upd s x k v => exact s_upd hH hE hok e
end
def okG (ops : Array Oper) : Option (Nat × Bool) → Option (Nat × Bool) → Bool
  | none, none => true
  | some (j, b), some (t, c) => decide ((ops[j]?).bind (·.dst) = some t) && decide (b = c)
  | _, _ => false
def okIns (P : Program) (N : Nat) (ops : Array Oper) (o : Oper) (ai : AIns) : Bool :=
  okOp P ai.op o.op && decide (o.dst = ai.dst) && (match ai.dst with | some t => decide (t < N) | none => true) && okG ops o.guard ai.guard
section
variable {P : Program} {T : Tab} {cf : CF} {N : Nat} {ops : Array Oper}
theorem qm4 {ρ H env a} {o : Oper} {g : Option (Nat × Bool)} {b : Bool} (hE : EnvRel B ds fx ρ H N env a) (hok : okG ops o.guard g = true) (e : wanted env g = some b) : Region.wanted o (yielded ops a.tmps) = b := by
  unfold okG at hok
  split at hok
  · rename_i hg
    cases e
    simp [Region.wanted, hg]
  · rename_i j b' t c hg
    simp only [Bool.and_eq_true, decide_eq_true_eq] at hok
    obtain ⟨h1, rfl⟩ := hok
    simp only [wanted] at e
    unfold Region.wanted
    rw [hg]
    simp only
    unfold yielded
    rw [h1]
    simp only [Option.bind_some]
    split at e
    · rename_i q hq
      cases e
      have hv : a.tmps.getD t undef = .bool q := hE.rel t _ hq
      have : a.tmps[t]? = some (.bool q) := by
        rw [Array.getD_eq_getD_getElem?] at hv
        cases ht : a.tmps[t]? with
        | none => rw [ht] at hv; cases hv
        | some x => rw [ht] at hv; simp at hv; rw [hv]
      rw [this]
      rfl
    · rename_i hq
      cases e
      obtain ⟨us, hv, hu⟩ := hE.rel t _ hq
      cases hu
      cases ht : a.tmps[t]? with
      | none => rfl
      | some x =>
        rw [Array.getD_eq_getD_getElem?, ht] at hv
        simp at hv
        subst hv
        rfl
    · cases e
  · cases hok
def PostL (B : Ice) (ds : List Deferred) (fx : List (Nat × Value)) (ρ : Map) (H : Ice) (w : World) (N : Nat) (L : List AIns) (Q : Exit → Act → World → Prop) : RR → Prop
  | .nrm s' => ∀ ρ' H' a' w', HRel ρ' H' s'.h w' → EnvRel B ds fx ρ' H' N s'.env a' → Trans ρ H w ρ' H' w' → Stays ρ ρ' → (∀ l, ρ l = .none → ρ' l ≠ .none → ∃ ai ∈ L, ∃ k, l = .n ai.i k) → Q .normal a' w'
  | .pan _ v s' => ∀ ρ' H' a' w' u, HRel ρ' H' s'.h w' → a'.defers = ds → (∀ t u, (t, u) ∈ fx → a'.tmps.getD t undef = u) → Trans ρ H w ρ' H' w' → Stays ρ ρ' → (∀ l, ρ l = .none → ρ' l ≠ .none → ∃ ai ∈ L, ∃ k, l = .n ai.i k) → VRel ρ' H' v u → Q (.panic [{ v := u, recovered := false }]) a' w'
  | .out => LetsOut Q
theorem qsu (hcf : CFOk B P cf) (hfs : ∀ g vs hp r, cf g vs hp = some r → funOk P g = true) {Q : Exit → Act → World → Prop} : ∀ (L : List AIns) (s : RS) (rs : List Rec) (rr : RR) (rs' : List Rec),
    (∀ ai ∈ L, ∃ o, ops[ai.i]? = some o ∧ okIns P N ops o ai = true) → (L.map (·.i)).Nodup → (∀ ai ∈ L, ∀ x ∈ fx, ai.dst ≠ some x.1) → runL T cf L s rs = some (rr, rs') →
    ∀ ρ H w a, HRel ρ H s.h w → EnvRel B ds fx ρ H N s.env a → (∀ ai ∈ L, ∀ k, ρ (.n ai.i k) = .none) → PostL B ds fx ρ H w N L Q rr → wpOps P ops Q (L.map (·.i)) a w
  | [], s, rs, rr, rs', _, _, _, e, ρ, H, w, a, hH, hE, _, hp => by
    cases e
    exact hp ρ H a w hH hE (Trans.refl ..) (Stays.refl _) (fun l h1 h2 => (h2 h1).elim)
  | ai :: L, s, rs, rr, rs', hL, hnd, hav, e, ρ, H, w, a, hH, hE, hN, hp => by
    obtain ⟨o, ho, hok⟩ := hL ai (List.mem_cons_self ..)
    simp only [okIns, Bool.and_eq_true, decide_eq_true_eq] at hok
    obtain ⟨⟨⟨k1, k2⟩, k3⟩, k4⟩ := hok
    rw [List.map_cons, List.nodup_cons] at hnd
    simp only [runL] at e
    obtain ⟨x, e1, e2⟩ := qan e
    simp only [step] at e1
    obtain ⟨b, e3, e4⟩ := qan e1
    have hw := qm4 (ops := ops) (o := o) hE k4 e3
    have hdst : ∀ t, o.dst = some t → t < N ∧ ∀ x ∈ fx, x.1 ≠ t := fun t ht => by
      rw [k2] at ht
      refine ⟨?_, fun x hx he => hav ai (List.mem_cons_self ..) x hx (by rw [ht, he])⟩
      rw [ht] at k3
      simpa using k3
    simp only [List.map_cons, wpOps, ho]
    rw [hw]
    cases b with
    | false =>
      simp only [qlo] at e4
      cases e4
      simp only [Bool.false_eq_true, if_false]
      refine qsu hcf hfs L _ _ rr rs' (fun x hx => hL x (List.mem_cons_of_mem _ hx)) hnd.2 (fun y hy => hav y (List.mem_cons_of_mem _ hy)) e2 ρ H w _ hH (by rw [← k2]; exact hE.put o.dst hdst ⟨[], rfl, rfl⟩) (fun x hx => hN x (List.mem_cons_of_mem _ hx)) ?_
      cases rr with
      | nrm s' => exact fun ρ' H' a' w' q1 q2 q3 q4 q5 => hp ρ' H' a' w' q1 q2 q3 q4 (fun l h1 h2 => by obtain ⟨x, hx, h3⟩ := q5 l h1 h2; exact ⟨x, List.mem_cons_of_mem _ hx, h3⟩)
      | pan j v s' => exact fun ρ' H' a' w' u q1 q2 q2' q3 q4 q5 => hp ρ' H' a' w' u q1 q2 q2' q3 q4 (fun l h1 h2 => by obtain ⟨x, hx, h3⟩ := q5 l h1 h2; exact ⟨x, List.mem_cons_of_mem _ hx, h3⟩)
      | out => exact hp
    | true =>
      simp only [qet] at e4
      obtain ⟨r, e5, e6⟩ := qan e4
      cases e6
      simp only [if_true]
      have hs := qta (o := o) hcf hfs hH hE (hN ai (List.mem_cons_self ..)) k1 e5
      refine hs _ _ ?_
      cases r with
      | out =>
        simp only [stepR, onSR] at e2
        cases e2
        exact hp
      | pan ev =>
        intro ρ' H' v w' hpost
        simp only [stepR, onSR] at e2
        cases e2
        exact hp ρ' H' a w' v hpost.heap hE.defers hE.fix hpost.trans hpost.stays (fun l h1 h2 => by obtain ⟨k, hk⟩ := hpost.new l h1 h2; exact ⟨ai, List.mem_cons_self .., k, hk⟩) hpost.val
      | ok ev =>
        intro ρ' H' v w' hpost
        simp only [stepR, onSR] at e2
        have hle := hpost.trans.le hH
        refine qsu hcf hfs L _ _ rr rs' (fun x hx => hL x (List.mem_cons_of_mem _ hx)) hnd.2 (fun y hy => hav y (List.mem_cons_of_mem _ hy)) e2 ρ' H' w' _ hpost.heap (by rw [← k2]; exact (hE.mono hpost.stays hle).put o.dst hdst hpost.val) (fun x hx k => ?_) ?_
        · cases hq : ρ' (.n x.i k) with
          | none => rfl
          | _ =>
            exfalso
            obtain ⟨k', hk'⟩ := hpost.new _ (hN x (List.mem_cons_of_mem _ hx) k) (by rw [hq]; intro h; cases h)
            injection hk' with hk' _
            exact hnd.1 (hk' ▸ List.mem_map_of_mem hx)
        · have new : ∀ {ρ2 : Map}, (∀ l, ρ' l = .none → ρ2 l ≠ .none → ∃ x ∈ L, ∃ k, l = Loc.n x.i k) → ∀ l, ρ l = .none → ρ2 l ≠ .none → ∃ x ∈ ai :: L, ∃ k, l = Loc.n x.i k := fun q5 l h1 h2 => by
            by_cases h3 : ρ' l = .none
            · obtain ⟨x, hx, h4⟩ := q5 l h3 h2; exact ⟨x, List.mem_cons_of_mem _ hx, h4⟩
            · obtain ⟨k, hk⟩ := hpost.new l h1 h3; exact ⟨ai, List.mem_cons_self .., k, hk⟩
          cases rr with
          | nrm s' => exact fun ρ2 H2 a2 w2 q1 q2 q3 q4 q5 => hp ρ2 H2 a2 w2 q1 q2 (hpost.trans.trans q3) (hpost.stays.trans q4) (new q5)
          | pan j v s' => exact fun ρ2 H2 a2 w2 u q1 q2 q2' q3 q4 q5 => hp ρ2 H2 a2 w2 u q1 q2 q2' (hpost.trans.trans q3) (hpost.stays.trans q4) (new q5)
          | out => exact hp
end
end Go.Rf

namespace Go.Rf
variable {B : Ice} {ds : List Deferred} {fx : List (Nat × Value)}
structure StRel (B : Ice) (ds : List Deferred) (fx : List (Nat × Value)) (ρ : Map) (H : Ice) (N : Nat) (st : St) (a : Act) (w : World) : Prop where
  heap : HRel ρ H (qa6 st.heap) w
  env : EnvRel B ds fx ρ H N st.env a
  only : ∀ l, ρ l ≠ .none → ∃ k, k < st.heap.length ∧ l = .b k
def qeg (p : Nat) (ρ ρ' : Map) : Prop := ∀ k, k < p → ρ (.b k) ≠ .none → ρ' (.b k) = ρ (.b k) ∨ ρ' (.b k) = .dead
theorem qeg.refl (p ρ) : qeg p ρ ρ := fun _ _ _ => .inl rfl
theorem Stays.toP {ρ ρ' : Map} (h : Stays ρ ρ') (p : Nat) : qeg p ρ ρ' := fun _ _ hk => h _ hk
theorem qeg.trans {p ρ ρ1 ρ2} (h : qeg p ρ ρ1) (k : qeg p ρ1 ρ2) : qeg p ρ ρ2 := fun j hj hn => by
  rcases h j hj hn with e | e
  · rw [← e] at hn ⊢
    exact k j hj hn
  · rcases k j hj (by rw [e]; intro h; cases h) with e' | e'
    · exact .inr (e'.trans e)
    · exact .inr e'
theorem zc3 {n k : Nat} (h : k < n) : (pins n)[k]? = some (.b k) := by simp [pins, h]
theorem qsy (n : Nat) : (pins n).Nodup := by
  unfold pins
  rw [List.Nodup, List.pairwise_map]
  exact List.Pairwise.imp (fun h e => h (by injection e)) List.nodup_range
theorem qqk (n : Nat) : (pins n).length = n := by simp [pins]
theorem qsv {ρ : Map} {H : Ice} {w : World} (M : List Loc) : Trans ρ H w (renM ρ M) H w := ⟨rfl, rfl, rfl, Nat.le_refl _, fun _ _ _ => ⟨rfl, fun _ => rfl⟩, fun l b h => by
  cases l with
  | n i k => cases h
  | b k =>
    simp only [renM] at h
    split at h
    · rename_i l _; exact .inr ⟨l, h⟩
    · cases h⟩
theorem qsw {ρ : Map} {p : Nat} {M : List Loc} (h : pins p <+: M) : qeg p ρ (renM ρ M) := fun k hk _ => .inl (qtn (qqj h (zc3 hk)))
theorem qu8 {ρ : Map} {M : List Loc} {n : Nat} (hn : n = M.length) : ∀ l, renM ρ M l ≠ .none → ∃ k, k < n ∧ l = .b k := fun l hl => by
  cases l with
  | n i k => exact (hl rfl).elim
  | b k =>
    refine ⟨k, ?_, rfl⟩
    by_cases hk : k < n
    · exact hk
    · exfalso
      apply hl
      have : M[k]? = none := List.getElem?_eq_none_iff.2 (by omega)
      simp only [renM, this]
theorem qz0 {ρ : Map} {H : Ice} {N : Nat} {env : List (Nat × V)} {a : Act} (hE : EnvRel B ds fx ρ H N env a) : ∀ keep : List Nat, VRels ρ H (keptE env keep).2 ((keptE env keep).1.map fun t => a.tmps.getD t undef)
  | [] => rfl
  | t :: ks => by
    have ih := qz0 hE ks
    simp only [keptE]
    cases hg : getE env t with
    | none => exact ih
    | some v =>
      cases hk : keptE env ks with
      | mk ts vs =>
        rw [hk] at ih
        exact ⟨_, _, rfl, hE.rel t v hg, ih⟩
theorem qyb {ρ : Map} {H : Ice} {f : Nat → Value} : ∀ {ts : List Nat} {vs : List V}, VRels ρ H vs (ts.map f) → ∀ t v, getE (ts.zip vs) t = some v → VRel ρ H v (f t)
  | [], vs, k, t, v, e => by simp [getE] at e
  | s :: ts, vs, k, t, v, e => by
    cases vs with
    | nil => simp [VRels] at k
    | cons x vs =>
      obtain ⟨u, us, hu, k1, k2⟩ := k
      simp only [List.map_cons, List.cons.injEq] at hu
      obtain ⟨rfl, rfl⟩ := hu
      simp only [List.zip_cons_cons, getE] at e
      split at e
      · rename_i h; cases e; subst h; exact k1
      · exact qyb k2 t v e
theorem quq {ρ : Map} {H : Ice} {N p : Nat} {keep : List Nat} {env : List (Nat × V)} {h : Loc → Option Obj} {a : Act} {w : World} {st : St} (hH : HRel ρ H h w) (hE : EnvRel B ds fx ρ H N env a) (e : endR p keep env h = some st) :
    ∃ M, StRel B ds fx (renM ρ M) H N st a w ∧ qeg p ρ (renM ρ M) ∧ Trans ρ H w (renM ρ M) H w ∧ p ≤ st.heap.length := by
  obtain ⟨⟨vs', os, M⟩, e1, e2⟩ := qan e
  cases e2
  obtain ⟨n1, n2, n3, n4, n5⟩ := qr5 hH (qsy p) e1
  have hk := n2 _ (qz0 hE keep)
  refine ⟨M, ⟨n1, ⟨hE.size, hE.defers, fun t v hg => ?_, hE.base, hE.fix⟩, qu8 n5⟩, qsw n3, qsv M, ?_⟩
  · exact qyb hk t v hg
  · have := n3.length_le
    rw [qqk] at this
    simp only
    omega
def PostC (B : Ice) (ds : List Deferred) (fx : List (Nat × Value)) (ρ : Map) (H : Ice) (w : World) (N p : Nat) (Q : Exit → Act → World → Prop) : Ex × St → Prop
  | (.nrm, st) => ∀ ρ' H' a' w', StRel B ds fx ρ' H' N st a' w' → Trans ρ H w ρ' H' w' → qeg p ρ ρ' → p ≤ st.heap.length → Q .normal a' w'
  | (.exit id, st) => ∀ ρ' H' a' w', StRel B ds fx ρ' H' N st a' w' → Trans ρ H w ρ' H' w' → qeg p ρ ρ' → p ≤ st.heap.length → Q (.exit id) a' w'
  | (.ret, st) => ∀ ρ' H' a' w', StRel B ds fx ρ' H' N st a' w' → Trans ρ H w ρ' H' w' → qeg p ρ ρ' → p ≤ st.heap.length → Q .ret a' w'
  | (.pan v, st) => ∀ ρ' H' a' w' u, HRel ρ' H' (qa6 st.heap) w' → (∀ l, ρ' l ≠ .none → ∃ k, k < st.heap.length ∧ l = .b k) → VRel ρ' H' v u → a'.defers = ds → (∀ t u, (t, u) ∈ fx → a'.tmps.getD t undef = u) → Trans ρ H w ρ' H' w' → qeg p ρ ρ' → p ≤ st.heap.length → Q (.panic [{ v := u, recovered := false }]) a' w'
  | (.out, _) => LetsOut Q
theorem PostC.shift {ρ ρ1 : Map} {H H1 : Ice} {w w1 : World} {N p : Nat} {Q : Exit → Act → World → Prop} {x : Ex × St} (h : PostC B ds fx ρ H w N p Q x) (ht : Trans ρ H w ρ1 H1 w1) (hs : qeg p ρ ρ1) : PostC B ds fx ρ1 H1 w1 N p Q x := by
  obtain ⟨e, st⟩ := x
  cases e with
  | nrm => exact fun ρ' H' a' w' q1 q2 q3 q4 => h ρ' H' a' w' q1 (ht.trans q2) (hs.trans q3) q4
  | exit id => exact fun ρ' H' a' w' q1 q2 q3 q4 => h ρ' H' a' w' q1 (ht.trans q2) (hs.trans q3) q4
  | ret => exact fun ρ' H' a' w' q1 q2 q3 q4 => h ρ' H' a' w' q1 (ht.trans q2) (hs.trans q3) q4
  | pan v => exact fun ρ' H' a' w' u q1 q2 q3 q3' q3x q4 q5 q6 => h ρ' H' a' w' u q1 q2 q3 q3' q3x (ht.trans q4) (hs.trans q5) q6
  | out => exact h
theorem q53 {ρ : Map} {H : Ice} {p : Nat} {v : V} {u : Value} {h : Loc → Option Obj} {w : World} {ex : Ex} {st : St} (hH : HRel ρ H h w) (hv : VRel ρ H v u) (e : endP p v h = some (ex, st)) :
    ∃ x ρ' H', ex = .pan x ∧ HRel ρ' H' (qa6 st.heap) w ∧ (∀ l, ρ' l ≠ .none → ∃ k, k < st.heap.length ∧ l = .b k) ∧ VRel ρ' H' x u ∧ Trans ρ H w ρ' H' w ∧ qeg p ρ ρ' ∧ p ≤ st.heap.length := by
  obtain ⟨⟨x, fm⟩, e1, e2⟩ := qan e
  split at e2
  · obtain ⟨⟨vs', os, M⟩, e3, e4⟩ := qan e2
    cases e4
    obtain ⟨f1, f2, f3, f4⟩ := qh3 hH fm
    obtain ⟨n1, n2, n3, n4, n5⟩ := qr5 f1 (qsy p) e3
    refine ⟨.d x, renM (killM ρ fm) M, iceOf ρ H w fm, rfl, n1, fun l hl => ?_, (qpd hH 24 v x fm e1).2.2 fm (fun _ h => h) u hv, f2.trans (qsv M), (f3.toP p).trans (qsw n3), ?_⟩
    · exact qu8 n5 l hl
    · have := n3.length_le
      rw [qqk] at this
      simp only
      omega
  · cases e2
end Go.Rf

namespace Go.Rf
mutual
def locsV : V → List Loc
  | .d _ => []
  | .ref l _ _ _ => [l]
  | .ptr l _ _ => [l]
  | .agg cs => qpa cs
  | .iface _ x => locsV x
  | .fn _ cs => qpa cs
  | .tup cs => qpa cs
  | .map l => [l]
  | .iter l => [l]
  | .junk => []
def qpa : List V → List Loc
  | [] => []
  | v :: vs => locsV v ++ qpa vs
end
def locsE : List (D × V) → List Loc
  | [] => []
  | (_, v) :: es => locsV v ++ locsE es
def locsO : Obj → List Loc
  | .arr xs _ => qpa xs
  | .map es => locsE es
  | _ => []
mutual
theorem VRel.congr {ρ ρ' : Map} {H : Ice} : ∀ (x : V) {v : Value}, (∀ l ∈ locsV x, ρ l = ρ' l) → VRel ρ H x v → VRel ρ' H x v
  | .d _, _, _, k => k
  | .ref l _ _ _, _, h, k => by
    simp only [VRel] at k ⊢
    rw [← h l (by simp [locsV])]; exact k
  | .ptr l _ _, _, h, k => by
    simp only [VRel] at k ⊢
    rw [← h l (by simp [locsV])]; exact k
  | .map l, _, h, k => by
    simp only [VRel] at k ⊢
    rw [← h l (by simp [locsV])]; exact k
  | .iter l, _, h, k => by
    simp only [VRel] at k ⊢
    rw [← h l (by simp [locsV])]; exact k
  | .agg cs, _, h, k => by
    obtain ⟨vs, e, k, n⟩ := k
    exact ⟨vs, e, VRels.congr cs (fun l hl => h l (by simpa [locsV] using hl)) k, n⟩
  | .iface _ x, _, h, k => by
    obtain ⟨u, e, k⟩ := k
    exact ⟨u, e, VRel.congr x (fun l hl => h l (by simpa [locsV] using hl)) k⟩
  | .fn _ cs, _, h, k => by
    obtain ⟨us, e, k⟩ := k
    exact ⟨us, e, VRels.congr cs (fun l hl => h l (by simpa [locsV] using hl)) k⟩
  | .tup cs, _, h, k => by
    obtain ⟨us, e, k⟩ := k
    exact ⟨us, e, VRels.congr cs (fun l hl => h l (by simpa [locsV] using hl)) k⟩
  | .junk, _, _, k => k
theorem VRels.congr {ρ ρ' : Map} {H : Ice} : ∀ (xs : List V) {vs : List Value}, (∀ l ∈ qpa xs, ρ l = ρ' l) → VRels ρ H xs vs → VRels ρ' H xs vs
  | [], _, _, k => k
  | x :: xs, _, h, k => by
    obtain ⟨v, vs', e, k1, k2⟩ := k
    exact ⟨v, vs', e, VRel.congr x (fun l hl => h l (by simp [qpa, hl])) k1, VRels.congr xs (fun l hl => h l (by simp [qpa, hl])) k2⟩
end
theorem ERels.congr {ρ ρ' : Map} {H : Ice} : ∀ (es : List (D × V)) {ents : List MapEntry}, (∀ l ∈ locsE es, ρ l = ρ' l) → All2 (ERel ρ H) es ents → All2 (ERel ρ' H) es ents
  | [], _, _, .nil => .nil
  | (_, v) :: es, _, h, .cons ⟨k1, k2, k3⟩ k => .cons ⟨k1, VRel.congr v (fun l hl => h l (by simp [locsE, hl])) k2, k3⟩ (ERels.congr es (fun l hl => h l (by simp [locsE, hl])) k)
theorem qcb.congr {ρ ρ' : Map} {H : Ice} {w : World} {o : Obj} {p : Place} (h : ∀ l ∈ locsO o, ρ l = ρ' l) (k : qcb ρ H w o p) : qcb ρ' H w o p := by
  cases o with
  | arr xs sz =>
    cases p with
    | virt s => exact k
    | at_ b base s size =>
      obtain ⟨e, arr, elem, fr, us, h1, h2, h3, h4⟩ := k
      exact ⟨e, arr, elem, fr, us, h1, h2, VRels.congr xs h h3, h4⟩
    | _ => exact k.elim
  | map es =>
    cases p with
    | blk r =>
      obtain ⟨ents, clock, h1, h2⟩ := k
      exact ⟨ents, clock, h1, ERels.congr es h h2⟩
    | _ => exact k.elim
  | iter s pos =>
    cases p with
    | blk r => exact k
    | _ => exact k.elim
  | dead => cases p <;> exact k.elim
mutual
theorem qo9 {f : Loc → Loc} {G : Loc → Prop} (hf : ∀ l, G (f l)) : ∀ (v : V), ∀ l ∈ locsV (V.mapL f v), G l
  | .d _, l, h => by simp [V.mapL, locsV] at h
  | .ref _ _ _ _, l, h => by simp only [V.mapL, locsV, List.mem_singleton] at h; subst h; exact hf _
  | .ptr _ _ _, l, h => by simp only [V.mapL, locsV, List.mem_singleton] at h; subst h; exact hf _
  | .map _, l, h => by simp only [V.mapL, locsV, List.mem_singleton] at h; subst h; exact hf _
  | .iter _, l, h => by simp only [V.mapL, locsV, List.mem_singleton] at h; subst h; exact hf _
  | .agg cs, l, h => qnh hf cs l (by simpa [V.mapL, locsV] using h)
  | .iface _ x, l, h => qo9 hf x l (by simpa [V.mapL, locsV] using h)
  | .fn _ cs, l, h => qnh hf cs l (by simpa [V.mapL, locsV] using h)
  | .tup cs, l, h => qnh hf cs l (by simpa [V.mapL, locsV] using h)
  | .junk, l, h => by simp [V.mapL, locsV] at h
theorem qnh {f : Loc → Loc} {G : Loc → Prop} (hf : ∀ l, G (f l)) : ∀ (vs : List V), ∀ l ∈ qpa (mapLs f vs), G l
  | [], l, h => by simp [mapLs, qpa] at h
  | v :: vs, l, h => by
    simp only [mapLs, qpa, List.mem_append] at h
    rcases h with h | h
    · exact qo9 hf v l h
    · exact qnh hf vs l h
end
theorem qxt {f : Loc → Loc} {G : Loc → Prop} (hf : ∀ l, G (f l)) : ∀ (es : List (D × V)), ∀ l ∈ locsE (mapLe f es), G l
  | [], l, h => by simp [mapLe, locsE] at h
  | (_, v) :: es, l, h => by
    simp only [mapLe, locsE, List.mem_append] at h
    rcases h with h | h
    · exact qo9 hf v l h
    · exact qxt hf es l h
theorem q7r {f : Loc → Loc} {G : Loc → Prop} (hf : ∀ l, G (f l)) {o o' : Obj} (e : o.mapL f = some o') : ∀ l ∈ locsO o', G l := by
  cases o <;> simp only [Obj.mapL, Option.some.injEq, reduceCtorEq] at e <;> subst e
  · exact qnh hf _
  · exact qxt hf _
  · intro l h; simp [locsO] at h
theorem qpz : ∀ (ws : List (Loc × Option Obj)) (h : Loc → Option Obj) (l : Loc), l ∈ ws.map (·.1) → ∃ x, (l, x) ∈ ws ∧ ∀ h', qba h' ws l = x
  | [], _, _, e => by simp at e
  | (l', o) :: ws, h, l, e => by
    by_cases hl : l ∈ ws.map (·.1)
    · obtain ⟨x, h1, h2⟩ := qpz ws h l hl
      exact ⟨x, List.mem_cons_of_mem _ h1, fun h' => h2 _⟩
    · have e' : l = l' := by
        simp only [List.map_cons, List.mem_cons] at e
        rcases e with e | e
        · exact e
        · exact (hl e).elim
      subst e'
      refine ⟨o, List.mem_cons_self .., fun h' => ?_⟩
      have miss : ∀ (ws : List (Loc × Option Obj)) (h : Loc → Option Obj), l ∉ ws.map (·.1) → qba h ws l = h l := by
        intro ws
        induction ws with
        | nil => intros; rfl
        | cons x ws ih =>
          intro h hn
          obtain ⟨a, b⟩ := x
          simp only [List.map_cons, List.mem_cons, not_or] at hn
          show qba (fun l' => if l' = a then b else h l') ws l = h l
          rw [ih _ hn.2, if_neg hn.1]
      show qba (fun l' => if l' = l then o else h' l') ws l = o
      rw [miss ws _ hl, if_pos rfl]
theorem qfz : ∀ (ws : List (Loc × Option Obj)) (h : Loc → Option Obj) (l : Loc), l ∉ ws.map (·.1) → qba h ws l = h l
  | [], _, _, _ => rfl
  | (a, b) :: ws, h, l, hn => by
    simp only [List.map_cons, List.mem_cons, not_or] at hn
    show qba (fun l' => if l' = a then b else h l') ws l = h l
    rw [qfz ws _ l hn.2, if_neg hn.1]
theorem qz1 {i : Nat} {l : Loc} : l.isOf i = true ↔ ∃ k, l = .n i k := by
  cases l with
  | b n => simp [Loc.isOf]
  | n j k => simp only [Loc.isOf, beq_iff_eq, Loc.n.injEq, exists_and_left, exists_eq', and_true]
def onlyM (p : Loc → Bool) (ρ : Map) : Map := fun l => if p l = true then ρ l else match ρ l with
  | .none => .none
  | _ => .dead
theorem qpr {p : Loc → Bool} {h : Loc → Option Obj} {l : Loc} (e : p l = true) : only p h l = h l := by simp only [only, e, qet]
theorem qrv {p : Loc → Bool} {h : Loc → Option Obj} {l : Loc} (e : p l = false) : only p h l = none := by simp only [only, e, qlo]
theorem q1m {p : Loc → Bool} {ρ : Map} {l : Loc} (e : p l = true) : onlyM p ρ l = ρ l := by simp only [onlyM, e, if_true]
theorem qh2 {p : Loc → Bool} {ρ : Map} {l : Loc} {b : Nat} (e : (onlyM p ρ l).block = some b) : p l = true ∧ (ρ l).block = some b := by
  unfold onlyM at e
  split at e
  · rename_i h; exact ⟨h, e⟩
  · split at e <;> cases e
theorem qxl {p : Loc → Bool} {ρ : Map} {l : Loc} (e : ρ l = .none) : onlyM p ρ l = .none := by
  unfold onlyM
  split
  · exact e
  · rw [e]
theorem q5k (p : Loc → Bool) (ρ : Map) (l : Loc) : onlyM p ρ l = ρ l ∨ (onlyM p ρ l = .dead ∧ ρ l ≠ .none) := by
  unfold onlyM
  split
  · exact .inl rfl
  · cases ρ l <;> simp
theorem qnv (p : Loc → Bool) (ρ : Map) : Stays ρ (onlyM p ρ) := fun l _ => (q5k p ρ l).imp id (·.1)
theorem HRel.only {ρ : Map} {H : Ice} {h : Loc → Option Obj} {w : World} (k : HRel ρ H h w) (p : Loc → Bool) : HRel (onlyM p ρ) H (Rf.only p h) w where
  ice := k.ice
  objs := fun l o e => by
    cases hp : p l with
    | false => rw [qrv hp] at e; cases e
    | true =>
      rw [qpr hp] at e
      rw [q1m hp]
      exact (k.objs l o e).mono (qnv p ρ) (fun _ _ _ e => e) (fun _ _ => rfl)
  gone := fun l e => by
    rcases q5k p ρ l with h | h
    · cases hp : p l with
      | true => rw [qpr hp] at e; rw [h]; exact k.gone l e
      | false =>
        unfold onlyM at h ⊢
        simp only [hp, Bool.false_eq_true, if_false] at h ⊢
        split
        · exact .inl rfl
        · exact .inr rfl
    · exact .inr h.1
  inj := fun l l' b e e' => k.inj l l' b (qh2 e).2 (qh2 e').2
  sep := fun l b e => k.sep l b (qh2 e).2
theorem q3t (p : Loc → Bool) (ρ : Map) (H : Ice) (w : World) : Trans ρ H w (onlyM p ρ) H w :=
  ⟨rfl, rfl, rfl, Nat.le_refl _, fun _ _ _ => ⟨rfl, fun _ => rfl⟩, fun l _ e => .inr ⟨l, (qh2 e).2⟩⟩
def wideM (ρ ρ' : Map) (q : Loc → Bool) : Map := fun l => if q l = true then ρ' l else ρ l
theorem Post.widen {ρ ρ' : Map} {H H' : Ice} {h : Loc → Option Obj} {w w' : World} {i : Nat} {e : Eff} {v : Value} {A : List Loc} (hH : HRel ρ H h w) (hN : ∀ k, ρ (.n i k) = .none)
    (k : Post (onlyM A.contains ρ) H (Rf.only A.contains h) w i e ρ' H' v w') (hw : okW A i e.wr = true)
    (h3 : ∀ l ∈ locsV e.v, l ∈ A ∨ l.isOf i = true) (h4 : ∀ l o, (l, some o) ∈ e.wr → ∀ l' ∈ locsO o, l' ∈ A ∨ l'.isOf i = true) :
    Post ρ H h w i e (wideM ρ ρ' fun l => A.contains l || l.isOf i) H' v w' := by
  simp only [okW, Bool.and_eq_true, List.all_eq_true, Bool.or_eq_true, List.contains_iff_mem] at hw
  obtain ⟨h1, h2⟩ := hw
  let q : Loc → Bool := fun l => A.contains l || l.isOf i
  have hq : ∀ l, q l = true ↔ (l ∈ A ∨ l.isOf i = true) := fun l => by simp [q]
  show Post ρ H h w i e (wideM ρ ρ' q) H' v w'
  have wp : ∀ l, q l = true → wideM ρ ρ' q l = ρ' l := fun l h => by simp only [wideM, h, if_true]
  have wn : ∀ l, q l = false → wideM ρ ρ' q l = ρ l := fun l h => by simp only [wideM, h, Bool.false_eq_true, if_false]
  have hst : Stays ρ (wideM ρ ρ' q) := fun l hl => by
    cases hql : q l with
    | false => exact .inl (wn l hql)
    | true =>
      rw [wp l hql]
      rcases (hq l).1 hql with hA | hi
      · have e1 : onlyM A.contains ρ l = ρ l := q1m (List.contains_iff_mem.2 hA)
        rcases k.stays l (by rw [e1]; exact hl) with e2 | e2
        · exact .inl (e2.trans e1)
        · exact .inr e2
      · obtain ⟨j, rfl⟩ := qz1.1 hi
        exact (hl (hN j)).elim
  have htr : Trans ρ H w (wideM ρ ρ' q) H' w' := ⟨k.trans.os, k.trans.tape, k.trans.output, k.trans.size, fun b hb hn => k.trans.keep b hb (fun l hl => hn l (qh2 hl).2), fun l b hb => by
    cases hql : q l with
    | false => rw [wn l hql] at hb; exact .inr ⟨l, hb⟩
    | true =>
      rw [wp l hql] at hb
      rcases k.trans.new l b hb with h | ⟨l', h⟩
      · exact .inl h
      · exact .inr ⟨l', (qh2 h).2⟩⟩
  have hle : H.le H' := k.trans.le (hH.only _)
  have out : ∀ l b, q l = false → (ρ l).block = some b → w'.heap[b]? = w.heap[b]? ∧ (∀ o, H' b o = H b o) ∧ ∀ l', (ρ' l').block ≠ some b := fun l b hql hb => by
    have hA : l ∉ A := fun hA => by rw [(hq l).2 (.inl hA)] at hql; cases hql
    have hno : ∀ l', (onlyM A.contains ρ l').block ≠ some b := fun l' hl' => by
      obtain ⟨a1, a2⟩ := qh2 hl'
      have := hH.inj l' l b a2 hb
      subst this
      exact hA (List.contains_iff_mem.1 a1)
    obtain ⟨b1, b2⟩ := k.trans.keep b (hH.lt hb) hno
    refine ⟨b1, b2, fun l' hl' => ?_⟩
    rcases k.trans.new l' b hl' with h | ⟨l2, h⟩
    · have := hH.lt hb; omega
    · exact hno l2 h
  have hin : ∀ l, q l = true → qba h e.wr l = qba (Rf.only A.contains h) e.wr l ∧ ∀ o, qba h e.wr l = some o → (l, some o) ∈ e.wr := fun l hql => by
    by_cases hm : l ∈ e.wr.map (·.1)
    · obtain ⟨x, a1, a2⟩ := qpz e.wr h l hm
      rw [a2, a2]
      exact ⟨rfl, fun o ho => ho ▸ a1⟩
    · rw [qfz _ _ _ hm, qfz _ _ _ hm]
      rcases (hq l).1 hql with hA | hi
      · exact (hm (h1 l hA)).elim
      · obtain ⟨j, rfl⟩ := qz1.1 hi
        have hn : h (.n i j) = none := by
          cases ho : h (.n i j) with
          | none => rfl
          | some o =>
            have := hH.objs _ o ho
            rw [hN j] at this
            cases o <;> exact this.elim
        refine ⟨?_, fun o ho => by rw [hn] at ho; cases ho⟩
        simp only [Rf.only, hn]
        cases A.contains (.n i j) <;> rfl
  have hout : ∀ l, q l = false → qba h e.wr l = h l := fun l hql => qfz _ _ _ (fun hm => by rw [(hq l).2 (h2 l hm)] at hql; cases hql)
  refine ⟨⟨k.heap.ice, fun l o ho => ?_, fun l ho => ?_, fun l l' b hb hb' => ?_, fun l b hb => ?_⟩, htr, hst, fun l a1 a2 => ?_, ?_⟩
  · cases hql : q l with
    | true =>
      obtain ⟨a1, a2⟩ := hin l hql
      have ho' := ho
      rw [a1] at ho'
      rw [wp l hql]
      exact (k.heap.objs l o ho').congr fun l' hl' => (wp l' ((hq l').2 (h4 l o (a2 o ho) l' hl'))).symm
    | false =>
      rw [hout l hql] at ho
      rw [wn l hql]
      exact (hH.objs l o ho).mono hst hle fun b hb => (out l b hql hb).1
  · cases hql : q l with
    | true => rw [(hin l hql).1] at ho; rw [wp l hql]; exact k.heap.gone l ho
    | false => rw [hout l hql] at ho; rw [wn l hql]; exact hH.gone l ho
  · cases hql : q l with
    | true =>
      rw [wp l hql] at hb
      cases hql' : q l' with
      | true => rw [wp l' hql'] at hb'; exact k.heap.inj l l' b hb hb'
      | false => rw [wn l' hql'] at hb'; exact ((out l' b hql' hb').2.2 l hb).elim
    | false =>
      rw [wn l hql] at hb
      cases hql' : q l' with
      | true => rw [wp l' hql'] at hb'; exact ((out l b hql hb).2.2 l' hb').elim
      | false => rw [wn l' hql'] at hb'; exact hH.inj l l' b hb hb'
  · intro o
    cases hql : q l with
    | true => rw [wp l hql] at hb; exact k.heap.sep l b hb o
    | false =>
      rw [wn l hql] at hb
      rw [(out l b hql hb).2.1 o]
      exact hH.sep l b hb o
  · cases hql : q l with
    | true => rw [wp l hql] at a2; exact k.new l (qxl a1) a2
    | false => rw [wn l hql] at a2; exact (a2 a1).elim
  · exact VRel.congr e.v (fun l hl => (wp l ((hq l).2 (h3 l hl))).symm) k.val
theorem Sound.widen {P : Program} {o : Oper} {a : Act} {ρ : Map} {H : Ice} {h : Loc → Option Obj} {w : World} {i : Nat} {A : List Loc} {r : R} (hH : HRel ρ H h w) (hN : ∀ k, ρ (.n i k) = .none)
    (k : Sound P o a w (onlyM A.contains ρ) H (Rf.only A.contains h) i r)
    (hr : ∀ e, r = .ok e ∨ r = .pan e → okW A i e.wr = true ∧ (∀ l ∈ locsV e.v, l ∈ A ∨ l.isOf i = true) ∧ ∀ l o, (l, some o) ∈ e.wr → ∀ l' ∈ locsO o, l' ∈ A ∨ l'.isOf i = true) :
    Sound P o a w ρ H h i r := fun K Q hk => by
  refine k K Q ?_
  cases r with
  | out => exact hk
  | ok e =>
    obtain ⟨h1, h2, h3⟩ := hr e (.inl rfl)
    exact fun ρ' H' v w' hp => hk _ _ _ _ (hp.widen hH hN h1 h2 h3)
  | pan e =>
    obtain ⟨h1, h2, h3⟩ := hr e (.inr rfl)
    exact fun ρ' H' v w' hp => hk _ _ _ _ (hp.widen hH hN h1 h2 h3)
theorem qts {m : List Loc} {i : Nat} : ∀ (os : List Obj) (k : Nat) {l : Loc} {x : Option Obj}, (l, x) ∈ qfc m i k os → ∃ o, x = Obj.mapL (backL m i) o
  | [], _, _, _, h => by cases h
  | o :: os, k, l, x, h => by
    rcases List.mem_cons.1 h with h | h
    · cases h; exact ⟨o, rfl⟩
    · exact qts os (k + 1) h
theorem q21 {cf : CF} {f : FuncId} {i : Nat} {h : Loc → Option Obj} {A : List Loc} {args : List (V × Bool)} {r : R} (e : qh7 cf f i (Rf.only A.contains h) args = some r) :
    ∀ ef, r = .ok ef ∨ r = .pan ef → (∀ l ∈ locsV ef.v, l ∈ A ∨ l.isOf i = true) ∧ ∀ l o, (l, some o) ∈ ef.wr → ∀ l' ∈ locsO o, l' ∈ A ∨ l'.isOf i = true := by
  obtain ⟨⟨vs, fm⟩, e1, e2⟩ := qan e
  obtain ⟨⟨vs', os, m⟩, e3, e4⟩ := qan e2
  have hm : ∀ l ∈ m, l ∈ A := fun l hl => by
    rcases qxn e3 l hl with h' | h'
    · cases h'
    · simp only [qgh] at h'
      split at h'
      · cases h'
      · simp only [Rf.only] at h'
        cases hc : A.contains l with
        | true => exact List.contains_iff_mem.1 hc
        | false => rw [hc] at h'; cases h'
  have hf : ∀ l, backL m i l ∈ A ∨ (backL m i l).isOf i = true := fun l => by
    cases l with
    | n a b => exact .inr (by simp [backL, Loc.isOf])
    | b k =>
      by_cases hk : k < m.length
      · rw [qjz (List.getElem?_eq_getElem hk)]
        exact .inl (hm _ (List.getElem_mem hk))
      · rw [qiz (by omega)]
        exact .inr (by simp [Loc.isOf])
  intro ef hef
  cases hs : (vs'.all fitV) with
  | false =>
    simp only [hs, qlo] at e4
    cases e4
  | true =>
    simp only [hs, qet] at e4
    obtain ⟨cr, e5, e6⟩ := qan e4
    cases e6
    have hw : ∀ {os : List Obj}, ∀ l o, (l, some o) ∈ fm.map (·, (none : Option Obj)) ++ qfc m i 0 os → ∀ l' ∈ locsO o, l' ∈ A ∨ l'.isOf i = true := fun {os} l o hmem => by
      rcases List.mem_append.1 hmem with hmem | hmem
      · obtain ⟨_, _, h⟩ := List.mem_map.1 hmem
        cases h
      · obtain ⟨o', ho'⟩ := qts os 0 hmem
        exact q7r hf ho'.symm
    cases cr with
    | out => rcases hef with h | h <;> cases h
    | ret rs hp =>
      rcases hef with h | h <;> cases h
      exact ⟨qo9 hf _, hw⟩
    | pan v hp =>
      rcases hef with h | h <;> cases h
      exact ⟨qo9 hf _, hw⟩
end Go.Rf

namespace Go.Rf
def opnds : AOp → List Opnd
  | .mv x => [x]
  | .own _ => []
  | .pick c a b => [c, a, b]
  | .alloc _ _ => []
  | .allocT _ _ _ => []
  | .box _ x => [x]
  | .build _ ps _ => ps.map (·.2.2)
  | .buildSl _ _ _ ps => ps.map (·.2)
  | .load _ _ x => [x]
  | .store _ x y => [x, y]
  | .nilCk x => [x]
  | .bin _ x y => [x, y]
  | .un _ x => [x]
  | .isN _ _ x => [x]
  | .eqB _ x y => [x, y]
  | .conv _ x => [x]
  | .mkI _ x => [x]
  | .mkF _ cap => cap
  | .mkSl _ _ a b => [a, b]
  | .slice _ x lo hi => x :: (lo.toList ++ hi.toList)
  | .fieldA _ _ _ x => [x]
  | .field _ _ _ x => [x]
  | .idxA _ x k => [x, k]
  | .idxS x k => [x, k]
  | .extract x _ => [x]
  | .tass _ _ _ x => [x]
  | .call _ args => args.map (·.1)
  | .callV f args => f :: args.map (·.1)
  | .inv _ x args => x :: args.map (·.1)
  | .len _ x => [x]
  | .app _ x y => y :: x.toList
  | .mx x y => [x, y]
  | .panic x => [x]
  | .range x => [x]
  | .next x => [x]
  | .mkMap => []
  | .look _ _ x k => [x, k]
  | .upd _ x k v => [x, k, v]
section
variable {ev ev' : Opnd → Option V}
theorem q52 : ∀ {l : List (Opnd × Bool)}, (∀ x ∈ l.map (·.1), ev x = ev' x) → evs ev l = evs ev' l
  | [], _ => rfl
  | (x, fl) :: l, h => by
    simp only [List.map_cons, List.mem_cons, forall_eq_or_imp] at h
    simp only [evs, h.1, q52 h.2]
theorem ze1 : ∀ {l : List Opnd}, (∀ x ∈ l, ev x = ev' x) → evl ev l = evl ev' l
  | [], _ => rfl
  | x :: l, h => by
    simp only [List.mem_cons, forall_eq_or_imp] at h
    simp only [evl, h.1, ze1 h.2]
theorem ze0 : ∀ {l : List (Nat × Nat × Opnd)}, (∀ x ∈ l.map (·.2.2), ev x = ev' x) → evp ev l = evp ev' l
  | [], _ => rfl
  | (a, b, x) :: l, h => by
    simp only [List.map_cons, List.mem_cons, forall_eq_or_imp] at h
    simp only [evp, h.1, ze0 h.2]
theorem zez : ∀ {l : List (Nat × Opnd)}, (∀ x ∈ l.map (·.2), ev x = ev' x) → evq ev l = evq ev' l
  | [], _ => rfl
  | (a, x) :: l, h => by
    simp only [List.map_cons, List.mem_cons, forall_eq_or_imp] at h
    simp only [evq, h.1, zez h.2]
theorem zar {T : Tab} {cf : CF} {i : Nat} {op : AOp} {h : Loc → Option Obj} (k : ∀ x ∈ opnds op, ev x = ev' x) : exec T cf i op ev h = exec T cf i op ev' h := by
  cases op with
  | own n => rfl
  | alloc z own => rfl
  | allocT t z own => rfl
  | mkMap => rfl
  | build z ps own => simp only [exec, ze0 k]
  | buildSl n z len ps => simp only [exec, zez k]
  | mkF f cap => simp only [exec, ze1 (show ∀ x ∈ cap, ev x = ev' x from k)]
  | call f args => simp only [exec, q52 k]
  | callV f args =>
    simp only [opnds, List.mem_cons, forall_eq_or_imp] at k
    simp only [exec, k.1, q52 k.2]
  | inv m x args =>
    simp only [opnds, List.mem_cons, forall_eq_or_imp] at k
    simp only [exec, k.1, q52 k.2]
  | slice n x lo hi =>
    simp only [opnds, List.mem_cons, forall_eq_or_imp, List.mem_append, Option.mem_toList] at k
    obtain ⟨k1, k2⟩ := k
    cases lo <;> cases hi <;> simp_all [exec]
  | app n x y =>
    simp only [opnds, List.mem_cons, forall_eq_or_imp, Option.mem_toList] at k
    obtain ⟨k1, k2⟩ := k
    cases x <;> simp_all [exec]
  | _ =>
    simp only [opnds, List.mem_cons, forall_eq_or_imp, List.not_mem_nil, false_implies, implies_true, and_true] at k
    simp only [exec, k]
theorem zam {op : AOp} {h h' : Loc → Option Obj} (hc : qfs op = false) (k : ∀ x ∈ opnds op, ev x = ev' x) : qdc op ev h = qdc op ev' h' := by
  cases op with
  | call f args => cases hc
  | callV f args => cases hc
  | inv m x args => cases hc
  | app n x y =>
    simp only [opnds, List.mem_cons, forall_eq_or_imp, Option.mem_toList] at k
    obtain ⟨k1, k2⟩ := k
    cases x with
    | none => simp only [qdc, k1, qmg]
    | some x => simp only [qdc, k1, qjx, k2 x rfl]
  | load n ag x =>
    simp only [opnds, List.mem_cons, forall_eq_or_imp, List.not_mem_nil, false_implies, implies_true, and_true] at k
    simp only [qdc, k]
  | store n x y =>
    simp only [opnds, List.mem_cons, forall_eq_or_imp, List.not_mem_nil, false_implies, implies_true, and_true] at k
    simp only [qdc, k]
  | conv c x =>
    simp only [opnds, List.mem_cons, forall_eq_or_imp, List.not_mem_nil, false_implies, implies_true, and_true] at k
    simp only [qdc, k]
  | next x =>
    simp only [opnds, List.mem_cons, forall_eq_or_imp, List.not_mem_nil, false_implies, implies_true, and_true] at k
    simp only [qdc, k]
  | look s z x y =>
    simp only [opnds, List.mem_cons, forall_eq_or_imp, List.not_mem_nil, false_implies, implies_true, and_true] at k
    simp only [qdc, k]
  | upd s x y v =>
    simp only [opnds, List.mem_cons, forall_eq_or_imp, List.not_mem_nil, false_implies, implies_true, and_true] at k
    simp only [qdc, k]
  | _ => rfl
end
theorem qv9 {h h' : Loc → Option Obj} {v : V} (k : ∀ l ∈ locOf (some v), h l = h' l) : elems h v = elems h' v := by
  cases v with
  | d x => cases x <;> rfl
  | ref l sz off len =>
    simp only [locOf, List.mem_singleton, forall_eq] at k
    simp only [elems, k]
  | _ => rfl
theorem q4d {h h' : Loc → Option Obj} {n : Nat} {ag : Bool} {v : V} (k : ∀ l ∈ locOf (some v), h l = h' l) : loadV h n ag v = loadV h' n ag v := by
  cases v with
  | d x => cases x <;> rfl
  | ptr l e j =>
    simp only [locOf, List.mem_singleton, forall_eq] at k
    simp only [loadV, k]
  | _ => rfl
theorem q0x {h h' : Loc → Option Obj} {n : Nat} {v u : V} (k : ∀ l ∈ locOf (some v), h l = h' l) : qrj h n v u = qrj h' n v u := by
  cases v with
  | d x => cases x <;> rfl
  | ptr l e j =>
    simp only [locOf, List.mem_singleton, forall_eq] at k
    simp only [qrj, k]
  | _ => rfl
theorem qx9 {h h' : Loc → Option Obj} {i : Nat} {n : W} {x : Option V} {y : V} (k1 : ∀ l ∈ locOf x, h l = h' l) (k2 : ∀ l ∈ locOf (some y), h l = h' l) : appV h i n x y = appV h' i n x y := by
  unfold appV
  rw [qv9 k2]
  cases x with
  | none => rfl
  | some v =>
    cases v <;> first | rfl | skip
    rename_i l sz off len
    simp only [locOf, List.mem_singleton, forall_eq] at k1
    simp only [k1]
theorem q7z {T : Tab} {cf : CF} {i : Nat} {op : AOp} {ev : Opnd → Option V} {h h' : Loc → Option Obj} (hc : qfs op = false) (k : ∀ l ∈ qdc op ev h, h l = h' l) : exec T cf i op ev h = exec T cf i op ev h' := by
  cases op with
  | call f args => cases hc
  | callV f args => cases hc
  | inv m x args => cases hc
  | load n ag x =>
    simp only [exec]
    cases hx : ev x with
    | none => rfl
    | some v => simp only [qbj]; exact q4d (by simpa only [qdc, hx] using k)
  | store n x y =>
    simp only [exec]
    cases hx : ev x with
    | none => rfl
    | some v =>
      simp only [qbj]
      congr 1
      funext u
      exact q0x (by simpa only [qdc, hx] using k)
  | conv c x =>
    simp only [exec]
    cases hx : ev x with
    | none => rfl
    | some v =>
      simp only [qbj]
      cases c with
      | int kk => cases v <;> first | rfl | (rename_i y; cases y <;> rfl)
      | rune => cases v <;> first | rfl | (rename_i y; cases y <;> rfl)
      | b2s =>
        simp only
        rw [qv9 (h' := h') (by simpa only [qdc, hx] using k)]
  | app n x y =>
    simp only [exec]
    simp only [qdc, List.mem_append] at k
    cases x with
    | none =>
      simp only
      cases hy : ev y with
      | none => rfl
      | some v => simp only [qbj]; exact qx9 (fun l h => by cases h) (fun l hl => k l (.inr (by rw [hy]; exact hl)))
    | some x =>
      simp only
      cases hx : ev x with
      | none => rfl
      | some u =>
        simp only [qbj]
        cases hy : ev y with
        | none => rfl
        | some v => simp only [qbj]; exact qx9 (fun l hl => k l (.inl (by simp only [qjx]; rw [hx]; unfold unN at hl; split at hl <;> first | exact hl | cases hl))) (fun l hl => k l (.inr (by rw [hy]; exact hl)))
  | next x =>
    simp only [exec]
    cases hx : ev x with
    | none => rfl
    | some v =>
      cases v <;> first | rfl | skip
      rename_i l
      have : h l = h' l := k l (by simp [qdc, hx, locOf])
      simp only [this]
  | look s z x y =>
    simp only [exec]
    cases hx : ev x with
    | none => rfl
    | some u =>
      cases u with
      | map l =>
        have : h l = h' l := k l (by simp [qdc, hx, locOf])
        cases ev y with
        | none => rfl
        | some w =>
          cases w with
          | d key => simp only [this]
          | _ => rfl
      | _ => (cases ev y <;> first | rfl | (rename_i u; cases u <;> rfl))
  | upd s x y v =>
    simp only [exec]
    cases hx : ev x with
    | none => rfl
    | some u =>
      cases u with
      | map l =>
        have : h l = h' l := k l (by simp [qdc, hx, locOf])
        cases ev y with
        | none => rfl
        | some w =>
          cases w with
          | d key => cases ev v with
            | none => rfl
            | some _ => simp only [this]
          | _ => rfl
      | _ => (cases ev y <;> first | rfl | (rename_i u; cases u <;> first | rfl | (cases ev v <;> rfl)))
  | _ => rfl
def qkt (o : AIns) : List Nat := (opnds o.op).filterMap (fun x => match x with | .t n => some n | .c _ => none) ++ (match o.guard with | some (t, _) => [t] | none => [])
theorem q2p {o : AIns} {e e' : List (Nat × V)} (h : ∀ t ∈ qkt o, getE e t = getE e' t) : ∀ x ∈ opnds o.op, evO e x = evO e' x := fun x hx => by
  cases x with
  | c y => rfl
  | t n => exact h n (List.mem_append_left _ (List.mem_filterMap.2 ⟨_, hx, rfl⟩))
theorem q0r {o : AIns} {e e' : List (Nat × V)} (h : ∀ t ∈ qkt o, getE e t = getE e' t) : wanted e o.guard = wanted e' o.guard := by
  cases hg : o.guard with
  | none => rfl
  | some g =>
    obtain ⟨t, b⟩ := g
    have : getE e t = getE e' t := h t (List.mem_append_right _ (by rw [hg]; exact List.mem_singleton.2 rfl))
    simp only [wanted, this]
section
variable {T : Tab} {cf : CF}
theorem q7m {A : List Loc} {h h' : Loc → Option Obj} (k : ∀ l ∈ A, h l = h' l) : only A.contains h = only A.contains h' := by
  funext l
  cases hc : A.contains l with
  | true => rw [qpr hc, qpr hc]; exact k l (List.contains_iff_mem.1 hc)
  | false => rw [qrv hc, qrv hc]
theorem qtb {o : AIns} {A : List Loc} {e e' : List (Nat × V)} {h h' : Loc → Option Obj} (hA : qfs o.op = false → qdc o.op (evO e) h = A) (he : ∀ t ∈ qkt o, getE e t = getE e' t) (hh : ∀ l ∈ A, h l = h' l) :
    execD T cf o.i o.op A (evO e) h = execD T cf o.i o.op A (evO e') h' := by
  unfold execD
  have h1 := q2p he
  cases hc : qfs o.op with
  | true => simp only [qet]; rw [zar h1, q7m hh]
  | false =>
    simp only [qlo]
    rw [q7z hc (h' := h') (fun l hl => hh l (hA hc ▸ hl)), zar h1]
theorem qrp {α : Type} {b : Bool} {x : α} {r : α} (e : sel b (some x) none = some r) : b = true ∧ x = r := by
  cases b with
  | true => cases e; exact ⟨rfl, rfl⟩
  | false => cases e
inductive Comes (T : Tab) (cf : CF) (o : AIns) (A : List Loc) (s : RS) : SR → Prop
  | skip (h : wanted s.env o.guard = some false) : Comes T cf o A s (.go { env := putT s.env o.dst (.tup []), h := s.h } { i := o.i, rd := [], wr := [] })
  | ok {e : Eff} (h : wanted s.env o.guard = some true) (k : execD T cf o.i o.op A (evO s.env) s.h = some (.ok e)) (q : okRec (qdr o.op) A o.i e.wr = true) :
      Comes T cf o A s (.go { env := putT s.env o.dst e.v, h := qba s.h e.wr } { i := o.i, rd := A, wr := e.wr.map (·.1), ch := sel (qfs o.op) (chg A s.h e.wr) (e.wr.map (·.1)) })
  | pan {e : Eff} (h : wanted s.env o.guard = some true) (k : execD T cf o.i o.op A (evO s.env) s.h = some (.pan e)) (q : 2 ≤ qdr o.op ∧ okRec (qdr o.op) A o.i e.wr = true) :
      Comes T cf o A s (.pan e.v { env := s.env, h := qba s.h e.wr } { i := o.i, rd := A, wr := e.wr.map (·.1) })
  | out (h : wanted s.env o.guard = some true) (k : execD T cf o.i o.op A (evO s.env) s.h = some .out) (q : qdr o.op ≠ 0 ∨ A = []) : Comes T cf o A s .out
theorem za2 {o : AIns} {A : List Loc} {s : RS} {x : SR} : stepD T cf o A s = some x ↔ Comes T cf o A s x := by
  constructor
  · intro e
    obtain ⟨b, e1, e2⟩ := qan e
    cases b with
    | false => cases e2; exact .skip e1
    | true =>
      simp only [qet] at e2
      obtain ⟨r, e3, e4⟩ := qan e2
      cases r with
      | ok ef =>
        obtain ⟨q, rfl⟩ := qrp e4
        exact .ok e1 e3 q
      | pan ef =>
        obtain ⟨q, rfl⟩ := qrp e4
        simp only [Bool.and_eq_true, decide_eq_true_eq] at q
        exact .pan e1 e3 q
      | out =>
        obtain ⟨q, rfl⟩ := qrp e4
        simp only [ne_eq, Bool.or_eq_true, decide_eq_true_eq, List.isEmpty_iff] at q
        exact .out e1 e3 q
  · intro k
    cases k with
    | skip h => simp only [stepD, h, qbj, qlo]
    | ok h k q => simp only [stepD, h, qbj, qet, k, q00, q]
    | pan h k q => simp only [stepD, h, qbj, qet, k, q00, q, decide_true, Bool.and_self]
    | out h k q =>
      have : (decide (qdr o.op ≠ 0) || A.isEmpty) = true := by simpa only [ne_eq, Bool.or_eq_true, decide_eq_true_eq, List.isEmpty_iff] using q
      simp only [stepD, h, qbj, qet, k, q00, this]
def recRd (x : SR) (A : List Loc) : List Loc := match x with
  | .go _ r => r.rd
  | .pan _ _ r => r.rd
  | .out => A
theorem zdu {A : List Loc} {h : Loc → Option Obj} {wr : List (Loc × Option Obj)} {l : Loc} (k : l ∉ chg A h wr) : qba h wr l = h l := by
  by_cases hm : l ∈ wr.map (·.1)
  · unfold chg at k
    rw [List.mem_filter] at k
    simp only [hm, true_and, Bool.or_eq_true, Bool.not_eq_true', decide_eq_true_eq, ne_eq, not_or, Classical.not_not] at k
    exact k.2
  · exact qfz _ _ _ hm
theorem zh9 {A : List Loc} {h : Loc → Option Obj} {wr : List (Loc × Option Obj)} {l : Loc} (k : l ∈ chg A h wr) : l ∈ wr.map (·.1) := (List.mem_filter.1 k).1
theorem za6 {A : List Loc} {h h' : Loc → Option Obj} {wr : List (Loc × Option Obj)} (k : ∀ l ∈ A, h l = h' l) : chg A h wr = chg A h' wr := by
  unfold chg
  refine List.filter_congr fun l hl => ?_
  cases hA : A.contains l with
  | false => rfl
  | true =>
    have e := k l (List.contains_iff_mem.1 hA)
    obtain ⟨x, _, hx⟩ := qpz wr h l hl
    rw [hx, hx, e]
theorem q6c {c : Bool} {A : List Loc} {h : Loc → Option Obj} {wr : List (Loc × Option Obj)} {l : Loc} (k : l ∉ sel c (chg A h wr) (wr.map (·.1))) : qba h wr l = h l := by
  cases c with
  | true => exact zdu k
  | false => exact qfz _ _ _ k
theorem zia {c : Bool} {A : List Loc} {h : Loc → Option Obj} {wr : List (Loc × Option Obj)} {l : Loc} (k : l ∈ sel c (chg A h wr) (wr.map (·.1))) : l ∈ wr.map (·.1) := by
  cases c with
  | true => exact zh9 k
  | false => exact k
theorem Comes.move {o : AIns} {A : List Loc} {s s' : RS} {x : SR} (k : Comes T cf o A s x) (hA : qfs o.op = false → qdc o.op (evO s.env) s.h = A) (he : ∀ t ∈ qkt o, getE s.env t = getE s'.env t)
    (hh : ∀ l ∈ recRd x A, s.h l = s'.h l) : (match x with
      | .go s1 r => ∃ v wr, s1 = { env := putT s.env o.dst v, h := qba s.h wr } ∧ (∀ l, l ∉ r.ch → qba s.h wr l = s.h l ∧ qba s'.h wr l = s'.h l) ∧ r.wr = wr.map (·.1) ∧ Comes T cf o A s' (.go { env := putT s'.env o.dst v, h := qba s'.h wr } r)
      | .pan v s1 r => ∃ wr, s1 = { env := s.env, h := qba s.h wr } ∧ r.wr = wr.map (·.1) ∧ Comes T cf o A s' (.pan v { env := s'.env, h := qba s'.h wr } r)
      | .out => Comes T cf o A s' .out) := by
  have hw := q0r he
  cases k with
  | skip h => exact ⟨.tup [], [], rfl, fun _ _ => ⟨rfl, rfl⟩, rfl, .skip (hw ▸ h)⟩
  | @ok ef h k q =>
    have e : sel (qfs o.op) (chg A s.h ef.wr) (ef.wr.map (·.1)) = sel (qfs o.op) (chg A s'.h ef.wr) (ef.wr.map (·.1)) := by rw [za6 (A := A) (h' := s'.h) hh]
    refine ⟨_, _, rfl, fun l hl => ⟨q6c hl, q6c (A := A) (c := qfs o.op) ?_⟩, rfl, ?_⟩
    · rw [← e]; exact hl
    · rw [e]; exact .ok (hw ▸ h) (qtb (T := T) (cf := cf) hA he hh ▸ k) q
  | pan h k q => exact ⟨_, rfl, rfl, .pan (hw ▸ h) (qtb (T := T) (cf := cf) hA he hh ▸ k) q⟩
  | out h k q => exact .out (hw ▸ h) (qtb (T := T) (cf := cf) hA he hh ▸ k) q
theorem Comes.foot {o : AIns} {A : List Loc} {s s' : RS} (hA : qfs o.op = false → qdc o.op (evO s.env) s.h = A) (he : ∀ t ∈ qkt o, getE s.env t = getE s'.env t) : qfs o.op = false → qdc o.op (evO s'.env) s'.h = A := fun hc =>
  (zam hc (q2p he)).symm.trans (hA hc)
end
end Go.Rf

namespace Go.Rf
abbrev Item := AIns × List Loc × Rec
section
variable {T : Tab} {cf : CF}
inductive Runs (T : Tab) (cf : CF) : List Item → RS → RR → Prop
  | nil (s : RS) : Runs T cf [] s (.nrm s)
  | go {o A r s s' L rr} (hA : qfs o.op = false → qdc o.op (evO s.env) s.h = A) (h : Comes T cf o A s (.go s' r)) (k : Runs T cf L s' rr) : Runs T cf ((o, A, r) :: L) s rr
  | pan {o A r s s' v} (hA : qfs o.op = false → qdc o.op (evO s.env) s.h = A) (h : Comes T cf o A s (.pan v s' r)) : Runs T cf [(o, A, r)] s (.pan o.i v s')
  | out {o A s} (hA : qfs o.op = false → qdc o.op (evO s.env) s.h = A) (h : Comes T cf o A s .out) : Runs T cf [(o, A, { i := o.i, rd := A, wr := [] })] s .out
def Eqv (s s' : RS) : Prop := s.h = s'.h ∧ ∀ t, getE s.env t = getE s'.env t
inductive EqvR : RR → RR → Prop
  | nrm {s s'} (h : Eqv s s') : EqvR (.nrm s) (.nrm s')
  | pan {i v s s'} (h : ∀ l, Loc.oldOr i l = true → s.h l = s'.h l) : EqvR (.pan i v s) (.pan i v s')
  | out : EqvR .out .out
theorem Eqv.refl (s : RS) : Eqv s s := ⟨rfl, fun _ => rfl⟩
theorem EqvR.refl (r : RR) : EqvR r r := by
  cases r with
  | nrm s => exact .nrm (.refl s)
  | pan i v s => exact .pan fun _ _ => rfl
  | out => exact .out
theorem EqvR.trans {a b c : RR} (h : EqvR a b) (k : EqvR b c) : EqvR a c := by
  cases h with
  | nrm h => cases k with | nrm k => exact .nrm ⟨h.1.trans k.1, fun t => (h.2 t).trans (k.2 t)⟩
  | pan h => cases k with | pan k => exact .pan fun l hl => (h l hl).trans (k l hl)
  | out => exact k
theorem q5y {e e' : List (Nat × V)} {d : Option Nat} {v : V} (h : ∀ t, getE e t = getE e' t) (t : Nat) : getE (putT e d v) t = getE (putT e' d v) t := by
  cases d with
  | none => exact h t
  | some d => simp only [putT, getE, h t]
theorem qq3 {e : List (Nat × V)} {d : Option Nat} {v : V} {t : Nat} (h : d ≠ some t) : getE (putT e d v) t = getE e t := by
  cases d with
  | none => rfl
  | some d =>
    simp only [putT, getE]
    rw [if_neg (fun hd => h (by rw [hd]))]
theorem qz5 {e : List (Nat × V)} {d d' : Option Nat} {v v' : V} (h : ∀ t, d = some t → d' ≠ some t) (t : Nat) : getE (putT (putT e d v) d' v') t = getE (putT (putT e d' v') d v) t := by
  cases d with
  | none => rfl
  | some a =>
    cases d' with
    | none => rfl
    | some b =>
      have hab : a ≠ b := fun hab => h a rfl (by rw [hab])
      simp only [putT, getE]
      by_cases h1 : b = t
      · subst h1; simp [hab]
      · simp [h1]
theorem qsk {ws : List (Loc × Option Obj)} {h h' : Loc → Option Obj} {l : Loc} (k : h l = h' l) : qba h ws l = qba h' ws l := by
  by_cases hm : l ∈ ws.map (·.1)
  · obtain ⟨x, _, h2⟩ := qpz ws h l hm
    rw [h2, h2]
  · rw [qfz _ _ _ hm, qfz _ _ _ hm, k]
theorem Runs.eqv {L : List Item} {s s' : RS} {rr : RR} (k : Runs T cf L s rr) (e : Eqv s s') : ∃ rr', Runs T cf L s' rr' ∧ EqvR rr rr' := by
  induction k generalizing s' with
  | nil s => exact ⟨_, .nil s', .nrm e⟩
  | @go o A r s s1 L rr hA h k ih =>
    obtain ⟨v, wr, rfl, _, h2, h3⟩ := h.move hA (fun t _ => e.2 t) (fun l _ => by rw [e.1])
    obtain ⟨rr', k1, k2⟩ := ih (s' := { env := putT s'.env o.dst v, h := qba s'.h wr }) ⟨by simp only [e.1], fun t => q5y e.2 t⟩
    exact ⟨rr', .go (Comes.foot hA (fun t _ => e.2 t)) h3 k1, k2⟩
  | @pan o A r s s1 v hA h =>
    obtain ⟨wr, rfl, h2, h3⟩ := h.move hA (fun t _ => e.2 t) (fun l _ => by rw [e.1])
    exact ⟨_, .pan (Comes.foot hA (fun t _ => e.2 t)) h3, .pan fun l _ => qsk (by rw [e.1])⟩
  | @out o A s hA h => exact ⟨_, .out (Comes.foot hA (fun t _ => e.2 t)) (h.move hA (fun t _ => e.2 t) (fun l _ => by rw [e.1])), .out⟩
structure Ind (p x : Item) : Prop where
  s1 : ∀ t, p.1.dst = some t → t ∉ qkt x.1
  s2 : ∀ t, x.1.dst = some t → t ∉ qkt p.1
  s3 : ∀ t, p.1.dst = some t → x.1.dst ≠ some t
  w1 : ∀ l ∈ p.2.2.ch, l ∉ x.2.2.rd ∧ l ∉ x.2.2.ch
  w2 : ∀ l ∈ x.2.2.ch, l ∉ p.2.2.rd
inductive Front (T : Tab) (cf : CF) (pre post : List Item) (x : Item) (s : RS) (rr : RR) : Prop
  | go {s1 rr'} (hA : qfs x.1.op = false → qdc x.1.op (evO s.env) s.h = x.2.1) (h : Comes T cf x.1 x.2.1 s (.go s1 x.2.2)) (k : Runs T cf (pre ++ post) s1 rr') (e : EqvR rr rr') (hp : post = [] → ∃ s2, rr = .nrm s2)
  | pan {v s1} (hA : qfs x.1.op = false → qdc x.1.op (evO s.env) s.h = x.2.1) (h : Comes T cf x.1 x.2.1 s (.pan v s1 x.2.2)) (e : EqvR rr (.pan x.1.i v s1)) (hp : post = [])
  | out (hA : qfs x.1.op = false → qdc x.1.op (evO s.env) s.h = x.2.1) (h : Comes T cf x.1 x.2.1 s .out) (hrd : x.2.2.rd = x.2.1) (e : rr = .out)
theorem front : ∀ (pre : List Item) (post : List Item) (x : Item) (s : RS) (rr : RR), Runs T cf (pre ++ x :: post) s rr → (∀ p ∈ pre, Ind p x ∧ (post = [] → (∃ j v s2, rr = .pan j v s2) → ∀ l ∈ p.2.2.wr, Loc.oldOr x.1.i l = false)) → Front T cf pre post x s rr
  | [], post, x, s, rr, k, _ => by
    cases k with
    | go hA h k => exact .go hA h k (.refl _) (fun hp => by subst hp; cases k; exact ⟨_, rfl⟩)
    | pan hA h => exact .pan hA h (.refl _) rfl
    | out hA h => exact .out hA h rfl rfl
  | p :: pre, post, x, s, rr, k, hi => by
    obtain ⟨hip, hnp⟩ := hi p (List.mem_cons_self ..)
    generalize hL : p :: pre ++ x :: post = L at k
    cases k with
    | nil => simp at hL
    | pan hA h => simp at hL
    | out hA h => simp at hL
    | @go o A r _ sp L _ hA h k =>
      simp only [List.cons_append, List.cons.injEq] at hL
      obtain ⟨rfl, rfl⟩ := hL
      have ih := front pre post x sp rr k (fun q hq => hi q (List.mem_cons_of_mem _ hq))
      obtain ⟨vp, wp, rfl, hcp, hwp, _⟩ := h.move (s' := s) hA (fun _ _ => rfl) (fun _ _ => rfl)
      have back : ∀ t ∈ qkt x.1, getE (putT s.env o.dst vp) t = getE s.env t := fun t ht => qq3 fun hd => hip.s1 t hd ht
      have same : ∀ l ∈ x.2.2.rd, qba s.h wp l = s.h l := fun l hl => (hcp l fun hm => (hip.w1 l hm).1 hl).1
      cases ih with
      | go hA' h' k' e hp =>
        obtain ⟨vx, wx, rfl, hcx, hwx, hx⟩ := h'.move (s' := s) hA' back same
        have hpm := h.move (s' := { env := putT s.env x.1.dst vx, h := qba s.h wx }) hA (fun t ht => (qq3 fun hd => hip.s2 t hd ht).symm) (fun l hl => ((hcx l fun hm => hip.w2 l hm hl).2).symm)
        have hfoot : qfs o.op = false → qdc o.op (evO (putT s.env x.1.dst vx)) (qba s.h wx) = A := Comes.foot (s' := { env := putT s.env x.1.dst vx, h := qba s.h wx }) hA (fun t ht => (qq3 fun hd => hip.s2 t hd ht).symm)
        obtain ⟨v2, w2, e1, hc2, hw2, hp2⟩ := hpm
        simp only [RS.mk.injEq] at e1
        obtain ⟨e1, e2⟩ := e1
        have eqv : Eqv { env := putT (putT s.env o.dst vp) x.1.dst vx, h := qba (qba s.h wp) wx } { env := putT (putT s.env x.1.dst vx) o.dst v2, h := qba (qba s.h wx) w2 } := by
          refine ⟨?_, fun t => ?_⟩
          · funext l
            simp only
            by_cases hl : l ∈ x.2.2.ch
            · have hlp : l ∉ r.ch := fun hm => (hip.w1 l hm).2 hl
              rw [(hc2 l hlp).2]
              exact qsk (hcp l hlp).1
            · refine (hcx l hl).1.trans ?_
              exact (congrFun e2 l).trans (qsk (hcx l hl).2.symm)
          · have hput : ∀ (u : List (Nat × V)) t, getE u t = getE u t := fun _ _ => rfl
            have e1' : ∀ t, getE (putT s.env o.dst vp) t = getE (putT s.env o.dst v2) t := fun t => by rw [e1]
            rw [q5y e1' t]
            exact qz5 (fun t h1 => hip.s3 t h1) t
        obtain ⟨rr2, k2, e3⟩ := k'.eqv eqv
        exact .go (Comes.foot hA' back) hx (.go hfoot hp2 k2) (e.trans e3) hp
      | pan hA' h' e hp =>
        obtain ⟨wx, rfl, hwx, hx⟩ := h'.move (s' := s) hA' back same
        refine .pan (Comes.foot hA' back) hx (e.trans (.pan fun l hl => ?_)) hp
        refine qsk ?_
        exact qfz _ _ _ fun hm => by
          have := hnp hp (by cases e; exact ⟨_, _, _, rfl⟩) l (by rw [hwp]; exact hm)
          rw [hl] at this
          cases this
      | out hA' h' hrd e => exact .out (Comes.foot hA' back) (h'.move (s' := s) hA' back (fun l hl => same l (by rw [hrd]; exact hl))) hrd e
end
end Go.Rf
