/- Parts of the proof: SpM9, SpMA, SpMB, SpMC, SpS2, SpS3, SpS4, SpA9, SpE1, SpE2, SpE3, SpE4, SpU1, SpU2. -/
import Derived.Test.YtdgfohkljpjdpaaGreatDoorSp8

set_option linter.unusedSimpArgs false
set_option linter.unusedVariables false
set_option linter.unnecessarySimpa false
namespace Go.Rf
set_option maxHeartbeats 8000000
def OOk (n : Nat) (ts : List Tok) : Prop := ∀ r : Rd, r.ok → r.ts = ts → 4 * (ts.length - r.i) + 1 ≤ n →
  (∀ p (acc : List Bl), acc.length ≤ r.i → codeX T0 X0 r.heap.length qbe (some (.nrm, orsSt r.heap.length r p r.tok.pos acc)) = qru r.heap.length p acc (orsF n r)) ∧ (orsF n r).fineS r 0
theorem q5x {r r' : Rd} (h : r'.ly = r.ly) : r'.heap.length = r.heap.length := by unfold Rd.heap; rw [h]; cases r.ly <;> rfl
theorem zbr (acc : List Bl) (p : Pl) (l) : LW blL acc ++ [V.d (.agg [.int .i64 p.b, .int .i64 p.g, .int .i64 p.l, .int .i64 p.c, .sl (LD smL l)])] = LW blL (acc ++ [.mk p l]) := by
  rw [q3c]
  simp [LW]
theorem zc4 {n : Nat} {ts : List Tok} (ihB : BOk n ts) (ihO : OOk n ts) : OOk (n + 1) ts := by
  intro r h ht hn
  have hi : r.i < ts.length := ht ▸ h.i
  have hl := h.n
  have a1 := qa3 h [111, 114] (by simp)
  unfold orsF
  by_cases c1 : r.isT [111, 114] = true
  case neg =>
    rw [if_neg c1]
    rw [show r.isT [111, 114] = false by simpa using c1, if_neg (by simp)] at a1
    refine ⟨fun p acc ha => ?_, KeptS.refl h, Nat.le_refl _⟩
    rw [qac (l := qbe) rfl]
    cases hly : r.ly
    all_goals
      simp only [Rd.heap, hly, orsSt, qru, Pl.cs, List.append_nil, List.length_cons, List.length_nil, List.cons_append, List.nil_append, Nat.reduceAdd] at a1 ⊢
      generalize r.tok = t at *
      simp -implicitDefEqProofs (disch := omega) [qc7, a1]
  rw [if_pos c1]
  rw [c1, if_pos rfl] at a1
  have hk := qca c1
  have hni := qfj hk
  have k1 := Kept.next h
  obtain ⟨s1, f1⟩ := ihB r.next k1.ok (k1.ts.trans ht) (by omega)
  have l1 := k1.ly
  have e1 := (Rz.fineS_ly f1).trans l1
  rcases hb : blkF n r.next with ⟨l, r1⟩ | ⟨e, p, r1⟩
  all_goals
    rw [hb] at s1 f1 e1
    have e0 : r1.ly = r.ly := e1
    clear e1
  case bad =>
    refine ⟨fun q acc ha => ?_, e0⟩
    rw [qac (l := qbe) rfl]
    cases hly : r.ly
    all_goals
      simp only [Rd.heap, hly, l1, e0, orsSt, qru, Rz.bind, Rz.out, Pl.cs, qap, List.append_nil, List.length_cons, List.length_nil, List.cons_append, List.nil_append, Nat.reduceAdd] at a1 s1 ⊢
      generalize r.tok = t at *
      simp -implicitDefEqProofs (disch := omega) [qc7, a1, s1]
  have k2 := k1.s.trans f1.1
  have hi2 := f1.2
  obtain ⟨lp, f2⟩ := ihO r1 f1.1.ok (k2.ts.trans ht) (by omega)
  have s2 := qbi f1.1.ok
  have f3 : ((orsF n r1).bind fun bs r2 => (.ok (.mk r.tok.pos l :: bs) r2 : Rz (List Bl))).fineS r 0 := by
    have f4 := Rz.fineS_kept f2 k2 (d := 0) (by omega)
    rcases hq : orsF n r1 with ⟨bs, r2⟩ | ⟨e, p, r2⟩ <;> rw [hq] at f4 <;> exact f4
  refine ⟨fun p acc ha => ?_, f3⟩
  clear f3
  have lp := lp p (acc ++ [.mk r.tok.pos l]) (by simp; omega)
  have hre : qru r1.heap.length p (acc ++ [.mk r.tok.pos l]) (orsF n r1) = qru r1.heap.length p acc ((orsF n r1).bind fun bs r2 => (.ok (.mk r.tok.pos l :: bs) r2 : Rz (List Bl))) := by
    rcases orsF n r1 with ⟨bs, r2⟩ | ⟨e, p, r2⟩
    · simp [qru, Rz.bind]
    · rfl
  rw [hre, q5x e0] at lp
  refine Eq.trans ?_ lp
  clear lp hre
  have ha2 : acc.length ≤ 5000 := by rw [ht] at hl; omega
  rw [qac (l := qbe) rfl]
  cases hly : r.ly
  all_goals
    simp only [Rd.heap, hly, l1, e0, orsSt, Rz.out, lsO, Tok.cs, Pl.cs, List.length_append, List.length_cons, List.length_nil, List.cons_append, List.nil_append, Nat.reduceAdd] at a1 s1 s2 ⊢
    generalize r1.tok = t1 at *
    generalize r.tok = t at *
    simp (maxSteps := 2000000) -implicitDefEqProofs (disch := omega) [qc7, a1, s1, s2, zbr]
theorem zcc {n : Nat} {ts : List Tok} (hnum : ∀ t ∈ ts, t.kind = 2 → NumTx t.text) (ihB : BOk n ts) (ihO : OOk n ts) : SOk (n + 1) ts := by
  intro r h ht hn
  have hi : r.i < ts.length := ht ▸ h.i
  have k1 := Kept.next h
  have nx : ∀ {s}, r.isT s = true → r.next.i = r.i + 1 := fun c => qfj (qca c)
  have blk : ∀ r1 : Rd, KeptS r r1 → r.i + 1 ≤ r1.i → callE T0 X0 qax [.ptr (.b 0) 0 0] r1.heap = (blkF n r1).out lsO ∧ (blkF n r1).fineS r 1 ∧ (blkF n r1).st.ly = r.ly := fun r1 k hle => by
    obtain ⟨s1, f1⟩ := ihB r1 k.ok (k.ts.trans ht) (by omega)
    exact ⟨s1, Rz.fineS_kept f1 k (by omega), (Rz.fineS_ly f1).trans k.ly⟩
  have fin : ∀ {b : Rz (Option Sm)}, b.fineS r 1 → b.fineS r 0 ∧ ∀ s r', b = .ok (some s) r' → r.i + 1 ≤ r'.i := fun {b} f => ⟨by
    rcases b with ⟨x, r'⟩ | ⟨e, p, r'⟩
    · exact ⟨f.1, by have := f.2; omega⟩
    · exact f, fun s r' e => by rw [e] at f; exact f.2⟩
  have mp : ∀ {α : Type} {b : Rz α} (g : α → Option Sm), b.fineS r 1 → (b.bind fun x r1 => (.ok (g x) r1 : Rz (Option Sm))).fineS r 1 := fun {α b} g f => by
    rcases b with ⟨x, r'⟩ | ⟨e, p, r'⟩ <;> exact f
  have nt : ∀ {s}, ¬ r.isT s = true → r.isT s = false := fun h => by simpa using h
  unfold stmF
  by_cases c0 : r.isName = true
  · rw [if_pos c0]
    have hk : r.tok.kind ≠ 0 := by unfold Rd.isName at c0; simp at c0; omega
    obtain ⟨s1, f1⟩ := q40 h hk (by rw [ht]; exact hnum) r.tok.pos
    exact ⟨zfv h c0 s1 (Rz.fineS_ly f1), fin (mp _ f1)⟩
  rw [if_neg c0]
  have hn0 : r.isName = false := by simpa using c0
  by_cases c1 : r.isT [115, 107, 105, 112] = true
  · rw [if_pos c1]
    exact ⟨zcd h hn0 c1, fin (Rz.fineS_kept (qro k1.ok _) k1.s (by have := nx c1; omega))⟩
  rw [if_neg c1]
  by_cases c2 : r.isT [115, 116, 111, 112] = true
  · rw [if_pos c2]
    exact ⟨zcb h hn0 (nt c1) c2, fin (Rz.fineS_kept (qro k1.ok _) k1.s (by have := nx c2; omega))⟩
  rw [if_neg c2]
  by_cases c3 : r.isT [109, 97, 114, 107] = true
  · rw [if_pos c3]
    obtain ⟨s1, f1⟩ := q96 k1.ok r.tok.pos
    exact ⟨zcf h hn0 (nt c1) (nt c2) c3 s1 ((Rz.fineS_ly f1).trans k1.ly), fin (mp _ (Rz.fineS_kept f1 k1.s (by have := nx c3; omega)))⟩
  rw [if_neg c3]
  by_cases c4 : r.isT [99, 104, 111, 111, 115, 101] = true
  · rw [if_pos c4]
    obtain ⟨s1, f1, e1⟩ := blk r.next k1.s (by have := nx c4; omega)
    have hO : ∀ l r1, blkF n r.next = .ok l r1 → KeptS r r1 ∧ r.i + 1 ≤ r1.i ∧ (orsF n r1).fineS r1 0 ∧ codeX T0 X0 r.heap.length qbe (some (.nrm, orsSt r.heap.length r1 r.tok.pos r1.tok.pos [.mk r.tok.pos l])) = qru r.heap.length r.tok.pos [.mk r.tok.pos l] (orsF n r1) := fun l r1 hb => by
      rw [hb] at f1
      obtain ⟨lp, f2⟩ := ihO r1 f1.1.ok (f1.1.ts.trans ht) (by have := f1.2; omega)
      have lp := lp r.tok.pos [.mk r.tok.pos l] (by have := f1.2; simp; omega)
      rw [q5x f1.1.ly] at lp
      exact ⟨f1.1, f1.2, f2, lp⟩
    refine ⟨q63 h hn0 (nt c1) (nt c2) (nt c3) c4 s1 e1 fun l r1 hb => ?_, fin ?_⟩
    · obtain ⟨g1, g2, g3, g4⟩ := hO l r1 hb
      exact ⟨g1.ok, (Rz.fineS_ly g3).trans g1.ly, g4⟩
    · rcases hb : blkF n r.next with ⟨l, r1⟩ | ⟨e, p, r1⟩
      · obtain ⟨g1, g2, g3, g4⟩ := hO l r1 hb
        have f4 := Rz.fineS_kept g3 g1 (d := 1) (by omega)
        exact mp (fun bs => some (.choose r.tok.pos (.mk r.tok.pos l :: bs))) f4
      · rw [hb] at f1; exact f1
  rw [if_neg c4]
  by_cases c5 : r.isT [108, 111, 111, 112] = true
  · rw [if_pos c5]
    obtain ⟨s1, f1, e1⟩ := blk r.next k1.s (by have := nx c5; omega)
    exact ⟨zcg h hn0 (nt c1) (nt c2) (nt c3) (nt c4) c5 s1 e1, fin (mp _ f1)⟩
  rw [if_neg c5]
  have cnd : ∀ {s}, r.isT s = true → callE T0 X0 qdt [.ptr (.b 0) 0 0] r.next.heap = r.next.cond.out cDs ∧ r.next.cond.st.ly = r.ly ∧ r.next.cond.fineS r 1 := fun c => by
    obtain ⟨s1, f1⟩ := za1 k1.ok (by rw [k1.ts, ht]; exact hnum)
    exact ⟨s1, (Rz.fine_ly f1).trans k1.ly, Rz.fineS_kept f1.s k1.s (by have := nx c; omega)⟩
  by_cases c6 : r.isT [105, 102] = true
  · rw [if_pos c6]
    obtain ⟨s1, e1, f1⟩ := cnd c6
    have hB : ∀ c r1, r.next.cond = .ok c r1 → KeptS r r1 ∧ r.i + 1 ≤ r1.i := fun c r1 hb => by rw [hb] at f1; exact f1
    have hE : ∀ l r1 r2, blkF n r1 = .ok l r2 → KeptS r r1 → r.i + 1 ≤ r1.i → KeptS r r2 ∧ r.i + 1 ≤ r2.i ∧ (r2.isT [101, 108, 115, 101] = true → KeptS r r2.next ∧ r.i + 1 ≤ r2.next.i) := fun l r1 r2 hb k hle => by
      obtain ⟨_, f2, _⟩ := blk r1 k hle
      rw [hb] at f2
      have k3 := Kept.next f2.1.ok
      exact ⟨f2.1, f2.2, fun _ => ⟨f2.1.trans k3.s, by have := k3.i; have := f2.2; omega⟩⟩
    refine ⟨stm_if h hn0 (nt c1) (nt c2) (nt c3) (nt c4) (nt c5) c6 s1 e1 fun c r1 hb => ?_, fin ?_⟩
    · obtain ⟨g1, g2⟩ := hB c r1 hb
      obtain ⟨s2, f2, e2⟩ := blk r1 g1 g2
      refine ⟨s2, e2, fun l r2 hb2 => ?_⟩
      obtain ⟨g3, g4, g5⟩ := hE l r1 r2 hb2 g1 g2
      exact ⟨g3.ok, fun c => by
        obtain ⟨g6, g7⟩ := g5 c
        obtain ⟨s3, f3, e3⟩ := blk r2.next g6 g7
        exact ⟨s3, e3⟩⟩
    · rcases hb : r.next.cond with ⟨c, r1⟩ | ⟨e, p, r1⟩
      · obtain ⟨g1, g2⟩ := hB c r1 hb
        obtain ⟨s2, f2, e2⟩ := blk r1 g1 g2
        simp only [Rz.bind]
        rcases hb2 : blkF n r1 with ⟨l, r2⟩ | ⟨e, p, r2⟩
        · obtain ⟨g3, g4, g5⟩ := hE l r1 r2 hb2 g1 g2
          simp only []
          split
          · rename_i c
            obtain ⟨g6, g7⟩ := g5 c
            exact mp _ (blk r2.next g6 g7).2.1
          · exact ⟨g3, g4⟩
        · rw [hb2] at f2; exact f2
      · rw [hb] at f1; exact f1
  rw [if_neg c6]
  by_cases c7 : r.isT [119, 104, 105, 108, 101] = true
  · rw [if_pos c7]
    obtain ⟨s1, e1, f1⟩ := cnd c7
    have hB : ∀ c r1, r.next.cond = .ok c r1 → KeptS r r1 ∧ r.i + 1 ≤ r1.i := fun c r1 hb => by rw [hb] at f1; exact f1
    refine ⟨q81 h hn0 (nt c1) (nt c2) (nt c3) (nt c4) (nt c5) (nt c6) c7 s1 e1 fun c r1 hb => ?_, fin ?_⟩
    · obtain ⟨g1, g2⟩ := hB c r1 hb
      obtain ⟨s2, f2, e2⟩ := blk r1 g1 g2
      exact ⟨s2, e2⟩
    · rcases hb : r.next.cond with ⟨c, r1⟩ | ⟨e, p, r1⟩
      · obtain ⟨g1, g2⟩ := hB c r1 hb
        exact mp _ (blk r1 g1 g2).2.1
      · rw [hb] at f1; exact f1
  rw [if_neg c7]
  exact ⟨zce h hn0 (nt c1) (nt c2) (nt c3) (nt c4) (nt c5) (nt c6) (nt c7), ⟨KeptS.refl h, Nat.le_refl _⟩, fun s r' e => by cases e⟩
theorem q1i {ts : List Tok} (hnum : ∀ t ∈ ts, t.kind = 2 → NumTx t.text) : ∀ n, ROk n ts ∧ BOk n ts ∧ OOk n ts ∧ SOk n ts
  | 0 => ⟨fun _ _ _ h => by omega, fun _ _ _ h => by omega, fun _ _ _ h => by omega, fun _ _ _ h => by omega⟩
  | n + 1 => by
    obtain ⟨h1, h2, h3, h4⟩ := q1i hnum n
    exact ⟨zcs h4 h1, zdx h1, zc4 h2 h3, zcc hnum h2 h3⟩
end Go.Rf

namespace Go.Rf
set_option maxHeartbeats 8000000
def bgL : Lst Bg := ⟨fun b => .agg b.cs, ⟨4, 56⟩, fun b => by simp [Bg.cs, wt, wts], fun b => by simp [V.cells, Bg.cs], by decide⟩
@[simp] theorem zis (l) : (∀ x ∈ LW bgL l, x.cells.length = 4) = True := qso bgL l
@[simp] theorem wl_bg (l) : (wl (LD bgL l) ≤ 56) = True := q0q bgL l
@[simp] theorem fit_bg {n : Nat} (l) (h : n ≤ 1099511627776) : (n * wl (LD bgL l) ≤ lots) = True := q2l bgL l (by decide) h
theorem q3d (l : List Bg) (b : Bg) : LW bgL l ++ [.d (.agg b.cs)] = LW bgL (l ++ [b]) := qwr bgL l b
@[simp] theorem Bg.cs_len (b : Bg) : b.cs.length = 4 := rfl
theorem LW_bg1 (b : Bg) : LW bgL [b] = [.d (.agg b.cs)] := rfl
def PX (k : Nat) (r : Rd) (p : Pl) (bs : List Bg) (b : D) : List Obj := match k with
  | 0 => [.arr [.agg [.d (.sl (LT r.ts)), .d (.int .i64 r.i), .d .nils, .d (.int .i64 r.op), .map (.b 2)]] ⟨5, 0⟩, .arr [.ptr (.b 3) 0 0] ⟨1, 0⟩, .map (ME r.ms), .arr [.agg [.d (.int .i64 p.b), .d (.int .i64 p.g), .d (.int .i64 p.l), .d (.int .i64 p.c), .ref (.b 4) ⟨4, 56⟩ 0 0, .d b]] ⟨6, 0⟩, .arr [] ⟨4, 56⟩]
  | 1 => [.arr [.agg [.d (.sl (LT r.ts)), .d (.int .i64 r.i), .ref (.b 5) ⟨1, 16⟩ 0 r.vs.length, .d (.int .i64 r.op), .map (.b 2)]] ⟨5, 0⟩, .arr [.ptr (.b 3) 0 0] ⟨1, 0⟩, .map (ME r.ms), .arr [.agg [.d (.int .i64 p.b), .d (.int .i64 p.g), .d (.int .i64 p.l), .d (.int .i64 p.c), .ref (.b 4) ⟨4, 56⟩ 0 0, .d b]] ⟨6, 0⟩, .arr [] ⟨4, 56⟩, .arr (SV r.vs) ⟨1, 16⟩]
  | _ => [.arr [.agg [.d (.sl (LT r.ts)), .d (.int .i64 r.i), .ref (.b 5) ⟨1, 16⟩ 0 r.vs.length, .d (.int .i64 r.op), .map (.b 2)]] ⟨5, 0⟩, .arr [.ptr (.b 3) 0 0] ⟨1, 0⟩, .map (ME r.ms), .arr [.agg [.d (.int .i64 p.b), .d (.int .i64 p.g), .d (.int .i64 p.l), .d (.int .i64 p.c), .ref (.b 6) ⟨4, 56⟩ 0 bs.length, .d b]] ⟨6, 0⟩, .dead, .arr (SV r.vs) ⟨1, 16⟩, .arr (LW bgL bs) ⟨4, 56⟩]
def kOf (bs : List Bg) : Nat := match bs with | [] => 0 | _ => 2
def Rd.comma (r : Rd) (bs : List Bg) : Rz Unit := match bs with
  | [] => .ok () r
  | _ => if r.isT [44] = true then .ok () r.next else .bad 80 r.tok.pos r
def Rd.declare (r : Rd) : Rz Bg := match r.newName with
  | some e => .bad e r.tok.pos r
  | none => (r.next.push r.tok.text).value r.tok.text
def qly : Nat → Rd → List Bg → Rz (List Bg)
  | 0, r, _ => .bad 80 qam r
  | n + 1, r, bs => if r.isT [59] = true then .ok bs r.next else (r.comma bs).bind fun _ r1 => r1.declare.bind fun b r2 => qly n r2 (bs ++ [b])
structure DOk (r : Rd) (ts : List Tok) (bs : List Bg) : Prop where
  ok : r.ok
  ts : r.ts = ts
  own : r.own bs.isEmpty
  vs : r.vs = bs.map Bg.name
theorem q47 {q : Rd} (h : q.ok) (s) : (q.value s).fine q 0 := by
  have num : ∀ (w : Rd) (p : Bool), Kept q w → (w.num p s).fine q 0 := fun w p k => by
    unfold Rd.num
    split
    · have k2 := k.trans (Kept.next k.ok)
      exact ⟨k2, k2.i⟩
    · exact k.ly
  unfold Rd.value
  have k1 := Kept.next h
  split
  · split
    · exact num _ _ (k1.trans (Kept.next k1.ok))
    · exact num _ _ k1
  · exact ⟨Kept.refl h, Nat.le_refl _⟩
theorem q46 {q r' : Rd} {s b} (h : q.value s = .ok b r') : b.name = s := by
  unfold Rd.value Rd.num at h
  repeat' split at h
  all_goals first | (cases h; rfl) | cases h
theorem qqx {r : Rd} (h : r.newName = none) : r.isName = true ∧ r.vs.length < 8 := by
  unfold Rd.newName at h
  split at h
  · cases h
  · rename_i h0
    split at h
    · cases h
    · split at h
      · cases h
      · split at h
        · exact ⟨by simpa using h0, by assumption⟩
        · cases h
theorem qn5 {r : Rd} (h : r.isName = true) : r.tok.kind = 1 := by
  unfold Rd.isName at h
  simp only [Bool.and_eq_true, decide_eq_true_eq] at h
  exact h.1
theorem qte {r r2 : Rd} {ts bs b} (h : DOk r ts bs) (hd : r.declare = .ok b r2) : DOk r2 ts (bs ++ [b]) ∧ r.i + 1 ≤ r2.i ∧ r2.ly = none := by
  unfold Rd.declare at hd
  split at hd
  · cases hd
  rename_i hn
  obtain ⟨h1, h2⟩ := qqx hn
  have hk := qn5 h1
  have k1 := Kept.next h.ok
  have hq := qyo k1.ok (by rw [k1.vs]; exact h2) (qh0 h.ok)
  have f := q47 hq r.tok.text
  rw [hd] at f
  obtain ⟨f1, f2⟩ := f
  refine ⟨⟨f1.ok, f1.ts.trans (k1.ts.trans h.ts), ?_, ?_⟩, ?_, f1.ly⟩
  · have : (bs ++ [b]).isEmpty = false := by cases bs <;> rfl
    unfold Rd.own
    rw [this, if_neg (by simp)]
    exact f1.ly
  · rw [f1.vs]
    show r.next.vs ++ [r.tok.text] = _
    rw [k1.vs, h.vs]
    simp [q46 hd]
  · have := f1.i
    have hi := qfj (r := r) (by omega)
    have : (r.next.push r.tok.text).i ≤ r2.i := f1.i
    have e : (r.next.push r.tok.text).i = r.next.i := rfl
    omega
theorem qt6 {r : Rd} {ts bs} (h : DOk r ts bs) (hnum : ∀ t ∈ ts, t.kind = 2 → NumTx t.text) :
    (∃ e, r.newName = some e ∧ callE T0 X0 qdl [.ptr (.b 0) 0 0] r.heap = some (.pan (.d (qap e r.tok.pos)) r.heap) ∧ r.declare = .bad e r.tok.pos r) ∨
    (callE T0 X0 qdl [.ptr (.b 0) 0 0] r.heap = outN bs.isEmpty r.declare ∧ r.declare.st.ly = none) := by
  unfold Rd.declare
  cases hn : r.newName with
  | some e => exact .inl ⟨e, rfl, zdp h.ok hn, rfl⟩
  | none =>
    refine .inr ⟨zh0 h.ok hn h.own (by rw [h.ts]; exact hnum), ?_⟩
    obtain ⟨h1, h2⟩ := qqx hn
    have k1 := Kept.next h.ok
    exact Rz.fine_ly (q47 (qyo k1.ok (by rw [k1.vs]; exact h2) (qh0 h.ok)) r.tok.text)
def dEnd (p : Pl) : Rz (List Bg) → Option (Ex × St) → Prop
  | .ok bs r, x => x = some (.exit 0, ⟨[(0, .ptr (.b 0) 0 0), (1, .ptr (.b 1) 0 0)], PX (kOf bs) r p bs (.sl [])⟩)
  | .bad e q r, x => ∃ k bs, x = some (.pan (.d (qap e q)), ⟨[], PX k r p bs (.sl [])⟩)
def dSt (r : Rd) (p : Pl) (bs : List Bg) : St := ⟨[(0, .ptr (.b 0) 0 0), (1, .ptr (.b 1) 0 0), (3, .d (.bool (!r.isT [59])))], PX (kOf bs) (if r.isT [59] = true then r.next else r) p bs (.sl [])⟩
theorem q71 {ts : List Tok} (hnum : ∀ t ∈ ts, t.kind = 2 → NumTx t.text) (p : Pl) : ∀ n (r : Rd) (bs : List Bg), DOk r ts bs → ts.length - r.i < n → bs.length ≤ r.i →
    dEnd p (qly n r bs) (codeX T0 X0 5 qhd (some (.nrm, dSt r p bs))) := by
  intro n
  induction n with
  | zero => intro r bs _ h; omega
  | succ n ih =>
    intro r bs h hn hb
    have hi : r.i < ts.length := h.ts ▸ h.ok.i
    have hl := h.ok.n
    rw [qac (l := qhd) rfl]
    unfold qly dSt
    by_cases c0 : r.isT [59] = true
    · rw [if_pos c0, if_pos c0, c0]
      cases bs with
      | nil =>
        show _ = _
        simp only [kOf, PX]
        simp (maxSteps := 4000000) -implicitDefEqProofs (disch := omega) [qbq]
      | cons b bs =>
        show _ = _
        simp only [kOf, PX]
        simp (maxSteps := 4000000) -implicitDefEqProofs (disch := omega) [qbq]
    rw [if_neg c0, if_neg c0, show r.isT [59] = false by simpa using c0]
    have go : ∀ (r1 : Rd) (b : Bg) (r2 : Rd), DOk r1 ts bs → r.i ≤ r1.i → r1.declare = .ok b r2 → ∃ a, callE T0 X0 qai [.ptr (.b 0) 0 0, .d (.str [59])] r2.heap = some (.ret [.d (.bool (r2.isT [59]))] a) ∧ a = (if r2.isT [59] = true then r2.next else r2).heap ∧
        (if r2.isT [59] = true then r2.next else r2).ly = none ∧ r2.ly = none ∧ dEnd p (qly n r2 (bs ++ [b])) (codeX T0 X0 5 qhd (some (.nrm, dSt r2 p (bs ++ [b])))) := fun r1 b r2 h1 hle hd => by
      obtain ⟨g1, g2, g3⟩ := qte h1 hd
      refine ⟨_, qa3 g1.ok [59] (by simp), rfl, ?_, g3, ih r2 (bs ++ [b]) g1 (by omega) (by simp; omega)⟩
      split
      · exact (lys r2).1.trans g3
      · exact g3
    have hb5 : bs.length ≤ 5000 := by rw [h.ts] at hl; omega
    cases bs with
    | nil =>
      obtain ⟨o1, o2⟩ : r.ly = some .nils ∧ r.vs = [] := by have := h.own; unfold Rd.own at this; simpa using this
      simp only [Rd.comma, Rz.bind]
      rcases qt6 h hnum with ⟨e, _, s1, hd⟩ | ⟨s1, e1⟩
      · rw [hd]
        refine ⟨0, [], ?_⟩
        simp only [Rd.heap, o1, kOf, PX, qap] at s1 ⊢
        simp (maxSteps := 4000000) -implicitDefEqProofs (disch := omega) [qbq, s1]
      rcases hd : r.declare with ⟨b, r2⟩ | ⟨e, q, r2⟩
      all_goals rw [hd] at s1 e1
      · obtain ⟨a, s2, ha, e2, e3, lp⟩ := go r b r2 h (Nat.le_refl _) hd
        simp only []
        refine (congrArg (dEnd p (qly n r2 ([] ++ [b]))) ?_).mpr lp
        simp only [dSt]
        generalize (if r2.isT [59] = true then r2.next else r2) = r3 at *
        subst ha
        simp only [Rd.heap, Rd.heapN, o1, e2, e3, kOf, PX, outN, List.isEmpty_nil, List.nil_append, List.length_cons, List.length_nil, Nat.zero_add, LW_bg1] at s1 s2 ⊢
        simp (maxSteps := 4000000) -implicitDefEqProofs (disch := omega) [qbq, s1, s2, q3d]
      · refine ⟨1, [], ?_⟩
        have e3 : r2.ly = none := e1
        simp only [Rd.heap, Rd.heapN, o1, kOf, PX, outN, qap, List.isEmpty_nil] at s1 ⊢
        simp (maxSteps := 4000000) -implicitDefEqProofs (disch := omega) [qbq, s1]
    | cons b0 bs0 =>
      have hbs : (b0 :: bs0).isEmpty = false := rfl
      have hk2 : kOf (b0 :: bs0) = 2 := rfl
      have hk3 : ∀ b : Bg, kOf (b0 :: bs0 ++ [b]) = 2 := fun _ => rfl
      have hcm : r.comma (b0 :: bs0) = if r.isT [44] = true then .ok () r.next else .bad 80 r.tok.pos r := rfl
      have hlen : 0 < (b0 :: bs0).length := by simp
      rw [hcm, hk2]
      generalize b0 :: bs0 = bs at *
      have o1 : r.ly = none := by have := h.own; unfold Rd.own at this; rw [hbs] at this; simpa using this
      by_cases c1 : r.isT [44] = true
      case neg =>
        rw [if_neg c1]
        have s0 := qgc h.ok (s := [44]) (by simp) (by simpa using c1)
        refine ⟨2, bs, ?_⟩
        simp only [Rd.heap, o1, PX, qap] at s0 ⊢
        generalize r.tok = t at *
        simp (maxSteps := 4000000) -implicitDefEqProofs (disch := omega) [qbq, s0]
      rw [if_pos c1]
      have s0 := qhm h.ok (by simp) c1
      have k1 := Kept.next h.ok
      have h1 : DOk r.next ts bs := ⟨k1.ok, k1.ts.trans h.ts, by have := h.own; unfold Rd.own at this ⊢; rw [hbs] at this ⊢; simpa [k1.ly] using this, k1.vs.trans h.vs⟩
      have o2 : r.next.ly = none := k1.ly.trans o1
      have hle := k1.i
      simp only [Rz.bind]
      generalize r.next = q at *
      rcases qt6 h1 hnum with ⟨e, _, s1, hd⟩ | ⟨s1, e1⟩
      · rw [hd]
        refine ⟨2, bs, ?_⟩
        simp only [Rd.heap, o1, o2, PX, qap] at s0 s1 ⊢
        generalize q.tok = t at *
        simp (maxSteps := 4000000) -implicitDefEqProofs (disch := omega) [qbq, s0, s1]
      rw [hbs] at s1
      rcases hd : q.declare with ⟨b, r2⟩ | ⟨e, q2, r2⟩
      all_goals rw [hd] at s1 e1
      · obtain ⟨a, s2, ha, e2, e3, lp⟩ := go q b r2 h1 hle hd
        simp only []
        refine (congrArg (dEnd p (qly n r2 (bs ++ [b]))) ?_).mpr lp
        simp only [dSt, hk3]
        generalize (if r2.isT [59] = true then r2.next else r2) = r3 at *
        subst ha
        simp only [Rd.heap, Rd.heapN, o1, o2, e2, e3, PX, outN, List.length_append, List.length_cons, List.length_nil, Nat.zero_add] at s0 s1 s2 ⊢
        simp (maxSteps := 4000000) -implicitDefEqProofs (disch := omega) [qbq, s0, s1, s2, q3d]
      · refine ⟨2, bs, ?_⟩
        have e3 : r2.ly = none := e1
        simp only [Rd.heap, Rd.heapN, o1, o2, PX, outN, qap] at s0 s1 ⊢
        simp (maxSteps := 4000000) -implicitDefEqProofs (disch := omega) [qbq, s0, s1]
end Go.Rf

namespace Go.Rf
set_option maxHeartbeats 8000000
structure Pg where
  at_ : Pl
  bs : List Bg
  body : List Sm
def Rd.prog (r : Rd) : Rz Pg :=
  if r.isT [118, 97, 114, 115] = true then (qly (r.ts.length + 1) r.next []).bind fun bs r2 => (rowF (4 * r2.ts.length + 2) r2).bind fun l r3 => .ok ⟨r.tok.pos, bs, l⟩ r3 else .bad 80 r.tok.pos r
def p1R : Rz Pg → Option CRes → Prop
  | .ok g r, x => x = some (.ret [] (PX (kOf g.bs) r g.at_ g.bs (.sl (LD smL g.body))))
  | .bad e q _, x => ∃ k r p bs, x = some (.pan (.d (qap e q)) (PX k r p bs (.sl [])))
theorem qur {ts : List Tok} : ∀ n (r : Rd) (bs bs' : List Bg) (r' : Rd), DOk r ts bs → qly n r bs = .ok bs' r' → DOk r' ts bs'
  | 0, _, _, _, _, _, e => by cases e
  | n + 1, r, bs, bs', r', h, e => by
    unfold qly at e
    have k1 := Kept.next h.ok
    have hnx : DOk r.next ts bs := ⟨k1.ok, k1.ts.trans h.ts, by have := h.own; unfold Rd.own at this ⊢; rw [k1.ly, k1.vs]; exact this, k1.vs.trans h.vs⟩
    split at e
    · cases e; exact hnx
    · have hc : ∀ r1, r.comma bs = .ok () r1 → DOk r1 ts bs := fun r1 hr => by
        unfold Rd.comma at hr
        split at hr
        · cases hr; exact h
        · split at hr
          · cases hr; exact hnx
          · cases hr
      cases hr : r.comma bs with
      | bad _ q r1 => rw [hr] at e; cases e
      | ok u r1 =>
        rw [hr] at e
        simp only [Rz.bind] at e
        cases hd : r1.declare with
        | bad _ q r2 => rw [hd] at e; cases e
        | ok b r2 =>
          rw [hd] at e
          exact qur n r2 _ bs' r' (qte (hc r1 hr) hd).1 e
theorem zek {r : Rd} {bs : List Bg} (h : r.own bs.isEmpty) : r.ly = if kOf bs = 0 then some .nils else none := by
  unfold Rd.own at h
  cases bs with
  | nil => simpa [kOf] using h.1
  | cons b bs => simpa [kOf] using h
theorem q9n {r : Rd} {ts : List Tok} (h : DOk r ts []) (hnum : ∀ t ∈ ts, t.kind = 2 → NumTx t.text) :
    p1R r.prog (callE T0 X0 qmz [.ptr (.b 0) 0 0, .ptr (.b 1) 0 0] (PX 0 r qam [] (.sl []))) := by
  rw [qab (af := qdg) rfl rfl rfl]
  have s0 := qbi h.ok
  obtain ⟨o1, o2⟩ : r.ly = some .nils ∧ r.vs = [] := by have := h.own; unfold Rd.own at this; simpa using this
  unfold Rd.prog
  by_cases c1 : r.isT [118, 97, 114, 115] = true
  case neg =>
    rw [if_neg c1]
    have s1 := qgc h.ok (s := [118, 97, 114, 115]) (by simp) (by simpa using c1)
    refine ⟨0, r, r.tok.pos, [], ?_⟩
    simp only [Rd.heap, o1, PX, qap, qam, Tok.cs] at s0 s1 ⊢
    generalize r.tok = t at *
    simp -implicitDefEqProofs (disch := omega) [qdg, s0, s1]
  rw [if_pos c1]
  have s1 := qhm h.ok (by simp) c1
  have k1 := Kept.next h.ok
  have h1 : DOk r.next ts [] := ⟨k1.ok, k1.ts.trans h.ts, by have := h.own; unfold Rd.own at this ⊢; rw [k1.ly, k1.vs]; exact this, k1.vs.trans h.vs⟩
  have l1 := k1.ly.trans o1
  have s2 := qa3 k1.ok [59] (by simp)
  have lp := q71 hnum r.tok.pos (r.ts.length + 1) r.next [] h1 (by rw [h.ts]; omega) (Nat.zero_le _)
  have e3 : (if r.next.isT [59] = true then r.next.next else r.next).ly = some .nils := by
    split
    · exact (lys r.next).1.trans l1
    · exact l1
  unfold dSt at lp
  generalize (if r.next.isT [59] = true then r.next.next else r.next) = r3 at *
  rcases hd : qly (r.ts.length + 1) r.next [] with ⟨bs, r4⟩ | ⟨e, q, r4⟩
  all_goals rw [hd] at lp
  case bad =>
    obtain ⟨k, bs, lp⟩ := lp
    refine ⟨k, r4, r.tok.pos, bs, ?_⟩
    rcases k with _ | _ | k
    all_goals
      simp only [Rd.heap, o1, l1, e3, kOf, PX, qap, qam, Tok.cs] at s0 s1 s2 lp ⊢
      generalize r.tok = t at *
      simp -implicitDefEqProofs (disch := omega) [qdg, s0, s1, s2, lp]
  have h4 := qur _ _ _ _ _ h1 hd
  obtain ⟨hR, _, _, _⟩ := q1i hnum (4 * r4.ts.length + 2)
  have s4 := q5f hR h4.ok h4.ts (by rw [h4.ts]; omega)
  have f4 := (hR r4 h4.ok h4.ts (by rw [h4.ts]; omega)).2
  have e4 := Rz.fineS_ly f4
  have lp : _ = _ := lp
  have l4 := zek h4.own
  simp only [Rz.bind]
  rcases hb : rowF (4 * r4.ts.length + 2) r4 with ⟨l, r5⟩ | ⟨e, q, r5⟩
  all_goals
    rw [hb] at s4 e4
    have e5 := Eq.trans e4 l4
    have e6 : r5.ly = if kOf bs = 0 then some .nils else none := e5
    clear e5 e4 f4
  · show _ = _
    cases bs with
    | nil =>
      have e7 : r5.ly = some .nils := e6
      have l5 : r4.ly = some .nils := l4
      simp only [Rd.heap, o1, l1, e3, e7, l5, kOf, PX, Rz.out, lsO, qam, Tok.cs] at s0 s1 s2 s4 lp ⊢
      generalize r.tok = t at *
      simp (maxSteps := 4000000) -implicitDefEqProofs (disch := omega) [qdg, s0, s1, s2, s4, lp]
    | cons b0 bs0 =>
      have e7 : r5.ly = none := e6
      have l5 : r4.ly = none := l4
      have hk2 : kOf (b0 :: bs0) = 2 := rfl
      have hk0 : kOf ([] : List Bg) = 0 := rfl
      rw [hk2] at lp ⊢
      rw [hk0] at lp
      generalize b0 :: bs0 = bs at *
      simp only [Rd.heap, o1, l1, e3, e7, l5, PX, Rz.out, lsO, qam, Tok.cs] at s0 s1 s2 s4 lp ⊢
      generalize r.tok = t at *
      simp (maxSteps := 4000000) -implicitDefEqProofs (disch := omega) [qdg, s0, s1, s2, s4, lp]
  · refine ⟨kOf bs, r5, r.tok.pos, bs, ?_⟩
    cases bs with
    | nil =>
      have e7 : r5.ly = some .nils := e6
      have l5 : r4.ly = some .nils := l4
      simp only [Rd.heap, o1, l1, e3, e7, l5, kOf, PX, Rz.out, qap, qam, Tok.cs] at s0 s1 s2 s4 lp ⊢
      generalize r.tok = t at *
      simp (maxSteps := 4000000) -implicitDefEqProofs (disch := omega) [qdg, s0, s1, s2, s4, lp]
    | cons b0 bs0 =>
      have e7 : r5.ly = none := e6
      have l5 : r4.ly = none := l4
      have hk2 : kOf (b0 :: bs0) = 2 := rfl
      have hk0 : kOf ([] : List Bg) = 0 := rfl
      rw [hk2] at lp ⊢
      rw [hk0] at lp
      generalize b0 :: bs0 = bs at *
      simp only [Rd.heap, o1, l1, e3, e7, l5, PX, Rz.out, qap, qam, Tok.cs] at s0 s1 s2 s4 lp ⊢
      generalize r.tok = t at *
      simp (maxSteps := 4000000) -implicitDefEqProofs (disch := omega) [qdg, s0, s1, s2, s4, lp]
end Go.Rf

namespace Go.Rf
set_option maxHeartbeats 8000000
@[simp] theorem zea (l e j) : qd8 (.d .nilp) 0 (.ptr l e j) = some (.ptr l e j) := rfl
@[simp] theorem cells_nils : V.cells (.d .nils) = [.d .nils] := rfl
def Rz.nz {α : Type} : Rz α → Prop
  | .ok _ _ => True
  | .bad e _ _ => e ≠ 0
theorem Rz.nz_bind {α β : Type} {b : Rz α} {f : α → Rd → Rz β} (h : b.nz) (g : ∀ x r, (f x r).nz) : (b.bind f).nz := by
  cases b with
  | ok x r => exact g x r
  | bad e p r => exact h
theorem q49 (r : Rd) : r.sum.nz := by
  unfold Rd.sum
  cases h : rd r.fuel .s r with
  | ok x r' => trivial
  | bad e p r' => exact q3q _ _ _ _ _ _ h
theorem qyj {α : Type} (r : Rd) (x : α) : (r.semi x).nz := by unfold Rd.semi; split; trivial; exact (by decide : (80 : Int) ≠ 0)
theorem za0 (r : Rd) : r.cond.nz := by
  unfold Rd.cond
  refine Rz.nz_bind (q49 r) fun x r1 => ?_
  split
  · exact Rz.nz_bind (q49 _) fun _ _ => trivial
  · split
    · exact Rz.nz_bind (q49 _) fun _ _ => trivial
    · exact (by decide : (80 : Int) ≠ 0)
theorem zbl (r : Rd) (p : Pl) : (r.assign p).nz := by
  unfold Rd.assign
  split
  · exact (by decide : (81 : Int) ≠ 0)
  · split
    · refine Rz.nz_bind ?_ fun _ _ => qyj _ _
      unfold Rd.expr
      split
      · trivial
      · exact Rz.nz_bind (q49 _) fun _ _ => trivial
    · exact (by decide : (80 : Int) ≠ 0)
theorem zg6 (r : Rd) (p : Pl) : (r.mark p).nz := by
  unfold Rd.mark
  split
  · exact (by decide : (80 : Int) ≠ 0)
  · split
    · exact (by decide : (42 : Int) ≠ 0)
    · split
      · exact (by decide : (82 : Int) ≠ 0)
      · exact qyj _ _
theorem zg9 {r : Rd} {s e} (h : r.into s = some e) : e ≠ 0 := by
  unfold Rd.into at h
  split at h
  · split at h
    · cases h
    · cases h; decide
  · cases h; decide
theorem zfb : ∀ n, (∀ r, (rowF n r).nz) ∧ (∀ r, (blkF n r).nz) ∧ (∀ r, (orsF n r).nz) ∧ (∀ r, (stmF n r).nz)
  | 0 => ⟨fun _ => (by decide : (80 : Int) ≠ 0), fun _ => (by decide : (80 : Int) ≠ 0), fun _ => (by decide : (80 : Int) ≠ 0), fun _ => (by decide : (80 : Int) ≠ 0)⟩
  | n + 1 => by
    obtain ⟨h1, h2, h3, h4⟩ := zfb n
    refine ⟨fun r => ?_, fun r => ?_, fun r => ?_, fun r => ?_⟩
    · unfold rowF
      split
      · refine Rz.nz_bind (h4 r) fun o r1 => ?_
        cases o with
        | none => trivial
        | some s => exact Rz.nz_bind (h1 _) fun _ _ => trivial
      · trivial
    · unfold blkF
      split
      · rename_i e hin; exact zg9 hin
      · refine Rz.nz_bind (h1 _) fun _ _ => ?_
        split
        · trivial
        · exact (by decide : (80 : Int) ≠ 0)
    · unfold orsF
      split
      · exact Rz.nz_bind (h2 _) fun _ _ => Rz.nz_bind (h3 _) fun _ _ => trivial
      · trivial
    · unfold stmF
      split
      · exact Rz.nz_bind (zbl _ _) fun _ _ => trivial
      split
      · exact qyj _ _
      split
      · exact qyj _ _
      split
      · exact Rz.nz_bind (zg6 _ _) fun _ _ => trivial
      split
      · exact Rz.nz_bind (h2 _) fun _ _ => Rz.nz_bind (h3 _) fun _ _ => trivial
      split
      · exact Rz.nz_bind (h2 _) fun _ _ => trivial
      split
      · refine Rz.nz_bind (za0 _) fun _ _ => Rz.nz_bind (h2 _) fun _ _ => ?_
        split
        · exact Rz.nz_bind (h2 _) fun _ _ => trivial
        · trivial
      split
      · exact Rz.nz_bind (za0 _) fun _ _ => Rz.nz_bind (h2 _) fun _ _ => trivial
      trivial
theorem q7o {r : Rd} {e} (h : r.newName = some e) : e ≠ 0 := by
  unfold Rd.newName at h
  split at h
  · cases h; decide
  · split at h
    · cases h; decide
    · split at h
      · cases h; decide
      · split at h
        · cases h
        · cases h; decide
theorem q72 (r : Rd) : r.declare.nz := by
  have num : ∀ (w : Rd) p s, (w.num p s).nz := fun w p s => by unfold Rd.num; split; trivial; exact (by decide : (80 : Int) ≠ 0)
  unfold Rd.declare
  split
  · rename_i e h; exact q7o h
  · unfold Rd.value
    split
    · split <;> exact num _ _ _
    · trivial
theorem q56 : ∀ n r bs, (qly n r bs).nz
  | 0, _, _ => (by decide : (80 : Int) ≠ 0)
  | n + 1, r, bs => by
    unfold qly
    split
    · trivial
    · refine Rz.nz_bind ?_ fun _ _ => Rz.nz_bind (q72 _) fun _ _ => q56 n _ _
      unfold Rd.comma
      split
      · trivial
      · split
        · trivial
        · exact (by decide : (80 : Int) ≠ 0)
theorem zgv (r : Rd) : r.prog.nz := by
  unfold Rd.prog
  split
  · exact Rz.nz_bind (q56 _ _ _) fun _ _ => Rz.nz_bind ((zfb _).1 _) fun _ _ => trivial
  · exact (by decide : (80 : Int) ≠ 0)
def rp (ts : List Tok) : Rd := ⟨ts, 0, [], 0, some .nils, []⟩
def PR (k : Nat) (p : Pl) (bs : List Bg) (b : D) : List Obj := match k with
  | 0 => [.arr [.ptr (.b 1) 0 0] ⟨1, 0⟩, .arr [.agg [.d (.int .i64 p.b), .d (.int .i64 p.g), .d (.int .i64 p.l), .d (.int .i64 p.c), .ref (.b 2) ⟨4, 56⟩ 0 0, .d b]] ⟨6, 0⟩, .arr [] ⟨4, 56⟩]
  | 1 => [.arr [.ptr (.b 1) 0 0] ⟨1, 0⟩, .arr [.agg [.d (.int .i64 p.b), .d (.int .i64 p.g), .d (.int .i64 p.l), .d (.int .i64 p.c), .ref (.b 2) ⟨4, 56⟩ 0 0, .d b]] ⟨6, 0⟩, .arr [] ⟨4, 56⟩]
  | _ => [.arr [.ptr (.b 1) 0 0] ⟨1, 0⟩, .arr [.agg [.d (.int .i64 p.b), .d (.int .i64 p.g), .d (.int .i64 p.l), .d (.int .i64 p.c), .ref (.b 3) ⟨4, 56⟩ 0 bs.length, .d b]] ⟨6, 0⟩, .dead, .arr (LW bgL bs) ⟨4, 56⟩]
def progV (s : List UInt8) : Option Pg × Int × Pl := match scan s with
  | (none, e, p) => (none, e, p)
  | (some ts, _, _) => match (rp ts).prog with
    | .bad e q _ => (none, e, q)
    | .ok g r' => if r'.tok.kind = 0 then (some g, 0, qam) else (none, 80, r'.tok.pos)
theorem rp_ok {ts : List Tok} (h : TsOk ts) : DOk (rp ts) ts [] := by
  have := h.rd [] (by simp) (fun k => by simp [tx])
  exact ⟨⟨this.i, this.n, this.mid, this.fin, this.vs, this.op, this.tx, this.tv, fun x e => .inr ⟨by cases e; rfl, rfl⟩⟩, rfl, by unfold Rd.own; simp [rp], rfl⟩
noncomputable def CALLR (s : List UInt8) : Option CRes := callE T0 X0 qjp [.d (.str s), .d .nils, .fn qmz [.ptr (.b 0) 0 0]] (PR 0 qam [] (.sl []))
theorem q7k (s : List UInt8) (hs : s.length ≤ 1100000) (he : (scan s).2.1 ≠ 0) : CALLR s = some (.ret [.d (.int .i64 (scan s).2.1), .d (.agg (scan s).2.2.cs)] (PR 0 qam [] (.sl []))) := by
  unfold CALLR
  rw [qpl (r := qbt) rfl rfl rfl]
  unfold recG
  have s1 := qm5 s (by omega)
  simp only [qwf]
  simp only [Pl.cs, PR] at s1 ⊢
  simp -implicitDefEqProofs (disch := omega) [qbt, qbn, s1]
theorem zc2 {ts : List Tok} (hnum : ∀ t ∈ ts, t.kind = 2 → NumTx t.text) {r r' : Rd} {g : Pg} (h : DOk r ts []) (hp : r.prog = .ok g r') : DOk r' ts g.bs := by
  unfold Rd.prog at hp
  split at hp
  · have k1 := Kept.next h.ok
    have h1 : DOk r.next ts [] := ⟨k1.ok, k1.ts.trans h.ts, by have := h.own; unfold Rd.own at this ⊢; rw [k1.ly, k1.vs]; exact this, k1.vs.trans h.vs⟩
    cases hd : qly (r.ts.length + 1) r.next [] with
    | bad e q r4 => rw [hd] at hp; cases hp
    | ok bs r4 =>
      rw [hd] at hp
      simp only [Rz.bind] at hp
      have h4 := qur _ _ _ _ _ h1 hd
      have f4 := ((q1i hnum (4 * r4.ts.length + 2)).1 r4 h4.ok h4.ts (by rw [h4.ts]; omega)).2
      cases hb : rowF (4 * r4.ts.length + 2) r4 with
      | bad e q r5 => rw [hb] at hp; cases hp
      | ok l r5 =>
        rw [hb] at hp f4
        cases hp
        obtain ⟨k, _⟩ := f4
        exact ⟨k.ok, k.ts.trans h4.ts, by have := h4.own; unfold Rd.own at this ⊢; rw [k.ly, k.vs]; exact this, k.vs.trans h4.vs⟩
  · cases hp
theorem preadp (s : List UInt8) (hs : s.length ≤ 1100000) : ∃ k p bs b, CALLR s = some (.ret [.d (.int .i64 (progV s).2.1), .d (.agg (progV s).2.2.cs)] (PR k p bs b)) ∧ ((progV s).2.1 = 0 → (progV s).2.2 = qam ∧ ∃ g, (progV s).1 = some g ∧ k = kOf g.bs ∧ p = g.at_ ∧ bs = g.bs ∧ b = .sl (LD smL g.body)) := by
  unfold progV
  rcases hsc : scan s with ⟨o, e, p⟩
  cases o with
  | none =>
    have hne := qu0 hsc
    have := q7k s hs (by rw [hsc]; exact hne)
    rw [hsc] at this
    exact ⟨0, qam, [], .sl [], this, fun h => absurd h hne⟩
  | some ts =>
    obtain ⟨rfl, ht⟩ := qm6 hsc
    have hd := rp_ok ht
    have s1 := qm5 s (by omega)
    rw [hsc] at s1
    have s2 := q9n hd ht.num
    unfold CALLR
    rw [qpl (r := qbt) rfl rfl rfl]
    unfold recG
    simp only [qwf]
    rcases hp : (rp ts).prog with ⟨g, r'⟩ | ⟨e, q, r'⟩
    all_goals rw [hp] at s2
    case bad =>
      obtain ⟨k, r2, p2, bs2, s2⟩ := s2
      refine ⟨k, p2, bs2, .sl [], ?_, fun h => ?_⟩
      · rcases k with _ | _ | _ | k
        all_goals
          simp only [Pl.cs, PX, PR, rp, qua, qap, qam, Option.getD_some, Int.cast_ofNat_Int] at s1 s2 ⊢
          simp (maxSteps := 4000000) -implicitDefEqProofs (disch := omega) [qbt, qbn, qb9, qb8, s1, s2, qoh, qk0, qbj, ARes.slot]
      · have := zgv (rp ts)
        rw [hp] at this
        exact absurd h this
    have hd' := zc2 ht.num hd hp
    have h' := hd'.ok
    have s3 := qbi h'
    have s4 := qcr r' 80
    have s5 := qdb h' 80
    have l4 := zek hd'.own
    have hs2 : _ = _ := s2
    simp only []
    by_cases hk : r'.tok.kind = 0
    · rw [if_pos hk]
      refine ⟨kOf g.bs, g.at_, g.bs, .sl (LD smL g.body), ?_, fun _ => ⟨rfl, g, rfl, rfl, rfl, rfl, rfl⟩⟩
      clear s5 s2
      obtain ⟨gp, bs, body⟩ := g
      cases bs with
      | nil =>
        have l5 : r'.ly = some .nils := l4
        simp only [Pl.cs, Tok.cs, Rd.heap, kOf, l5, PX, PR, rp, qua, qap, qam, Option.getD_some, Int.cast_ofNat_Int] at s1 hs2 s3 s4 ⊢
        generalize r'.tok = t at *
        simp (maxSteps := 4000000) -implicitDefEqProofs (disch := omega) [qbt, qbn, qb9, qb8, s1, hs2, s3, s4, hk, qoh, qk0, qbj, ARes.slot]
      | cons b0 bs0 =>
        have l5 : r'.ly = none := l4
        have hk2 : kOf (b0 :: bs0) = 2 := rfl
        simp only [hk2] at hs2 ⊢
        generalize b0 :: bs0 = bs at *
        simp only [Pl.cs, Tok.cs, Rd.heap, l5, PX, PR, rp, qua, qap, qam, Option.getD_some, Int.cast_ofNat_Int] at s1 hs2 s3 s4 ⊢
        generalize r'.tok = t at *
        simp (maxSteps := 4000000) -implicitDefEqProofs (disch := omega) [qbt, qbn, qb9, qb8, s1, hs2, s3, s4, hk, qoh, qk0, qbj, ARes.slot]
    · rw [if_neg hk]
      refine ⟨kOf g.bs, g.at_, g.bs, .sl (LD smL g.body), ?_, fun h => absurd h (by decide : (80 : Int) ≠ 0)⟩
      clear s4 s2
      obtain ⟨gp, bs, body⟩ := g
      cases bs with
      | nil =>
        have l5 : r'.ly = some .nils := l4
        simp only [Pl.cs, Tok.cs, Rd.heap, kOf, l5, PX, PR, rp, qua, qap, qam, Option.getD_some, Int.cast_ofNat_Int] at s1 hs2 s3 s5 ⊢
        generalize r'.tok = t at *
        simp (maxSteps := 4000000) -implicitDefEqProofs (disch := omega) [qbt, qbn, qb9, qb8, s1, hs2, s3, s5, hk, qoh, qk0, qbj, ARes.slot]
      | cons b0 bs0 =>
        have l5 : r'.ly = none := l4
        have hk2 : kOf (b0 :: bs0) = 2 := rfl
        simp only [hk2] at hs2 ⊢
        generalize b0 :: bs0 = bs at *
        simp only [Pl.cs, Tok.cs, Rd.heap, l5, PX, PR, rp, qua, qap, qam, Option.getD_some, Int.cast_ofNat_Int] at s1 hs2 s3 s5 ⊢
        generalize r'.tok = t at *
        simp (maxSteps := 4000000) -implicitDefEqProofs (disch := omega) [qbt, qbn, qb9, qb8, s1, hs2, s3, s5, hk, qoh, qk0, qbj, ARes.slot]
def Pg.cs (g : Pg) : List D := [.int .i64 g.at_.b, .int .i64 g.at_.g, .int .i64 g.at_.l, .int .i64 g.at_.c, .sl (LD bgL g.bs), .sl (LD smL g.body)]
def oG : Option Pg → D
  | none => .nilp
  | some g => .box (.agg g.cs)
theorem q7j {s : List UInt8} (h : (progV s).2.1 ≠ 0) : (progV s).1 = none := by
  unfold progV at h ⊢
  split
  · rfl
  · split
    · rfl
    · split
      · rename_i hk
        simp_all
      · rfl
theorem q1k (s : List UInt8) (hs : s.length ≤ 1100000) : callE T0 X0 qtz [.d (.str s)] [] = some (.ret [.d (oG (progV s).1), .d (.int .i64 (progV s).2.1), .d (.agg (progV s).2.2.cs)] []) := by
  obtain ⟨k, p, bs, b, s1, h1⟩ := preadp s hs
  have h2 := q7j (s := s)
  rw [qab (af := qil) rfl rfl rfl]
  unfold CALLR at s1
  generalize progV s = q at *
  obtain ⟨o, e, q⟩ := q
  simp only [Pl.cs] at s1 h1 h2 ⊢
  by_cases h0 : e = 0
  · obtain ⟨rfl, g, rfl, rfl, rfl, rfl, rfl⟩ := h1 h0
    subst h0
    obtain ⟨gp, bs, body⟩ := g
    clear h1 h2
    cases bs with
    | nil =>
      simp only [kOf, PR, qam, oG, Pg.cs] at s1 ⊢
      simp (maxSteps := 4000000) -implicitDefEqProofs (disch := omega) [qil, s1, ownD, qfw, wl]
    | cons b0 bs0 =>
      have hk2 : kOf (b0 :: bs0) = 2 := rfl
      simp only [hk2] at s1
      generalize b0 :: bs0 = bs at *
      simp only [PR, qam, oG, Pg.cs] at s1 ⊢
      simp (maxSteps := 4000000) -implicitDefEqProofs (disch := omega) [qil, s1, ownD, qfw]
  · have ho : o = none := h2 h0
    subst ho
    clear h1 h2
    rcases k with _ | _ | k
    all_goals
      simp only [PR, qam, oG] at s1 ⊢
      simp (maxSteps := 4000000) -implicitDefEqProofs (disch := omega) [qil, s1, h0, ownD, qfw]
end Go.Rf

namespace Go.Rf
structure Xok (vs : List (List UInt8)) (x : Nd) : Prop where
  fine : x.fine vs.length
  pr : x.pr vs
  sz : x.sz ≤ 5000
  w : x.w ≤ 4000000
  dp : Rf.dp x ≤ 16
structure Tks (ts : List Tok) : Prop where
  num : ∀ t ∈ ts, t.kind = 2 → NumTx t.text
  val : ∀ t ∈ ts, t.kind = 2 → ∃ v : Int, 0 ≤ v ∧ (limbs v).length ≤ 32 ∧ t.text = textV 456 v
  name : ∀ t ∈ ts, t.kind = 1 → NameOk t.text
theorem zcl {s : List UInt8} {ts e p} (h : scan s = (some ts, e, p)) : Tks ts := ⟨(qm6 h).2.num, zcm h, q89 h⟩
theorem q3h {r r' : Rd} {x : Nd} (h : r.ok) (ht : Tks r.ts) (hv : ∀ w ∈ r.vs, NameOk w) (e : r.sum = .ok x r') : Xok r.vs x ∧ x.sz + r.i ≤ r'.i ∧ Kept r r' := by
  unfold Rd.sum at e
  cases hb : rd r.fuel .s r with
  | bad _ p r2 => rw [hb] at e; cases e
  | ok y r2 =>
    rw [hb] at e
    cases e
    have a := rd_ok r.fuel .s r h ht.num trivial
    have b := rd_sz r.fuel .s r h ht.num trivial
    have c := rd_dp r.fuel .s r h ht.num trivial trivial
    have d := rd_all (ts := r.ts) (vs := r.vs) (Nd.pr r.vs) ht.num (fun t hm hk => by
      obtain ⟨v, h0, h32, hv⟩ := ht.val t hm hk
      rw [hv, (qo5 h0 (qq0 h0 h32)).2]
      exact ⟨h0, h32⟩) (fun w hw hd => ⟨by
        obtain ⟨j, hj, _, e⟩ := q3g r.vs w _ _ hw
        have hj : j < r.vs.length := by omega
        rw [← e]
        have : tx r.vs j = r.vs[j] := by simp [tx, hj]
        rw [this]
        exact hv _ (List.getElem_mem hj), rfl, hw, hd⟩) (fun _ h => h) (fun _ _ _ ho hx hy => ⟨ho, hx, hy⟩) r.fuel .s r h rfl rfl trivial trivial
    rw [hb] at a b c d
    obtain ⟨k, f1, f2⟩ := a
    obtain ⟨_, _, f3⟩ := b
    have f3 : x.sz + r.i ≤ 0 + r'.i := f3
    have f2 : x.w + 457 * r.i ≤ 0 + 457 * r'.i := f2
    have c : ((dp x : Nat) : Int) + r.op ≤ 16 := c
    have hi := k.ok.i
    have hn := k.ok.n
    have ho := h.op
    exact ⟨⟨f1, d, by omega, by omega, by omega⟩, by omega, k⟩
def oX (vs : List (List UInt8)) : Option Nd → Prop
  | none => True
  | some x => Xok vs x
mutual
def Sm.fit (vs : List (List UInt8)) : Sm → Prop
  | .set _ v s e => NameOk s ∧ varF vs s vs.length 0 = v ∧ 0 ≤ v ∧ qk2 s = false ∧ oX vs e
  | .skip _ => True
  | .stop _ => True
  | .mark _ s => NameOk s ∧ qk2 s = false ∧ qov s = true
  | .choose _ bs => bs ≠ [] ∧ Bls.fit vs bs
  | .loop _ b => Sms.fit vs b
  | .ifs _ x y _ b => Xok vs x ∧ Xok vs y ∧ Sms.fit vs b
  | .ife _ x y _ b _ e => Xok vs x ∧ Xok vs y ∧ Sms.fit vs b ∧ Sms.fit vs e
  | .while _ x y _ b => Xok vs x ∧ Xok vs y ∧ Sms.fit vs b
def Bl.fit (vs : List (List UInt8)) : Bl → Prop
  | .mk _ b => Sms.fit vs b
def Sms.fit (vs : List (List UInt8)) : List Sm → Prop
  | [] => True
  | s :: l => s.fit vs ∧ Sms.fit vs l
def Bls.fit (vs : List (List UInt8)) : List Bl → Prop
  | [] => True
  | b :: l => b.fit vs ∧ Bls.fit vs l
end
mutual
def Sm.sz : Sm → Nat
  | .choose _ bs => 1 + Bls.sz bs
  | .loop _ b => 1 + Sms.sz b
  | .ifs _ _ _ _ b => 1 + Sms.sz b
  | .ife _ _ _ _ b _ e => 2 + Sms.sz b + Sms.sz e
  | .while _ _ _ _ b => 1 + Sms.sz b
  | _ => 1
def Bl.sz : Bl → Nat
  | .mk _ b => 1 + Sms.sz b
def Sms.sz : List Sm → Nat
  | [] => 0
  | s :: l => s.sz + Sms.sz l
def Bls.sz : List Bl → Nat
  | [] => 0
  | b :: l => b.sz + Bls.sz l
end
theorem qg6 {r : Rd} (h : r.ok) {s} (c : r.isT s = true) : Kept r r.next ∧ r.next.i = r.i + 1 := ⟨Kept.next h, qfj (qca c)⟩
theorem qug {α : Type} {r r' : Rd} {x y : α} (e : r.semi x = .ok y r') : y = x ∧ r.isT [59] = true ∧ r' = r.next := by
  unfold Rd.semi at e
  split at e
  · rename_i c; cases e; exact ⟨rfl, c, rfl⟩
  · cases e
theorem q8c {r r' : Rd} {p : Pl} {s : Sm} (h : r.ok) (ht : Tks r.ts) (hv : ∀ w ∈ r.vs, NameOk w) (hn : r.isName = true) (e : r.assign p = .ok s r') : s.fit r.vs ∧ s.sz = 1 ∧ r.i + 1 ≤ r'.i := by
  unfold Rd.assign at e
  split at e
  · cases e
  rename_i c0
  split at e
  case isFalse => cases e
  rename_i c1
  have hk := qn5 hn
  have k1 := Kept.next h
  have i1 := qfj (r := r) (by omega)
  obtain ⟨k2, i2⟩ := qg6 k1.ok c1
  have k3 := k1.trans k2
  cases hx : r.next.next.expr with
  | bad _ p r3 => rw [hx] at e; cases e
  | ok o r3 =>
    rw [hx] at e
    simp only [Rz.bind] at e
    obtain ⟨rfl, c2, rfl⟩ := qug e
    have hw : qk2 r.tok.text = false := by
      unfold Rd.isName at hn
      simp only [Bool.and_eq_true, Bool.not_eq_true'] at hn
      exact hn.2
    have hnm := ht.name r.tok (qrh h) hk
    unfold Rd.expr at hx
    split at hx
    · cases hx
      have := (Kept.next k3.ok).i
      have k4 := Kept.next k3.ok
      have := (Kept.next k4.ok).i
      exact ⟨by simp only [Sm.fit, oX]; exact ⟨hnm, rfl, by unfold Rd.var at c0 ⊢; omega, hw, trivial⟩, by simp [Sm.sz], by omega⟩
    · cases hs : r.next.next.sum with
      | bad _ p r4 => rw [hs] at hx; cases hx
      | ok x r4 =>
        rw [hs] at hx
        cases hx
        obtain ⟨q1, q2, q3⟩ := q3h k3.ok (by rw [k3.ts]; exact ht) (by rw [k3.vs]; exact hv) hs
        rw [k3.vs] at q1
        have := (Kept.next q3.ok).i
        exact ⟨by simp only [Sm.fit, oX]; exact ⟨hnm, rfl, by unfold Rd.var at c0 ⊢; omega, hw, q1⟩, by simp [Sm.sz], by omega⟩
theorem q6a {r r' : Rd} {c : Nd × Nd × Bool} (h : r.ok) (ht : Tks r.ts) (hv : ∀ w ∈ r.vs, NameOk w) (e : r.cond = .ok c r') : Xok r.vs c.1 ∧ Xok r.vs c.2.1 ∧ Kept r r' := by
  unfold Rd.cond at e
  cases hx : r.sum with
  | bad _ p r1 => rw [hx] at e; cases e
  | ok x r1 =>
    rw [hx] at e
    obtain ⟨q1, q2, q3⟩ := q3h h ht hv hx
    have k1 := q3.trans (Kept.next q3.ok)
    have go : ∀ b, (r1.next.sum.bind fun y r3 => (.ok (x, y, b) r3 : Rz (Nd × Nd × Bool))) = .ok c r' → Xok r.vs c.1 ∧ Xok r.vs c.2.1 ∧ Kept r r' := fun b e => by
      cases hy : r1.next.sum with
      | bad _ p r3 => rw [hy] at e; cases e
      | ok y r3 =>
        rw [hy] at e
        cases e
        obtain ⟨p1, p2, p3⟩ := q3h k1.ok (by rw [k1.ts]; exact ht) (by rw [k1.vs]; exact hv) hy
        rw [k1.vs] at p1
        exact ⟨q1, p1, k1.trans p3⟩
    simp only [Rz.bind] at e
    split at e
    · exact go true e
    · split at e
      · exact go false e
      · cases e
theorem zda {r r' : Rd} {p : Pl} {s : Sm} {vs} (h : r.ok) (ht : Tks r.ts) (e : r.mark p = .ok s r') : s.fit vs ∧ s.sz = 1 ∧ r.i ≤ r'.i := by
  unfold Rd.mark at e
  split at e
  · cases e
  rename_i c0
  split at e
  · cases e
  rename_i c1
  split at e
  · cases e
  obtain ⟨rfl, c2, rfl⟩ := qug e
  have hn : r.isName = true := by simpa using c0
  have hw : qk2 r.tok.text = false := by
    unfold Rd.isName at hn
    simp only [Bool.and_eq_true, Bool.not_eq_true'] at hn
    exact hn.2
  have k1 := Kept.next (q5p h r.tok.text)
  have := k1.i
  have k2 := (Kept.next k1.ok).i
  have : (r.named r.tok.text).i = r.i := rfl
  refine ⟨by simp only [Sm.fit]; exact ⟨ht.name r.tok (qrh h) (qn5 hn), hw, by simpa using c1⟩, by simp [Sm.sz], by omega⟩
end Go.Rf

namespace Go.Rf
structure Goods (n : Nat) (ts : List Tok) (vs : List (List UInt8)) : Prop where
  R : ∀ r : Rd, r.ok → r.ts = ts → r.vs = vs → 4 * (ts.length - r.i) + 2 ≤ n → ∀ l r', rowF n r = .ok l r' → Sms.fit vs l ∧ Sms.sz l + r.i ≤ r'.i
  B : ∀ r : Rd, r.ok → r.ts = ts → r.vs = vs → 4 * (ts.length - r.i) + 1 ≤ n → ∀ l r', blkF n r = .ok l r' → Sms.fit vs l ∧ Sms.sz l + 1 + r.i ≤ r'.i
  O : ∀ r : Rd, r.ok → r.ts = ts → r.vs = vs → 4 * (ts.length - r.i) + 1 ≤ n → ∀ l r', orsF n r = .ok l r' → Bls.fit vs l ∧ Bls.sz l + r.i ≤ r'.i
  S : ∀ r : Rd, r.ok → r.ts = ts → r.vs = vs → 4 * (ts.length - r.i) + 1 ≤ n → ∀ s r', stmF n r = .ok (some s) r' → s.fit vs ∧ s.sz + r.i ≤ r'.i
theorem qfy {α β : Type} {b : Rz α} {f : α → Rd → Rz β} {y : β} {r' : Rd} (e : b.bind f = .ok y r') : ∃ x r1, b = .ok x r1 ∧ f x r1 = .ok y r' := by
  cases b with
  | ok x r => exact ⟨x, r, rfl, e⟩
  | bad _ p r => cases e
theorem goods {ts : List Tok} {vs : List (List UInt8)} (ht : Tks ts) (hv : ∀ w ∈ vs, NameOk w) : ∀ n, Goods n ts vs
  | 0 => ⟨fun _ _ _ _ h => by omega, fun _ _ _ _ h => by omega, fun _ _ _ _ h => by omega, fun _ _ _ _ h => by omega⟩
  | n + 1 => by
    have ih := goods ht hv n
    obtain ⟨hR, hB, hO, hS⟩ := q1i ht.num n
    refine ⟨fun r h h1 h2 hn l r' e => ?_, fun r h h1 h2 hn l r' e => ?_, fun r h h1 h2 hn l r' e => ?_, fun r h h1 h2 hn s r' e => ?_⟩
    · have hi : r.i < ts.length := h1 ▸ h.i
      unfold rowF at e
      split at e
      case isFalse => cases e; exact ⟨by simp [Sms.fit], by simp [Sms.sz]⟩
      obtain ⟨o, r1, e1, e2⟩ := qfy e
      obtain ⟨_, f1, g1⟩ := hS r h h1 (by omega)
      rw [e1] at f1
      cases o with
      | none => cases e2; exact ⟨by simp [Sms.fit], by have := f1.2; simp [Sms.sz]; omega⟩
      | some s =>
        have gi := g1 s r1 e1
        obtain ⟨l2, r2, e3, e4⟩ := qfy e2
        cases e4
        obtain ⟨a1, a2⟩ := ih.S r h h1 h2 (by omega) s r1 e1
        obtain ⟨b1, b2⟩ := ih.R r1 f1.1.ok (f1.1.ts.trans h1) (f1.1.vs.trans h2) (by omega) _ _ e3
        exact ⟨by simp only [Sms.fit]; exact ⟨a1, b1⟩, by simp only [Sms.sz]; omega⟩
    · have hi : r.i < ts.length := h1 ▸ h.i
      unfold blkF at e
      split at e
      · cases e
      rename_i hin
      obtain ⟨hk, ho⟩ := q5v hin
      have hop := Rd.opened_ok h ho
      have hni : r.opened.next.i = r.i + 1 := qfj (r := r.opened) (by rw [show r.opened.tok = r.tok from rfl]; omega)
      have k1 := Kept.next hop
      obtain ⟨l1, r1, e1, e2⟩ := qfy e
      split at e2
      case isFalse => cases e2
      rename_i c
      cases e2
      obtain ⟨b1, b2⟩ := ih.R _ k1.ok (k1.ts.trans h1) (k1.vs.trans h2) (by omega) _ _ e1
      have f1 := (hR _ k1.ok (k1.ts.trans h1) (by omega)).2
      rw [e1] at f1
      have := (qg6 f1.1.ok c).2
      exact ⟨b1, by show Sms.sz l + 1 + r.i ≤ r1.next.i; omega⟩
    · have hi : r.i < ts.length := h1 ▸ h.i
      unfold orsF at e
      split at e
      case isFalse => cases e; exact ⟨by simp [Bls.fit], by simp [Bls.sz]⟩
      rename_i c
      obtain ⟨k1, i1⟩ := qg6 h c
      obtain ⟨l1, r1, e1, e2⟩ := qfy e
      obtain ⟨bs, r2, e3, e4⟩ := qfy e2
      cases e4
      obtain ⟨b1, b2⟩ := ih.B _ k1.ok (k1.ts.trans h1) (k1.vs.trans h2) (by omega) _ _ e1
      have f1 := (hB _ k1.ok (k1.ts.trans h1) (by omega)).2
      rw [e1] at f1
      obtain ⟨c1, c2⟩ := ih.O r1 f1.1.ok (f1.1.ts.trans (k1.ts.trans h1)) (f1.1.vs.trans (k1.vs.trans h2)) (by omega) _ _ e3
      exact ⟨by simp only [Bls.fit, Bl.fit]; exact ⟨b1, c1⟩, by simp only [Bls.sz, Bl.sz]; omega⟩
    · have hi : r.i < ts.length := h1 ▸ h.i
      have htr : Tks r.ts := h1 ▸ ht
      have hvr : ∀ w ∈ r.vs, NameOk w := h2 ▸ hv
      have blk : ∀ r1 l r2, KeptS r r1 → r.i + 1 ≤ r1.i → blkF n r1 = .ok l r2 → Sms.fit vs l ∧ Sms.sz l + 1 + r1.i ≤ r2.i ∧ KeptS r r2 := fun r1 l r2 k hle e => by
        obtain ⟨b1, b2⟩ := ih.B r1 k.ok (k.ts.trans h1) (k.vs.trans h2) (by omega) _ _ e
        have f1 := (hB r1 k.ok (k.ts.trans h1) (by omega)).2
        rw [e] at f1
        exact ⟨b1, b2, k.trans f1.1⟩
      have k1 := Kept.next h
      unfold stmF at e
      split at e
      · rename_i c
        obtain ⟨s1, r1, e1, e2⟩ := qfy e
        cases e2
        obtain ⟨a1, a2, a3⟩ := q8c h htr hvr c e1
        exact ⟨h2 ▸ a1, by omega⟩
      split at e
      · rename_i c
        obtain ⟨k1, i1⟩ := qg6 h c
        obtain ⟨e1, c2, rfl⟩ := qug e
        cases e1
        have := (qg6 k1.ok c2).2
        exact ⟨by simp [Sm.fit], by simp only [Sm.sz]; omega⟩
      split at e
      · rename_i c
        obtain ⟨k1, i1⟩ := qg6 h c
        obtain ⟨e1, c2, rfl⟩ := qug e
        cases e1
        have := (qg6 k1.ok c2).2
        exact ⟨by simp [Sm.fit], by simp only [Sm.sz]; omega⟩
      split at e
      · rename_i c
        obtain ⟨k1, i1⟩ := qg6 h c
        obtain ⟨s1, r1, e1, e2⟩ := qfy e
        cases e2
        obtain ⟨a1, a2, a3⟩ := zda (vs := vs) k1.ok (k1.ts ▸ htr) e1
        exact ⟨a1, by omega⟩
      split at e
      · rename_i c
        obtain ⟨k1, i1⟩ := qg6 h c
        obtain ⟨l1, r1, e1, e2⟩ := qfy e
        obtain ⟨bs, r2, e3, e4⟩ := qfy e2
        cases e4
        obtain ⟨b1, b2, b3⟩ := blk _ _ _ k1.s (by omega) e1
        obtain ⟨c1, c2⟩ := ih.O r1 b3.ok (b3.ts.trans h1) (b3.vs.trans h2) (by omega) _ _ e3
        exact ⟨by simp only [Sm.fit, Bls.fit, Bl.fit]; exact ⟨by simp, b1, c1⟩, by simp only [Sm.sz, Bls.sz, Bl.sz]; omega⟩
      split at e
      · rename_i c
        obtain ⟨k1, i1⟩ := qg6 h c
        obtain ⟨l1, r1, e1, e2⟩ := qfy e
        cases e2
        obtain ⟨b1, b2, b3⟩ := blk _ _ _ k1.s (by omega) e1
        exact ⟨by simp only [Sm.fit]; exact b1, by simp only [Sm.sz]; omega⟩
      split at e
      · rename_i c
        obtain ⟨k1, i1⟩ := qg6 h c
        obtain ⟨cd, r1, e1, e2⟩ := qfy e
        obtain ⟨q1, q2, q3⟩ := q6a k1.ok (k1.ts ▸ htr) (k1.vs ▸ hvr) e1
        rw [k1.vs, h2] at q1 q2
        have k2 := k1.trans q3
        have i2 := q3.i
        obtain ⟨l1, r2, e3, e4⟩ := qfy e2
        obtain ⟨b1, b2, b3⟩ := blk _ _ _ k2.s (by omega) e3
        split at e4
        · rename_i c2
          obtain ⟨l2, r3, e5, e6⟩ := qfy e4
          cases e6
          obtain ⟨k4, i4⟩ := qg6 b3.ok c2
          obtain ⟨d1, d2, d3⟩ := blk _ _ _ (b3.trans k4.s) (by omega) e5
          exact ⟨by simp only [Sm.fit]; exact ⟨q1, q2, b1, d1⟩, by simp only [Sm.sz]; omega⟩
        · cases e4
          exact ⟨by simp only [Sm.fit]; exact ⟨q1, q2, b1⟩, by simp only [Sm.sz]; omega⟩
      split at e
      · rename_i c
        obtain ⟨k1, i1⟩ := qg6 h c
        obtain ⟨cd, r1, e1, e2⟩ := qfy e
        obtain ⟨q1, q2, q3⟩ := q6a k1.ok (k1.ts ▸ htr) (k1.vs ▸ hvr) e1
        rw [k1.vs, h2] at q1 q2
        have k2 := k1.trans q3
        have i2 := q3.i
        obtain ⟨l1, r2, e3, e4⟩ := qfy e2
        cases e4
        obtain ⟨b1, b2, b3⟩ := blk _ _ _ k2.s (by omega) e3
        exact ⟨by simp only [Sm.fit]; exact ⟨q1, q2, b1⟩, by simp only [Sm.sz]; omega⟩
      cases e
end Go.Rf

namespace Go.Rf
structure BgOk (b : Bg) : Prop where
  name : NameOk b.name
  word : qk2 b.name = false
  val : nl b.n ≤ 32
structure Pok (g : Pg) : Prop where
  n : g.bs.length ≤ 8
  bs : ∀ b ∈ g.bs, BgOk b
  fit : Sms.fit (g.bs.map Bg.name) g.body
  sz : Sms.sz g.body ≤ 5000
theorem q73 {r r2 : Rd} {ts bs b} (h : DOk r ts bs) (ht : Tks ts) (hd : r.declare = .ok b r2) : BgOk b ∧ bs.length < 8 := by
  have hd0 := hd
  unfold Rd.declare at hd
  split at hd
  · cases hd
  rename_i hn
  obtain ⟨h1, h2⟩ := qqx hn
  have hk := qn5 h1
  have hw : qk2 r.tok.text = false := by
    unfold Rd.isName at h1
    simp only [Bool.and_eq_true, Bool.not_eq_true'] at h1
    exact h1.2
  have hnm : b.name = r.tok.text := q46 hd
  have k1 := Kept.next h.ok
  have hq := qyo k1.ok (by rw [k1.vs]; exact h2) (qh0 h.ok)
  have hts : (r.next.push r.tok.text).ts = ts := k1.ts.trans h.ts
  refine ⟨⟨by rw [hnm]; exact ht.name _ (h.ts ▸ qrh h.ok) hk, by rw [hnm]; exact hw, ?_⟩, by rw [h.vs] at h2; simpa using h2⟩
  have num : ∀ (w : Rd) p, w.ok → w.ts = ts → w.num p r.tok.text = .ok b r2 → nl b.n ≤ 32 := fun w p hw hwt e => by
    unfold Rd.num at e
    split at e
    · rename_i c
      cases e
      obtain ⟨v, h0, h32, hv⟩ := ht.val w.tok (hwt ▸ qrh hw) c
      have e1 : numV w.tok.text = v := by rw [hv]; exact (qo5 h0 (qq0 h0 h32)).2
      have e2 : nl (numV w.tok.text) ≤ 32 := by rw [e1]; unfold nl; rw [Int.natAbs_of_nonneg h0]; exact h32
      show nl (sg p (numV w.tok.text)) ≤ 32
      unfold sg
      split
      · unfold nl at *; rw [Int.natAbs_neg]; exact e2
      · exact e2
    · cases e
  generalize r.next.push r.tok.text = q at *
  have k3 := Kept.next hq
  unfold Rd.value at hd
  split at hd
  · split at hd
    · have k4 := k3.trans (Kept.next k3.ok)
      exact num _ _ k4.ok (k4.ts.trans hts) hd
    · exact num _ _ k3.ok (k3.ts.trans hts) hd
  · cases hd; simp [nl]
theorem q57 {ts : List Tok} (ht : Tks ts) : ∀ n (r : Rd) (bs bs' : List Bg) (r' : Rd), DOk r ts bs → (∀ b ∈ bs, BgOk b) → bs.length ≤ 8 → qly n r bs = .ok bs' r' → (∀ b ∈ bs', BgOk b) ∧ bs'.length ≤ 8 ∧ r.i ≤ r'.i
  | 0, _, _, _, _, _, _, _, e => by cases e
  | n + 1, r, bs, bs', r', h, h1, h2, e => by
    unfold qly at e
    have k1 := Kept.next h.ok
    have hnx : DOk r.next ts bs := ⟨k1.ok, k1.ts.trans h.ts, by have := h.own; unfold Rd.own at this ⊢; rw [k1.ly, k1.vs]; exact this, k1.vs.trans h.vs⟩
    split at e
    · cases e; exact ⟨h1, h2, k1.i⟩
    · obtain ⟨u, r1, e1, e2⟩ := qfy e
      have hc : DOk r1 ts bs ∧ r.i ≤ r1.i := by
        unfold Rd.comma at e1
        split at e1
        · cases e1; exact ⟨h, Nat.le_refl _⟩
        · split at e1
          · cases e1; exact ⟨hnx, k1.i⟩
          · cases e1
      obtain ⟨b, r2, e3, e4⟩ := qfy e2
      obtain ⟨a1, a2⟩ := q73 hc.1 ht e3
      obtain ⟨g1, g2, _⟩ := qte hc.1 e3
      obtain ⟨b1, b2, b3⟩ := q57 ht n r2 _ bs' r' g1 (fun x hx => by
        rcases List.mem_append.1 hx with hx | hx
        · exact h1 x hx
        · rw [List.mem_singleton.1 hx]; exact a1) (by simp; omega) e4
      exact ⟨b1, b2, by omega⟩
theorem zc1 {s : List UInt8} {g : Pg} (h : (progV s).1 = some g) : Pok g := by
  unfold progV at h
  split at h
  · cases h
  rename_i ts e p hsc
  have ht := zcl hsc
  have hd := rp_ok (qm6 hsc).2
  split at h
  · cases h
  rename_i g' r' hp
  split at h
  case isFalse => cases h
  cases h
  unfold Rd.prog at hp
  split at hp
  case isFalse => cases hp
  have k1 := Kept.next hd.ok
  have h1 : DOk (rp ts).next ts [] := ⟨k1.ok, k1.ts.trans hd.ts, by have := hd.own; unfold Rd.own at this ⊢; rw [k1.ly, k1.vs]; exact this, k1.vs.trans hd.vs⟩
  obtain ⟨bs, r2, e1, e2⟩ := qfy hp
  obtain ⟨l, r3, e3, e4⟩ := qfy e2
  cases e4
  have h4 := qur _ _ _ _ _ h1 e1
  obtain ⟨b1, b2, b3⟩ := q57 ht _ _ _ _ _ h1 (fun _ h => by cases h) (by simp) e1
  have hv : ∀ w ∈ bs.map Bg.name, NameOk w := fun w hw => by
    obtain ⟨b, hb, rfl⟩ := List.mem_map.1 hw
    exact (b1 b hb).name
  obtain ⟨c1, c2⟩ := (goods ht hv (4 * r2.ts.length + 2)).R r2 h4.ok h4.ts h4.vs (by rw [h4.ts]; omega) _ _ e3
  have f3 := ((q1i ht.num (4 * r2.ts.length + 2)).1 r2 h4.ok h4.ts (by rw [h4.ts]; omega)).2
  rw [e3] at f3
  have hi := f3.1.ok.i
  have hn := f3.1.ok.n
  exact ⟨b2, b1, c1, (by omega : Sms.sz l ≤ 5000)⟩
end Go.Rf

namespace Go.Rf
def qf0 (s : List UInt8) (vs : List (List UInt8)) : List Int × Bool × Int × Pl :=
  match exprV s vs with
  | (none, e, p) => ([], false, e, p)
  | (some x, _, _) => if (formV vs.length x).2 = true then ((formV vs.length x).1, true, 0, qam) else ([], false, 0, qam)
theorem qre {s : List UInt8} {vs : List (List UInt8)} (hs : s.length ≤ 1100000) (hv : vs.length ≤ 1099511627) (hb : ∀ k, (tx vs k).length ≤ 1100000) :
    callE T0 X0 qge [.d (.str s), .d (.sl (SL vs))] [] = some (.ret [.d (.sl (WL (qf0 s vs).1)), .d (.bool (qf0 s vs).2.1), .d (.int .i64 (qf0 s vs).2.2.1), .d (.agg (qf0 s vs).2.2.2.cs)] []) := by
  have s1 := q7h hs hv hb
  rw [qab (af := qef) rfl rfl rfl]
  unfold qf0
  cases he : exprV s vs with
  | mk o ep =>
    obtain ⟨e, p⟩ := ep
    rw [he] at s1
    cases o with
    | none =>
      have hne := q0b he
      simp only [oD, Pl.cs] at s1 ⊢
      simp -implicitDefEqProofs (disch := omega) [qef, s1, hne]
    | some x =>
      obtain ⟨rfl, rfl, hf, hw, hv16⟩ := zhq hb he
      have s2 := qpe vs.length hv16 x hf (by omega)
      simp only [oD, Pl.cs, qam] at s1 ⊢
      generalize formV vs.length x = f at *
      obtain ⟨f, ok⟩ := f
      cases ok with
      | true =>
        simp -implicitDefEqProofs (disch := omega) [qef, s1, s2]
      | false =>
        simp -implicitDefEqProofs (disch := omega) [qef, s1, s2]
end Go.Rf

namespace Go.Rf
def bld0 : List Obj := [.arr [.agg [.d .nilp, .ref (.b 1) ⟨1, 1000005⟩ 0 0]] ⟨2, 1000120⟩, .arr (B8 []) ⟨1, 1000005⟩]
def bld (s : List UInt8) : List Obj := [.arr [.agg [.ptr (.b 0) 0 0, .ref (.b 1) ⟨1, 1000005⟩ 0 s.length]] ⟨2, 1000120⟩, .arr (B8 s) ⟨1, 1000005⟩]
def bldR (s : List UInt8) : List Obj := [.arr [.agg [.ptr (.b 0) 0 0, .ref (.b 2) ⟨1, 1000005⟩ 0 s.length]] ⟨2, 1000120⟩, .dead, .arr (B8 s) ⟨1, 1000005⟩]
theorem cc0 : callE T0 X0 qby [.ptr (.b 0) 0 0] bld0 = some (.ret [] (bld [])) := qlb (n := 1) rfl
theorem cc1 (s : List UInt8) : callE T0 X0 qby [.ptr (.b 0) 0 0] (bld s) = some (.ret [] (bld s)) := qlb (n := 1) rfl
@[simp] theorem B8_app (a b : List UInt8) : B8 a ++ B8 b = B8 (a ++ b) := by simp [B8]
@[simp] theorem B8_map (s : List UInt8) : (s.map fun b => V.d (D.int .u8 b.toNat)) = B8 s := rfl
theorem fitK {n : Nat} (h : n ≤ 100000000) : (n * 1000005 ≤ lots) = True := eq_true (by unfold lots; omega)
attribute [simp] fitK
@[simp] theorem fitK1 : (1000005 ≤ lots) = True := eq_true (by unfold lots; omega)
theorem ws0 (t : List UInt8) (h : t.length ≤ 100000000) : callE T0 X0 qa4 [.ptr (.b 0) 0 0, .d (.str t)] bld0 = some (.ret [.d (.int .i64 t.length), .d .nili] (bldR t)) := by
  have s1 := cc0
  rw [qab (af := qbf) rfl rfl rfl]
  simp only [bld0, bld, bldR, List.length_nil, qqe] at s1 ⊢
  simp -implicitDefEqProofs (disch := omega) [qbf, s1]
theorem ws1 (s t : List UInt8) (h : s.length + t.length ≤ 100000000) : callE T0 X0 qa4 [.ptr (.b 0) 0 0, .d (.str t)] (bld s) = some (.ret [.d (.int .i64 t.length), .d .nili] (bldR (s ++ t))) := by
  have s1 := cc1 s
  rw [qab (af := qbf) rfl rfl rfl]
  have ht : s.take s.length = s := List.take_length
  simp only [bld, bldR, List.length_append] at s1 ⊢
  simp -implicitDefEqProofs (disch := omega) [qbf, s1, ht]
theorem wb0 (c : UInt8) : callE T0 X0 qbz [.ptr (.b 0) 0 0, .d (.int .u8 c.toNat)] bld0 = some (.ret [.d .nili] (bldR [c])) := by
  have s1 := cc0
  rw [qab (af := qbl) rfl rfl rfl]
  have e : B8 [c] = [V.d (D.int .u8 c.toNat)] := rfl
  simp only [bld0, bld, bldR, List.length_nil, qqe, e] at s1 ⊢
  simp -implicitDefEqProofs (disch := omega) [qbl, s1]
theorem wb1 (s : List UInt8) (c : UInt8) (h : s.length + 1 ≤ 100000000) : callE T0 X0 qbz [.ptr (.b 0) 0 0, .d (.int .u8 c.toNat)] (bld s) = some (.ret [.d .nili] (bldR (s ++ [c]))) := by
  have s1 := cc1 s
  rw [qab (af := qbl) rfl rfl rfl]
  have ht : s.take s.length = s := List.take_length
  simp only [bld, bldR, List.length_append] at s1 ⊢
  simp -implicitDefEqProofs (disch := omega) [qbl, s1, ht]
end Go.Rf

namespace Go.Rf
theorem qw9 {v : Int} (h0 : 0 ≤ v) (h : (limbs v).length ≤ 32) : callE T0 X0 qmh [.d (Wd v)] [] = some (.ret [.d (.str (textV 456 v))] []) := by
  have e : ((v.natAbs : Nat) : Int) = v := by omega
  have s1 := qux (qaq v) 456 (by omega) (by omega) (by rw [qbu h0]; exact qq0 h0 h)
  rw [qbu h0] at s1
  have s2 := qyd (m := v) (by unfold nl; rw [e]; omega)
  have hs : 0 ≤ v.sign := by
    rcases Int.lt_or_eq_of_le h0 with h | h
    · rw [Int.sign_eq_one_of_pos h]; decide
    · rw [← h]; decide
  rw [qab (af := qij) rfl rfl rfl]
  have hd : decide (v < 0) = false := decide_eq_false (by omega)
  simp only [Wd, e, hd] at s2 ⊢
  simp -implicitDefEqProofs (disch := omega) [qij, s1, s2]
theorem qvv (op : Int) : callE T0 X0 qjn [.d (.int .u8 op)] [] = some (.ret [.d (.bool (sumOp op))] []) := by
  rw [qab (af := qlm) rfl rfl rfl]
  unfold sumOp
  by_cases h : op = 43
  · subst h
    simp -implicitDefEqProofs (disch := omega) [qlm]
  · by_cases h2 : op = 45
    · subst h2
      simp -implicitDefEqProofs (disch := omega) [qlm]
    · simp -implicitDefEqProofs (disch := omega) [qlm, h, h2]
theorem qqg (x : Nd) : callE T0 X0 qiq [.d x.d] [] = some (.ret [.d (.bool x.single)] []) := by
  rw [qab (af := qlg) rfl rfl rfl]
  cases x <;> simp only [Nd.d, Nd.single] <;> simp -implicitDefEqProofs (disch := omega) [qlg]
theorem qsl (x : Nd) : callE T0 X0 qh5 [.d x.d] [] = some (.ret [.d (.bool x.adds)] []) := by
  rw [qab (af := qh9) rfl rfl rfl]
  cases x with
  | two op x y =>
    have s1 := qvv op
    simp only [Nd.d, Nd.adds]
    simp -implicitDefEqProofs (disch := omega) [qh9, s1]
  | num k => simp only [Nd.d, Nd.adds]; simp -implicitDefEqProofs (disch := omega) [qh9]
  | name v s => simp only [Nd.d, Nd.adds]; simp -implicitDefEqProofs (disch := omega) [qh9]
  | minus x => simp only [Nd.d, Nd.adds]; simp -implicitDefEqProofs (disch := omega) [qh9]
structure Wrote (f : FuncId) (a : List V) (w : List UInt8) : Prop where
  z : w.length ≤ 100000000 → callE T0 X0 f (.ptr (.b 0) 0 0 :: a) bld0 = some (.ret [] (bldR w))
  s : ∀ s : List UInt8, s.length + w.length ≤ 100000000 → callE T0 X0 f (.ptr (.b 0) 0 0 :: a) (bld s) = some (.ret [] (bldR (s ++ w)))
theorem q3r {x : Nd} {w : List UInt8} (h : Wrote qb5 [.d x.d] w) (b : Bool) : Wrote qgv [.d x.d, .d (.bool b)] (wrB b w) := by
  refine ⟨fun hl => ?_, fun s hl => ?_⟩
  · rw [qab (af := qg2) rfl rfl rfl]
    cases b with
    | false =>
      have s1 := h.z hl
      simp only [wrB, bld0, bld, bldR, qqe, Bool.false_eq_true, if_false] at s1 ⊢
      simp -implicitDefEqProofs (disch := omega) [qg2, s1]
    | true =>
      have hl2 : w.length + 2 ≤ 100000000 := by simpa [wrB] using hl
      have s1 := wb0 40
      have s2 := h.s [40] (by simp; omega)
      have s3 := wb1 ([40] ++ w) 41 (by simp; omega)
      have e : [40] ++ w ++ [41] = wrB true w := by simp [wrB]
      rw [e] at s3
      simp only [bld0, bld, bldR, qqe] at s1 s2 s3 ⊢
      generalize wrB true w = w2 at *
      generalize ([40] : List UInt8) = w0 at s1 s2 s3
      generalize w0 ++ w = w1 at *
      simp only [show (((40 : UInt8).toNat : Nat) : Int) = 40 from rfl, show (((41 : UInt8).toNat : Nat) : Int) = 41 from rfl] at s1 s3
      simp -implicitDefEqProofs (disch := omega) [qg2, s1, s2, s3]
  · rw [qab (af := qg2) rfl rfl rfl]
    cases b with
    | false =>
      have s1 := h.s s hl
      simp only [wrB, bld, bldR, Bool.false_eq_true, if_false] at s1 ⊢
      simp -implicitDefEqProofs (disch := omega) [qg2, s1]
    | true =>
      have hl2 : s.length + w.length + 2 ≤ 100000000 := by have := hl; simp [wrB] at this; omega
      have s1 := wb1 s 40 (by omega)
      have s2 := h.s (s ++ [40]) (by simp; omega)
      have s3 := wb1 (s ++ [40] ++ w) 41 (by simp; omega)
      have e : s ++ [40] ++ w ++ [41] = s ++ wrB true w := by simp [wrB]
      rw [e] at s3
      simp only [bld, bldR] at s1 s2 s3 ⊢
      generalize s ++ wrB true w = w3 at *
      generalize (s ++ [40] ++ w : List UInt8) = w2 at *
      generalize (s ++ [40] : List UInt8) = w1 at *
      simp only [show (((40 : UInt8).toNat : Nat) : Int) = 40 from rfl, show (((41 : UInt8).toNat : Nat) : Int) = 41 from rfl] at s1 s3
      simp -implicitDefEqProofs (disch := omega) [qg2, s1, s2, s3]
end Go.Rf

namespace Go.Rf
theorem q8i {v : Int} (h0 : 0 ≤ v) (h : (limbs v).length ≤ 32) : Wrote qb5 [.d (Nd.num v).d] (textV 456 v) := by
  have s1 := qw9 h0 h
  have hn : nl v < 1099511627776 := by
    have e : ((v.natAbs : Nat) : Int) = v := by omega
    unfold nl; rw [e]; omega
  have hl := qor (v := v)
  refine ⟨fun hl2 => ?_, fun s hl2 => ?_⟩
  · have s2 := ws0 (textV 456 v) (by omega)
    rw [qab (af := qbb) rfl rfl rfl]
    simp only [Nd.d, bld0, bld, bldR, qqe] at s2 ⊢
    generalize textV 456 v = w at *
    simp -implicitDefEqProofs (disch := omega) [qbb, s1, s2]
  · have s2 := ws1 s (textV 456 v) (by omega)
    rw [qab (af := qbb) rfl rfl rfl]
    simp only [Nd.d, bld, bldR] at s2 ⊢
    generalize textV 456 v = w at *
    generalize s ++ w = w2 at *
    simp -implicitDefEqProofs (disch := omega) [qbb, s1, s2]
theorem q6s {v : Int} {t : List UInt8} (ht : t.length ≤ 4096) : Wrote qb5 [.d (Nd.name v t).d] t := by
  refine ⟨fun hl2 => ?_, fun s hl2 => ?_⟩
  · have s2 := ws0 t (by omega)
    rw [qab (af := qbb) rfl rfl rfl]
    simp only [Nd.d, bld0, bld, bldR, qqe] at s2 ⊢
    simp -implicitDefEqProofs (disch := omega) [qbb, s2]
  · have s2 := ws1 s t (by omega)
    rw [qab (af := qbb) rfl rfl rfl]
    simp only [Nd.d, bld, bldR] at s2 ⊢
    generalize s ++ t = w2 at *
    simp -implicitDefEqProofs (disch := omega) [qbb, s2]
theorem q3e {x : Nd} {w : List UInt8} (h : Wrote qb5 [.d x.d] w) : Wrote qb5 [.d (Nd.minus x).d] (45 :: wrB (!x.single) w) := by
  have p := q3r h (!x.single)
  have s0 := qqg x
  generalize wrB (!x.single) w = w1 at *
  refine ⟨fun hl2 => ?_, fun s hl2 => ?_⟩
  · rw [List.length_cons] at hl2
    have s1 := wb0 45
    have s2 := p.s [45] (by simp; omega)
    have e : [45] ++ w1 = 45 :: w1 := rfl
    rw [e] at s2
    rw [qab (af := qbb) rfl rfl rfl]
    simp only [Nd.d, bld0, bld, bldR, qqe] at s1 s2 ⊢
    simp only [show (((45 : UInt8).toNat : Nat) : Int) = 45 from rfl] at s1
    generalize ([45] : List UInt8) = w0 at s1 s2
    generalize 45 :: w1 = w2 at *
    simp -implicitDefEqProofs (disch := omega) [qbb, s0, s1, s2]
  · rw [List.length_cons] at hl2
    have s1 := wb1 s 45 (by omega)
    have s2 := p.s (s ++ [45]) (by simp; omega)
    have e : s ++ [45] ++ w1 = s ++ 45 :: w1 := by simp
    rw [e] at s2
    rw [qab (af := qbb) rfl rfl rfl]
    simp only [Nd.d, bld, bldR] at s1 s2 ⊢
    simp only [show (((45 : UInt8).toNat : Nat) : Int) = 45 from rfl] at s1
    generalize s ++ [45] = w0 at s1 s2
    generalize s ++ 45 :: w1 = w2 at *
    simp -implicitDefEqProofs (disch := omega) [qbb, s0, s1, s2]
theorem enc_op {op : Int} (h : op = 43 ∨ op = 45 ∨ op = 42 ∨ op = 47 ∨ op = 37) : enc op = [opc op] ∧ 0 ≤ op ∧ op < 128 := by
  rcases h with rfl | rfl | rfl | rfl | rfl <;> decide
theorem two_z {op : Int} {x y : Nd} {so bx sy by_ : Bool} {u1 q r1 r : List UInt8} (o0 : 0 ≤ op) (o1 : op < 128)
    (s0 : callE T0 X0 qjn [.d (.int .u8 op)] [] = some (.ret [.d (.bool so)] []))
    (s1 : callE T0 X0 qh5 [.d x.d] [] = some (.ret [.d (.bool bx)] []))
    (s2 : callE T0 X0 qh5 [.d y.d] [] = some (.ret [.d (.bool by_)] []))
    (s3 : callE T0 X0 qiq [.d y.d] [] = some (.ret [.d (.bool sy)] []))
    (el : (enc op).length = 1) (ql : q.length = 3) (hq : (32 :: (enc op ++ [32]) : List UInt8) = q)
    (t1 : callE T0 X0 qgv [.ptr (.b 0) 0 0, .d x.d, .d (.bool (!so && bx))] bld0 = some (.ret [] (bldR u1)))
    (t2 : callE T0 X0 qa4 [.ptr (.b 0) 0 0, .d (.str q)] (bld u1) = some (.ret [.d (.int .i64 q.length), .d .nili] (bldR r1)))
    (t3 : callE T0 X0 qgv [.ptr (.b 0) 0 0, .d y.d, .d (.bool (so && by_ || !so && !sy))] (bld r1) = some (.ret [] (bldR r))) :
    callE T0 X0 qb5 [.ptr (.b 0) 0 0, .d (Nd.two op x y).d] bld0 = some (.ret [] (bldR r)) := by
  rw [qab (af := qbb) rfl rfl rfl]
  simp only [Nd.d, bld0, bld, bldR, qqe] at t1 t2 t3 ⊢
  cases so
  · cases bx <;> cases sy <;> simp only [Bool.not_true, Bool.not_false, Bool.true_and, Bool.false_and, Bool.and_true, Bool.and_false, Bool.or_false, Bool.false_or, Bool.true_or, Bool.or_true] at t1 t3 <;> simp -implicitDefEqProofs (disch := omega) [qbb, s0, s1, s2, s3, t1, t2, t3, qra, el, ql, hq]
  · cases by_ <;> simp only [Bool.not_true, Bool.not_false, Bool.true_and, Bool.false_and, Bool.and_true, Bool.and_false, Bool.or_false, Bool.false_or, Bool.true_or, Bool.or_true] at t1 t3 <;> simp -implicitDefEqProofs (disch := omega) [qbb, s0, s1, s2, s3, t1, t2, t3, qra, el, ql, hq]
end Go.Rf

namespace Go.Rf
theorem two_s {op : Int} {x y : Nd} {so bx sy by_ : Bool} {u0 u1 q r1 r : List UInt8} (o0 : 0 ≤ op) (o1 : op < 128)
    (s0 : callE T0 X0 qjn [.d (.int .u8 op)] [] = some (.ret [.d (.bool so)] []))
    (s1 : callE T0 X0 qh5 [.d x.d] [] = some (.ret [.d (.bool bx)] []))
    (s2 : callE T0 X0 qh5 [.d y.d] [] = some (.ret [.d (.bool by_)] []))
    (s3 : callE T0 X0 qiq [.d y.d] [] = some (.ret [.d (.bool sy)] []))
    (el : (enc op).length = 1) (ql : q.length = 3) (hq : (32 :: (enc op ++ [32]) : List UInt8) = q)
    (t1 : callE T0 X0 qgv [.ptr (.b 0) 0 0, .d x.d, .d (.bool (!so && bx))] (bld u0) = some (.ret [] (bldR u1)))
    (t2 : callE T0 X0 qa4 [.ptr (.b 0) 0 0, .d (.str q)] (bld u1) = some (.ret [.d (.int .i64 q.length), .d .nili] (bldR r1)))
    (t3 : callE T0 X0 qgv [.ptr (.b 0) 0 0, .d y.d, .d (.bool (so && by_ || !so && !sy))] (bld r1) = some (.ret [] (bldR r))) :
    callE T0 X0 qb5 [.ptr (.b 0) 0 0, .d (Nd.two op x y).d] (bld u0) = some (.ret [] (bldR r)) := by
  rw [qab (af := qbb) rfl rfl rfl]
  simp only [Nd.d, bld, bldR] at t1 t2 t3 ⊢
  cases so
  · cases bx <;> cases sy <;> simp only [Bool.not_true, Bool.not_false, Bool.true_and, Bool.false_and, Bool.and_true, Bool.and_false, Bool.or_false, Bool.false_or, Bool.true_or, Bool.or_true] at t1 t3 <;> simp -implicitDefEqProofs (disch := omega) [qbb, s0, s1, s2, s3, t1, t2, t3, qra, el, ql, hq]
  · cases by_ <;> simp only [Bool.not_true, Bool.not_false, Bool.true_and, Bool.false_and, Bool.and_true, Bool.and_false, Bool.or_false, Bool.false_or, Bool.true_or, Bool.or_true] at t1 t3 <;> simp -implicitDefEqProofs (disch := omega) [qbb, s0, s1, s2, s3, t1, t2, t3, qra, el, ql, hq]
theorem op_len {op : Int} (h : op = 43 ∨ op = 45 ∨ op = 42 ∨ op = 47 ∨ op = 37) : 0 ≤ op ∧ op < 128 ∧ enc op = [opc op] := by
  obtain ⟨a, b, c⟩ := enc_op h
  exact ⟨b, c, a⟩
theorem q8h {op : Int} {x y : Nd} {w1 w2 : List UInt8} (ho : op = 43 ∨ op = 45 ∨ op = 42 ∨ op = 47 ∨ op = 37) (h1 : Wrote qb5 [.d x.d] w1) (h2 : Wrote qb5 [.d y.d] w2) :
    Wrote qb5 [.d (Nd.two op x y).d] (wrB (!sumOp op && x.adds) w1 ++ 32 :: opc op :: 32 :: wrB (sumOp op && y.adds || !sumOp op && !y.single) w2) := by
  have p1 := q3r h1 (!sumOp op && x.adds)
  have p2 := q3r h2 (sumOp op && y.adds || !sumOp op && !y.single)
  obtain ⟨o0, o1, he⟩ := op_len ho
  have hq : (32 :: (enc op ++ [32]) : List UInt8) = [32, opc op, 32] := by rw [he]; rfl
  have hl1 : (enc op).length = 1 := by rw [he]; rfl
  refine ⟨fun hl2 => ?_, fun s hl2 => ?_⟩
  · rw [List.length_append, List.length_cons, List.length_cons, List.length_cons] at hl2
    have t1 := p1.z (by omega)
    have t2 := ws1 (wrB (!sumOp op && x.adds) w1) [32, opc op, 32] (by simp only [List.length_cons, List.length_nil]; omega)
    have t3 := p2.s (wrB (!sumOp op && x.adds) w1 ++ [32, opc op, 32]) (by simp only [List.length_append, List.length_cons, List.length_nil]; omega)
    have e : ∀ a b : List UInt8, a ++ [32, opc op, 32] ++ b = a ++ 32 :: opc op :: 32 :: b := fun a b => by rw [List.append_assoc]; rfl
    rw [e] at t3
    exact two_z o0 o1 (qvv op) (qsl x) (qsl y) (qqg y) hl1 rfl hq t1 t2 t3
  · rw [List.length_append, List.length_cons, List.length_cons, List.length_cons] at hl2
    have t1 := p1.s s (by omega)
    have t2 := ws1 (s ++ wrB (!sumOp op && x.adds) w1) [32, opc op, 32] (by simp only [List.length_append, List.length_cons, List.length_nil]; omega)
    have t3 := p2.s (s ++ wrB (!sumOp op && x.adds) w1 ++ [32, opc op, 32]) (by simp only [List.length_append, List.length_cons, List.length_nil]; omega)
    have e : ∀ a b : List UInt8, s ++ a ++ [32, opc op, 32] ++ b = s ++ (a ++ 32 :: opc op :: 32 :: b) := fun a b => by rw [List.append_assoc, List.append_assoc]; rfl
    rw [e] at t3
    exact two_s o0 o1 (qvv op) (qsl x) (qsl y) (qqg y) hl1 rfl hq t1 t2 t3
theorem q6r {vs : List (List UInt8)} : ∀ x : Nd, x.pr vs → Wrote qb5 [.d x.d] (wr x) := by
  intro x
  induction x with
  | num k => intro h; exact q8i h.1 h.2
  | name v s => intro h; exact q6s h.1.l
  | minus x ih => intro h; exact q3e (ih h)
  | two op x y ih1 ih2 => intro h; exact q8h h.1 (ih1 h.2.1) (ih2 h.2.2)
theorem q22 : ∀ s : List UInt8, qx6 (B8 s) = some s
  | [] => rfl
  | c :: s => by
    have e : B8 (c :: s) = .d (.int .u8 c.toNat) :: B8 s := rfl
    have hc := c.toNat_lt
    rw [e, qx6, q22 s, if_pos (by omega)]
    simp
theorem za9 {s : List UInt8} (h : s ≠ []) : callE T0 X0 qds [.ptr (.b 0) 0 0] (bld s) = some (.ret [.d (.str s)] [.arr [.agg [.ptr (.b 0) 0 0, .ref (.b 1) ⟨1, 1000005⟩ 0 s.length]] ⟨2, 1000120⟩, .dead]) := by
  refine qlb (n := 1) ?_
  have hl : s.length = (B8 s).length := by unfold B8; rw [List.length_map]
  have hp : 0 < s.length := List.length_pos_iff.2 h
  have e : call T0 X0 1 qds [.ptr (.b 0) 0 0] (bld s) = bsX 1000120 1000005 (call T0 X0 0) [.ptr (.b 0) 0 0] (bld s) := rfl
  rw [e]
  unfold bsX bld
  simp only []
  rw [if_pos ⟨trivial, trivial, trivial, hl, hp⟩, q22]
  rfl
theorem wr_ne {vs : List (List UInt8)} {x : Nd} (h : x.pr vs) : wr x ≠ [] := by
  cases x with
  | num k => exact (qo5 h.1 (qq0 h.1 h.2)).1
  | name v s => exact h.1.ne
  | minus x => simp [wr]
  | two op x y => simp [wr]
theorem zg0 : ownD 0 1 [(1, ⟨1, 1000005⟩)] (.d (.agg [.nilp, .sl []])) = (.agg [.d .nilp, .ref (.n 0 1) ⟨1, 1000005⟩ 0 0], [(.n 0 1, some (.arr [] ⟨1, 1000005⟩))]) := rfl
theorem qqz {vs : List (List UInt8)} {x : Nd} (h : x.pr vs) (hl : (wr x).length ≤ 100000000) : callE T0 X0 qif [.d x.d] [] = some (.ret [.d (.str (wr x))] []) := by
  have s1 := (q6r x h).z hl
  have s2 := za9 (wr_ne h)
  rw [qab (af := qmq) rfl rfl rfl]
  simp only [bld0, bld, bldR, qqe] at s1 s2
  simp -implicitDefEqProofs (disch := omega) [qmq, zg0, s1, s2]
end Go.Rf

namespace Go.Rf
set_option maxHeartbeats 4000000
def Sm.kind : Sm → Int
  | .set _ _ _ none => 3
  | .set _ _ _ (some _) => 2
  | .skip _ => 4
  | .stop _ => 5
  | .mark _ _ => 6
  | .choose _ _ => 7
  | .loop _ _ => 9
  | .ifs _ _ _ _ _ => 10
  | .ife _ _ _ _ _ _ _ => 10
  | .while _ _ _ _ _ => 12
def Sm.at_ : Sm → Pl
  | .set p _ _ _ => p
  | .skip p => p
  | .stop p => p
  | .mark p _ => p
  | .choose p _ => p
  | .loop p _ => p
  | .ifs p _ _ _ _ => p
  | .ife p _ _ _ _ _ _ => p
  | .while p _ _ _ _ => p
def eqs (q : Bool) : List UInt8 := if q then [32, 61, 32] else [32, 33, 61, 32]
def condT (x y : Nd) (q : Bool) : List UInt8 := wr x ++ (eqs q ++ wr y)
def Sm.head : Sm → List UInt8
  | .set _ _ s none => s ++ [32, 58, 61, 32, 97, 110, 121]
  | .set _ _ s (some x) => s ++ ([32, 58, 61, 32] ++ wr x)
  | .skip _ => [115, 107, 105, 112]
  | .stop _ => [115, 116, 111, 112]
  | .mark _ s => [109, 97, 114, 107, 32] ++ s
  | .choose _ _ => [99, 104, 111, 111, 115, 101]
  | .loop _ _ => [108, 111, 111, 112]
  | .ifs _ x y q _ => [105, 102, 32] ++ condT x y q
  | .ife _ x y q _ _ _ => [105, 102, 32] ++ condT x y q
  | .while _ x y q _ => [119, 104, 105, 108, 101, 32] ++ condT x y q
@[simp] theorem fitC_nd (x : Nd) : fitC x.d = true := by cases x <;> rfl
@[simp] theorem nd_notnil (x : Nd) : isNil true (.d x.d) = some false := by cases x <;> rfl
@[simp] theorem nd_vcell (x : Nd) : (V.cells (.d x.d)) = [.d x.d] := zdv x
theorem qlq (s : Sm) : callE T0 X0 qq8 [.d s.d] [] = some (.ret [.d (.int .i64 s.kind)] []) := by
  rw [qab (af := qjw) rfl rfl rfl]
  cases s with
  | set p v s e =>
    cases e with
    | none => simp (maxSteps := 1000000) -implicitDefEqProofs (disch := omega) [qjw, qah, qas, qao, qaw, qa1, qaz, qay, qaj, Sm.d, Sm.kind, oD]
    | some x => simp (maxSteps := 1000000) -implicitDefEqProofs (disch := omega) [qjw, qah, qas, qao, qaw, qa1, qaz, qay, qaj, Sm.d, Sm.kind, oD]
  | _ => simp (maxSteps := 1000000) -implicitDefEqProofs (disch := omega) [qjw, qah, qas, qao, qaw, qa1, qaz, qay, qaj, Sm.d, Sm.kind, ownD, qfw]
theorem qtg {vs : List (List UInt8)} {x y : Nd} {q : Bool} (hx : Xok vs x) (hy : Xok vs y) : callE T0 X0 qku [.d (.agg [x.d, y.d, .bool q])] [] = some (.ret [.d (.str (condT x y q))] []) := by
  rw [qab (af := qhx) rfl rfl rfl]
  have l1 := qog x hx.pr
  have l2 := qog y hy.pr
  have z1 := hx.sz
  have z2 := hy.sz
  have s1 := qqz hx.pr (by omega)
  have s2 := qqz hy.pr (by omega)
  unfold condT
  generalize wr x = a at *
  generalize wr y = b at *
  cases q
  all_goals
    simp -implicitDefEqProofs (disch := omega) [qhx, s1, s2, eqs]
theorem qnl {vs : List (List UInt8)} {s : Sm} (h : s.fit vs) : callE T0 X0 qv7 [.d s.d] [] = some (.ret [.d (.str s.head)] []) := by
  have s0 := qlq s
  rw [qab (af := qe8) rfl rfl rfl]
  cases s with
  | set p v s e =>
    simp only [Sm.fit] at h
    have hl := h.1.l
    cases e with
    | none =>
      simp only [Sm.d, Sm.kind, Sm.head, oD] at s0 ⊢
      simp (maxSteps := 1000000) -implicitDefEqProofs (disch := omega) [qe8, s0]
    | some x =>
      have hx : Xok vs x := h.2.2.2.2
      have l1 := qog x hx.pr
      have z1 := hx.sz
      have s1 := qqz hx.pr (by omega)
      simp only [Sm.d, Sm.kind, Sm.head, oD] at s0 ⊢
      generalize wr x = a at *
      simp (maxSteps := 1000000) -implicitDefEqProofs (disch := omega) [qe8, s0, s1]
  | mark p s =>
    simp only [Sm.fit] at h
    have hl := h.1.l
    simp only [Sm.d, Sm.kind, Sm.head] at s0 ⊢
    simp (maxSteps := 1000000) -implicitDefEqProofs (disch := omega) [qe8, s0]
  | ifs p x y q b =>
    simp only [Sm.fit] at h
    have l1 := qog x h.1.pr
    have l2 := qog y h.2.1.pr
    have z1 := h.1.sz
    have z2 := h.2.1.sz
    have s1 := qtg (q := q) h.1 h.2.1
    have s2 : (condT x y q).length ≤ 100000000 := by unfold condT eqs; cases q <;> simp <;> omega
    simp only [Sm.d, Sm.kind, Sm.head] at s0 ⊢
    generalize condT x y q = a at *
    simp (maxSteps := 1000000) -implicitDefEqProofs (disch := omega) [qe8, s0, s1]
  | ife p x y q b pe e =>
    simp only [Sm.fit] at h
    have l1 := qog x h.1.pr
    have l2 := qog y h.2.1.pr
    have z1 := h.1.sz
    have z2 := h.2.1.sz
    have s1 := qtg (q := q) h.1 h.2.1
    have s2 : (condT x y q).length ≤ 100000000 := by unfold condT eqs; cases q <;> simp <;> omega
    simp only [Sm.d, Sm.kind, Sm.head] at s0 ⊢
    generalize condT x y q = a at *
    simp (maxSteps := 1000000) -implicitDefEqProofs (disch := omega) [qe8, s0, s1]
  | «while» p x y q b =>
    simp only [Sm.fit] at h
    have l1 := qog x h.1.pr
    have l2 := qog y h.2.1.pr
    have z1 := h.1.sz
    have z2 := h.2.1.sz
    have s1 := qtg (q := q) h.1 h.2.1
    have s2 : (condT x y q).length ≤ 100000000 := by unfold condT eqs; cases q <;> simp <;> omega
    simp only [Sm.d, Sm.kind, Sm.head] at s0 ⊢
    generalize condT x y q = a at *
    simp (maxSteps := 1000000) -implicitDefEqProofs (disch := omega) [qe8, s0, s1]
  | _ =>
    simp only [Sm.d, Sm.kind, Sm.head] at s0 ⊢
    simp (maxSteps := 1000000) -implicitDefEqProofs (disch := omega) [qe8, s0]
theorem qjl (p : Pl) : callE T0 X0 qaa [.d (.agg p.cs)] [] = some (.ret [.d (.agg p.cs)] []) := by
  rw [qab (af := qhe) rfl rfl rfl]
  simp only [Pl.cs]
  simp -implicitDefEqProofs (disch := omega) [qhe]
end Go.Rf

namespace Go.Rf
set_option maxHeartbeats 4000000
def Sm.simple (n : Nat) : Sm → Bool
  | .set _ _ _ (some x) => (formV n x).2
  | .ifs _ _ _ _ _ => false
  | .ife _ _ _ _ _ _ _ => false
  | .while _ _ _ _ _ => false
  | _ => true
theorem q3j {vs : List (List UInt8)} {s : Sm} (h : s.fit vs) (hn : vs.length ≤ 16) : callE T0 X0 qp8 [.d s.d, .d (.int .i64 vs.length)] [] = some (.ret [.d (.bool (s.simple vs.length))] []) := by
  rw [qab (af := qgf) rfl rfl rfl]
  cases s with
  | set p v s e =>
    simp only [Sm.fit] at h
    cases e with
    | none =>
      simp (maxSteps := 1000000) -implicitDefEqProofs (disch := omega) [qgf, qah, qas, qao, qaw, qa1, qaz, qay, qaj, Sm.d, Sm.simple, oD]
    | some x =>
      have hx : Xok vs x := h.2.2.2.2
      have s1 := qpe vs.length hn x hx.fine (by have := hx.w; omega)
      simp only [Sm.d, Sm.simple, oD]
      generalize formV vs.length x = f at *
      simp (maxSteps := 1000000) -implicitDefEqProofs (disch := omega) [qgf, s1]
  | _ => simp (maxSteps := 1000000) -implicitDefEqProofs (disch := omega) [qgf, qah, qas, qao, qaw, qa1, qaz, qay, qaj, Sm.d, Sm.simple]
structure Wk where
  line : Int
  hard : List Int
  bad : Pl
def Wk.nl (w : Wk) : Wk := { w with line := w.line + 1 }
def Wk.see (w : Wk) (ok : Bool) (p : Pl) : Wk := if ok then w else { w with bad := if w.hard.length = 0 then p else w.bad, hard := w.hard ++ [w.line] }
mutual
def Sm.within (n : Nat) : Sm → Wk → Wk
  | .choose _ bs, w => Bls.walk n true bs w
  | .loop _ b, w => Sms.walk n b w
  | .ifs _ _ _ _ b, w => Sms.walk n b w
  | .ife _ _ _ _ b _ e, w => Sms.walk n e (Sms.walk n b w).nl
  | .while _ _ _ _ b, w => Sms.walk n b w
  | _, w => w
def Sms.walk (n : Nat) : List Sm → Wk → Wk
  | [], w => w
  | s :: l, w => Sms.walk n l (Sm.within n s (w.nl.see (s.simple n) s.at_))
def Bls.walk (n : Nat) (first : Bool) : List Bl → Wk → Wk
  | [], w => w
  | b :: l, w => Bls.walk n false l (Bl.walk n b (if first then w else w.nl))
def Bl.walk (n : Nat) : Bl → Wk → Wk
  | .mk _ b, w => Sms.walk n b w
end
structure Wk.le (w w' : Wk) (k : Nat) : Prop where
  l0 : w.line ≤ w'.line
  l1 : w'.line ≤ w.line + k
  h0 : w.hard.length ≤ w'.hard.length
  h1 : w'.hard.length ≤ w.hard.length + k
theorem Wk.le.refl (w : Wk) (k : Nat) : w.le w k := ⟨Int.le_refl _, by omega, Nat.le_refl _, by omega⟩
theorem Wk.le.trans {a b c : Wk} {j k : Nat} (h : a.le b j) (g : b.le c k) : a.le c (j + k) := ⟨Int.le_trans h.l0 g.l0, by have := h.l1; have := g.l1; omega, Nat.le_trans h.h0 g.h0, by have := h.h1; have := g.h1; omega⟩
theorem Wk.le.to {a b : Wk} {j k : Nat} (h : a.le b j) (hk : j ≤ k) : a.le b k := ⟨h.l0, by have := h.l1; omega, h.h0, by have := h.h1; omega⟩
theorem Wk.nl_le (w : Wk) : w.le w.nl 1 := ⟨by show w.line ≤ w.line + 1; omega, by show w.line + 1 ≤ w.line + 1; omega, Nat.le_refl _, Nat.le_succ _⟩
theorem Wk.see_le (w : Wk) (b p) : w.le (w.nl.see b p) 1 := by
  unfold Wk.see
  split
  · exact w.nl_le
  · exact ⟨by show w.line ≤ w.line + 1; omega, by show w.line + 1 ≤ w.line + 1; omega, by show _ ≤ (w.hard ++ [w.line + 1]).length; simp, by show (w.hard ++ [w.line + 1]).length ≤ _; simp⟩
mutual
theorem qut (n : Nat) : ∀ (s : Sm) (w : Wk), w.le (s.within n w) (s.sz - 1)
  | .choose _ bs, w => by simp only [Sm.within, Sm.sz]; exact (zbd n true bs w).to (by omega)
  | .loop _ b, w => by simp only [Sm.within, Sm.sz]; exact (qln n b w).to (by omega)
  | .ifs _ _ _ _ b, w => by simp only [Sm.within, Sm.sz]; exact (qln n b w).to (by omega)
  | .ife _ _ _ _ b _ e, w => by simp only [Sm.within, Sm.sz]; exact (((qln n b w).trans (Wk.nl_le _)).trans (qln n e _)).to (by omega)
  | .while _ _ _ _ b, w => by simp only [Sm.within, Sm.sz]; exact (qln n b w).to (by omega)
  | .set .., w => by simp only [Sm.within]; exact Wk.le.refl _ _
  | .skip _, w => by simp only [Sm.within]; exact Wk.le.refl _ _
  | .stop _, w => by simp only [Sm.within]; exact Wk.le.refl _ _
  | .mark .., w => by simp only [Sm.within]; exact Wk.le.refl _ _
theorem qln (n : Nat) : ∀ (l : List Sm) (w : Wk), w.le (Sms.walk n l w) (Sms.sz l)
  | [], w => by simp only [Sms.walk]; exact Wk.le.refl _ _
  | s :: l, w => by
    simp only [Sms.walk, Sms.sz]
    have h := ((Wk.see_le w (s.simple n) s.at_).trans (qut n s _)).trans (qln n l _)
    have : 1 ≤ s.sz := by cases s <;> simp only [Sm.sz] <;> omega
    exact h.to (by omega)
theorem zbd (n : Nat) (f : Bool) : ∀ (l : List Bl) (w : Wk), w.le (Bls.walk n f l w) (Bls.sz l)
  | [], w => by simp only [Bls.walk]; exact Wk.le.refl _ _
  | .mk p b :: l, w => by
    simp only [Bls.walk, Bl.walk, Bls.sz, Bl.sz]
    cases f
    · exact (((Wk.nl_le w).trans (qln n b _)).trans (zbd n false l _)).to (by omega)
    · exact ((qln n b w).trans (zbd n false l _)).to (by omega)
end
end Go.Rf
