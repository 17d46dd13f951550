/- Parts of the proof: RfMono. -/
import Derived.Test.YtbjfkjbdpnkknaaDoorRb1

/- More fuel changes no answer; the limit of all fuels satisfies the equations without fuel. -/
namespace Go.Rf

def CF.le (c c' : CF) : Prop := ∀ f vs h r, c f vs h = some r → c' f vs h = some r
theorem CF.le_refl (c : CF) : CF.le c c := fun _ _ _ _ h => h
theorem CF.le_trans {a b c : CF} (h : CF.le a b) (k : CF.le b c) : CF.le a c := fun f vs hp r e => k _ _ _ _ (h f vs hp r e)

theorem bind_mono {α β : Type} {x : Option α} {f g : α → Option β} {r : β} (e : bnd x f = some r) (h : ∀ a, f a = some r → g a = some r) : bnd x g = some r := by
  cases x with
  | none => cases e
  | some a => exact h a e

/-- In a row, the first part too. -/
theorem bnd_mono2 {α β : Type} {x y : Option α} {f g : α → Option β} {r : β} (e : bnd x f = some r) (hx : ∀ a, x = some a → y = some a) (h : ∀ a, f a = some r → g a = some r) : bnd y g = some r := by
  cases x with
  | none => cases e
  | some a => rw [hx a rfl]; exact h a e

theorem sel_mono {α : Type} {b : Bool} {x y x' y' : Option α} {r : α} (e : sel b x y = some r) (hx : x = some r → x' = some r) (hy : y = some r → y' = some r) : sel b x' y' = some r := by
  cases b with
  | true => exact hx e
  | false => exact hy e

theorem callEff_mono {c c' : CF} (hc : CF.le c c') {f i h args r} (e : callEff c f i h args = some r) : callEff c' f i h args = some r :=
  bind_mono e fun _ e => bind_mono e fun _ e => sel_mono e (fun e => bnd_mono2 e (fun _ h => hc _ _ _ _ h) fun _ e => e) id

theorem exec_mono {T : Tab} {c c' : CF} (hc : CF.le c c') {i op ev h r} (e : exec T c i op ev h = some r) : exec T c' i op ev h = some r := by
  cases op with
  | call f args => exact bind_mono e fun _ e => callEff_mono hc e
  | callV f args => exact bind_mono e fun _ e => bind_mono e fun _ e => bind_mono e fun ⟨_, _⟩ e => callEff_mono hc e
  | inv m x args =>
    refine bind_mono e fun _ e => bind_mono e fun _ e => bind_mono e fun ⟨_, _⟩ e => bind_mono e fun ⟨_, p⟩ e => ?_
    cases p with
    | none => exact callEff_mono hc e
    | some p => obtain ⟨_, _, _⟩ := p; exact bind_mono e fun _ e => callEff_mono hc e
  | _ => exact e

theorem step_mono {T : Tab} {c c' : CF} (hc : CF.le c c') {o s r} (e : step T c o s = some r) : step T c' o s = some r := by
  refine bind_mono e fun b e => ?_
  cases b with
  | false => exact e
  | true => exact bnd_mono2 e (fun _ h => exec_mono hc h) fun _ e => e

theorem runL_mono {T : Tab} {c c' : CF} (hc : CF.le c c') : ∀ {os s rs r}, runL T c os s rs = some r → runL T c' os s rs = some r
  | [], _, _, _, e => e
  | o :: os, s, rs, r, e => by
    refine bnd_mono2 e (fun _ h => step_mono hc h) fun x e => ?_
    cases x with
    | go s' r' => exact runL_mono hc e
    | pan v s' r' => exact e
    | out => exact e

theorem execD_mono {T : Tab} {c c' : CF} (hc : CF.le c c') {i op A ev h r} (e : execD T c i op A ev h = some r) : execD T c' i op A ev h = some r :=
  sel_mono e (exec_mono hc) (exec_mono hc)

theorem stepD_mono {T : Tab} {c c' : CF} (hc : CF.le c c') {o A s r} (e : stepD T c o A s = some r) : stepD T c' o A s = some r := by
  refine bind_mono e fun b e => ?_
  cases b with
  | false => exact e
  | true => exact bnd_mono2 e (fun _ h => execD_mono hc h) fun _ e => e

theorem runD_mono {T : Tab} {c c' : CF} (hc : CF.le c c') {ps es} : ∀ {os s rs r}, runD T c ps es os s rs = some r → runD T c' ps es os s rs = some r
  | [], _, _, _, e => e
  | o :: os, s, rs, r, e => by
    refine bnd_mono2 e (fun _ h => stepD_mono hc h) fun x e => ?_
    cases x with
    | go s' r' => exact runD_mono hc e
    | pan v s' r' => exact e
    | out => exact e

theorem region_mono {T : Tab} {c c' : CF} (hc : CF.le c c') {pin ops draw keep st r} (e : region T c pin ops draw keep st = some r) : region T c' pin ops draw keep st = some r := by
  cases draw with
  | none => exact bnd_mono2 e (fun _ h => runL_mono hc h) fun _ e => e
  | some d => exact bnd_mono2 e (fun _ h => runD_mono hc h) fun _ e => e

theorem loopN_mono {f g : St → Option (Ex × St)} (hfg : ∀ st r, f st = some r → g st = some r) : ∀ {n m : Nat} {st r}, n ≤ m → loopN n f st = some r → loopN m g st = some r
  | 0, _, _, _, _, e => by cases e
  | n + 1, 0, _, _, h, _ => by omega
  | n + 1, m + 1, st, r, h, e => by
    unfold loopN at *
    cases hf : f st with
    | none => rw [hf] at e; cases e
    | some x =>
      rw [hf] at e; rw [hfg _ _ hf]
      obtain ⟨ex, st'⟩ := x
      cases ex with
      | nrm => exact loopN_mono hfg (by omega) e
      | exit id => exact e
      | ret => exact e
      | pan v => exact e
      | out => exact e

theorem code_mono {T : Tab} {c c' : CF} (hc : CF.le c c') {pin n m : Nat} (hn : n ≤ m) : ∀ (a : ACode) {st r}, code T c pin n a st = some r → code T c' pin m a st = some r
  | .skip, _, _, e => e
  | .region ops draw keep, _, _, e => region_mono hc e
  | .seq a b, st, r, e => by
    unfold code at *
    cases ha : code T c pin n a st with
    | none => rw [ha] at e; cases e
    | some x =>
      rw [ha] at e; rw [code_mono hc hn a ha]
      obtain ⟨ex, st'⟩ := x
      cases ex with
      | nrm => exact code_mono hc hn b e
      | exit id => exact e
      | ret => exact e
      | pan v => exact e
      | out => exact e
  | .cond o a b, st, r, e => by
    unfold code at *
    split at e
    · exact code_mono hc hn a e
    · exact code_mono hc hn b e
    · cases e
  | .block id a, st, r, e => by
    unfold code at *
    cases ha : code T c pin n a st with
    | none => rw [ha] at e; cases e
    | some x => rw [ha] at e; rw [code_mono hc hn a ha]; exact e
  | .loop keep a, st, r, e => by
    unfold code at *
    refine loopN_mono (fun st r h => ?_) hn e
    cases he : endR pin keep st.env (ofList st.heap) with
    | none => rw [he] at h; cases h
    | some x => rw [he] at h; exact code_mono hc hn a h
  | .exit _ _, _, _, e => e
  | .scope a, st, r, e => by
    unfold code at *
    exact code_mono hc hn a e
  | .ret, _, _, e => e
  | .refuse, _, _, e => e

/-- The externals go by what they call, and more of that changes no answer. -/
class Exts.Mono (X : Exts) : Prop where
  le : ∀ f e, X.run f = some e → ∀ c c', CF.le c c' → ∀ vs h r, e c vs h = some r → e c' vs h = some r

theorem recG_mono {cd cd' : Nat → ACode → St → Option (Ex × St)} (h : ∀ p a st x, cd p a st = some x → cd' p a st = some x) {r vs heap x} (e : recG cd r vs heap = some x) : recG cd' r vs heap = some x := by
  unfold recG at *
  split at e
  · rename_i hl
    rw [if_pos hl]
    cases h1 : cd heap.length r.pre { env := (List.range r.np).zip vs, heap } with
    | none => rw [h1] at e; cases e
    | some y =>
      rw [h1] at e
      rw [h _ _ _ _ h1]
      obtain ⟨ex, st⟩ := y
      cases ex with
      | nrm =>
        refine bind_mono (show bnd _ _ = some x from e) fun cs e => ?_
        cases h2 : cd st.heap.length r.body { env := (r.t, .junk) :: st.env, heap := st.heap } with
        | none => rw [h2] at e; cases e
        | some z =>
          rw [h2] at e
          rw [h _ _ _ _ h2]
          have hh : ∀ v hp, hEnd heap.length r.res (recEnv r st.env) (cd (List.length hp) r.hcode { env := (r.hv, v) :: (List.range cs.length).zip cs, heap := hp }) = some x → hEnd heap.length r.res (recEnv r st.env) (cd' (List.length hp) r.hcode { env := (r.hv, v) :: (List.range cs.length).zip cs, heap := hp }) = some x := by
            intro v hp e
            cases h3 : cd (List.length hp) r.hcode { env := (r.hv, v) :: (List.range cs.length).zip cs, heap := hp } with
            | none => rw [h3] at e; cases e
            | some u => rw [h _ _ _ _ h3]; rw [h3] at e; exact e
          obtain ⟨ex, st2⟩ := z
          cases ex with
          | nrm => exact hh _ _ e
          | ret => exact hh _ _ e
          | pan v => cases v <;> first | (cases e; done) | (rename_i y; cases y <;> first | (cases e; done) | exact hh _ _ e)
          | out => exact e
          | exit id => cases e
      | ret => exact e
      | pan v => exact e
      | out => exact e
      | exit id => cases e
  · cases e

/-- What a limit does, one of its members does. -/
theorem recG_fin {cd : Nat → ACode → St → Option (Ex × St)} {g : Nat → Nat → ACode → St → Option (Ex × St)} (hg : ∀ n m, n ≤ m → ∀ p a st x, g n p a st = some x → g m p a st = some x) (h : ∀ p a st x, cd p a st = some x → ∃ n, g n p a st = some x)
    {r vs heap x} (e : recG cd r vs heap = some x) : ∃ n, recG (g n) r vs heap = some x := by
  unfold recG at *
  split at e
  · rename_i hl
    simp only [if_pos hl]
    cases h1 : cd heap.length r.pre { env := (List.range r.np).zip vs, heap } with
    | none => rw [h1] at e; cases e
    | some y =>
      rw [h1] at e
      obtain ⟨n1, k1⟩ := h _ _ _ _ h1
      obtain ⟨ex, st⟩ := y
      cases ex with
      | nrm =>
        cases hs : slotsV st.env r.caps with
        | none => simp only [pEnd, hs, bnd_none] at e; cases e
        | some cs =>
          simp only [pEnd, hs, bnd_some] at e
          cases h2 : cd st.heap.length r.body { env := (r.t, .junk) :: st.env, heap := st.heap } with
          | none => rw [h2] at e; cases e
          | some z =>
            rw [h2] at e
            obtain ⟨n2, k2⟩ := h _ _ _ _ h2
            have hh : ∀ v hp, hEnd heap.length r.res (recEnv r st.env) (cd (List.length hp) r.hcode { env := (r.hv, v) :: (List.range cs.length).zip cs, heap := hp }) = some x → ∃ n, hEnd heap.length r.res (recEnv r st.env) (g n (List.length hp) r.hcode { env := (r.hv, v) :: (List.range cs.length).zip cs, heap := hp }) = some x ∧ n1 ≤ n ∧ n2 ≤ n := by
              intro v hp e
              cases h3 : cd (List.length hp) r.hcode { env := (r.hv, v) :: (List.range cs.length).zip cs, heap := hp } with
              | none => rw [h3] at e; cases e
              | some u =>
                obtain ⟨n3, k3⟩ := h _ _ _ _ h3
                refine ⟨max n3 (max n1 n2), ?_, by omega, by omega⟩
                rw [hg n3 _ (by omega) _ _ _ _ k3]
                rw [h3] at e; exact e
            obtain ⟨ex, st2⟩ := z
            cases ex with
            | nrm =>
              obtain ⟨n, a1, a2, a3⟩ := hh _ _ e
              exact ⟨n, by rw [hg n1 n a2 _ _ _ _ k1]; simp only [pEnd, hs, bnd_some]; rw [hg n2 n a3 _ _ _ _ k2]; exact a1⟩
            | ret =>
              obtain ⟨n, a1, a2, a3⟩ := hh _ _ e
              exact ⟨n, by rw [hg n1 n a2 _ _ _ _ k1]; simp only [pEnd, hs, bnd_some]; rw [hg n2 n a3 _ _ _ _ k2]; exact a1⟩
            | pan v =>
              cases v <;> first | (cases e; done) | skip
              rename_i y
              cases y <;> first | (cases e; done) | skip
              obtain ⟨n, a1, a2, a3⟩ := hh _ _ e
              exact ⟨n, by rw [hg n1 n a2 _ _ _ _ k1]; simp only [pEnd, hs, bnd_some]; rw [hg n2 n a3 _ _ _ _ k2]; exact a1⟩
            | out =>
              refine ⟨max n1 n2, ?_⟩
              rw [hg n1 _ (by omega) _ _ _ _ k1]; simp only [pEnd, hs, bnd_some]; rw [hg n2 _ (by omega) _ _ _ _ k2]; exact e
            | exit id => cases e
      | ret => exact ⟨n1, by rw [k1]; exact e⟩
      | pan v => exact ⟨n1, by rw [k1]; exact e⟩
      | out => exact ⟨n1, by rw [k1]; exact e⟩
      | exit id => cases e
  · cases e

theorem call_succ {T : Tab} {X : Exts} [X.Mono] : ∀ n, CF.le (call T X n) (call T X (n + 1))
  | 0 => fun _ _ _ _ e => by cases e
  | n + 1 => fun f vs h r e => by
    have ih := call_succ (T := T) (X := X) n
    unfold call at e ⊢
    cases hx : X.run f with
    | some ex => simp only [hx] at e ⊢; exact Exts.Mono.le f ex hx _ _ ih _ _ _ e
    | none =>
      simp only [hx] at e ⊢
      split at e
      · split at e
        · exact recG_mono (fun p a st x h => code_mono ih (Nat.le_succ n) a h) e
        · cases e
      · rename_i af haf
        split at e
        · rename_i hl
          simp only [hl, if_true]
          cases hcd : code T (call T X n) h.length n af.code { env := (List.range af.np).zip vs, heap := h } with
          | none => simp only [hcd] at e; cases e
          | some x =>
            have hcd' := code_mono (T := T) ih (pin := h.length) (Nat.le_succ n) af.code hcd
            simp only [hcd] at e
            simp only [hcd']
            exact e
        · cases e

theorem call_mono {T : Tab} {X : Exts} [X.Mono] {n m : Nat} (h : n ≤ m) : CF.le (call T X n) (call T X m) := by
  induction h with
  | refl => exact CF.le_refl _
  | step _ ih => exact CF.le_trans ih (call_succ _)

/-! ### The limit -/
open Classical in
noncomputable def lim {α : Type} (g : Nat → Option α) : Option α := if h : ∃ r n, g n = some r then some h.choose else none

theorem lim_eq {α : Type} {g : Nat → Option α} (hg : ∀ n m r, n ≤ m → g n = some r → g m = some r) {n : Nat} {r : α} (h : g n = some r) : lim g = some r := by
  have hex : ∃ r n, g n = some r := ⟨r, n, h⟩
  unfold lim
  rw [dif_pos hex]
  obtain ⟨m, hm⟩ := hex.choose_spec
  have h1 := hg n (max n m) r (Nat.le_max_left ..) h
  have h2 := hg m (max n m) _ (Nat.le_max_right ..) hm
  rw [h1] at h2
  injection h2 with h2
  rw [h2]

theorem lim_some {α : Type} {g : Nat → Option α} {r : α} (h : lim g = some r) : ∃ n, g n = some r := by
  unfold lim at h
  split at h
  · rename_i hex
    injection h with h
    subst h
    exact hex.choose_spec
  · cases h

variable (T : Tab) (X : Exts)
noncomputable def callE : CF := fun f vs h => lim (fun n => call T X n f vs h)
noncomputable def codeE (pin : Nat) (a : ACode) (st : St) : Option (Ex × St) := lim (fun n => code T (call T X n) pin n a st)

variable {T X}
theorem callE_some {f vs h r} : callE T X f vs h = some r → ∃ n, call T X n f vs h = some r := lim_some
theorem callE_of [X.Mono] {f vs h r n} (e : call T X n f vs h = some r) : callE T X f vs h = some r :=
  lim_eq (fun _ _ _ hnm he => call_mono hnm _ _ _ _ he) e
theorem codeE_some {pin a st r} : codeE T X pin a st = some r → ∃ n, code T (call T X n) pin n a st = some r := lim_some
theorem codeE_of [X.Mono] {pin a st r n} (e : code T (call T X n) pin n a st = some r) : codeE T X pin a st = some r :=
  lim_eq (fun _ _ _ hnm he => code_mono (call_mono hnm) hnm _ he) e

theorem bnd_fin {α β : Type} {x : Option α} {f : α → Option β} {g : Nat → α → Option β} {r : β} (e : bnd x f = some r) (h : ∀ a, f a = some r → ∃ n, g n a = some r) : ∃ n, bnd x (g n) = some r := by
  cases x with
  | none => cases e
  | some a => exact h a e

/-- What a call does by the limit, it does by some fuel. -/
theorem callEff_fin {f i h args r} (e : callEff (callE T X) f i h args = some r) : ∃ n, callEff (call T X n) f i h args = some r := by
  refine bnd_fin e fun a e => bnd_fin e fun b e => ?_
  cases hb : b.1.all fitV with
  | false => rw [hb] at e; exact ⟨0, e⟩
  | true =>
  rw [hb] at e
  cases hcf : callE T X f b.1 b.2.1 with
  | none => rw [hcf] at e; cases e
  | some x =>
    obtain ⟨n, hn⟩ := callE_some hcf
    exact ⟨n, by rw [hn]; rw [hcf] at e; exact e⟩

theorem exec_fin {i op ev h r} (e : exec T (callE T X) i op ev h = some r) : ∃ n, exec T (call T X n) i op ev h = some r := by
  cases op with
  | call f args => exact bnd_fin e fun _ e => callEff_fin e
  | callV f args => exact bnd_fin e fun _ e => bnd_fin e fun _ e => bnd_fin e fun ⟨_, _⟩ e => callEff_fin e
  | inv m x args =>
    refine bnd_fin e fun _ e => bnd_fin e fun _ e => bnd_fin e fun ⟨_, _⟩ e => bnd_fin e fun ⟨_, p⟩ e => ?_
    cases p with
    | none => exact callEff_fin e
    | some p => obtain ⟨_, _, _⟩ := p; exact bnd_fin e fun _ e => callEff_fin e
  | _ => exact ⟨0, e⟩

theorem step_fin {o s r} (e : step T (callE T X) o s = some r) : ∃ n, step T (call T X n) o s = some r := by
  refine bnd_fin e fun b e => ?_
  cases b with
  | false => exact ⟨0, e⟩
  | true =>
    cases hx : exec T (callE T X) o.i o.op (evO s.env) s.h with
    | none => rw [hx] at e; cases e
    | some x =>
      obtain ⟨n, hn⟩ := exec_fin hx
      exact ⟨n, by rw [hn]; rw [hx] at e; exact e⟩

theorem runL_fin [X.Mono] (os : List AIns) : ∀ (s : RS) (rs : List Rec) (r : RR × List Rec), runL T (callE T X) os s rs = some r → ∃ n, runL T (call T X n) os s rs = some r := by
  induction os with
  | nil => exact fun s rs r e => ⟨0, e⟩
  | cons o os ih =>
    intro s rs r e
    rw [runL] at e
    cases hs : step T (callE T X) o s with
    | none => rw [hs, bnd_none] at e; cases e
    | some x =>
      rw [hs, bnd_some] at e
      obtain ⟨n, hn⟩ := step_fin hs
      cases x with
      | go s' r' =>
        obtain ⟨m, hm⟩ := ih s' (r' :: rs) r e
        refine ⟨max n m, ?_⟩
        rw [runL, step_mono (call_mono (Nat.le_max_left n m)) hn, bnd_some]
        exact runL_mono (call_mono (Nat.le_max_right n m)) hm
      | pan v s' r' => exact ⟨n, by rw [runL, hn, bnd_some]; exact e⟩
      | out => exact ⟨n, by rw [runL, hn, bnd_some]; exact e⟩

theorem execD_fin {i op A ev h r} (e : execD T (callE T X) i op A ev h = some r) : ∃ n, execD T (call T X n) i op A ev h = some r := by
  unfold execD at *
  cases hc : isCall op with
  | true => rw [hc] at e; exact exec_fin e
  | false => rw [hc] at e; exact exec_fin e

theorem stepD_fin {o A s r} (e : stepD T (callE T X) o A s = some r) : ∃ n, stepD T (call T X n) o A s = some r := by
  refine bnd_fin e fun b e => ?_
  cases b with
  | false => exact ⟨0, e⟩
  | true =>
    cases hx : execD T (callE T X) o.i o.op A (evO s.env) s.h with
    | none => rw [hx] at e; cases e
    | some x =>
      obtain ⟨n, hn⟩ := execD_fin hx
      exact ⟨n, by rw [hn]; rw [hx] at e; exact e⟩

theorem runD_fin [X.Mono] {ps es} (os : List AIns) : ∀ (s : RS) (rs : List Rec) (r : RR × List Rec), runD T (callE T X) ps es os s rs = some r → ∃ n, runD T (call T X n) ps es os s rs = some r := by
  induction os with
  | nil => exact fun s rs r e => ⟨0, e⟩
  | cons o os ih =>
    intro s rs r e
    rw [runD] at e
    cases hs : stepD T (callE T X) o (footOf o.op (evO s.env) s.h) s with
    | none => rw [hs, bnd_none] at e; cases e
    | some x =>
      rw [hs, bnd_some] at e
      obtain ⟨n, hn⟩ := stepD_fin hs
      cases x with
      | go s' r' =>
        obtain ⟨m, hm⟩ := ih s' (r' :: rs) r e
        refine ⟨max n m, ?_⟩
        rw [runD, stepD_mono (call_mono (Nat.le_max_left n m)) hn, bnd_some]
        exact runD_mono (call_mono (Nat.le_max_right n m)) hm
      | pan v s' r' => exact ⟨n, by rw [runD, hn, bnd_some]; exact e⟩
      | out => exact ⟨n, by rw [runD, hn, bnd_some]; exact e⟩

theorem region_fin [X.Mono] {pin ops draw keep st r} (e : region T (callE T X) pin ops draw keep st = some r) : ∃ n, region T (call T X n) pin ops draw keep st = some r := by
  unfold region at *
  cases draw with
  | none =>
    simp only [onO_none] at *
    cases hr : runL T (callE T X) ops { env := st.env, h := ofList st.heap } [] with
    | none => rw [hr] at e; cases e
    | some x =>
      obtain ⟨n, hn⟩ := runL_fin _ _ _ _ hr
      exact ⟨n, by rw [hn]; rw [hr] at e; exact e⟩
  | some d =>
    simp only [onO_some] at *
    cases hr : runD T (callE T X) d.1 d.2 ops { env := st.env, h := ofList st.heap } [] with
    | none => rw [hr] at e; cases e
    | some x =>
      obtain ⟨n, hn⟩ := runD_fin _ _ _ _ hr
      exact ⟨n, by rw [hn]; rw [hr] at e; exact e⟩

/-! ### The equations, as far as they are needed: from what the parts do to what the whole does -/
section
variable [X.Mono] {pin : Nat} {st : St}
theorem eSkip : codeE T X pin .skip st = some (.nrm, st) := codeE_of (n := 0) rfl
theorem eExit {id keep r} (h : (bnd (endR pin keep st.env (ofList st.heap)) fun st => some (Ex.exit id, st)) = some r) : codeE T X pin (.exit id keep) st = some r := codeE_of (n := 0) h
theorem eRet : codeE T X pin .ret st = some (.ret, st) := codeE_of (n := 0) rfl
theorem eRegion {ops draw keep r} (e : region T (callE T X) pin ops draw keep st = some r) : codeE T X pin (.region ops draw keep) st = some r := by
  obtain ⟨n, hn⟩ := region_fin e
  exact codeE_of (n := n) hn
theorem eSeq {a b st' r} (ha : codeE T X pin a st = some (.nrm, st')) (hb : codeE T X pin b st' = some r) : codeE T X pin (.seq a b) st = some r := by
  obtain ⟨n, hn⟩ := codeE_some ha
  obtain ⟨m, hm⟩ := codeE_some hb
  refine codeE_of (n := max n m) ?_
  unfold code
  rw [code_mono (call_mono (Nat.le_max_left n m)) (Nat.le_max_left n m) a hn]
  exact code_mono (call_mono (Nat.le_max_right n m)) (Nat.le_max_right n m) b hm
theorem eSeqX {a b x st'} (ha : codeE T X pin a st = some (x, st')) (hx : x ≠ .nrm) : codeE T X pin (.seq a b) st = some (x, st') := by
  obtain ⟨n, hn⟩ := codeE_some ha
  refine codeE_of (n := n) ?_
  unfold code
  rw [hn]
  cases x with
  | nrm => exact absurd rfl hx
  | _ => rfl
theorem eCondT {c a b r} (hc : evO st.env c = some (.d (.bool true))) (h : codeE T X pin a st = some r) : codeE T X pin (.cond c a b) st = some r := by
  obtain ⟨n, hn⟩ := codeE_some h
  refine codeE_of (n := n) ?_
  unfold code
  rw [hc]; exact hn
theorem eCondF {c a b r} (hc : evO st.env c = some (.d (.bool false))) (h : codeE T X pin b st = some r) : codeE T X pin (.cond c a b) st = some r := by
  obtain ⟨n, hn⟩ := codeE_some h
  refine codeE_of (n := n) ?_
  unfold code
  rw [hc]; exact hn
theorem eBlock {id a x st'} (h : codeE T X pin a st = some (x, st')) : codeE T X pin (.block id a) st = some (match x with | .exit i => if i = id then .nrm else .exit i | x => x, st') := by
  obtain ⟨n, hn⟩ := codeE_some h
  refine codeE_of (n := n) ?_
  unfold code
  rw [hn]
  cases x with
  | exit i => simp only; split <;> rfl
  | _ => rfl
theorem eScope {a r} (h : codeE T X pin a st = some r) : codeE T X pin (.scope a) st = some r := by
  obtain ⟨n, hn⟩ := codeE_some h
  exact codeE_of (n := n) (by unfold code; exact hn)
/-- One round, and then the loop again. -/
theorem eLoop {keep a st1 st2 r} (hk : endR pin keep st.env (ofList st.heap) = some st1) (h : codeE T X pin a st1 = some (.nrm, st2)) (hl : codeE T X pin (.loop keep a) st2 = some r) : codeE T X pin (.loop keep a) st = some r := by
  obtain ⟨n, hn⟩ := codeE_some h
  obtain ⟨m, hm⟩ := codeE_some hl
  refine codeE_of (n := max n m + 1) ?_
  unfold code
  unfold loopN
  simp only [hk]
  rw [code_mono (call_mono (by omega : n ≤ max n m + 1)) (by omega) a hn]
  unfold code at hm
  refine loopN_mono (fun st r h => ?_) (Nat.le_max_right n m) hm
  cases he : endR pin keep st.env (ofList st.heap) with
  | none => rw [he] at h; cases h
  | some x => rw [he] at h; exact code_mono (call_mono (by omega)) (by omega) a h
theorem eLoopX {keep a st1 x st2} (hk : endR pin keep st.env (ofList st.heap) = some st1) (h : codeE T X pin a st1 = some (x, st2)) (hx : x ≠ .nrm) : codeE T X pin (.loop keep a) st = some (x, st2) := by
  obtain ⟨n, hn⟩ := codeE_some h
  refine codeE_of (n := n + 1) ?_
  unfold code
  unfold loopN
  simp only [hk]
  rw [code_mono (call_mono (by omega : n ≤ n + 1)) (by omega) a hn]
  cases x with
  | nrm => exact absurd rfl hx
  | _ => rfl
theorem eCall {f af vs heap x st' r} (hx : X.run f = none) (hf : T.funs f = some af) (hl : vs.length = af.np)
    (h : codeE T X heap.length af.code { env := (List.range af.np).zip vs, heap } = some (x, st')) (hr : x = .nrm ∨ x = .ret) (he : finish heap.length af.res st' = some r) : callE T X f vs heap = some r := by
  obtain ⟨n, hn⟩ := codeE_some h
  refine callE_of (n := n + 1) ?_
  unfold call
  simp only [hx, hf, hl, if_true]
  rw [hn]
  rcases hr with rfl | rfl <;> exact he
theorem eCallP {f af vs heap v st'} (hx : X.run f = none) (hf : T.funs f = some af) (hl : vs.length = af.np)
    (h : codeE T X heap.length af.code { env := (List.range af.np).zip vs, heap } = some (.pan v, st')) : callE T X f vs heap = some (.pan v st'.heap) := by
  obtain ⟨n, hn⟩ := codeE_some h
  refine callE_of (n := n + 1) ?_
  unfold call
  simp only [hx, hf, hl, if_true]
  rw [hn]

theorem eCallO {f af vs heap st'} (hx : X.run f = none) (hf : T.funs f = some af) (hl : vs.length = af.np)
    (h : codeE T X heap.length af.code { env := (List.range af.np).zip vs, heap } = some (.out, st')) : callE T X f vs heap = some .out := by
  obtain ⟨n, hn⟩ := codeE_some h
  refine callE_of (n := n + 1) ?_
  unfold call
  simp only [hx, hf, hl, if_true]
  rw [hn]
theorem opt_ext {α : Type} {x y : Option α} (h : ∀ r, x = some r → y = some r) (k : ∀ r, y = some r → x = some r) : x = y := by
  cases x with
  | some a => rw [h a rfl]
  | none => cases y with
    | none => rfl
    | some b => exact k b rfl

/-- What follows in a row. -/
def seqE (x : Option (Ex × St)) (k : St → Option (Ex × St)) : Option (Ex × St) := match x with
  | some (.nrm, st') => k st'
  | r => r
theorem seqE_nrm (st k) : seqE (some (.nrm, st)) k = k st := rfl
theorem seqE_exit (i st k) : seqE (some (.exit i, st)) k = some (.exit i, st) := rfl
theorem seqE_ret (st k) : seqE (some (.ret, st)) k = some (.ret, st) := rfl
theorem seqE_pan (v st k) : seqE (some (.pan v, st)) k = some (.pan v, st) := rfl
theorem seqE_out (st k) : seqE (some (.out, st)) k = some (.out, st) := rfl
def condE (x : Option V) (a b : Option (Ex × St)) : Option (Ex × St) := match x with
  | some (.d (.bool true)) => a
  | some (.d (.bool false)) => b
  | _ => none
theorem condE_bool (c : Bool) (a b) : condE (some (.d (.bool c))) a b = sel c a b := by cases c <;> rfl
def blockE (id : Nat) (x : Option (Ex × St)) : Option (Ex × St) := match x with
  | some (.exit id', st') => if id' = id then some (.nrm, st') else some (.exit id', st')
  | r => r
@[simp] theorem blockE_nrm (i st) : blockE i (some (.nrm, st)) = some (.nrm, st) := rfl
@[simp] theorem blockE_exit (i j st) : blockE i (some (.exit j, st)) = if j = i then some (.nrm, st) else some (.exit j, st) := rfl
@[simp] theorem blockE_ret (i st) : blockE i (some (.ret, st)) = some (.ret, st) := rfl
@[simp] theorem blockE_pan (i v st) : blockE i (some (.pan v, st)) = some (.pan v, st) := rfl
@[simp] theorem blockE_out (i st) : blockE i (some (.out, st)) = some (.out, st) := rfl
def endE (x : Option (Ex × St)) (k : St → Option CRes) : Option CRes := match x with
  | some (.nrm, st) => k st
  | some (.ret, st) => k st
  | some (.pan v, st) => some (.pan v st.heap)
  | some (.out, _) => some .out
  | _ => none
theorem endE_nrm (st k) : endE (some (.nrm, st)) k = k st := rfl
theorem endE_ret (st k) : endE (some (.ret, st)) k = k st := rfl
theorem endE_pan (v st k) : endE (some (.pan v, st)) k = some (.pan v st.heap) := rfl
theorem endE_out (st k) : endE (some (.out, st)) k = some .out := rfl

theorem codeE_exit {id keep} : codeE T X pin (.exit id keep) st = bnd (endR pin keep st.env (ofList st.heap)) fun st => some (.exit id, st) := by
  refine opt_ext (fun r h => ?_) (fun r h => eExit h)
  obtain ⟨n, hn⟩ := codeE_some h
  exact hn
theorem codeE_skip : codeE T X pin .skip st = some (.nrm, st) := eSkip

theorem codeE_ret : codeE T X pin .ret st = some (.ret, st) := eRet
theorem codeE_region {ops draw keep} : codeE T X pin (.region ops draw keep) st = region T (callE T X) pin ops draw keep st := by
  refine opt_ext (fun r h => ?_) (fun r h => eRegion h)
  obtain ⟨n, hn⟩ := codeE_some h
  refine region_mono (fun f vs hp r e => callE_of e) hn
theorem codeE_seq {a b} : codeE T X pin (.seq a b) st = seqE (codeE T X pin a st) (fun st' => codeE T X pin b st') := by
  refine opt_ext (fun r h => ?_) (fun r h => ?_)
  · obtain ⟨n, hn⟩ := codeE_some h
    unfold code at hn
    cases ha : code T (call T X n) pin n a st with
    | none => rw [ha] at hn; cases hn
    | some x =>
      rw [codeE_of ha]
      rw [ha] at hn
      obtain ⟨ex, st'⟩ := x
      cases ex with
      | nrm => exact codeE_of hn
      | exit id => exact hn
      | ret => exact hn
      | pan v => exact hn
      | out => exact hn
  · cases ha : codeE T X pin a st with
    | none => rw [ha] at h; cases h
    | some x =>
      rw [ha] at h
      obtain ⟨ex, st'⟩ := x
      cases ex with
      | nrm => exact eSeq ha h
      | exit id => cases h; exact eSeqX ha (by simp)
      | ret => cases h; exact eSeqX ha (by simp)
      | pan v => cases h; exact eSeqX ha (by simp)
      | out => cases h; exact eSeqX ha (by simp)
theorem codeE_cond {c a b} : codeE T X pin (.cond c a b) st = condE (evO st.env c) (codeE T X pin a st) (codeE T X pin b st) := by
  refine opt_ext (fun r h => ?_) (fun r h => ?_)
  · obtain ⟨n, hn⟩ := codeE_some h
    unfold code at hn
    split at hn
    · rename_i hc; rw [hc]; exact codeE_of hn
    · rename_i hc; rw [hc]; exact codeE_of hn
    · cases hn
  · unfold condE at h
    split at h
    · rename_i hc; exact eCondT hc h
    · rename_i hc; exact eCondF hc h
    · cases h
theorem codeE_block {id a} : codeE T X pin (.block id a) st = blockE id (codeE T X pin a st) := by
  refine opt_ext (fun r h => ?_) (fun r h => ?_)
  · obtain ⟨n, hn⟩ := codeE_some h
    unfold code at hn
    cases ha : code T (call T X n) pin n a st with
    | none => rw [ha] at hn; cases hn
    | some x => rw [codeE_of ha]; rw [ha] at hn; exact hn
  · cases ha : codeE T X pin a st with
    | none => rw [ha] at h; cases h
    | some x =>
      rw [ha] at h
      obtain ⟨ex, st'⟩ := x
      cases ex with
      | exit i =>
        rw [eBlock ha]
        simp only [blockE_exit] at h ⊢
        split at h <;> rename_i hi <;> simp only [hi, if_true, if_false] <;> exact h
      | nrm => cases h; exact eBlock ha
      | ret => cases h; exact eBlock ha
      | pan v => cases h; exact eBlock ha
      | out => cases h; exact eBlock ha
theorem codeE_scope {a} : codeE T X pin (.scope a) st = codeE T X pin a st := by
  refine opt_ext (fun r h => ?_) (fun r h => eScope h)
  obtain ⟨n, hn⟩ := codeE_some h
  exact codeE_of (n := n) (by unfold code at hn; exact hn)
theorem codeE_loop {keep a} : codeE T X pin (.loop keep a) st = bnd (endR pin keep st.env (ofList st.heap)) fun st1 => seqE (codeE T X pin a st1) fun st2 => codeE T X pin (.loop keep a) st2 := by
  refine opt_ext (fun r h => ?_) (fun r h => ?_)
  · obtain ⟨n, hn⟩ := codeE_some h
    unfold code at hn
    cases n with
    | zero => cases hn
    | succ n =>
      unfold loopN at hn
      cases hk : endR pin keep st.env (ofList st.heap) with
      | none => simp only [hk] at hn; cases hn
      | some st1 =>
        simp only [hk] at hn
        rw [bnd_some]
        cases ha : code T (call T X (n + 1)) pin (n + 1) a st1 with
        | none => rw [ha] at hn; cases hn
        | some x =>
          rw [codeE_of ha]
          rw [ha] at hn
          obtain ⟨ex, st2⟩ := x
          cases ex with
          | nrm =>
            refine codeE_of (n := n + 1) ?_
            unfold code
            exact loopN_mono (fun _ _ h => h) (Nat.le_succ n) hn
          | exit id => exact hn
          | ret => exact hn
          | pan v => exact hn
          | out => exact hn
  · cases hk : endR pin keep st.env (ofList st.heap) with
    | none => rw [hk] at h; cases h
    | some st1 =>
      rw [hk] at h
      simp only [bnd_some] at h
      cases ha : codeE T X pin a st1 with
      | none => rw [ha] at h; cases h
      | some x =>
        rw [ha] at h
        obtain ⟨ex, st2⟩ := x
        cases ex with
        | nrm => exact eLoop hk ha h
        | exit id => cases h; exact eLoopX hk ha (by simp)
        | ret => cases h; exact eLoopX hk ha (by simp)
        | pan v => cases h; exact eLoopX hk ha (by simp)
        | out => cases h; exact eLoopX hk ha (by simp)
theorem callE_rec {f r vs heap} (hx : X.run f = none) (hf : T.funs f = none) (hr : T.recs f = some r) : callE T X f vs heap = recG (fun p a st => codeE T X p a st) r vs heap := by
  refine opt_ext (fun x h => ?_) (fun x h => ?_)
  · obtain ⟨n, hn⟩ := callE_some h
    cases n with
    | zero => cases hn
    | succ n =>
      unfold call at hn
      simp only [hx, hf, hr] at hn
      exact recG_mono (fun p a st x h => codeE_of h) hn
  · obtain ⟨n, hn⟩ := recG_fin (g := fun n p a st => code T (call T X n) p n a st) (fun n m hnm p a st x h => code_mono (call_mono hnm) hnm a h) (fun p a st x h => codeE_some h) h
    refine callE_of (n := n + 1) ?_
    unfold call
    simp only [hx, hf, hr]
    exact hn
theorem callE_fun {f af vs heap} (hx : X.run f = none) (hf : T.funs f = some af) (hl : vs.length = af.np) :
    callE T X f vs heap = endE (codeE T X heap.length af.code { env := (List.range af.np).zip vs, heap }) (finish heap.length af.res) := by
  refine opt_ext (fun r h => ?_) (fun r h => ?_)
  · obtain ⟨n, hn⟩ := callE_some h
    cases n with
    | zero => cases hn
    | succ n =>
      unfold call at hn
      simp only [hx, hf, hl, if_true] at hn
      cases hc : code T (call T X n) heap.length n af.code { env := (List.range af.np).zip vs, heap } with
      | none => rw [hc] at hn; cases hn
      | some x => rw [codeE_of hc]; rw [hc] at hn; exact hn
  · cases hc : codeE T X heap.length af.code { env := (List.range af.np).zip vs, heap } with
    | none => rw [hc] at h; cases h
    | some x =>
      rw [hc] at h
      obtain ⟨ex, st⟩ := x
      cases ex with
      | nrm => exact eCall hx hf hl hc (.inl rfl) h
      | ret => exact eCall hx hf hl hc (.inr rfl) h
      | pan v => cases h; exact eCallP hx hf hl hc
      | out => cases h; exact eCallO hx hf hl hc
      | exit id => cases h
end
end Go.Rf
