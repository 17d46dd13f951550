/- Parts of the proof: RfMono, RfExt. -/
import Derived.Test.YtjlnfdabdhkgcaaGreatDoorRb1

set_option linter.unusedSimpArgs false
set_option linter.unusedVariables false
set_option linter.unnecessarySimpa false
set_option linter.unusedSectionVars false
set_option linter.all false
namespace Go.Rf
def CF.le (c c':CF):Prop:=∀ f vs h r,c f vs h=some r→c' f vs h=some r
theorem CF.le_refl (c:CF):CF.le c c:=fun _ _ _ _ h=>h
theorem CF.le_trans {a b c:CF} (h:CF.le a b) (k:CF.le b c):CF.le a c:=fun f vs hp r e=>k _ _ _ _ (h f vs hp r e)
theorem I9 {α β:Type} {x:Option α} {f g:α→Option β} {r:β} (e:bnd x f=some r) (h:∀ a,f a=some r→g a=some r):bnd x g=some r:=by
 cases x with
 | none=>cases e
 | some a=>exact h a e
theorem xV {α β:Type} {x y:Option α} {f g:α→Option β} {r:β} (e:bnd x f=some r) (hx:∀ a,x=some a→y=some a) (h:∀ a,f a=some r→g a=some r):bnd y g=some r:=by
 cases x with
 | none=>cases e
 | some a=>rw[hx a rfl]; exact h a e
theorem qbr {α:Type} {b:Bool} {x y x' y':Option α} {r:α} (e:sel b x y=some r) (hx:x=some r→x'=some r) (hy:y=some r→y'=some r):sel b x' y'=some r:=by
 cases b with
 | true=>exact hx e
 | false=>exact hy e
theorem wq {c c':CF} (hc:CF.le c c') {f i h args r} (e:Y8 c f i h args=some r):Y8 c' f i h args=some r:=
 I9 e fun _ e=>I9 e fun _ e=>qbr e (fun e=>xV e (fun _ h=>hc _ _ _ _ h) fun _ e=>e) id
theorem WM {T:Tab} {c c':CF} (hc:CF.le c c') {i op ev h r} (e:j4 T c i op ev h=some r):j4 T c' i op ev h=some r:=by
 cases op with
 | call f args=>exact I9 e fun _ e=>wq hc e
 | callB f args=>exact I9 e fun _ e=>I9 e fun _ e=>qbr e (fun e=>xV e (fun _ h=>hc _ _ _ _ h) fun _ e=>e) id
 | callV f args=>exact I9 e fun _ e=>I9 e fun _ e=>I9 e fun ⟨_,_⟩ e=>wq hc e
 | inv m x args=>
   refine I9 e fun _ e=>I9 e fun _ e=>I9 e fun ⟨_,_⟩ e=>I9 e fun ⟨_,p⟩ e=>?_
   cases p with
   | none=>exact wq hc e
   | some p=>obtain ⟨_,_,_⟩:=p; exact I9 e fun _ e=>wq hc e
 | _=>exact e
theorem qfh {T:Tab} {c c':CF} (hc:CF.le c c') {o s r} (e:step T c o s=some r):step T c' o s=some r:=by
 refine I9 e fun b e=>?_
 cases b with
 | false=>exact e
 | true=>exact xV e (fun _ h=>WM hc h) fun _ e=>e
theorem Wl {T:Tab} {c c':CF} (hc:CF.le c c'):∀ {os s rs r},Xc T c os s rs=some r→Xc T c' os s rs=some r
 | [],_,_,_,e=>e
 | o :: os,s,rs,r,e=>by
   refine xV e (fun _ h=>qfh hc h) fun x e=>?_
   cases x with
   | go s' r'=>exact Wl hc e
   | pan v s' r'=>exact e
   | out=>exact e
theorem qpf {T:Tab} {c c':CF} (hc:CF.le c c') {i op A ev h r} (e:jV T c i op A ev h=some r):jV T c' i op A ev h=some r:=
 qbr e (WM hc) (WM hc)
theorem qbo {T:Tab} {c c':CF} (hc:CF.le c c') {o A s r} (e:QF T c o A s=some r):QF T c' o A s=some r:=by
 refine I9 e fun b e=>?_
 cases b with
 | false=>exact e
 | true=>exact xV e (fun _ h=>qpf hc h) fun _ e=>e
theorem Wm {T:Tab} {c c':CF} (hc:CF.le c c') {ps es}:∀ {os s rs r},QG T c ps es os s rs=some r→QG T c' ps es os s rs=some r
 | [],_,_,_,e=>e
 | o :: os,s,rs,r,e=>by
   refine xV e (fun _ h=>qbo hc h) fun x e=>?_
   cases x with
   | go s' r'=>exact Wm hc e
   | pan v s' r'=>exact e
   | out=>exact e
theorem qab {T:Tab} {c c':CF} (hc:CF.le c c') {pin ops draw keep st r} (e:region T c pin ops draw keep st=some r):region T c' pin ops draw keep st=some r:=by
 cases draw with
 | none=>exact xV e (fun _ h=>Wl hc h) fun _ e=>e
 | some d=>exact xV e (fun _ h=>Wm hc h) fun _ e=>e
theorem Zv {f g:St→Option (Ex × St)} (hfg:∀ st r,f st=some r→g st=some r):∀ {n m:Nat} {st r},n≤m→XT n f st=some r→XT m g st=some r
 | 0,_,_,_,_,e=>by cases e
 | n + 1,0,_,_,h,_=>by omega
 | n + 1,m + 1,st,r,h,e=>by
   unfold XT at *
   cases hf:f st with
   | none=>rw[hf] at e; cases e
   | some x=>
     rw[hf] at e; rw[hfg _ _ hf];obtain ⟨ex,st'⟩:=x
     cases ex with
     | nrm=>exact Zv hfg (by omega) e
     | exit id=>exact e
     | ret=>exact e
     | pan v=>exact e
     | out=>exact e
theorem I8 {T:Tab} {c c':CF} (hc:CF.le c c') {pin n m:Nat} (hn:n≤m):∀ (a:ACode) {st r},code T c pin n a st=some r→code T c' pin m a st=some r
 | .skip,_,_,e=>e
 | .region ops draw keep,_,_,e=>qab hc e
 | .seq a b,st,r,e=>by
   unfold code at *
   cases ha:code T c pin n a st with
   | none=>rw[ha] at e; cases e
   | some x=>
     rw[ha] at e; rw[I8 hc hn a ha];obtain ⟨ex,st'⟩:=x
     cases ex with
     | nrm=>exact I8 hc hn b e
     | exit id=>exact e
     | ret=>exact e
     | pan v=>exact e
     | out=>exact e
 | .cond o a b,st,r,e=>by
   unfold code at *;split at e
   ·exact I8 hc hn a e
   ·exact I8 hc hn b e
   ·cases e
 | .block id a,st,r,e=>by
   unfold code at *
   cases ha:code T c pin n a st with
   | none=>rw[ha] at e; cases e
   | some x=>rw[ha] at e; rw[I8 hc hn a ha]; exact e
 | .loop keep a,st,r,e=>by
   unfold code at *;refine Zv (fun st r h=>?_) hn e
   cases he:vi pin keep st.env (o5 st.heap) with
   | none=>rw[he] at h; cases h
   | some x=>rw[he] at h; exact I8 hc hn a h
 | .exit _ _,_,_,e=>e
 | .scope a,st,r,e=>by
   unfold code at *;exact I8 hc hn a e
 | .ret,_,_,e=>e
 | .refuse,_,_,e=>e
class Exts.Mono (X:Exts):Prop where
 le:∀ f e,X.run f=some e→∀ c c',CF.le c c'→∀ vs h r,e c vs h=some r→e c' vs h=some r
theorem qfr {cd cd':Nat→ACode→St→Option (Ex × St)} (h:∀ p a st x,cd p a st=some x→cd' p a st=some x) {r vs heap x} (e:qa0 cd r vs heap=some x):qa0 cd' r vs heap=some x:=by
 unfold qa0 at *;split at e
 ·rename_i hl;rw[if_pos hl]
  cases h1:cd heap.length r.pre { env:=(List.range r.np).zip vs,heap } with
  | none=>rw[h1] at e; cases e
  | some y=>
    rw[h1] at e;rw[h _ _ _ _ h1];obtain ⟨ex,st⟩:=y
    cases ex with
    | nrm=>
      refine I9 (show bnd _ _=some x from e) fun cs e=>?_
      cases h2:cd st.heap.length r.body { env:=(r.t,.junk) :: st.env,heap:=st.heap } with
      | none=>rw[h2] at e; cases e
      | some z=>
        rw[h2] at e;rw[h _ _ _ _ h2]
        have hh:∀ v hp,qln heap.length r.res (jX r st.env) (cd (List.length hp) r.hcode { env:=(r.hv,v) :: (List.range cs.length).zip cs,heap:=hp })=some x→qln heap.length r.res (jX r st.env) (cd' (List.length hp) r.hcode { env:=(r.hv,v) :: (List.range cs.length).zip cs,heap:=hp })=some x:=by
         intro v hp e
         cases h3:cd (List.length hp) r.hcode { env:=(r.hv,v) :: (List.range cs.length).zip cs,heap:=hp } with
         | none=>rw[h3] at e; cases e
         | some u=>rw[h _ _ _ _ h3]; rw[h3] at e; exact e
        obtain ⟨ex,st2⟩:=z
        cases ex with
        | nrm=>exact hh _ _ e
        | ret=>exact hh _ _ e
        | pan v=>cases v <;> first | (cases e; done) | (rename_i y; cases y <;> first | (cases e; done) | exact hh _ _ e)
        | out=>exact e
        | exit id=>cases e
    | ret=>exact e
    | pan v=>exact e
    | out=>exact e
    | exit id=>cases e
 ·cases e
theorem qvj {cd:Nat→ACode→St→Option (Ex × St)} {g:Nat→Nat→ACode→St→Option (Ex × St)} (hg:∀ n m,n≤m→∀ p a st x,g n p a st=some x→g m p a st=some x) (h:∀ p a st x,cd p a st=some x→∃ n,g n p a st=some x)
 {r vs heap x} (e:qa0 cd r vs heap=some x):∃ n,qa0 (g n) r vs heap=some x:=by
 unfold qa0 at *;split at e
 ·rename_i hl;simp only[if_pos hl]
  cases h1:cd heap.length r.pre { env:=(List.range r.np).zip vs,heap } with
  | none=>rw[h1] at e; cases e
  | some y=>
    rw[h1] at e;obtain ⟨n1,k1⟩:=h _ _ _ _ h1;obtain ⟨ex,st⟩:=y
    cases ex with
    | nrm=>
      cases hs:Zj st.env r.caps with
      | none=>simp only[qho,hs,qdy] at e; cases e
      | some cs=>
        simp only[qho,hs,o8] at e
        cases h2:cd st.heap.length r.body { env:=(r.t,.junk) :: st.env,heap:=st.heap } with
        | none=>rw[h2] at e; cases e
        | some z=>
          rw[h2] at e;obtain ⟨n2,k2⟩:=h _ _ _ _ h2
          have hh:∀ v hp,qln heap.length r.res (jX r st.env) (cd (List.length hp) r.hcode { env:=(r.hv,v) :: (List.range cs.length).zip cs,heap:=hp })=some x→∃ n,qln heap.length r.res (jX r st.env) (g n (List.length hp) r.hcode { env:=(r.hv,v) :: (List.range cs.length).zip cs,heap:=hp })=some x∧n1≤n∧n2≤n:=by
           intro v hp e
           cases h3:cd (List.length hp) r.hcode { env:=(r.hv,v) :: (List.range cs.length).zip cs,heap:=hp } with
           | none=>rw[h3] at e; cases e
           | some u=>
             obtain ⟨n3,k3⟩:=h _ _ _ _ h3;refine ⟨max n3 (max n1 n2),?_,by omega,by omega⟩;rw[hg n3 _ (by omega) _ _ _ _ k3];rw[h3] at e; exact e
          obtain ⟨ex,st2⟩:=z
          cases ex with
          | nrm=>
            obtain ⟨n,a1,a2,a3⟩:=hh _ _ e;exact ⟨n,by rw[hg n1 n a2 _ _ _ _ k1]; simp only[qho,hs,o8]; rw[hg n2 n a3 _ _ _ _ k2]; exact a1⟩
          | ret=>
            obtain ⟨n,a1,a2,a3⟩:=hh _ _ e;exact ⟨n,by rw[hg n1 n a2 _ _ _ _ k1]; simp only[qho,hs,o8]; rw[hg n2 n a3 _ _ _ _ k2]; exact a1⟩
          | pan v=>
            cases v <;> first | (cases e; done) | skip
            rename_i y
            cases y <;> first | (cases e; done) | skip
            obtain ⟨n,a1,a2,a3⟩:=hh _ _ e;exact ⟨n,by rw[hg n1 n a2 _ _ _ _ k1]; simp only[qho,hs,o8]; rw[hg n2 n a3 _ _ _ _ k2]; exact a1⟩
          | out=>
            refine ⟨max n1 n2,?_⟩;rw[hg n1 _ (by omega) _ _ _ _ k1]; simp only[qho,hs,o8]; rw[hg n2 _ (by omega) _ _ _ _ k2]; exact e
          | exit id=>cases e
    | ret=>exact ⟨n1,by rw[k1]; exact e⟩
    | pan v=>exact ⟨n1,by rw[k1]; exact e⟩
    | out=>exact ⟨n1,by rw[k1]; exact e⟩
    | exit id=>cases e
 ·cases e
theorem qgw {T:Tab} {X:Exts} [X.Mono]:∀ n,CF.le (call T X n) (call T X (n + 1))
 | 0=>fun _ _ _ _ e=>by cases e
 | n + 1=>fun f vs h r e=>by
   have ih:=qgw (T:=T) (X:=X) n;unfold call at e ⊢
   cases hx:X.run f with
   | some ex=>simp only[hx] at e ⊢; exact Exts.Mono.le f ex hx _ _ ih _ _ _ e
   | none=>
     simp only[hx] at e ⊢;split at e
     ·split at e
      ·exact qfr (fun p a st x h=>I8 ih (Nat.le_succ n) a h) e
      ·cases e
     ·rename_i af haf;split at e
      ·rename_i hl;simp only[hl,if_true]
       cases hcd:code T (call T X n) h.length n af.code { env:=(List.range af.np).zip vs,heap:=h } with
       | none=>simp only[hcd] at e; cases e
       | some x=>
         have hcd':=I8 (T:=T) ih (pin:=h.length) (Nat.le_succ n) af.code hcd;simp only[hcd] at e;simp only[hcd'];exact e
      ·cases e
theorem S5 {T:Tab} {X:Exts} [X.Mono] {n m:Nat} (h:n≤m):CF.le (call T X n) (call T X m):=by
 induction h with
 | refl=>exact CF.le_refl _
 | step _ ih=>exact CF.le_trans ih (qgw _)
open Classical in
noncomputable def lim {α:Type} (g:Nat→Option α):Option α:=if h:∃ r n,g n=some r then some h.choose else none
theorem qw0 {α:Type} {g:Nat→Option α} (hg:∀ n m r,n≤m→g n=some r→g m=some r) {n:Nat} {r:α} (h:g n=some r):lim g=some r:=by
 have hex:∃ r n,g n=some r:=⟨r,n,h⟩;unfold lim;rw[dif_pos hex];obtain ⟨m,hm⟩:=hex.choose_spec;have h1:=hg n (max n m) r (Nat.le_max_left ..) h;have h2:=hg m (max n m) _ (Nat.le_max_right ..) hm;rw[h1] at h2
 injection h2 with h2
 rw[h2]
theorem qk9 {α:Type} {g:Nat→Option α} {r:α} (h:lim g=some r):∃ n,g n=some r:=by
 unfold lim at h;split at h
 ·rename_i hex
  injection h with h
  subst h;exact hex.choose_spec
 ·cases h
variable (T:Tab) (X:Exts)
noncomputable def d5:CF:=fun f vs h=>lim (fun n=>call T X n f vs h)
noncomputable def x9 (pin:Nat) (a:ACode) (st:St):Option (Ex × St):=lim (fun n=>code T (call T X n) pin n a st)
variable {T X}
theorem vm {f vs h r}:d5 T X f vs h=some r→∃ n,call T X n f vs h=some r:=qk9
theorem jr [X.Mono] {f vs h r n} (e:call T X n f vs h=some r):d5 T X f vs h=some r:=
 qw0 (fun _ _ _ hnm he=>S5 hnm _ _ _ _ he) e
theorem z6 {pin a st r}:x9 T X pin a st=some r→∃ n,code T (call T X n) pin n a st=some r:=qk9
theorem C1 [X.Mono] {pin a st r n} (e:code T (call T X n) pin n a st=some r):x9 T X pin a st=some r:=
 qw0 (fun _ _ _ hnm he=>I8 (S5 hnm) hnm _ he) e
theorem Y9 {α β:Type} {x:Option α} {f:α→Option β} {g:Nat→α→Option β} {r:β} (e:bnd x f=some r) (h:∀ a,f a=some r→∃ n,g n a=some r):∃ n,bnd x (g n)=some r:=by
 cases x with
 | none=>cases e
 | some a=>exact h a e
theorem vZ {f i h args r} (e:Y8 (d5 T X) f i h args=some r):∃ n,Y8 (call T X n) f i h args=some r:=by
 refine Y9 e fun a e=>Y9 e fun b e=>?_
 cases hb:b.1.all N6 with
 | false=>rw[hb] at e; exact ⟨0,e⟩
 | true=>
 rw[hb] at e
 cases hcf:d5 T X f b.1 b.2.1 with
 | none=>rw[hcf] at e; cases e
 | some x=>
   obtain ⟨n,hn⟩:=vm hcf;exact ⟨n,by rw[hn]; rw[hcf] at e; exact e⟩
theorem qlb {f h args r} (e:JC (d5 T X) f h args=some r):∃ n,JC (call T X n) f h args=some r:=by
 refine Y9 e fun a e=>?_
 cases hb:(a.1.map V.d).all N6 with
 | false=>rw[hb] at e; exact ⟨0,e⟩
 | true=>
 rw[hb] at e
 cases hcf:d5 T X f (a.1.map V.d) [] with
 | none=>rw[hcf] at e; cases e
 | some x=>
   obtain ⟨n,hn⟩:=vm hcf;exact ⟨n,by rw[hn]; rw[hcf] at e; exact e⟩
theorem qdp {i op ev h r} (e:j4 T (d5 T X) i op ev h=some r):∃ n,j4 T (call T X n) i op ev h=some r:=by
 cases op with
 | call f args=>exact Y9 e fun _ e=>vZ e
 | callB f args=>exact Y9 e fun _ e=>qlb e
 | callV f args=>exact Y9 e fun _ e=>Y9 e fun _ e=>Y9 e fun ⟨_,_⟩ e=>vZ e
 | inv m x args=>
   refine Y9 e fun _ e=>Y9 e fun _ e=>Y9 e fun ⟨_,_⟩ e=>Y9 e fun ⟨_,p⟩ e=>?_
   cases p with
   | none=>exact vZ e
   | some p=>obtain ⟨_,_,_⟩:=p; exact Y9 e fun _ e=>vZ e
 | _=>exact ⟨0,e⟩
theorem quy {o s r} (e:step T (d5 T X) o s=some r):∃ n,step T (call T X n) o s=some r:=by
 refine Y9 e fun b e=>?_
 cases b with
 | false=>exact ⟨0,e⟩
 | true=>
   cases hx:j4 T (d5 T X) o.i o.op (evO s.env) s.h with
   | none=>rw[hx] at e; cases e
   | some x=>
     obtain ⟨n,hn⟩:=qdp hx;exact ⟨n,by rw[hn]; rw[hx] at e; exact e⟩
theorem qvb [X.Mono] (os:List AIns):∀ (s:RS) (rs:List Rec) (r:RR × List Rec),Xc T (d5 T X) os s rs=some r→∃ n,Xc T (call T X n) os s rs=some r:=by
 induction os with
 | nil=>exact fun s rs r e=>⟨0,e⟩
 | cons o os ih=>
   intro s rs r e;rw[Xc] at e
   cases hs:step T (d5 T X) o s with
   | none=>rw[hs,qdy] at e; cases e
   | some x=>
     rw[hs,o8] at e;obtain ⟨n,hn⟩:=quy hs
     cases x with
     | go s' r'=>
       obtain ⟨m,hm⟩:=ih s' (r' :: rs) r e;refine ⟨max n m,?_⟩;rw[Xc,qfh (S5 (Nat.le_max_left n m)) hn,o8];exact Wl (S5 (Nat.le_max_right n m)) hm
     | pan v s' r'=>exact ⟨n,by rw[Xc,hn,o8]; exact e⟩
     | out=>exact ⟨n,by rw[Xc,hn,o8]; exact e⟩
theorem qs7 {i op A ev h r} (e:jV T (d5 T X) i op A ev h=some r):∃ n,jV T (call T X n) i op A ev h=some r:=by
 unfold jV at *
 cases hc:L7 op with
 | true=>rw[hc] at e; exact qdp e
 | false=>rw[hc] at e; exact qdp e
theorem qr1 {o A s r} (e:QF T (d5 T X) o A s=some r):∃ n,QF T (call T X n) o A s=some r:=by
 refine Y9 e fun b e=>?_
 cases b with
 | false=>exact ⟨0,e⟩
 | true=>
   cases hx:jV T (d5 T X) o.i o.op A (evO s.env) s.h with
   | none=>rw[hx] at e; cases e
   | some x=>
     obtain ⟨n,hn⟩:=qs7 hx;exact ⟨n,by rw[hn]; rw[hx] at e; exact e⟩
theorem qvc [X.Mono] {ps es} (os:List AIns):∀ (s:RS) (rs:List Rec) (r:RR × List Rec),QG T (d5 T X) ps es os s rs=some r→∃ n,QG T (call T X n) ps es os s rs=some r:=by
 induction os with
 | nil=>exact fun s rs r e=>⟨0,e⟩
 | cons o os ih=>
   intro s rs r e;rw[QG] at e
   cases hs:QF T (d5 T X) o (w4 o.op (evO s.env) s.h) s with
   | none=>rw[hs,qdy] at e; cases e
   | some x=>
     rw[hs,o8] at e;obtain ⟨n,hn⟩:=qr1 hs
     cases x with
     | go s' r'=>
       obtain ⟨m,hm⟩:=ih s' (r' :: rs) r e;refine ⟨max n m,?_⟩;rw[QG,qbo (S5 (Nat.le_max_left n m)) hn,o8];exact Wm (S5 (Nat.le_max_right n m)) hm
     | pan v s' r'=>exact ⟨n,by rw[QG,hn,o8]; exact e⟩
     | out=>exact ⟨n,by rw[QG,hn,o8]; exact e⟩
theorem qoe [X.Mono] {pin ops draw keep st r} (e:region T (d5 T X) pin ops draw keep st=some r):∃ n,region T (call T X n) pin ops draw keep st=some r:=by
 unfold region at *
 cases draw with
 | none=>
   simp only[kD] at *
   cases hr:Xc T (d5 T X) ops { env:=st.env,h:=o5 st.heap } [] with
   | none=>rw[hr] at e; cases e
   | some x=>
     obtain ⟨n,hn⟩:=qvb _ _ _ _ hr;exact ⟨n,by rw[hn]; rw[hr] at e; exact e⟩
 | some d=>
   simp only[qP] at *
   cases hr:QG T (d5 T X) d.1 d.2 ops { env:=st.env,h:=o5 st.heap } [] with
   | none=>rw[hr] at e; cases e
   | some x=>
     obtain ⟨n,hn⟩:=qvc _ _ _ _ hr;exact ⟨n,by rw[hn]; rw[hr] at e; exact e⟩
section
variable [X.Mono] {pin:Nat} {st:St}
theorem zlv:x9 T X pin .skip st=some (.nrm,st):=C1 (n:=0) rfl
theorem zlx {id keep r} (h:(bnd (vi pin keep st.env (o5 st.heap)) fun st=>some (Ex.exit id,st))=some r):x9 T X pin (.exit id keep) st=some r:=C1 (n:=0) h
theorem eRet:x9 T X pin .ret st=some (.ret,st):=C1 (n:=0) rfl
theorem q1b {ops draw keep r} (e:region T (d5 T X) pin ops draw keep st=some r):x9 T X pin (.region ops draw keep) st=some r:=by
 obtain ⟨n,hn⟩:=qoe e;exact C1 (n:=n) hn
theorem eSeq {a b st' r} (ha:x9 T X pin a st=some (.nrm,st')) (hb:x9 T X pin b st'=some r):x9 T X pin (.seq a b) st=some r:=by
 obtain ⟨n,hn⟩:=z6 ha;obtain ⟨m,hm⟩:=z6 hb;refine C1 (n:=max n m) ?_;unfold code;rw[I8 (S5 (Nat.le_max_left n m)) (Nat.le_max_left n m) a hn];exact I8 (S5 (Nat.le_max_right n m)) (Nat.le_max_right n m) b hm
theorem qqy {a b x st'} (ha:x9 T X pin a st=some (x,st')) (hx:x ≠ .nrm):x9 T X pin (.seq a b) st=some (x,st'):=by
 obtain ⟨n,hn⟩:=z6 ha;refine C1 (n:=n) ?_;unfold code;rw[hn]
 cases x with
 | nrm=>exact absurd rfl hx
 | _=>rfl
theorem q90 {c a b r} (hc:evO st.env c=some (.d (.bool true))) (h:x9 T X pin a st=some r):x9 T X pin (.cond c a b) st=some r:=by
 obtain ⟨n,hn⟩:=z6 h;refine C1 (n:=n) ?_;unfold code;rw[hc]; exact hn
theorem q91 {c a b r} (hc:evO st.env c=some (.d (.bool false))) (h:x9 T X pin b st=some r):x9 T X pin (.cond c a b) st=some r:=by
 obtain ⟨n,hn⟩:=z6 h;refine C1 (n:=n) ?_;unfold code;rw[hc]; exact hn
theorem qdq {id a x st'} (h:x9 T X pin a st=some (x,st')):x9 T X pin (.block id a) st=some (match x with | .exit i=>if i=id then .nrm else .exit i | x=>x,st'):=by
 obtain ⟨n,hn⟩:=z6 h;refine C1 (n:=n) ?_;unfold code;rw[hn]
 cases x with
 | exit i=>simp only; split <;> rfl
 | _=>rfl
theorem q9z {a r} (h:x9 T X pin a st=some r):x9 T X pin (.scope a) st=some r:=by
 obtain ⟨n,hn⟩:=z6 h;exact C1 (n:=n) (by unfold code; exact hn)
theorem zlw {keep a st1 st2 r} (hk:vi pin keep st.env (o5 st.heap)=some st1) (h:x9 T X pin a st1=some (.nrm,st2)) (hl:x9 T X pin (.loop keep a) st2=some r):x9 T X pin (.loop keep a) st=some r:=by
 obtain ⟨n,hn⟩:=z6 h;obtain ⟨m,hm⟩:=z6 hl;refine C1 (n:=max n m + 1) ?_;unfold code;unfold XT;simp only[hk];rw[I8 (S5 (by omega:n≤max n m + 1)) (by omega) a hn];unfold code at hm;refine Zv (fun st r h=>?_) (Nat.le_max_right n m) hm
 cases he:vi pin keep st.env (o5 st.heap) with
 | none=>rw[he] at h; cases h
 | some x=>rw[he] at h; exact I8 (S5 (by omega)) (by omega) a h
theorem qi1 {keep a st1 x st2} (hk:vi pin keep st.env (o5 st.heap)=some st1) (h:x9 T X pin a st1=some (x,st2)) (hx:x ≠ .nrm):x9 T X pin (.loop keep a) st=some (x,st2):=by
 obtain ⟨n,hn⟩:=z6 h;refine C1 (n:=n + 1) ?_;unfold code;unfold XT;simp only[hk];rw[I8 (S5 (by omega:n≤n + 1)) (by omega) a hn]
 cases x with
 | nrm=>exact absurd rfl hx
 | _=>rfl
theorem q35 {f af vs heap x st' r} (hx:X.run f=none) (hf:T.funs f=some af) (hl:vs.length=af.np)
 (h:x9 T X heap.length af.code { env:=(List.range af.np).zip vs,heap } = some (x,st')) (hr:x = .nrm∨x = .ret) (he:qf heap.length af.res st'=some r):d5 T X f vs heap=some r:=by
 obtain ⟨n,hn⟩:=z6 h;refine jr (n:=n + 1) ?_;unfold call;simp only[hx,hf,hl,if_true];rw[hn]
 rcases hr with rfl | rfl <;> exact he
theorem q92 {f af vs heap v st'} (hx:X.run f=none) (hf:T.funs f=some af) (hl:vs.length=af.np)
 (h:x9 T X heap.length af.code { env:=(List.range af.np).zip vs,heap } = some (.pan v,st')):d5 T X f vs heap=some (.pan v st'.heap):=by
 obtain ⟨n,hn⟩:=z6 h;refine jr (n:=n + 1) ?_;unfold call;simp only[hx,hf,hl,if_true];rw[hn]
theorem q93 {f af vs heap st'} (hx:X.run f=none) (hf:T.funs f=some af) (hl:vs.length=af.np)
 (h:x9 T X heap.length af.code { env:=(List.range af.np).zip vs,heap } = some (.out,st')):d5 T X f vs heap=some .out:=by
 obtain ⟨n,hn⟩:=z6 h;refine jr (n:=n + 1) ?_;unfold call;simp only[hx,hf,hl,if_true];rw[hn]
theorem wo {α:Type} {x y:Option α} (h:∀ r,x=some r→y=some r) (k:∀ r,y=some r→x=some r):x=y:=by
 cases x with
 | some a=>rw[h a rfl]
 | none=>cases y with
   | none=>rfl
   | some b=>exact k b rfl
def q52 (x:Option (Ex × St)) (k:St→Option (Ex × St)):Option (Ex × St):=match x with
 | some (.nrm,st')=>k st'
 | r=>r
def qxx (x:Option V) (a b:Option (Ex × St)):Option (Ex × St):=match x with
 | some (.d (.bool true))=>a
 | some (.d (.bool false))=>b
 | _=>none
def KP (id:Nat) (x:Option (Ex × St)):Option (Ex × St):=match x with
 | some (.exit id',st')=>if id'=id then some (.nrm,st') else some (.exit id',st')
 | r=>r
@[simp] theorem za4 (i st):KP i (some (.nrm,st))=some (.nrm,st):=rfl
@[simp] theorem qm0 (i j st):KP i (some (.exit j,st))=if j=i then some (.nrm,st) else some (.exit j,st):=rfl
@[simp] theorem za1 (i st):KP i (some (.ret,st))=some (.ret,st):=rfl
@[simp] theorem za2 (i v st):KP i (some (.pan v,st))=some (.pan v,st):=rfl
@[simp] theorem za3 (i st):KP i (some (.out,st))=some (.out,st):=rfl
def zlp (x:Option (Ex × St)) (k:St→Option CRes):Option CRes:=match x with
 | some (.nrm,st)=>k st
 | some (.ret,st)=>k st
 | some (.pan v,st)=>some (.pan v st.heap)
 | some (.out,_)=>some .out
 | _=>none
theorem qpr {id keep}:x9 T X pin (.exit id keep) st=bnd (vi pin keep st.env (o5 st.heap)) fun st=>some (.exit id,st):=by
 refine wo (fun r h=>?_) (fun r h=>zlx h);obtain ⟨n,hn⟩:=z6 h;exact hn
theorem qpp:x9 T X pin .skip st=some (.nrm,st):=zlv
theorem qtf:x9 T X pin .ret st=some (.ret,st):=eRet
theorem YU {ops draw keep}:x9 T X pin (.region ops draw keep) st=region T (d5 T X) pin ops draw keep st:=by
 refine wo (fun r h=>?_) (fun r h=>q1b h);obtain ⟨n,hn⟩:=z6 h;refine qab (fun f vs hp r e=>jr e) hn
theorem qte {a b}:x9 T X pin (.seq a b) st=q52 (x9 T X pin a st) (fun st'=>x9 T X pin b st'):=by
 refine wo (fun r h=>?_) (fun r h=>?_)
 ·obtain ⟨n,hn⟩:=z6 h;unfold code at hn
  cases ha:code T (call T X n) pin n a st with
  | none=>rw[ha] at hn; cases hn
  | some x=>
    rw[C1 ha];rw[ha] at hn;obtain ⟨ex,st'⟩:=x
    cases ex with
    | nrm=>exact C1 hn
    | exit id=>exact hn
    | ret=>exact hn
    | pan v=>exact hn
    | out=>exact hn
 ·cases ha:x9 T X pin a st with
  | none=>rw[ha] at h; cases h
  | some x=>
    rw[ha] at h;obtain ⟨ex,st'⟩:=x
    cases ex with
    | nrm=>exact eSeq ha h
    | exit id=>cases h; exact qqy ha (by simp)
    | ret=>cases h; exact qqy ha (by simp)
    | pan v=>cases h; exact qqy ha (by simp)
    | out=>cases h; exact qqy ha (by simp)
theorem qps {c a b}:x9 T X pin (.cond c a b) st=qxx (evO st.env c) (x9 T X pin a st) (x9 T X pin b st):=by
 refine wo (fun r h=>?_) (fun r h=>?_)
 ·obtain ⟨n,hn⟩:=z6 h;unfold code at hn;split at hn
  ·rename_i hc; rw[hc]; exact C1 hn
  ·rename_i hc; rw[hc]; exact C1 hn
  ·cases hn
 ·unfold qxx at h;split at h
  ·rename_i hc; exact q90 hc h
  ·rename_i hc; exact q91 hc h
  ·cases h
theorem qmq {id a}:x9 T X pin (.block id a) st=KP id (x9 T X pin a st):=by
 refine wo (fun r h=>?_) (fun r h=>?_)
 ·obtain ⟨n,hn⟩:=z6 h;unfold code at hn
  cases ha:code T (call T X n) pin n a st with
  | none=>rw[ha] at hn; cases hn
  | some x=>rw[C1 ha]; rw[ha] at hn; exact hn
 ·cases ha:x9 T X pin a st with
  | none=>rw[ha] at h; cases h
  | some x=>
    rw[ha] at h;obtain ⟨ex,st'⟩:=x
    cases ex with
    | exit i=>
      rw[qdq ha];simp only[qm0] at h ⊢
      split at h <;> rename_i hi <;> simp only[hi,if_true,if_false] <;> exact h
    | nrm=>cases h; exact qdq ha
    | ret=>cases h; exact qdq ha
    | pan v=>cases h; exact qdq ha
    | out=>cases h; exact qdq ha
theorem qmp {a}:x9 T X pin (.scope a) st=x9 T X pin a st:=by
 refine wo (fun r h=>?_) (fun r h=>q9z h);obtain ⟨n,hn⟩:=z6 h;exact C1 (n:=n) (by unfold code at hn; exact hn)
theorem qpq {keep a}:x9 T X pin (.loop keep a) st=bnd (vi pin keep st.env (o5 st.heap)) fun st1=>q52 (x9 T X pin a st1) fun st2=>x9 T X pin (.loop keep a) st2:=by
 refine wo (fun r h=>?_) (fun r h=>?_)
 ·obtain ⟨n,hn⟩:=z6 h;unfold code at hn
  cases n with
  | zero=>cases hn
  | succ n=>
    unfold XT at hn
    cases hk:vi pin keep st.env (o5 st.heap) with
    | none=>simp only[hk] at hn; cases hn
    | some st1=>
      simp only[hk] at hn;rw[o8]
      cases ha:code T (call T X (n + 1)) pin (n + 1) a st1 with
      | none=>rw[ha] at hn; cases hn
      | some x=>
        rw[C1 ha];rw[ha] at hn;obtain ⟨ex,st2⟩:=x
        cases ex with
        | nrm=>
          refine C1 (n:=n + 1) ?_;unfold code;exact Zv (fun _ _ h=>h) (Nat.le_succ n) hn
        | exit id=>exact hn
        | ret=>exact hn
        | pan v=>exact hn
        | out=>exact hn
 ·cases hk:vi pin keep st.env (o5 st.heap) with
  | none=>rw[hk] at h; cases h
  | some st1=>
    rw[hk] at h;simp only[o8] at h
    cases ha:x9 T X pin a st1 with
    | none=>rw[ha] at h; cases h
    | some x=>
      rw[ha] at h;obtain ⟨ex,st2⟩:=x
      cases ex with
      | nrm=>exact zlw hk ha h
      | exit id=>cases h; exact qi1 hk ha (by simp)
      | ret=>cases h; exact qi1 hk ha (by simp)
      | pan v=>cases h; exact qi1 hk ha (by simp)
      | out=>cases h; exact qi1 hk ha (by simp)
theorem qgx {f r vs heap} (hx:X.run f=none) (hf:T.funs f=none) (hr:T.recs f=some r):d5 T X f vs heap=qa0 (fun p a st=>x9 T X p a st) r vs heap:=by
 refine wo (fun x h=>?_) (fun x h=>?_)
 ·obtain ⟨n,hn⟩:=vm h
  cases n with
  | zero=>cases hn
  | succ n=>
    unfold call at hn;simp only[hx,hf,hr] at hn;exact qfr (fun p a st x h=>C1 h) hn
 ·obtain ⟨n,hn⟩:=qvj (g:=fun n p a st=>code T (call T X n) p n a st) (fun n m hnm p a st x h=>I8 (S5 hnm) hnm a h) (fun p a st x h=>z6 h) h;refine jr (n:=n + 1) ?_;unfold call;simp only[hx,hf,hr];exact hn
theorem qth {f af vs heap} (hx:X.run f=none) (hf:T.funs f=some af) (hl:vs.length=af.np) :
 d5 T X f vs heap=zlp (x9 T X heap.length af.code { env:=(List.range af.np).zip vs,heap }) (qf heap.length af.res):=by
 refine wo (fun r h=>?_) (fun r h=>?_)
 ·obtain ⟨n,hn⟩:=vm h
  cases n with
  | zero=>cases hn
  | succ n=>
    unfold call at hn;simp only[hx,hf,hl,if_true] at hn
    cases hc:code T (call T X n) heap.length n af.code { env:=(List.range af.np).zip vs,heap } with
    | none=>rw[hc] at hn; cases hn
    | some x=>rw[C1 hc]; rw[hc] at hn; exact hn
 ·cases hc:x9 T X heap.length af.code { env:=(List.range af.np).zip vs,heap } with
  | none=>rw[hc] at h; cases h
  | some x=>
    rw[hc] at h;obtain ⟨ex,st⟩:=x
    cases ex with
    | nrm=>exact q35 hx hf hl hc (.inl rfl) h
    | ret=>exact q35 hx hf hl hc (.inr rfl) h
    | pan v=>cases h; exact q92 hx hf hl hc
    | out=>cases h; exact q93 hx hf hl hc
    | exit id=>cases h
end
end Go.Rf

namespace Go.Rf
def ccX (K:Nat):CF→List V→List Obj→Option CRes:=fun _ vs heap=>match vs,heap with
 | [.ptr (.b 0) 0 0],.arr [.agg [.d .nilp,r]] ⟨2,k⟩ :: rest=>if k=K then some (.ret [] (.arr [.agg [.ptr (.b 0) 0 0,r]] ⟨2,k⟩ :: rest)) else none
 | [.ptr (.b 0) 0 0],.arr [.agg [.ptr (.b 0) 0 0,r]] ⟨2,k⟩ :: rest=>if k=K then some (.ret [] (.arr [.agg [.ptr (.b 0) 0 0,r]] ⟨2,k⟩ :: rest)) else none
 | _,_=>none
def qi6:List V→Option (List UInt8)
 | []=>some []
 | .d (.int .u8 n) :: l=>if 0≤n∧n < 256 then (qi6 l).map (UInt8.ofNat n.toNat :: ·) else none
 | _ :: _=>none
def bsX (K K5:Nat):CF→List V→List Obj→Option CRes:=fun _ vs heap=>match vs,heap with
 | [.ptr (.b 0) 0 0],.arr [.agg [a,.ref (.b 1) ⟨1,k5⟩ 0 n]] ⟨2,k⟩ :: .arr xs ⟨1,k6⟩ :: rest=>
   if k=K∧k5=K5∧k6=K5∧n=xs.length∧0 < n then bnd (qi6 xs) fun s=>some (.ret [.d (.str s)] (.arr [.agg [a,.ref (.b 1) ⟨1,k5⟩ 0 n]] ⟨2,k⟩ :: .dead :: rest)) else none
 | _,_=>none
end Go.Rf
