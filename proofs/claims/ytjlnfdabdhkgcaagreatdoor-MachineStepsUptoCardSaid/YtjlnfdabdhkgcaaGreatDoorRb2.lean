/- Parts of the proof: RfMono, RfExt. -/
import Derived.Test.YtjlnfdabdhkgcaaGreatDoorRb1

set_option linter.unusedSimpArgs false
set_option linter.unusedVariables false
set_option linter.unnecessarySimpa false
set_option linter.unusedSectionVars false
set_option linter.all false
namespace Go.Rf
def CF.le (c c':CF):Prop:=∀ f vs h r,c f vs h=some r→c' f vs h=some r
theorem CF.le_refl (c:CF):CF.le c c:=fun _ _ _ _ h=>h
theorem CF.le_trans {a b c:CF} (h:CF.le a b) (k:CF.le b c):CF.le a c:=fun f vs hp r e=>k _ _ _ _ (h f vs hp r e)
theorem K1 {α β:Type} {x:Option α} {f g:α→Option β} {r:β} (e:bnd x f=some r) (h:∀ a,f a=some r→g a=some r):bnd x g=some r:=by
 cases x with
 | none=>cases e
 | some a=>exact h a e
theorem jq {α β:Type} {x y:Option α} {f g:α→Option β} {r:β} (e:bnd x f=some r) (hx:∀ a,x=some a→y=some a) (h:∀ a,f a=some r→g a=some r):bnd y g=some r:=by
 cases x with
 | none=>cases e
 | some a=>rw[hx a rfl]; exact h a e
theorem qc2 {α:Type} {b:Bool} {x y x' y':Option α} {r:α} (e:sel b x y=some r) (hx:x=some r→x'=some r) (hy:y=some r→y'=some r):sel b x' y'=some r:=by
 cases b with
 | true=>exact hx e
 | false=>exact hy e
theorem vi {c c':CF} (hc:CF.le c c') {f i h args r} (e:Z9 c f i h args=some r):Z9 c' f i h args=some r:=
 K1 e fun _ e=>K1 e fun _ e=>qc2 e (fun e=>jq e (fun _ h=>hc _ _ _ _ h) fun _ e=>e) id
theorem qa0 {T:Tab} {c c':CF} (hc:CF.le c c') {i op ev h r} (e:j7 T c i op ev h=some r):j7 T c' i op ev h=some r:=by
 cases op with
 | call f args=>exact K1 e fun _ e=>vi hc e
 | callB f args=>exact K1 e fun _ e=>K1 e fun _ e=>qc2 e (fun e=>jq e (fun _ h=>hc _ _ _ _ h) fun _ e=>e) id
 | callV f args=>exact K1 e fun _ e=>K1 e fun _ e=>K1 e fun ⟨_,_⟩ e=>vi hc e
 | inv m x args=>
   refine K1 e fun _ e=>K1 e fun _ e=>K1 e fun ⟨_,_⟩ e=>K1 e fun ⟨_,p⟩ e=>?_
   cases p with
   | none=>exact vi hc e
   | some p=>obtain ⟨_,_,_⟩:=p; exact K1 e fun _ e=>vi hc e
 | _=>exact e
theorem qgq {T:Tab} {c c':CF} (hc:CF.le c c') {o s r} (e:step T c o s=some r):step T c' o s=some r:=by
 refine K1 e fun b e=>?_
 cases b with
 | false=>exact e
 | true=>exact jq e (fun _ h=>qa0 hc h) fun _ e=>e
theorem qae {T:Tab} {c c':CF} (hc:CF.le c c'):∀ {os s rs r},XX T c os s rs=some r→XX T c' os s rs=some r
 | [],_,_,_,e=>e
 | o :: os,s,rs,r,e=>by
   refine jq e (fun _ h=>qgq hc h) fun x e=>?_
   cases x with
   | go s' r'=>exact qae hc e
   | pan v s' r'=>exact e
   | out=>exact e
theorem qqz {T:Tab} {c c':CF} (hc:CF.le c c') {i op A ev h r} (e:kB T c i op A ev h=some r):kB T c' i op A ev h=some r:=
 qc2 e (qa0 hc) (qa0 hc)
theorem qcy {T:Tab} {c c':CF} (hc:CF.le c c') {o A s r} (e:Zq T c o A s=some r):Zq T c' o A s=some r:=by
 refine K1 e fun b e=>?_
 cases b with
 | false=>exact e
 | true=>exact jq e (fun _ h=>qqz hc h) fun _ e=>e
theorem qaf {T:Tab} {c c':CF} (hc:CF.le c c') {ps es}:∀ {os s rs r},Zr T c ps es os s rs=some r→Zr T c' ps es os s rs=some r
 | [],_,_,_,e=>e
 | o :: os,s,rs,r,e=>by
   refine jq e (fun _ h=>qcy hc h) fun x e=>?_
   cases x with
   | go s' r'=>exact qaf hc e
   | pan v s' r'=>exact e
   | out=>exact e
theorem qbg {T:Tab} {c c':CF} (hc:CF.le c c') {pin ops draw keep st r} (e:region T c pin ops draw keep st=some r):region T c' pin ops draw keep st=some r:=by
 cases draw with
 | none=>exact jq e (fun _ h=>qae hc h) fun _ e=>e
 | some d=>exact jq e (fun _ h=>qaf hc h) fun _ e=>e
theorem Xl {f g:St→Option (Ex × St)} (hfg:∀ st r,f st=some r→g st=some r):∀ {n m:Nat} {st r},n≤m→JL n f st=some r→JL m g st=some r
 | 0,_,_,_,_,e=>by cases e
 | n + 1,0,_,_,h,_=>by omega
 | n + 1,m + 1,st,r,h,e=>by
   unfold JL at *
   cases hf:f st with
   | none=>rw[hf] at e; cases e
   | some x=>
     rw[hf] at e; rw[hfg _ _ hf];obtain ⟨ex,st'⟩:=x
     cases ex with
     | nrm=>exact Xl hfg (by omega) e
     | exit id=>exact e
     | ret=>exact e
     | pan v=>exact e
     | out=>exact e
theorem K0 {T:Tab} {c c':CF} (hc:CF.le c c') {pin n m:Nat} (hn:n≤m):∀ (a:ACode) {st r},code T c pin n a st=some r→code T c' pin m a st=some r
 | .skip,_,_,e=>e
 | .region ops draw keep,_,_,e=>qbg hc e
 | .seq a b,st,r,e=>by
   unfold code at *
   cases ha:code T c pin n a st with
   | none=>rw[ha] at e; cases e
   | some x=>
     rw[ha] at e; rw[K0 hc hn a ha];obtain ⟨ex,st'⟩:=x
     cases ex with
     | nrm=>exact K0 hc hn b e
     | exit id=>exact e
     | ret=>exact e
     | pan v=>exact e
     | out=>exact e
 | .cond o a b,st,r,e=>by
   unfold code at *;split at e
   ·exact K0 hc hn a e
   ·exact K0 hc hn b e
   ·cases e
 | .block id a,st,r,e=>by
   unfold code at *
   cases ha:code T c pin n a st with
   | none=>rw[ha] at e; cases e
   | some x=>rw[ha] at e; rw[K0 hc hn a ha]; exact e
 | .loop keep a,st,r,e=>by
   unfold code at *;refine Xl (fun st r h=>?_) hn e
   cases he:kG pin keep st.env (n7 st.heap) with
   | none=>rw[he] at h; cases h
   | some x=>rw[he] at h; exact K0 hc hn a h
 | .exit _ _,_,_,e=>e
 | .scope a,st,r,e=>by
   unfold code at *;exact K0 hc hn a e
 | .ret,_,_,e=>e
 | .refuse,_,_,e=>e
class Exts.Mono (X:Exts):Prop where
 le:∀ f e,X.run f=some e→∀ c c',CF.le c c'→∀ vs h r,e c vs h=some r→e c' vs h=some r
theorem qgz {cd cd':Nat→ACode→St→Option (Ex × St)} (h:∀ p a st x,cd p a st=some x→cd' p a st=some x) {r vs heap x} (e:qb4 cd r vs heap=some x):qb4 cd' r vs heap=some x:=by
 unfold qb4 at *;split at e
 ·rename_i hl;rw[if_pos hl]
  cases h1:cd heap.length r.pre { env:=(List.range r.np).zip vs,heap } with
  | none=>rw[h1] at e; cases e
  | some y=>
    rw[h1] at e;rw[h _ _ _ _ h1];obtain ⟨ex,st⟩:=y
    cases ex with
    | nrm=>
      refine K1 (show bnd _ _=some x from e) fun cs e=>?_
      cases h2:cd st.heap.length r.body { env:=(r.t,.junk) :: st.env,heap:=st.heap } with
      | none=>rw[h2] at e; cases e
      | some z=>
        rw[h2] at e;rw[h _ _ _ _ h2]
        have hh:∀ v hp,qqn heap.length r.res (kD r st.env) (cd (List.length hp) r.hcode { env:=(r.hv,v) :: (List.range cs.length).zip cs,heap:=hp })=some x→qqn heap.length r.res (kD r st.env) (cd' (List.length hp) r.hcode { env:=(r.hv,v) :: (List.range cs.length).zip cs,heap:=hp })=some x:=by
         intro v hp e
         cases h3:cd (List.length hp) r.hcode { env:=(r.hv,v) :: (List.range cs.length).zip cs,heap:=hp } with
         | none=>rw[h3] at e; cases e
         | some u=>rw[h _ _ _ _ h3]; rw[h3] at e; exact e
        obtain ⟨ex,st2⟩:=z
        cases ex with
        | nrm=>exact hh _ _ e
        | ret=>exact hh _ _ e
        | pan v=>cases v <;> first | (cases e; done) | (rename_i y; cases y <;> first | (cases e; done) | exact hh _ _ e)
        | out=>exact e
        | exit id=>cases e
    | ret=>exact e
    | pan v=>exact e
    | out=>exact e
    | exit id=>cases e
 ·cases e
theorem qxb {cd:Nat→ACode→St→Option (Ex × St)} {g:Nat→Nat→ACode→St→Option (Ex × St)} (hg:∀ n m,n≤m→∀ p a st x,g n p a st=some x→g m p a st=some x) (h:∀ p a st x,cd p a st=some x→∃ n,g n p a st=some x)
 {r vs heap x} (e:qb4 cd r vs heap=some x):∃ n,qb4 (g n) r vs heap=some x:=by
 unfold qb4 at *;split at e
 ·rename_i hl;simp only[if_pos hl]
  cases h1:cd heap.length r.pre { env:=(List.range r.np).zip vs,heap } with
  | none=>rw[h1] at e; cases e
  | some y=>
    rw[h1] at e;obtain ⟨n1,k1⟩:=h _ _ _ _ h1;obtain ⟨ex,st⟩:=y
    cases ex with
    | nrm=>
      cases hs:ZX st.env r.caps with
      | none=>simp only[qjg,hs,qfa] at e; cases e
      | some cs=>
        simp only[qjg,hs,p7] at e
        cases h2:cd st.heap.length r.body { env:=(r.t,.junk) :: st.env,heap:=st.heap } with
        | none=>rw[h2] at e; cases e
        | some z=>
          rw[h2] at e;obtain ⟨n2,k2⟩:=h _ _ _ _ h2
          have hh:∀ v hp,qqn heap.length r.res (kD r st.env) (cd (List.length hp) r.hcode { env:=(r.hv,v) :: (List.range cs.length).zip cs,heap:=hp })=some x→∃ n,qqn heap.length r.res (kD r st.env) (g n (List.length hp) r.hcode { env:=(r.hv,v) :: (List.range cs.length).zip cs,heap:=hp })=some x∧n1≤n∧n2≤n:=by
           intro v hp e
           cases h3:cd (List.length hp) r.hcode { env:=(r.hv,v) :: (List.range cs.length).zip cs,heap:=hp } with
           | none=>rw[h3] at e; cases e
           | some u=>
             obtain ⟨n3,k3⟩:=h _ _ _ _ h3;refine ⟨max n3 (max n1 n2),?_,by omega,by omega⟩;rw[hg n3 _ (by omega) _ _ _ _ k3];rw[h3] at e; exact e
          obtain ⟨ex,st2⟩:=z
          cases ex with
          | nrm=>
            obtain ⟨n,a1,a2,a3⟩:=hh _ _ e;exact ⟨n,by rw[hg n1 n a2 _ _ _ _ k1]; simp only[qjg,hs,p7]; rw[hg n2 n a3 _ _ _ _ k2]; exact a1⟩
          | ret=>
            obtain ⟨n,a1,a2,a3⟩:=hh _ _ e;exact ⟨n,by rw[hg n1 n a2 _ _ _ _ k1]; simp only[qjg,hs,p7]; rw[hg n2 n a3 _ _ _ _ k2]; exact a1⟩
          | pan v=>
            cases v <;> first | (cases e; done) | skip
            rename_i y
            cases y <;> first | (cases e; done) | skip
            obtain ⟨n,a1,a2,a3⟩:=hh _ _ e;exact ⟨n,by rw[hg n1 n a2 _ _ _ _ k1]; simp only[qjg,hs,p7]; rw[hg n2 n a3 _ _ _ _ k2]; exact a1⟩
          | out=>
            refine ⟨max n1 n2,?_⟩;rw[hg n1 _ (by omega) _ _ _ _ k1]; simp only[qjg,hs,p7]; rw[hg n2 _ (by omega) _ _ _ _ k2]; exact e
          | exit id=>cases e
    | ret=>exact ⟨n1,by rw[k1]; exact e⟩
    | pan v=>exact ⟨n1,by rw[k1]; exact e⟩
    | out=>exact ⟨n1,by rw[k1]; exact e⟩
    | exit id=>cases e
 ·cases e
theorem qii {T:Tab} {X:Exts} [X.Mono]:∀ n,CF.le (call T X n) (call T X (n + 1))
 | 0=>fun _ _ _ _ e=>by cases e
 | n + 1=>fun f vs h r e=>by
   have ih:=qii (T:=T) (X:=X) n;unfold call at e ⊢
   cases hx:X.run f with
   | some ex=>simp only[hx] at e ⊢; exact Exts.Mono.le f ex hx _ _ ih _ _ _ e
   | none=>
     simp only[hx] at e ⊢;split at e
     ·split at e
      ·exact qgz (fun p a st x h=>K0 ih (Nat.le_succ n) a h) e
      ·cases e
     ·rename_i af haf;split at e
      ·rename_i hl;simp only[hl,if_true]
       cases hcd:code T (call T X n) h.length n af.code { env:=(List.range af.np).zip vs,heap:=h } with
       | none=>simp only[hcd] at e; cases e
       | some x=>
         have hcd':=K0 (T:=T) ih (pin:=h.length) (Nat.le_succ n) af.code hcd;simp only[hcd] at e;simp only[hcd'];exact e
      ·cases e
theorem U1 {T:Tab} {X:Exts} [X.Mono] {n m:Nat} (h:n≤m):CF.le (call T X n) (call T X m):=by
 induction h with
 | refl=>exact CF.le_refl _
 | step _ ih=>exact CF.le_trans ih (qii _)
open Classical in
noncomputable def lim {α:Type} (g:Nat→Option α):Option α:=if h:∃ r n,g n=some r then some h.choose else none
theorem qyx {α:Type} {g:Nat→Option α} (hg:∀ n m r,n≤m→g n=some r→g m=some r) {n:Nat} {r:α} (h:g n=some r):lim g=some r:=by
 have hex:∃ r n,g n=some r:=⟨r,n,h⟩;unfold lim;rw[dif_pos hex];obtain ⟨m,hm⟩:=hex.choose_spec;have h1:=hg n (max n m) r (Nat.le_max_left ..) h;have h2:=hg m (max n m) _ (Nat.le_max_right ..) hm;rw[h1] at h2
 injection h2 with h2
 rw[h2]
theorem qm7 {α:Type} {g:Nat→Option α} {r:α} (h:lim g=some r):∃ n,g n=some r:=by
 unfold lim at h;split at h
 ·rename_i hex
  injection h with h
  subst h;exact hex.choose_spec
 ·cases h
variable (T:Tab) (X:Exts)
noncomputable def d5:CF:=fun f vs h=>lim (fun n=>call T X n f vs h)
noncomputable def A4 (pin:Nat) (a:ACode) (st:St):Option (Ex × St):=lim (fun n=>code T (call T X n) pin n a st)
variable {T X}
theorem V9 {f vs h r}:d5 T X f vs h=some r→∃ n,call T X n f vs h=some r:=qm7
theorem ZM [X.Mono] {f vs h r n} (e:call T X n f vs h=some r):d5 T X f vs h=some r:=
 qyx (fun _ _ _ hnm he=>U1 hnm _ _ _ _ he) e
theorem A5 {pin a st r}:A4 T X pin a st=some r→∃ n,code T (call T X n) pin n a st=some r:=qm7
theorem D3 [X.Mono] {pin a st r n} (e:code T (call T X n) pin n a st=some r):A4 T X pin a st=some r:=
 qyx (fun _ _ _ hnm he=>K0 (U1 hnm) hnm _ he) e
theorem qb {α β:Type} {x:Option α} {f:α→Option β} {g:Nat→α→Option β} {r:β} (e:bnd x f=some r) (h:∀ a,f a=some r→∃ n,g n a=some r):∃ n,bnd x (g n)=some r:=by
 cases x with
 | none=>cases e
 | some a=>exact h a e
theorem QL {f i h args r} (e:Z9 (d5 T X) f i h args=some r):∃ n,Z9 (call T X n) f i h args=some r:=by
 refine qb e fun a e=>qb e fun b e=>?_
 cases hb:b.1.all P6 with
 | false=>rw[hb] at e; exact ⟨0,e⟩
 | true=>
 rw[hb] at e
 cases hcf:d5 T X f b.1 b.2.1 with
 | none=>rw[hcf] at e; cases e
 | some x=>
   obtain ⟨n,hn⟩:=V9 hcf;exact ⟨n,by rw[hn]; rw[hcf] at e; exact e⟩
theorem qm9 {f h args r} (e:Ky (d5 T X) f h args=some r):∃ n,Ky (call T X n) f h args=some r:=by
 refine qb e fun a e=>?_
 cases hb:(a.1.map V.d).all P6 with
 | false=>rw[hb] at e; exact ⟨0,e⟩
 | true=>
 rw[hb] at e
 cases hcf:d5 T X f (a.1.map V.d) [] with
 | none=>rw[hcf] at e; cases e
 | some x=>
   obtain ⟨n,hn⟩:=V9 hcf;exact ⟨n,by rw[hn]; rw[hcf] at e; exact e⟩
theorem qe1 {i op ev h r} (e:j7 T (d5 T X) i op ev h=some r):∃ n,j7 T (call T X n) i op ev h=some r:=by
 cases op with
 | call f args=>exact qb e fun _ e=>QL e
 | callB f args=>exact qb e fun _ e=>qm9 e
 | callV f args=>exact qb e fun _ e=>qb e fun _ e=>qb e fun ⟨_,_⟩ e=>QL e
 | inv m x args=>
   refine qb e fun _ e=>qb e fun _ e=>qb e fun ⟨_,_⟩ e=>qb e fun ⟨_,p⟩ e=>?_
   cases p with
   | none=>exact QL e
   | some p=>obtain ⟨_,_,_⟩:=p; exact qb e fun _ e=>QL e
 | _=>exact ⟨0,e⟩
theorem qwp {o s r} (e:step T (d5 T X) o s=some r):∃ n,step T (call T X n) o s=some r:=by
 refine qb e fun b e=>?_
 cases b with
 | false=>exact ⟨0,e⟩
 | true=>
   cases hx:j7 T (d5 T X) o.i o.op (evO s.env) s.h with
   | none=>rw[hx] at e; cases e
   | some x=>
     obtain ⟨n,hn⟩:=qe1 hx;exact ⟨n,by rw[hn]; rw[hx] at e; exact e⟩
theorem qw2 [X.Mono] (os:List AIns):∀ (s:RS) (rs:List Rec) (r:RR × List Rec),XX T (d5 T X) os s rs=some r→∃ n,XX T (call T X n) os s rs=some r:=by
 induction os with
 | nil=>exact fun s rs r e=>⟨0,e⟩
 | cons o os ih=>
   intro s rs r e;rw[XX] at e
   cases hs:step T (d5 T X) o s with
   | none=>rw[hs,qfa] at e; cases e
   | some x=>
     rw[hs,p7] at e;obtain ⟨n,hn⟩:=qwp hs
     cases x with
     | go s' r'=>
       obtain ⟨m,hm⟩:=ih s' (r' :: rs) r e;refine ⟨max n m,?_⟩;rw[XX,qgq (U1 (Nat.le_max_left n m)) hn,p7];exact qae (U1 (Nat.le_max_right n m)) hm
     | pan v s' r'=>exact ⟨n,by rw[XX,hn,p7]; exact e⟩
     | out=>exact ⟨n,by rw[XX,hn,p7]; exact e⟩
theorem qu0 {i op A ev h r} (e:kB T (d5 T X) i op A ev h=some r):∃ n,kB T (call T X n) i op A ev h=some r:=by
 unfold kB at *
 cases hc:N0 op with
 | true=>rw[hc] at e; exact qe1 e
 | false=>rw[hc] at e; exact qe1 e
theorem qto {o A s r} (e:Zq T (d5 T X) o A s=some r):∃ n,Zq T (call T X n) o A s=some r:=by
 refine qb e fun b e=>?_
 cases b with
 | false=>exact ⟨0,e⟩
 | true=>
   cases hx:kB T (d5 T X) o.i o.op A (evO s.env) s.h with
   | none=>rw[hx] at e; cases e
   | some x=>
     obtain ⟨n,hn⟩:=qu0 hx;exact ⟨n,by rw[hn]; rw[hx] at e; exact e⟩
theorem qw3 [X.Mono] {ps es} (os:List AIns):∀ (s:RS) (rs:List Rec) (r:RR × List Rec),Zr T (d5 T X) ps es os s rs=some r→∃ n,Zr T (call T X n) ps es os s rs=some r:=by
 induction os with
 | nil=>exact fun s rs r e=>⟨0,e⟩
 | cons o os ih=>
   intro s rs r e;rw[Zr] at e
   cases hs:Zq T (d5 T X) o (v6 o.op (evO s.env) s.h) s with
   | none=>rw[hs,qfa] at e; cases e
   | some x=>
     rw[hs,p7] at e;obtain ⟨n,hn⟩:=qto hs
     cases x with
     | go s' r'=>
       obtain ⟨m,hm⟩:=ih s' (r' :: rs) r e;refine ⟨max n m,?_⟩;rw[Zr,qcy (U1 (Nat.le_max_left n m)) hn,p7];exact qaf (U1 (Nat.le_max_right n m)) hm
     | pan v s' r'=>exact ⟨n,by rw[Zr,hn,p7]; exact e⟩
     | out=>exact ⟨n,by rw[Zr,hn,p7]; exact e⟩
theorem qpu [X.Mono] {pin ops draw keep st r} (e:region T (d5 T X) pin ops draw keep st=some r):∃ n,region T (call T X n) pin ops draw keep st=some r:=by
 unfold region at *
 cases draw with
 | none=>
   simp only[wi] at *
   cases hr:XX T (d5 T X) ops { env:=st.env,h:=n7 st.heap } [] with
   | none=>rw[hr] at e; cases e
   | some x=>
     obtain ⟨n,hn⟩:=qw2 _ _ _ _ hr;exact ⟨n,by rw[hn]; rw[hr] at e; exact e⟩
 | some d=>
   simp only[zg] at *
   cases hr:Zr T (d5 T X) d.1 d.2 ops { env:=st.env,h:=n7 st.heap } [] with
   | none=>rw[hr] at e; cases e
   | some x=>
     obtain ⟨n,hn⟩:=qw3 _ _ _ _ hr;exact ⟨n,by rw[hn]; rw[hr] at e; exact e⟩
section
variable [X.Mono] {pin:Nat} {st:St}
theorem zkv:A4 T X pin .skip st=some (.nrm,st):=D3 (n:=0) rfl
theorem zkx {id keep r} (h:(bnd (kG pin keep st.env (n7 st.heap)) fun st=>some (Ex.exit id,st))=some r):A4 T X pin (.exit id keep) st=some r:=D3 (n:=0) h
theorem eRet:A4 T X pin .ret st=some (.ret,st):=D3 (n:=0) rfl
theorem q20 {ops draw keep r} (e:region T (d5 T X) pin ops draw keep st=some r):A4 T X pin (.region ops draw keep) st=some r:=by
 obtain ⟨n,hn⟩:=qpu e;exact D3 (n:=n) hn
theorem eSeq {a b st' r} (ha:A4 T X pin a st=some (.nrm,st')) (hb:A4 T X pin b st'=some r):A4 T X pin (.seq a b) st=some r:=by
 obtain ⟨n,hn⟩:=A5 ha;obtain ⟨m,hm⟩:=A5 hb;refine D3 (n:=max n m) ?_;unfold code;rw[K0 (U1 (Nat.le_max_left n m)) (Nat.le_max_left n m) a hn];exact K0 (U1 (Nat.le_max_right n m)) (Nat.le_max_right n m) b hm
theorem qsl {a b x st'} (ha:A4 T X pin a st=some (x,st')) (hx:x ≠ .nrm):A4 T X pin (.seq a b) st=some (x,st'):=by
 obtain ⟨n,hn⟩:=A5 ha;refine D3 (n:=n) ?_;unfold code;rw[hn]
 cases x with
 | nrm=>exact absurd rfl hx
 | _=>rfl
theorem zak {c a b r} (hc:evO st.env c=some (.d (.bool true))) (h:A4 T X pin a st=some r):A4 T X pin (.cond c a b) st=some r:=by
 obtain ⟨n,hn⟩:=A5 h;refine D3 (n:=n) ?_;unfold code;rw[hc]; exact hn
theorem zal {c a b r} (hc:evO st.env c=some (.d (.bool false))) (h:A4 T X pin b st=some r):A4 T X pin (.cond c a b) st=some r:=by
 obtain ⟨n,hn⟩:=A5 h;refine D3 (n:=n) ?_;unfold code;rw[hc]; exact hn
theorem qe3 {id a x st'} (h:A4 T X pin a st=some (x,st')):A4 T X pin (.block id a) st=some (match x with | .exit i=>if i=id then .nrm else .exit i | x=>x,st'):=by
 obtain ⟨n,hn⟩:=A5 h;refine D3 (n:=n) ?_;unfold code;rw[hn]
 cases x with
 | exit i=>simp only; split <;> rfl
 | _=>rfl
theorem zaj {a r} (h:A4 T X pin a st=some r):A4 T X pin (.scope a) st=some r:=by
 obtain ⟨n,hn⟩:=A5 h;exact D3 (n:=n) (by unfold code; exact hn)
theorem zkw {keep a st1 st2 r} (hk:kG pin keep st.env (n7 st.heap)=some st1) (h:A4 T X pin a st1=some (.nrm,st2)) (hl:A4 T X pin (.loop keep a) st2=some r):A4 T X pin (.loop keep a) st=some r:=by
 obtain ⟨n,hn⟩:=A5 h;obtain ⟨m,hm⟩:=A5 hl;refine D3 (n:=max n m + 1) ?_;unfold code;unfold JL;simp only[hk];rw[K0 (U1 (by omega:n≤max n m + 1)) (by omega) a hn];unfold code at hm;refine Xl (fun st r h=>?_) (Nat.le_max_right n m) hm
 cases he:kG pin keep st.env (n7 st.heap) with
 | none=>rw[he] at h; cases h
 | some x=>rw[he] at h; exact K0 (U1 (by omega)) (by omega) a h
theorem qky {keep a st1 x st2} (hk:kG pin keep st.env (n7 st.heap)=some st1) (h:A4 T X pin a st1=some (x,st2)) (hx:x ≠ .nrm):A4 T X pin (.loop keep a) st=some (x,st2):=by
 obtain ⟨n,hn⟩:=A5 h;refine D3 (n:=n + 1) ?_;unfold code;unfold JL;simp only[hk];rw[K0 (U1 (by omega:n≤n + 1)) (by omega) a hn]
 cases x with
 | nrm=>exact absurd rfl hx
 | _=>rfl
theorem q5d {f af vs heap x st' r} (hx:X.run f=none) (hf:T.funs f=some af) (hl:vs.length=af.np)
 (h:A4 T X heap.length af.code { env:=(List.range af.np).zip vs,heap } = some (x,st')) (hr:x = .nrm∨x = .ret) (he:zj heap.length af.res st'=some r):d5 T X f vs heap=some r:=by
 obtain ⟨n,hn⟩:=A5 h;refine ZM (n:=n + 1) ?_;unfold call;simp only[hx,hf,hl,if_true];rw[hn]
 rcases hr with rfl | rfl <;> exact he
theorem zam {f af vs heap v st'} (hx:X.run f=none) (hf:T.funs f=some af) (hl:vs.length=af.np)
 (h:A4 T X heap.length af.code { env:=(List.range af.np).zip vs,heap } = some (.pan v,st')):d5 T X f vs heap=some (.pan v st'.heap):=by
 obtain ⟨n,hn⟩:=A5 h;refine ZM (n:=n + 1) ?_;unfold call;simp only[hx,hf,hl,if_true];rw[hn]
theorem zan {f af vs heap st'} (hx:X.run f=none) (hf:T.funs f=some af) (hl:vs.length=af.np)
 (h:A4 T X heap.length af.code { env:=(List.range af.np).zip vs,heap } = some (.out,st')):d5 T X f vs heap=some .out:=by
 obtain ⟨n,hn⟩:=A5 h;refine ZM (n:=n + 1) ?_;unfold call;simp only[hx,hf,hl,if_true];rw[hn]
theorem vf {α:Type} {x y:Option α} (h:∀ r,x=some r→y=some r) (k:∀ r,y=some r→x=some r):x=y:=by
 cases x with
 | some a=>rw[h a rfl]
 | none=>cases y with
   | none=>rfl
   | some b=>exact k b rfl
def q6s (x:Option (Ex × St)) (k:St→Option (Ex × St)):Option (Ex × St):=match x with
 | some (.nrm,st')=>k st'
 | r=>r
def qzr (x:Option V) (a b:Option (Ex × St)):Option (Ex × St):=match x with
 | some (.d (.bool true))=>a
 | some (.d (.bool false))=>b
 | _=>none
def qa4 (id:Nat) (x:Option (Ex × St)):Option (Ex × St):=match x with
 | some (.exit id',st')=>if id'=id then some (.nrm,st') else some (.exit id',st')
 | r=>r
@[simp] theorem zbk (i st):qa4 i (some (.nrm,st))=some (.nrm,st):=rfl
@[simp] theorem qon (i j st):qa4 i (some (.exit j,st))=if j=i then some (.nrm,st) else some (.exit j,st):=rfl
@[simp] theorem zbi (i st):qa4 i (some (.ret,st))=some (.ret,st):=rfl
@[simp] theorem zbj (i v st):qa4 i (some (.pan v,st))=some (.pan v,st):=rfl
def zkq (x:Option (Ex × St)) (k:St→Option CRes):Option CRes:=match x with
 | some (.nrm,st)=>k st
 | some (.ret,st)=>k st
 | some (.pan v,st)=>some (.pan v st.heap)
 | some (.out,_)=>some .out
 | _=>none
theorem qrg {id keep}:A4 T X pin (.exit id keep) st=bnd (kG pin keep st.env (n7 st.heap)) fun st=>some (.exit id,st):=by
 refine vf (fun r h=>?_) (fun r h=>zkx h);obtain ⟨n,hn⟩:=A5 h;exact hn
theorem qre:A4 T X pin .skip st=some (.nrm,st):=zkv
theorem qu8:A4 T X pin .ret st=some (.ret,st):=eRet
theorem WM {ops draw keep}:A4 T X pin (.region ops draw keep) st=region T (d5 T X) pin ops draw keep st:=by
 refine vf (fun r h=>?_) (fun r h=>q20 h);obtain ⟨n,hn⟩:=A5 h;refine qbg (fun f vs hp r e=>ZM e) hn
theorem qu7 {a b}:A4 T X pin (.seq a b) st=q6s (A4 T X pin a st) (fun st'=>A4 T X pin b st'):=by
 refine vf (fun r h=>?_) (fun r h=>?_)
 ·obtain ⟨n,hn⟩:=A5 h;unfold code at hn
  cases ha:code T (call T X n) pin n a st with
  | none=>rw[ha] at hn; cases hn
  | some x=>
    rw[D3 ha];rw[ha] at hn;obtain ⟨ex,st'⟩:=x
    cases ex with
    | nrm=>exact D3 hn
    | exit id=>exact hn
    | ret=>exact hn
    | pan v=>exact hn
    | out=>exact hn
 ·cases ha:A4 T X pin a st with
  | none=>rw[ha] at h; cases h
  | some x=>
    rw[ha] at h;obtain ⟨ex,st'⟩:=x
    cases ex with
    | nrm=>exact eSeq ha h
    | exit id=>cases h; exact qsl ha (by simp)
    | ret=>cases h; exact qsl ha (by simp)
    | pan v=>cases h; exact qsl ha (by simp)
    | out=>cases h; exact qsl ha (by simp)
theorem qrh {c a b}:A4 T X pin (.cond c a b) st=qzr (evO st.env c) (A4 T X pin a st) (A4 T X pin b st):=by
 refine vf (fun r h=>?_) (fun r h=>?_)
 ·obtain ⟨n,hn⟩:=A5 h;unfold code at hn;split at hn
  ·rename_i hc; rw[hc]; exact D3 hn
  ·rename_i hc; rw[hc]; exact D3 hn
  ·cases hn
 ·unfold qzr at h;split at h
  ·rename_i hc; exact zak hc h
  ·rename_i hc; exact zal hc h
  ·cases h
theorem qog {id a}:A4 T X pin (.block id a) st=qa4 id (A4 T X pin a st):=by
 refine vf (fun r h=>?_) (fun r h=>?_)
 ·obtain ⟨n,hn⟩:=A5 h;unfold code at hn
  cases ha:code T (call T X n) pin n a st with
  | none=>rw[ha] at hn; cases hn
  | some x=>rw[D3 ha]; rw[ha] at hn; exact hn
 ·cases ha:A4 T X pin a st with
  | none=>rw[ha] at h; cases h
  | some x=>
    rw[ha] at h;obtain ⟨ex,st'⟩:=x
    cases ex with
    | exit i=>
      rw[qe3 ha];simp only[qon] at h ⊢
      split at h <;> rename_i hi <;> simp only[hi,if_true,if_false] <;> exact h
    | nrm=>cases h; exact qe3 ha
    | ret=>cases h; exact qe3 ha
    | pan v=>cases h; exact qe3 ha
    | out=>cases h; exact qe3 ha
theorem qof {a}:A4 T X pin (.scope a) st=A4 T X pin a st:=by
 refine vf (fun r h=>?_) (fun r h=>zaj h);obtain ⟨n,hn⟩:=A5 h;exact D3 (n:=n) (by unfold code at hn; exact hn)
theorem qrf {keep a}:A4 T X pin (.loop keep a) st=bnd (kG pin keep st.env (n7 st.heap)) fun st1=>q6s (A4 T X pin a st1) fun st2=>A4 T X pin (.loop keep a) st2:=by
 refine vf (fun r h=>?_) (fun r h=>?_)
 ·obtain ⟨n,hn⟩:=A5 h;unfold code at hn
  cases n with
  | zero=>cases hn
  | succ n=>
    unfold JL at hn
    cases hk:kG pin keep st.env (n7 st.heap) with
    | none=>simp only[hk] at hn; cases hn
    | some st1=>
      simp only[hk] at hn;rw[p7]
      cases ha:code T (call T X (n + 1)) pin (n + 1) a st1 with
      | none=>rw[ha] at hn; cases hn
      | some x=>
        rw[D3 ha];rw[ha] at hn;obtain ⟨ex,st2⟩:=x
        cases ex with
        | nrm=>
          refine D3 (n:=n + 1) ?_;unfold code;exact Xl (fun _ _ h=>h) (Nat.le_succ n) hn
        | exit id=>exact hn
        | ret=>exact hn
        | pan v=>exact hn
        | out=>exact hn
 ·cases hk:kG pin keep st.env (n7 st.heap) with
  | none=>rw[hk] at h; cases h
  | some st1=>
    rw[hk] at h;simp only[p7] at h
    cases ha:A4 T X pin a st1 with
    | none=>rw[ha] at h; cases h
    | some x=>
      rw[ha] at h;obtain ⟨ex,st2⟩:=x
      cases ex with
      | nrm=>exact zkw hk ha h
      | exit id=>cases h; exact qky hk ha (by simp)
      | ret=>cases h; exact qky hk ha (by simp)
      | pan v=>cases h; exact qky hk ha (by simp)
      | out=>cases h; exact qky hk ha (by simp)
theorem qij {f r vs heap} (hx:X.run f=none) (hf:T.funs f=none) (hr:T.recs f=some r):d5 T X f vs heap=qb4 (fun p a st=>A4 T X p a st) r vs heap:=by
 refine vf (fun x h=>?_) (fun x h=>?_)
 ·obtain ⟨n,hn⟩:=V9 h
  cases n with
  | zero=>cases hn
  | succ n=>
    unfold call at hn;simp only[hx,hf,hr] at hn;exact qgz (fun p a st x h=>D3 h) hn
 ·obtain ⟨n,hn⟩:=qxb (g:=fun n p a st=>code T (call T X n) p n a st) (fun n m hnm p a st x h=>K0 (U1 hnm) hnm a h) (fun p a st x h=>A5 h) h;refine ZM (n:=n + 1) ?_;unfold call;simp only[hx,hf,hr];exact hn
theorem qva {f af vs heap} (hx:X.run f=none) (hf:T.funs f=some af) (hl:vs.length=af.np) :
 d5 T X f vs heap=zkq (A4 T X heap.length af.code { env:=(List.range af.np).zip vs,heap }) (zj heap.length af.res):=by
 refine vf (fun r h=>?_) (fun r h=>?_)
 ·obtain ⟨n,hn⟩:=V9 h
  cases n with
  | zero=>cases hn
  | succ n=>
    unfold call at hn;simp only[hx,hf,hl,if_true] at hn
    cases hc:code T (call T X n) heap.length n af.code { env:=(List.range af.np).zip vs,heap } with
    | none=>rw[hc] at hn; cases hn
    | some x=>rw[D3 hc]; rw[hc] at hn; exact hn
 ·cases hc:A4 T X heap.length af.code { env:=(List.range af.np).zip vs,heap } with
  | none=>rw[hc] at h; cases h
  | some x=>
    rw[hc] at h;obtain ⟨ex,st⟩:=x
    cases ex with
    | nrm=>exact q5d hx hf hl hc (.inl rfl) h
    | ret=>exact q5d hx hf hl hc (.inr rfl) h
    | pan v=>cases h; exact zam hx hf hl hc
    | out=>cases h; exact zan hx hf hl hc
    | exit id=>cases h
end
end Go.Rf

namespace Go.Rf
def ccX (K:Nat):CF→List V→List Obj→Option CRes:=fun _ vs heap=>match vs,heap with
 | [.ptr (.b 0) 0 0],.arr [.agg [.d .nilp,r]] ⟨2,k⟩ :: rest=>if k=K then some (.ret [] (.arr [.agg [.ptr (.b 0) 0 0,r]] ⟨2,k⟩ :: rest)) else none
 | [.ptr (.b 0) 0 0],.arr [.agg [.ptr (.b 0) 0 0,r]] ⟨2,k⟩ :: rest=>if k=K then some (.ret [] (.arr [.agg [.ptr (.b 0) 0 0,r]] ⟨2,k⟩ :: rest)) else none
 | _,_=>none
def qzy:List V→Option (List UInt8)
 | []=>some []
 | .d (.int .u8 n) :: l=>if 0≤n∧n < 256 then (qzy l).map (UInt8.ofNat n.toNat :: ·) else none
 | _ :: _=>none
def bsX (K K5:Nat):CF→List V→List Obj→Option CRes:=fun _ vs heap=>match vs,heap with
 | [.ptr (.b 0) 0 0],.arr [.agg [a,.ref (.b 1) ⟨1,k5⟩ 0 n]] ⟨2,k⟩ :: .arr xs ⟨1,k6⟩ :: rest=>
   if k=K∧k5=K5∧k6=K5∧n=xs.length∧0 < n then bnd (qzy xs) fun s=>some (.ret [.d (.str s)] (.arr [.agg [a,.ref (.b 1) ⟨1,k5⟩ 0 n]] ⟨2,k⟩ :: .dead :: rest)) else none
 | _,_=>none
end Go.Rf
