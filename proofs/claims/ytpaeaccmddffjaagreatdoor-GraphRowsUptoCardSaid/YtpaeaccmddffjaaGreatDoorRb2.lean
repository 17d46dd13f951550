/- Parts of the proof. -/
import Derived.Test.YtpaeaccmddffjaaGreatDoorRb1
set_option linter.all false
namespace Go.Rf
def CF.le (c c':CF):Prop:=∀ f vs h r,c f vs h=some r→c' f vs h=some r
theorem CF.le_refl (c:CF):CF.le c c:=fun _ _ _ _ h=>h
theorem CF.le_trans {a b c:CF} (h:CF.le a b) (k:CF.le b c):CF.le a c:=fun f vs hp r e=>k _ _ _ _ (h f vs hp r e)
theorem C7 {α β:Type} {x:Option α} {f g:α→Option β} {r:β} (e:bnd x f=some r) (h:∀ a,f a=some r→g a=some r):bnd x g=some r:=by
 cases x with
 | none=>cases e
 | some a=>exact h a e
theorem xw {α β:Type} {x y:Option α} {f g:α→Option β} {r:β} (e:bnd x f=some r) (hx:∀ a,x=some a→y=some a) (h:∀ a,f a=some r→g a=some r):bnd y g=some r:=by
 cases x with
 | none=>cases e
 | some a=>rw[hx a rfl]; exact h a e
theorem qbj {α:Type} {b:Bool} {x y x' y':Option α} {r:α} (e:sel b x y=some r) (hx:x=some r→x'=some r) (hy:y=some r→y'=some r):sel b x' y'=some r:=by
 cases b with
 | true=>exact hx e
 | false=>exact hy e
theorem wc {c c':CF} (hc:CF.le c c') {f i h args r} (e:W1 c f i h args=some r):W1 c' f i h args=some r:=
 C7 e fun _ e=>C7 e fun _ e=>qbj e (fun e=>xw e (fun _ h=>hc _ _ _ _ h) fun _ e=>e) id
theorem Wn {T:Tab} {c c':CF} (hc:CF.le c c') {i op ev h r} (e:exec T c i op ev h=some r):exec T c' i op ev h=some r:=by
 cases op with
 | call f args=>exact C7 e fun _ e=>wc hc e
 | callB f args=>exact C7 e fun _ e=>C7 e fun _ e=>qbj e (fun e=>xw e (fun _ h=>hc _ _ _ _ h) fun _ e=>e) id
 | callV f args=>exact C7 e fun _ e=>C7 e fun _ e=>C7 e fun ⟨_,_⟩ e=>wc hc e
 | inv m x args=>
   refine C7 e fun _ e=>C7 e fun _ e=>C7 e fun ⟨_,_⟩ e=>C7 e fun ⟨_,p⟩ e=>?_
   cases p with
   | none=>exact wc hc e
   | some p=>obtain ⟨_,_,_⟩:=p; exact C7 e fun _ e=>wc hc e
 | _=>exact e
theorem qfl {T:Tab} {c c':CF} (hc:CF.le c c') {o s r} (e:step T c o s=some r):step T c' o s=some r:=by
 refine C7 e fun b e=>?_
 cases b with
 | false=>exact e
 | true=>exact xw e (fun _ h=>Wn hc h) fun _ e=>e
theorem YM {T:Tab} {c c':CF} (hc:CF.le c c'):∀ {os s rs r},ZZ T c os s rs=some r→ZZ T c' os s rs=some r
 | [],_,_,_,e=>e
 | o :: os,s,rs,r,e=>by
   refine xw e (fun _ h=>qfl hc h) fun x e=>?_
   cases x with
   | go s' r'=>exact YM hc e
   | pan v s' r'=>exact e
   | out=>exact e
theorem qp7 {T:Tab} {c c':CF} (hc:CF.le c c') {i op A ev h r} (e:jy T c i op A ev h=some r):jy T c' i op A ev h=some r:=
 qbj e (Wn hc) (Wn hc)
theorem qbh {T:Tab} {c c':CF} (hc:CF.le c c') {o A s r} (e:Qu T c o A s=some r):Qu T c' o A s=some r:=by
 refine C7 e fun b e=>?_
 cases b with
 | false=>exact e
 | true=>exact xw e (fun _ h=>qp7 hc h) fun _ e=>e
theorem YN {T:Tab} {c c':CF} (hc:CF.le c c') {ps es}:∀ {os s rs r},Qx T c ps es os s rs=some r→Qx T c' ps es os s rs=some r
 | [],_,_,_,e=>e
 | o :: os,s,rs,r,e=>by
   refine xw e (fun _ h=>qbh hc h) fun x e=>?_
   cases x with
   | go s' r'=>exact YN hc e
   | pan v s' r'=>exact e
   | out=>exact e
theorem WG {T:Tab} {c c':CF} (hc:CF.le c c') {pin ops draw keep st r} (e:region T c pin ops draw keep st=some r):region T c' pin ops draw keep st=some r:=by
 cases draw with
 | none=>exact xw e (fun _ h=>YM hc h) fun _ e=>e
 | some d=>exact xw e (fun _ h=>YN hc h) fun _ e=>e
theorem Zq {f g:St→Option (Ex × St)} (hfg:∀ st r,f st=some r→g st=some r):∀ {n m:Nat} {st r},n≤m→XM n f st=some r→XM m g st=some r
 | 0,_,_,_,_,e=>by cases e
 | n + 1,0,_,_,h,_=>by omega
 | n + 1,m + 1,st,r,h,e=>by
   unfold XM at *
   cases hf:f st with
   | none=>rw[hf] at e; cases e
   | some x=>
     rw[hf] at e; rw[hfg _ _ hf];obtain ⟨ex,st'⟩:=x
     cases ex with
     | nrm=>exact Zq hfg (by omega) e
     | exit id=>exact e
     | ret=>exact e
     | pan v=>exact e
     | out=>exact e
theorem KO {f g:List D→List Obj→Option (Ex × List Obj)} (h:∀ d hp x,f d hp=some x→g d hp=some x):∀ ds {hp x},Z5 f ds hp=some x→Z5 g ds hp=some x
 | [],_,_,e=>e
 | d :: ds,hp,x,e=>by
   unfold Z5 at *
   cases h1:f d hp with
   | none=>rw[h1] at e; cases e
   | some y=>
     rw[h1] at e;rw[h _ _ _ h1];obtain ⟨ex,hp'⟩:=y;simp only[l8] at e ⊢
     cases ex with
     | nrm=>
       simp only at e ⊢
       cases h2:Z5 f ds hp' with
       | none=>rw[h2] at e; cases e
       | some z=>rw[h2] at e; rw[KO h ds h2]; exact e
     | _=>exact e
theorem qk6 {ps:List Nat} {ca cb ca' cb':Nat→St→Option (Ex × St)} (h1:∀ p st x,ca p st=some x→ca' p st=some x) (h2:∀ p st x,cb p st=some x→cb' p st=some x) {env d hp x} (e:vX ps ca cb env d hp=some x):vX ps ca' cb' env d hp=some x:=by
 unfold vX at *;split at e
 ·rename_i hl;rw[if_pos hl]
  cases k1:ca hp.length { env:=ps.zip (d.map .d)++env,heap:=hp } with
  | none=>rw[k1] at e; cases e
  | some y=>
    rw[k1] at e; rw[h1 _ _ _ k1];obtain ⟨ex,st1⟩:=y
    cases ex with
    | nrm=>
      simp only at e ⊢
      cases k2:cb hp.length st1 with
      | none=>rw[k2] at e; cases e
      | some z=>rw[k2] at e; rw[h2 _ _ _ k2]; exact e
    | _=>exact e
 ·cases e
theorem qk7 {T:Tab} {c c':CF} (hc:CF.le c c') {env keep pin heap v x} {f g:List D→List Obj→Option (Ex × List Obj)} (h:∀ d hp x,f d hp=some x→g d hp=some x) (e:YT T c env keep pin heap f v=some x):YT T c' env keep pin heap g v=some x:=by
 unfold YT at *;split at e
 ·split at e
  ·rename_i hf;simp only[if_pos hf]
   refine C7 (show bnd _ _=some x from e) fun it e=>?_
   cases h1:it.1 c _ with
   | none=>rw[h1] at e; cases e
   | some ys=>
     rw[h1] at e; obtain ⟨_,h1'⟩:=it.2 (fun _=>c') (fun _ _ _ _ _ _ _ h=>h) c (fun f vs h r e=>⟨0,hc f vs h r e⟩) _ _ h1; rw[h1'];simp only[l8] at e ⊢
     cases h2:Z5 f ys heap with
     | none=>rw[h2] at e; cases e
     | some z=>
       rw[h2] at e; rw[KO h ys h2];simp only[l8] at e ⊢
       cases h3:c _ _ _ with
       | none=>rw[h3] at e; cases e
       | some r=>rw[h3] at e; rw[hc _ _ _ _ h3]; exact e
  ·cases e
 ·cases e
theorem C6 {T:Tab} {c c':CF} (hc:CF.le c c') {pin n m:Nat} (hn:n≤m):∀ (a:ACode) {st r},code T c pin n a st=some r→code T c' pin m a st=some r
 | .skip,_,_,e=>e
 | .region ops draw keep,_,_,e=>WG hc e
 | .seq a b,st,r,e=>by
   unfold code at *
   cases ha:code T c pin n a st with
   | none=>rw[ha] at e; cases e
   | some x=>
     rw[ha] at e; rw[C6 hc hn a ha];obtain ⟨ex,st'⟩:=x
     cases ex with
     | nrm=>exact C6 hc hn b e
     | exit id=>exact e
     | ret=>exact e
     | pan v=>exact e
     | out=>exact e
 | .cond o a b,st,r,e=>by
   unfold code at *;split at e
   ·exact C6 hc hn a e
   ·exact C6 hc hn b e
   ·cases e
 | .block id a,st,r,e=>by
   unfold code at *
   cases ha:code T c pin n a st with
   | none=>rw[ha] at e; cases e
   | some x=>rw[ha] at e; rw[C6 hc hn a ha]; exact e
 | .loop keep a,st,r,e=>by
   unfold code at *;refine Zq (fun st r h=>?_) hn e
   cases he:wb pin keep st.env (j5 st.heap) with
   | none=>rw[he] at h; cases h
   | some x=>rw[he] at h; exact C6 hc hn a h
 | .exit _ _,_,_,e=>e
 | .scope a,st,r,e=>by
   unfold code at *;exact C6 hc hn a e
 | .ret,_,_,e=>e
 | .refuse,_,_,e=>e
 | .rangeF g ps a b keep,st,r,e=>by
   unfold code at *
   refine C7 (show bnd _ _=some r from e) fun v e=>?_
   exact qk7 hc (fun d hp x h=>qk6 (fun p st x h=>C6 hc hn a h) (fun p st x h=>C6 hc hn b h) h) e
class Exts.Mono (X:Exts):Prop where
 le:∀ f e,X.run f=some e→∀ c c',CF.le c c'→∀ vs h r,e c vs h=some r→e c' vs h=some r
theorem qfx {cd cd':Nat→ACode→St→Option (Ex × St)} (h:∀ p a st x,cd p a st=some x→cd' p a st=some x) {r vs heap x} (e:qal cd r vs heap=some x):qal cd' r vs heap=some x:=by
 unfold qal at *;split at e
 ·rename_i hl;rw[if_pos hl]
  cases h1:cd heap.length r.pre { env:=(List.range r.np).zip vs,heap } with
  | none=>rw[h1] at e; cases e
  | some y=>
    rw[h1] at e;rw[h _ _ _ _ h1];obtain ⟨ex,st⟩:=y
    cases ex with
    | nrm=>
      refine C7 (show bnd _ _=some x from e) fun cs e=>?_
      cases h2:cd st.heap.length r.body { env:=(r.t,.junk) :: st.env,heap:=st.heap } with
      | none=>rw[h2] at e; cases e
      | some z=>
        rw[h2] at e;rw[h _ _ _ _ h2]
        have hh:∀ v hp,qpx heap.length r.res (jB r st.env) (cd (List.length hp) r.hcode { env:=(r.hv,v) :: (List.range cs.length).zip cs,heap:=hp })=some x→qpx heap.length r.res (jB r st.env) (cd' (List.length hp) r.hcode { env:=(r.hv,v) :: (List.range cs.length).zip cs,heap:=hp })=some x:=by
         intro v hp e
         cases h3:cd (List.length hp) r.hcode { env:=(r.hv,v) :: (List.range cs.length).zip cs,heap:=hp } with
         | none=>rw[h3] at e; cases e
         | some u=>rw[h _ _ _ _ h3]; rw[h3] at e; exact e
        obtain ⟨ex,st2⟩:=z
        cases ex with
        | nrm=>exact hh _ _ e
        | ret=>exact hh _ _ e
        | pan v=>cases v <;> first | (cases e; done) | (rename_i y; cases y <;> first | (cases e; done) | exact hh _ _ e)
        | out=>exact e
        | exit id=>cases e
    | ret=>exact e
    | pan v=>exact e
    | out=>exact e
    | exit id=>cases e
 ·cases e
theorem qxe {cd:Nat→ACode→St→Option (Ex × St)} {g:Nat→Nat→ACode→St→Option (Ex × St)} (hg:∀ n m,n≤m→∀ p a st x,g n p a st=some x→g m p a st=some x) (h:∀ p a st x,cd p a st=some x→∃ n,g n p a st=some x)
 {r vs heap x} (e:qal cd r vs heap=some x):∃ n,qal (g n) r vs heap=some x:=by
 unfold qal at *;split at e
 ·rename_i hl;simp only[if_pos hl]
  cases h1:cd heap.length r.pre { env:=(List.range r.np).zip vs,heap } with
  | none=>rw[h1] at e; cases e
  | some y=>
    rw[h1] at e;obtain ⟨n1,k1⟩:=h _ _ _ _ h1;obtain ⟨ex,st⟩:=y
    cases ex with
    | nrm=>
      cases hs:Zb st.env r.caps with
      | none=>simp only[qid,hs,qd5] at e; cases e
      | some cs=>
        simp only[qid,hs,l8] at e
        cases h2:cd st.heap.length r.body { env:=(r.t,.junk) :: st.env,heap:=st.heap } with
        | none=>rw[h2] at e; cases e
        | some z=>
          rw[h2] at e;obtain ⟨n2,k2⟩:=h _ _ _ _ h2
          have hh:∀ v hp,qpx heap.length r.res (jB r st.env) (cd (List.length hp) r.hcode { env:=(r.hv,v) :: (List.range cs.length).zip cs,heap:=hp })=some x→∃ n,qpx heap.length r.res (jB r st.env) (g n (List.length hp) r.hcode { env:=(r.hv,v) :: (List.range cs.length).zip cs,heap:=hp })=some x∧n1≤n∧n2≤n:=by
           intro v hp e
           cases h3:cd (List.length hp) r.hcode { env:=(r.hv,v) :: (List.range cs.length).zip cs,heap:=hp } with
           | none=>rw[h3] at e; cases e
           | some u=>
             obtain ⟨n3,k3⟩:=h _ _ _ _ h3;refine ⟨max n3 (max n1 n2),?_,by omega,by omega⟩;rw[hg n3 _ (by omega) _ _ _ _ k3];rw[h3] at e; exact e
          obtain ⟨ex,st2⟩:=z
          cases ex with
          | nrm=>
            obtain ⟨n,a1,a2,a3⟩:=hh _ _ e;exact ⟨n,by rw[hg n1 n a2 _ _ _ _ k1]; simp only[qid,hs,l8]; rw[hg n2 n a3 _ _ _ _ k2]; exact a1⟩
          | ret=>
            obtain ⟨n,a1,a2,a3⟩:=hh _ _ e;exact ⟨n,by rw[hg n1 n a2 _ _ _ _ k1]; simp only[qid,hs,l8]; rw[hg n2 n a3 _ _ _ _ k2]; exact a1⟩
          | pan v=>
            cases v <;> first | (cases e; done) | skip
            rename_i y
            cases y <;> first | (cases e; done) | skip
            obtain ⟨n,a1,a2,a3⟩:=hh _ _ e;exact ⟨n,by rw[hg n1 n a2 _ _ _ _ k1]; simp only[qid,hs,l8]; rw[hg n2 n a3 _ _ _ _ k2]; exact a1⟩
          | out=>
            refine ⟨max n1 n2,?_⟩;rw[hg n1 _ (by omega) _ _ _ _ k1]; simp only[qid,hs,l8]; rw[hg n2 _ (by omega) _ _ _ _ k2]; exact e
          | exit id=>cases e
    | ret=>exact ⟨n1,by rw[k1]; exact e⟩
    | pan v=>exact ⟨n1,by rw[k1]; exact e⟩
    | out=>exact ⟨n1,by rw[k1]; exact e⟩
    | exit id=>cases e
 ·cases e
theorem qg9 {T:Tab} {X:Exts} [X.Mono]:∀ n,CF.le (call T X n) (call T X (n + 1))
 | 0=>fun _ _ _ _ e=>by cases e
 | n + 1=>fun f vs h r e=>by
   have ih:=qg9 (T:=T) (X:=X) n;unfold call at e ⊢
   cases hx:X.run f with
   | some ex=>simp only[hx] at e ⊢; exact Exts.Mono.le f ex hx _ _ ih _ _ _ e
   | none=>
     simp only[hx] at e ⊢;split at e
     ·split at e
      ·exact qfx (fun p a st x h=>C6 ih (Nat.le_succ n) a h) e
      ·cases e
     ·rename_i af haf;split at e
      ·rename_i hl;simp only[hl,if_true]
       cases hcd:code T (call T X n) h.length n af.code { env:=(List.range af.np).zip vs,heap:=h } with
       | none=>simp only[hcd] at e; cases e
       | some x=>
         have hcd':=C6 (T:=T) ih (pin:=h.length) (Nat.le_succ n) af.code hcd;simp only[hcd] at e;simp only[hcd'];exact e
      ·cases e
theorem Q2 {T:Tab} {X:Exts} [X.Mono] {n m:Nat} (h:n≤m):CF.le (call T X n) (call T X m):=by
 induction h with
 | refl=>exact CF.le_refl _
 | step _ ih=>exact CF.le_trans ih (qg9 _)
open Classical in
noncomputable def lim {α:Type} (g:Nat→Option α):Option α:=if h:∃ r n,g n=some r then some h.choose else none
theorem qyw {α:Type} {g:Nat→Option α} (hg:∀ n m r,n≤m→g n=some r→g m=some r) {n:Nat} {r:α} (h:g n=some r):lim g=some r:=by
 have hex:∃ r n,g n=some r:=⟨r,n,h⟩;unfold lim;rw[dif_pos hex];obtain ⟨m,hm⟩:=hex.choose_spec;have h1:=hg n (max n m) r (Nat.le_max_left ..) h;have h2:=hg m (max n m) _ (Nat.le_max_right ..) hm;rw[h1] at h2
 injection h2 with h2
 rw[h2]
theorem ql0 {α:Type} {g:Nat→Option α} {r:α} (h:lim g=some r):∃ n,g n=some r:=by
 unfold lim at h;split at h
 ·rename_i hex
  injection h with h
  subst h;exact hex.choose_spec
 ·cases h
variable (T:Tab) (X:Exts)
noncomputable def d6:CF:=fun f vs h=>lim (fun n=>call T X n f vs h)
noncomputable def x5 (pin:Nat) (a:ACode) (st:St):Option (Ex × St):=lim (fun n=>code T (call T X n) pin n a st)
variable {T X}
theorem jG {f vs h r}:d6 T X f vs h=some r→∃ n,call T X n f vs h=some r:=ql0
theorem xU [X.Mono] {f vs h r n} (e:call T X n f vs h=some r):d6 T X f vs h=some r:=
 qyw (fun _ _ _ hnm he=>Q2 hnm _ _ _ _ he) e
theorem x6 {pin a st r}:x5 T X pin a st=some r→∃ n,code T (call T X n) pin n a st=some r:=ql0
theorem B6 [X.Mono] {pin a st r n} (e:code T (call T X n) pin n a st=some r):x5 T X pin a st=some r:=
 qyw (fun _ _ _ hnm he=>C6 (Q2 hnm) hnm _ he) e
theorem W2 {α β:Type} {x:Option α} {f:α→Option β} {g:Nat→α→Option β} {r:β} (e:bnd x f=some r) (h:∀ a,f a=some r→∃ n,g n a=some r):∃ n,bnd x (g n)=some r:=by
 cases x with
 | none=>cases e
 | some a=>exact h a e
theorem vO {f i h args r} (e:W1 (d6 T X) f i h args=some r):∃ n,W1 (call T X n) f i h args=some r:=by
 refine W2 e fun a e=>W2 e fun b e=>?_
 cases hb:b.1.all S1 with
 | false=>rw[hb] at e; exact ⟨0,e⟩
 | true=>
 rw[hb] at e
 cases hcf:d6 T X f b.1 b.2.1 with
 | none=>rw[hcf] at e; cases e
 | some x=>
   obtain ⟨n,hn⟩:=jG hcf;exact ⟨n,by rw[hn]; rw[hcf] at e; exact e⟩
theorem ql2 {f h args r} (e:Yf (d6 T X) f h args=some r):∃ n,Yf (call T X n) f h args=some r:=by
 refine W2 e fun a e=>?_
 cases hb:(a.1.map V.d).all S1 with
 | false=>rw[hb] at e; exact ⟨0,e⟩
 | true=>
 rw[hb] at e
 cases hcf:d6 T X f (a.1.map V.d) [] with
 | none=>rw[hcf] at e; cases e
 | some x=>
   obtain ⟨n,hn⟩:=jG hcf;exact ⟨n,by rw[hn]; rw[hcf] at e; exact e⟩
theorem qdr {i op ev h r} (e:exec T (d6 T X) i op ev h=some r):∃ n,exec T (call T X n) i op ev h=some r:=by
 cases op with
 | call f args=>exact W2 e fun _ e=>vO e
 | callB f args=>exact W2 e fun _ e=>ql2 e
 | callV f args=>exact W2 e fun _ e=>W2 e fun _ e=>W2 e fun ⟨_,_⟩ e=>vO e
 | inv m x args=>
   refine W2 e fun _ e=>W2 e fun _ e=>W2 e fun ⟨_,_⟩ e=>W2 e fun ⟨_,p⟩ e=>?_
   cases p with
   | none=>exact vO e
   | some p=>obtain ⟨_,_,_⟩:=p; exact W2 e fun _ e=>vO e
 | _=>exact ⟨0,e⟩
theorem qwo {o s r} (e:step T (d6 T X) o s=some r):∃ n,step T (call T X n) o s=some r:=by
 refine W2 e fun b e=>?_
 cases b with
 | false=>exact ⟨0,e⟩
 | true=>
   cases hx:exec T (d6 T X) o.i o.op (evO s.env) s.h with
   | none=>rw[hx] at e; cases e
   | some x=>
     obtain ⟨n,hn⟩:=qdr hx;exact ⟨n,by rw[hn]; rw[hx] at e; exact e⟩
theorem qw2 [X.Mono] (os:List AIns):∀ (s:RS) (rs:List Rec) (r:RR × List Rec),ZZ T (d6 T X) os s rs=some r→∃ n,ZZ T (call T X n) os s rs=some r:=by
 induction os with
 | nil=>exact fun s rs r e=>⟨0,e⟩
 | cons o os ih=>
   intro s rs r e;rw[ZZ] at e
   cases hs:step T (d6 T X) o s with
   | none=>rw[hs,qd5] at e; cases e
   | some x=>
     rw[hs,l8] at e;obtain ⟨n,hn⟩:=qwo hs
     cases x with
     | go s' r'=>
       obtain ⟨m,hm⟩:=ih s' (r' :: rs) r e;refine ⟨max n m,?_⟩;rw[ZZ,qfl (Q2 (Nat.le_max_left n m)) hn,l8];exact YM (Q2 (Nat.le_max_right n m)) hm
     | pan v s' r'=>exact ⟨n,by rw[ZZ,hn,l8]; exact e⟩
     | out=>exact ⟨n,by rw[ZZ,hn,l8]; exact e⟩
theorem qur {i op A ev h r} (e:jy T (d6 T X) i op A ev h=some r):∃ n,jy T (call T X n) i op A ev h=some r:=by
 unfold jy at *
 cases hc:K4 op with
 | true=>rw[hc] at e; exact qdr e
 | false=>rw[hc] at e; exact qdr e
theorem qtl {o A s r} (e:Qu T (d6 T X) o A s=some r):∃ n,Qu T (call T X n) o A s=some r:=by
 refine W2 e fun b e=>?_
 cases b with
 | false=>exact ⟨0,e⟩
 | true=>
   cases hx:jy T (d6 T X) o.i o.op A (evO s.env) s.h with
   | none=>rw[hx] at e; cases e
   | some x=>
     obtain ⟨n,hn⟩:=qur hx;exact ⟨n,by rw[hn]; rw[hx] at e; exact e⟩
theorem qw3 [X.Mono] {ps es} (os:List AIns):∀ (s:RS) (rs:List Rec) (r:RR × List Rec),Qx T (d6 T X) ps es os s rs=some r→∃ n,Qx T (call T X n) ps es os s rs=some r:=by
 induction os with
 | nil=>exact fun s rs r e=>⟨0,e⟩
 | cons o os ih=>
   intro s rs r e;rw[Qx] at e
   cases hs:Qu T (d6 T X) o (o8 o.op (evO s.env) s.h) s with
   | none=>rw[hs,qd5] at e; cases e
   | some x=>
     rw[hs,l8] at e;obtain ⟨n,hn⟩:=qtl hs
     cases x with
     | go s' r'=>
       obtain ⟨m,hm⟩:=ih s' (r' :: rs) r e;refine ⟨max n m,?_⟩;rw[Qx,qbh (Q2 (Nat.le_max_left n m)) hn,l8];exact YN (Q2 (Nat.le_max_right n m)) hm
     | pan v s' r'=>exact ⟨n,by rw[Qx,hn,l8]; exact e⟩
     | out=>exact ⟨n,by rw[Qx,hn,l8]; exact e⟩
theorem qo0 [X.Mono] {pin ops draw keep st r} (e:region T (d6 T X) pin ops draw keep st=some r):∃ n,region T (call T X n) pin ops draw keep st=some r:=by
 unfold region at *
 cases draw with
 | none=>
   simp only[kb] at *
   cases hr:ZZ T (d6 T X) ops { env:=st.env,h:=j5 st.heap } [] with
   | none=>rw[hr] at e; cases e
   | some x=>
     obtain ⟨n,hn⟩:=qw2 _ _ _ _ hr;exact ⟨n,by rw[hn]; rw[hr] at e; exact e⟩
 | some d=>
   simp only[qr] at *
   cases hr:Qx T (d6 T X) d.1 d.2 ops { env:=st.env,h:=j5 st.heap } [] with
   | none=>rw[hr] at e; cases e
   | some x=>
     obtain ⟨n,hn⟩:=qw3 _ _ _ _ hr;exact ⟨n,by rw[hn]; rw[hr] at e; exact e⟩
section
variable [X.Mono] {pin:Nat} {st:St}
theorem zkq:x5 T X pin .skip st=some (.nrm,st):=B6 (n:=0) rfl
theorem zks {id keep r} (h:(bnd (wb pin keep st.env (j5 st.heap)) fun st=>some (Ex.exit id,st))=some r):x5 T X pin (.exit id keep) st=some r:=B6 (n:=0) h
theorem eRet:x5 T X pin .ret st=some (.ret,st):=B6 (n:=0) rfl
theorem q23 {ops draw keep r} (e:region T (d6 T X) pin ops draw keep st=some r):x5 T X pin (.region ops draw keep) st=some r:=by
 obtain ⟨n,hn⟩:=qo0 e;exact B6 (n:=n) hn
theorem eSeq {a b st' r} (ha:x5 T X pin a st=some (.nrm,st')) (hb:x5 T X pin b st'=some r):x5 T X pin (.seq a b) st=some r:=by
 obtain ⟨n,hn⟩:=x6 ha;obtain ⟨m,hm⟩:=x6 hb;refine B6 (n:=max n m) ?_;unfold code;rw[C6 (Q2 (Nat.le_max_left n m)) (Nat.le_max_left n m) a hn];exact C6 (Q2 (Nat.le_max_right n m)) (Nat.le_max_right n m) b hm
theorem qsa {a b x st'} (ha:x5 T X pin a st=some (x,st')) (hx:x ≠ .nrm):x5 T X pin (.seq a b) st=some (x,st'):=by
 obtain ⟨n,hn⟩:=x6 ha;refine B6 (n:=n) ?_;unfold code;rw[hn]
 cases x with
 | nrm=>exact absurd rfl hx
 | _=>rfl
theorem zah {c a b r} (hc:evO st.env c=some (.d (.bool true))) (h:x5 T X pin a st=some r):x5 T X pin (.cond c a b) st=some r:=by
 obtain ⟨n,hn⟩:=x6 h;refine B6 (n:=n) ?_;unfold code;rw[hc]; exact hn
theorem zai {c a b r} (hc:evO st.env c=some (.d (.bool false))) (h:x5 T X pin b st=some r):x5 T X pin (.cond c a b) st=some r:=by
 obtain ⟨n,hn⟩:=x6 h;refine B6 (n:=n) ?_;unfold code;rw[hc]; exact hn
theorem qds {id a x st'} (h:x5 T X pin a st=some (x,st')):x5 T X pin (.block id a) st=some (match x with | .exit i=>if i=id then .nrm else .exit i | x=>x,st'):=by
 obtain ⟨n,hn⟩:=x6 h;refine B6 (n:=n) ?_;unfold code;rw[hn]
 cases x with
 | exit i=>simp only; split <;> rfl
 | _=>rfl
theorem zag {a r} (h:x5 T X pin a st=some r):x5 T X pin (.scope a) st=some r:=by
 obtain ⟨n,hn⟩:=x6 h;exact B6 (n:=n) (by unfold code; exact hn)
theorem zkr {keep a st1 st2 r} (hk:wb pin keep st.env (j5 st.heap)=some st1) (h:x5 T X pin a st1=some (.nrm,st2)) (hl:x5 T X pin (.loop keep a) st2=some r):x5 T X pin (.loop keep a) st=some r:=by
 obtain ⟨n,hn⟩:=x6 h;obtain ⟨m,hm⟩:=x6 hl;refine B6 (n:=max n m + 1) ?_;unfold code;unfold XM;simp only[hk];rw[C6 (Q2 (by omega:n≤max n m + 1)) (by omega) a hn];unfold code at hm;refine Zq (fun st r h=>?_) (Nat.le_max_right n m) hm
 cases he:wb pin keep st.env (j5 st.heap) with
 | none=>rw[he] at h; cases h
 | some x=>rw[he] at h; exact C6 (Q2 (by omega)) (by omega) a h
theorem qjo {keep a st1 x st2} (hk:wb pin keep st.env (j5 st.heap)=some st1) (h:x5 T X pin a st1=some (x,st2)) (hx:x ≠ .nrm):x5 T X pin (.loop keep a) st=some (x,st2):=by
 obtain ⟨n,hn⟩:=x6 h;refine B6 (n:=n + 1) ?_;unfold code;unfold XM;simp only[hk];rw[C6 (Q2 (by omega:n≤n + 1)) (by omega) a hn]
 cases x with
 | nrm=>exact absurd rfl hx
 | _=>rfl
theorem q5m {f af vs heap x st' r} (hx:X.run f=none) (hf:T.funs f=some af) (hl:vs.length=af.np)
 (h:x5 T X heap.length af.code { env:=(List.range af.np).zip vs,heap } = some (x,st')) (hr:x = .nrm∨x = .ret) (he:qz heap.length af.res st'=some r):d6 T X f vs heap=some r:=by
 obtain ⟨n,hn⟩:=x6 h;refine xU (n:=n + 1) ?_;unfold call;simp only[hx,hf,hl,if_true];rw[hn]
 rcases hr with rfl | rfl <;> exact he
theorem zaj {f af vs heap v st'} (hx:X.run f=none) (hf:T.funs f=some af) (hl:vs.length=af.np)
 (h:x5 T X heap.length af.code { env:=(List.range af.np).zip vs,heap } = some (.pan v,st')):d6 T X f vs heap=some (.pan v st'.heap):=by
 obtain ⟨n,hn⟩:=x6 h;refine xU (n:=n + 1) ?_;unfold call;simp only[hx,hf,hl,if_true];rw[hn]
theorem zak {f af vs heap st'} (hx:X.run f=none) (hf:T.funs f=some af) (hl:vs.length=af.np)
 (h:x5 T X heap.length af.code { env:=(List.range af.np).zip vs,heap } = some (.out,st')):d6 T X f vs heap=some .out:=by
 obtain ⟨n,hn⟩:=x6 h;refine xU (n:=n + 1) ?_;unfold call;simp only[hx,hf,hl,if_true];rw[hn]
theorem wa {α:Type} {x y:Option α} (h:∀ r,x=some r→y=some r) (k:∀ r,y=some r→x=some r):x=y:=by
 cases x with
 | some a=>rw[h a rfl]
 | none=>cases y with
   | none=>rfl
   | some b=>exact k b rfl
def q64 (x:Option (Ex × St)) (k:St→Option (Ex × St)):Option (Ex × St):=match x with
 | some (.nrm,st')=>k st'
 | r=>r
def qzr (x:Option V) (a b:Option (Ex × St)):Option (Ex × St):=match x with
 | some (.d (.bool true))=>a
 | some (.d (.bool false))=>b
 | _=>none
def Wr (id:Nat) (x:Option (Ex × St)):Option (Ex × St):=match x with
 | some (.exit id',st')=>if id'=id then some (.nrm,st') else some (.exit id',st')
 | r=>r
@[simp] theorem zbf (i st):Wr i (some (.nrm,st))=some (.nrm,st):=rfl
@[simp] theorem qnh (i j st):Wr i (some (.exit j,st))=if j=i then some (.nrm,st) else some (.exit j,st):=rfl
@[simp] theorem zbd (i st):Wr i (some (.ret,st))=some (.ret,st):=rfl
@[simp] theorem zbe (i v st):Wr i (some (.pan v,st))=some (.pan v,st):=rfl
def zkl (x:Option (Ex × St)) (k:St→Option CRes):Option CRes:=match x with
 | some (.nrm,st)=>k st
 | some (.ret,st)=>k st
 | some (.pan v,st)=>some (.pan v st.heap)
 | some (.out,_)=>some .out
 | _=>none
theorem qql {id keep}:x5 T X pin (.exit id keep) st=bnd (wb pin keep st.env (j5 st.heap)) fun st=>some (.exit id,st):=by
 refine wa (fun r h=>?_) (fun r h=>zks h);obtain ⟨n,hn⟩:=x6 h;exact hn
theorem qqj:x5 T X pin .skip st=some (.nrm,st):=zkq
theorem qu1:x5 T X pin .ret st=some (.ret,st):=eRet
theorem YA {ops draw keep}:x5 T X pin (.region ops draw keep) st=region T (d6 T X) pin ops draw keep st:=by
 refine wa (fun r h=>?_) (fun r h=>q23 h);obtain ⟨n,hn⟩:=x6 h;refine WG (fun f vs hp r e=>xU e) hn
theorem qu0 {a b}:x5 T X pin (.seq a b) st=q64 (x5 T X pin a st) (fun st'=>x5 T X pin b st'):=by
 refine wa (fun r h=>?_) (fun r h=>?_)
 ·obtain ⟨n,hn⟩:=x6 h;unfold code at hn
  cases ha:code T (call T X n) pin n a st with
  | none=>rw[ha] at hn; cases hn
  | some x=>
    rw[B6 ha];rw[ha] at hn;obtain ⟨ex,st'⟩:=x
    cases ex with
    | nrm=>exact B6 hn
    | exit id=>exact hn
    | ret=>exact hn
    | pan v=>exact hn
    | out=>exact hn
 ·cases ha:x5 T X pin a st with
  | none=>rw[ha] at h; cases h
  | some x=>
    rw[ha] at h;obtain ⟨ex,st'⟩:=x
    cases ex with
    | nrm=>exact eSeq ha h
    | exit id=>cases h; exact qsa ha (by simp)
    | ret=>cases h; exact qsa ha (by simp)
    | pan v=>cases h; exact qsa ha (by simp)
    | out=>cases h; exact qsa ha (by simp)
theorem qqm {c a b}:x5 T X pin (.cond c a b) st=qzr (evO st.env c) (x5 T X pin a st) (x5 T X pin b st):=by
 refine wa (fun r h=>?_) (fun r h=>?_)
 ·obtain ⟨n,hn⟩:=x6 h;unfold code at hn;split at hn
  ·rename_i hc; rw[hc]; exact B6 hn
  ·rename_i hc; rw[hc]; exact B6 hn
  ·cases hn
 ·unfold qzr at h;split at h
  ·rename_i hc; exact zah hc h
  ·rename_i hc; exact zai hc h
  ·cases h
theorem qm7 {id a}:x5 T X pin (.block id a) st=Wr id (x5 T X pin a st):=by
 refine wa (fun r h=>?_) (fun r h=>?_)
 ·obtain ⟨n,hn⟩:=x6 h;unfold code at hn
  cases ha:code T (call T X n) pin n a st with
  | none=>rw[ha] at hn; cases hn
  | some x=>rw[B6 ha]; rw[ha] at hn; exact hn
 ·cases ha:x5 T X pin a st with
  | none=>rw[ha] at h; cases h
  | some x=>
    rw[ha] at h;obtain ⟨ex,st'⟩:=x
    cases ex with
    | exit i=>
      rw[qds ha];simp only[qnh] at h ⊢
      split at h <;> rename_i hi <;> simp only[hi,if_true,if_false] <;> exact h
    | nrm=>cases h; exact qds ha
    | ret=>cases h; exact qds ha
    | pan v=>cases h; exact qds ha
    | out=>cases h; exact qds ha
theorem qm6 {a}:x5 T X pin (.scope a) st=x5 T X pin a st:=by
 refine wa (fun r h=>?_) (fun r h=>zag h);obtain ⟨n,hn⟩:=x6 h;exact B6 (n:=n) (by unfold code at hn; exact hn)
theorem qqk {keep a}:x5 T X pin (.loop keep a) st=bnd (wb pin keep st.env (j5 st.heap)) fun st1=>q64 (x5 T X pin a st1) fun st2=>x5 T X pin (.loop keep a) st2:=by
 refine wa (fun r h=>?_) (fun r h=>?_)
 ·obtain ⟨n,hn⟩:=x6 h;unfold code at hn
  cases n with
  | zero=>cases hn
  | succ n=>
    unfold XM at hn
    cases hk:wb pin keep st.env (j5 st.heap) with
    | none=>simp only[hk] at hn; cases hn
    | some st1=>
      simp only[hk] at hn;rw[l8]
      cases ha:code T (call T X (n + 1)) pin (n + 1) a st1 with
      | none=>rw[ha] at hn; cases hn
      | some x=>
        rw[B6 ha];rw[ha] at hn;obtain ⟨ex,st2⟩:=x
        cases ex with
        | nrm=>
          refine B6 (n:=n + 1) ?_;unfold code;exact Zq (fun _ _ h=>h) (Nat.le_succ n) hn
        | exit id=>exact hn
        | ret=>exact hn
        | pan v=>exact hn
        | out=>exact hn
 ·cases hk:wb pin keep st.env (j5 st.heap) with
  | none=>rw[hk] at h; cases h
  | some st1=>
    rw[hk] at h;simp only[l8] at h
    cases ha:x5 T X pin a st1 with
    | none=>rw[ha] at h; cases h
    | some x=>
      rw[ha] at h;obtain ⟨ex,st2⟩:=x
      cases ex with
      | nrm=>exact zkr hk ha h
      | exit id=>cases h; exact qjo hk ha (by simp)
      | ret=>cases h; exact qjo hk ha (by simp)
      | pan v=>cases h; exact qjo hk ha (by simp)
      | out=>cases h; exact qjo hk ha (by simp)
theorem qha {f r vs heap} (hx:X.run f=none) (hf:T.funs f=none) (hr:T.recs f=some r):d6 T X f vs heap=qal (fun p a st=>x5 T X p a st) r vs heap:=by
 refine wa (fun x h=>?_) (fun x h=>?_)
 ·obtain ⟨n,hn⟩:=jG h
  cases n with
  | zero=>cases hn
  | succ n=>
    unfold call at hn;simp only[hx,hf,hr] at hn;exact qfx (fun p a st x h=>B6 h) hn
 ·obtain ⟨n,hn⟩:=qxe (g:=fun n p a st=>code T (call T X n) p n a st) (fun n m hnm p a st x h=>C6 (Q2 hnm) hnm a h) (fun p a st x h=>x6 h) h;refine xU (n:=n + 1) ?_;unfold call;simp only[hx,hf,hr];exact hn
theorem qu3 {f af vs heap} (hx:X.run f=none) (hf:T.funs f=some af) (hl:vs.length=af.np) :
 d6 T X f vs heap=zkl (x5 T X heap.length af.code { env:=(List.range af.np).zip vs,heap }) (qz heap.length af.res):=by
 refine wa (fun r h=>?_) (fun r h=>?_)
 ·obtain ⟨n,hn⟩:=jG h
  cases n with
  | zero=>cases hn
  | succ n=>
    unfold call at hn;simp only[hx,hf,hl,if_true] at hn
    cases hc:code T (call T X n) heap.length n af.code { env:=(List.range af.np).zip vs,heap } with
    | none=>rw[hc] at hn; cases hn
    | some x=>rw[B6 hc]; rw[hc] at hn; exact hn
 ·cases hc:x5 T X heap.length af.code { env:=(List.range af.np).zip vs,heap } with
  | none=>rw[hc] at h; cases h
  | some x=>
    rw[hc] at h;obtain ⟨ex,st⟩:=x
    cases ex with
    | nrm=>exact q5m hx hf hl hc (.inl rfl) h
    | ret=>exact q5m hx hf hl hc (.inr rfl) h
    | pan v=>cases h; exact zaj hx hf hl hc
    | out=>cases h; exact zak hx hf hl hc
    | exit id=>cases h
end
abbrev It:={g:CF→List D→Option (List (List D)) // ∀ cs:Nat→CF,(∀ n m,n≤m→∀ f vs h r,cs n f vs h=some r→cs m f vs h=some r)→∀ c:CF,(∀ f vs h r,c f vs h=some r→∃ n,cs n f vs h=some r)→∀ d r,g c d=some r→∃ n,g (cs n) d=some r}
def itPure (k:List D→Option (List (List D))):It:=⟨fun _ d=>k d,fun _ _ _ _ _ _ e=>⟨0,e⟩⟩
def itCall (f:FuncId) (a:List D→Option (List V)) (k:List D→CRes→Option (List (List D))):It:=⟨fun c d=>bnd (a d) fun vs=>bnd (c f vs []) (k d),fun cs _ c h d r e=>by
 simp only at e
 cases e1:a d with
 | none=>rw[e1] at e; cases e
 | some vs=>
   rw[e1,l8] at e
   cases e3:c f vs [] with
   | none=>rw[e3] at e; cases e
   | some x=>
     rw[e3] at e;obtain ⟨n,hn⟩:=h _ _ _ _ e3
     exact ⟨n,by simp only[e1,hn,l8]; exact e⟩⟩
def itStay:List D→Option (List (List D))
 | [.box s]=>some [[.int .i64 0,s]]
 | _=>none
def itFree:List D→Option (List (List D))
 | [.box (.sl xs),.box (.agg [.int .i64 v])]=>if 0≤v∧v.toNat < xs.length then some [[.int .i64 0,.sl (xs.set v.toNat (.agg [.bool false,.sl []]))],[.int .i64 1,.sl (xs.set v.toNat (.agg [.bool false,.sl [.int .u32 1]]))]] else none
 | _=>none
def itFormA:List D→Option (List V)
 | [.box (.agg [.int .i64 _,.int .i64 n,f]),.box (.sl xs)]=>some [.d f,.d (.sl (xs.take n.toNat))]
 | _=>none
def itFormK:List D→CRes→Option (List (List D))
 | [.box (.agg [.int .i64 v,.int .i64 _,_]),.box (.sl xs)],.ret [.d x,.d _] []=>some [[.int .i64 0,.sl (xs.set v.toNat x)]]
 | _,_=>none
end Go.Rf

namespace Go.Rf
def ccX (K:Nat):CF→List V→List Obj→Option CRes:=fun _ vs heap=>match vs,heap with
 | [.ptr (.b 0) 0 0],.arr [.agg [.d .nilp,r]] ⟨2,k⟩ :: rest=>if k=K then some (.ret [] (.arr [.agg [.ptr (.b 0) 0 0,r]] ⟨2,k⟩ :: rest)) else none
 | [.ptr (.b 0) 0 0],.arr [.agg [.ptr (.b 0) 0 0,r]] ⟨2,k⟩ :: rest=>if k=K then some (.ret [] (.arr [.agg [.ptr (.b 0) 0 0,r]] ⟨2,k⟩ :: rest)) else none
 | _,_=>none
def Wp:List V→Option (List UInt8)
 | []=>some []
 | .d (.int .u8 n) :: l=>if 0≤n∧n < 256 then (Wp l).map (UInt8.ofNat n.toNat :: ·) else none
 | _ :: _=>none
def bsX (K K5:Nat):CF→List V→List Obj→Option CRes:=fun _ vs heap=>match vs,heap with
 | [.ptr (.b 0) 0 0],.arr [.agg [a,.ref (.b 1) ⟨1,k5⟩ 0 n]] ⟨2,k⟩ :: .arr xs ⟨1,k6⟩ :: rest=>
   if k=K∧k5=K5∧k6=K5∧n=xs.length∧0 < n then bnd (Wp xs) fun s=>some (.ret [.d (.str s)] (.arr [.agg [a,.ref (.b 1) ⟨1,k5⟩ 0 n]] ⟨2,k⟩ :: .dead :: rest)) else none
 | _,_=>none
end Go.Rf
