/- Parts of the proof. -/
import Derived.Test.YtpaeaccmddffjaaGreatDoorRg7
import Derived.Orders
set_option linter.all false
set_option linter.unusedSectionVars false
namespace Go.Rf
variable [Prg]
def Z6:AOp→List Opnd
 | .mv x=>[x]
 | .own _=>[]
 | .pick c a b=>[c,a,b]
 | .alloc _ _=>[]
 | .allocT _ _ _=>[]
 | .box _ x=>[x]
 | .build _ ps _=>ps.map (·.2.2)
 | .buildSl _ _ _ ps=>ps.map (·.2)
 | .load _ _ x=>[x]
 | .store _ x y=>[x,y]
 | .nilCk x=>[x]
 | .bin _ x y=>[x,y]
 | .un _ x=>[x]
 | .isN _ _ x=>[x]
 | .eqB _ x y=>[x,y]
 | .conv _ x=>[x]
 | .mkI _ x=>[x]
 | .mkF _ cap=>cap
 | .mkSl _ _ a b=>[a,b]
 | .slice _ x lo hi=>x :: (lo.toList++hi.toList)
 | .fieldA _ _ _ x=>[x]
 | .field _ _ _ x=>[x]
 | .idxA _ x k=>[x,k]
 | .idxS x k=>[x,k]
 | .extract x _=>[x]
 | .tass _ _ _ x=>[x]
 | .call _ args=>args.map (·.1)
 | .callB _ args=>args.map (·.1)
 | .callV f args=>f :: args.map (·.1)
 | .inv _ x args=>x :: args.map (·.1)
 | .len _ x=>[x]
 | .app _ x y=>y :: x.toList
 | .mx x y=>[x,y]
 | .mn x y=>[x,y]
 | .lload _ x=>[x]
 | .gload x=>[x]
 | .lstore x y=>[x,y]
 | .gapp _ x y=>[x,y]
 | .lapp _ x y=>[x,y]
 | .mkG _ _ a b=>[a,b]
 | .idxF _ x k=>[x,k]
 | .loadH x=>[x]
 | .panic x=>[x]
 | .range x=>[x]
 | .next x=>[x]
 | .mkMap=>[]
 | .look _ _ x k=>[x,k]
 | .upd _ x k v=>[x,k,v]
 | .yield x args=>x :: args
section
variable {ev ev':Opnd→Option V}
theorem Wo:∀ {l:List (Opnd × Bool)},(∀ x∈l.map (·.1),ev x=ev' x)→evs ev l=evs ev' l
 | [],_=>rfl
 | (x,fl) :: l,h=>by
   simp only[List.map_cons,List.mem_cons,forall_eq_or_imp] at h;simp only[evs,h.1,Wo h.2]
theorem qp8:∀ {l:List Opnd},(∀ x∈l,ev x=ev' x)→evl ev l=evl ev' l
 | [],_=>rfl
 | x :: l,h=>by
   simp only[List.mem_cons,forall_eq_or_imp] at h;simp only[evl,h.1,qp8 h.2]
theorem qzi:∀ {l:List (Nat × Nat × Opnd)},(∀ x∈l.map (·.2.2),ev x=ev' x)→evp ev l=evp ev' l
 | [],_=>rfl
 | (a,b,x) :: l,h=>by
   simp only[List.map_cons,List.mem_cons,forall_eq_or_imp] at h;simp only[evp,h.1,qzi h.2]
theorem qzh:∀ {l:List (Nat × Opnd)},(∀ x∈l.map (·.2),ev x=ev' x)→evq ev l=evq ev' l
 | [],_=>rfl
 | (a,x) :: l,h=>by
   simp only[List.map_cons,List.mem_cons,forall_eq_or_imp] at h;simp only[evq,h.1,qzh h.2]
theorem qr8 {T:Tab} {cf:CF} {i:Nat} {op:AOp} {h:Loc→Option Obj} (k:∀ x∈Z6 op,ev x=ev' x):exec T cf i op ev h=exec T cf i op ev' h:=by
 cases op with
 | own n=>rfl
 | alloc z own=>rfl
 | allocT t z own=>rfl
 | mkMap=>rfl
 | build z ps own=>simp only[exec,qzi k]
 | buildSl n z len ps=>simp only[exec,qzh k]
 | mkF f cap=>simp only[exec,qp8 (show ∀ x∈cap,ev x=ev' x from k)]
 | call f args=>simp only[exec,Wo k]
 | callB f args=>simp only[exec,Wo k]
 | callV f args=>
   simp only[Z6,List.mem_cons,forall_eq_or_imp] at k;simp only[exec,k.1,Wo k.2]
 | inv m x args=>
   simp only[Z6,List.mem_cons,forall_eq_or_imp] at k;simp only[exec,k.1,Wo k.2]
 | yield x args=>
   simp only[Z6,List.mem_cons,forall_eq_or_imp] at k;simp only[exec,k.1,qp8 k.2]
 | slice n x lo hi=>
   simp only[Z6,List.mem_cons,forall_eq_or_imp,List.mem_append,Option.mem_toList] at k;obtain ⟨k1,k2⟩:=k
   cases lo <;> cases hi <;> simp_all [exec]
 | app n x y=>
   simp only[Z6,List.mem_cons,forall_eq_or_imp,Option.mem_toList] at k;obtain ⟨k1,k2⟩:=k
   cases x <;> simp_all [exec]
 | _=>
   simp only[Z6,List.mem_cons,forall_eq_or_imp,List.not_mem_nil,false_implies,implies_true,and_true] at k;simp only[exec,k]
theorem qun {op:AOp} {h h':Loc→Option Obj} (hc:K4 op=false) (k:∀ x∈Z6 op,ev x=ev' x):o8 op ev h=o8 op ev' h':=by
 cases op with
 | call f args=>cases hc
 | callB f args=>simp only[o8,Wo (show ∀ x∈args.map (·.1),ev x=ev' x from k)]
 | callV f args=>cases hc
 | inv m x args=>cases hc
 | app n x y=>
   simp only[Z6,List.mem_cons,forall_eq_or_imp,Option.mem_toList] at k;obtain ⟨k1,k2⟩:=k
   cases x with
   | none=>simp only[o8,k1,kb]
   | some x=>simp only[o8,k1,qr,k2 x rfl]
 | load n ag x=>
   simp only[Z6,List.mem_cons,forall_eq_or_imp,List.not_mem_nil,false_implies,implies_true,and_true] at k;simp only[o8,k]
 | store n x y=>
   simp only[Z6,List.mem_cons,forall_eq_or_imp,List.not_mem_nil,false_implies,implies_true,and_true] at k;simp only[o8,k]
 | yield x args=>
   simp only[Z6,List.mem_cons,forall_eq_or_imp] at k;simp only[o8,k.1]
 | conv c x=>
   simp only[Z6,List.mem_cons,forall_eq_or_imp,List.not_mem_nil,false_implies,implies_true,and_true] at k;simp only[o8,k]
 | loadH x=>
   simp only[Z6,List.mem_cons,forall_eq_or_imp,List.not_mem_nil,false_implies,implies_true,and_true] at k;simp only[o8,k]
 | lload n x=>
   simp only[Z6,List.mem_cons,forall_eq_or_imp,List.not_mem_nil,false_implies,implies_true,and_true] at k;simp only[o8,k]
 | gload x=>
   simp only[Z6,List.mem_cons,forall_eq_or_imp,List.not_mem_nil,false_implies,implies_true,and_true] at k;simp only[o8,k]
 | gapp n x y=>
   simp only[Z6,List.mem_cons,forall_eq_or_imp,List.not_mem_nil,false_implies,implies_true,and_true] at k;simp only[o8,k]
 | lstore x y=>
   simp only[Z6,List.mem_cons,forall_eq_or_imp,List.not_mem_nil,false_implies,implies_true,and_true] at k;simp only[o8,k]
 | lapp n x y=>
   simp only[Z6,List.mem_cons,forall_eq_or_imp,List.not_mem_nil,false_implies,implies_true,and_true] at k;simp only[o8,k]
 | next x=>
   simp only[Z6,List.mem_cons,forall_eq_or_imp,List.not_mem_nil,false_implies,implies_true,and_true] at k;simp only[o8,k]
 | look s z x y=>
   simp only[Z6,List.mem_cons,forall_eq_or_imp,List.not_mem_nil,false_implies,implies_true,and_true] at k;simp only[o8,k]
 | upd s x y v=>
   simp only[Z6,List.mem_cons,forall_eq_or_imp,List.not_mem_nil,false_implies,implies_true,and_true] at k;simp only[o8,k]
 | _=>rfl
end
def Agr (h h':Loc→Option Obj) (l:Loc):Prop:=h l=h' l ∧ ∀ k,l = .n hdI k→Zu h k=Zu h' k
theorem Agr.refl (h l):Agr h h l:=⟨rfl,fun _ _=>rfl⟩
theorem Agr.symm {h h' l} (k:Agr h h' l):Agr h' h l:=⟨k.1.symm,fun j e=>(k.2 j e).symm⟩
theorem Agr.of {h h':Loc→Option Obj} (e:h=h') (l):Agr h h' l:=e ▸ Agr.refl h l
theorem vM {h h':Loc→Option Obj} {v:V} (k:∀ l∈D0 (some v),h l=h' l):F7 h v=F7 h' v:=by
 cases v with
 | d x=>cases x <;> rfl
 | ref l sz off len=>
   simp only[D0,List.mem_singleton,forall_eq] at k;simp only[F7,k]
 | _=>rfl
theorem qly {h h':Loc→Option Obj} {n:Nat} {ag:Bool} {v:V} (k:∀ l∈D0 (some v),h l=h' l):qw h n ag v=qw h' n ag v:=by
 cases v with
 | d x=>cases x <;> rfl
 | ptr l e j=>
   simp only[D0,List.mem_singleton,forall_eq] at k;simp only[qw,k]
 | _=>rfl
theorem qhu {h h':Loc→Option Obj} {n:Nat} {v u:V} (k:∀ l∈D0 (some v),h l=h' l):QZ h n v u=QZ h' n v u:=by
 cases v with
 | d x=>cases x <;> rfl
 | ptr l e j=>
   simp only[D0,List.mem_singleton,forall_eq] at k;simp only[QZ,k]
 | _=>rfl
theorem qeb {h h':Loc→Option Obj} {i:Nat} {n:W} {x:Option V} {y:V} (k1:∀ l∈D0 x,h l=h' l) (k2:∀ l∈D0 (some y),h l=h' l):qec h i n x y=qec h' i n x y:=by
 unfold qec;rw[vM k2]
 cases x with
 | none=>rfl
 | some v=>
   cases v <;> first | rfl | skip
   rename_i l sz off len;simp only[D0,List.mem_singleton,forall_eq] at k1;simp only[k1]
theorem qu5 {h h':Loc→Option Obj} {x:V × Bool} (k:∀ l∈D0 (some x.1),h l=h' l):brw h x=brw h' x:=by
 obtain ⟨v,b⟩:=x
 cases v with
 | ref l sz off len=>
   have:h l=h' l:=k l (by simp[D0])
   cases b with
   | false=>rfl
   | true=>simp only[brw,this]
 | _=>rfl
theorem qd4 {h h':Loc→Option Obj}:∀ (vs:List (V × Bool)),(∀ l∈vs.flatMap (fun x=>D0 (some x.1)),h l=h' l)→qqq h vs=qqq h' vs
 | [],_=>rfl
 | x :: vs,k=>by
   simp only[qqq];rw[qu5 (h':=h') fun l hl=>k l (by simp[hl]),qd4 vs fun l hl=>k l (by rw[List.flatMap_cons]; exact List.mem_append_right _ hl)]
theorem qp6 {T:Tab} {cf:CF} {i:Nat} {op:AOp} {ev:Opnd→Option V} {h h':Loc→Option Obj} (hc:K4 op=false) (k0:∀ l∈o8 op ev h,Agr h h' l):exec T cf i op ev h=exec T cf i op ev h':=by
 have k:∀ l∈o8 op ev h,h l=h' l:=fun l hl=>(k0 l hl).1
 cases op with
 | callB f args=>
   simp only[exec]
   cases hx:evs ev args with
   | none=>rfl
   | some vs=>
     simp only[l8];unfold Yf;rw[qd4 (h:=h) (h':=h') vs fun l hl=>k l (by simpa only [o8,hx,qr] using hl)]
 | loadH x=>
   simp only[exec]
   cases hx:ev x with
   | none=>rfl
   | some v=>
     cases v <;> first | rfl | skip
     rename_i l e j
     cases l with
     | n _ _=>rfl
     | b q=>
       cases e with
       | succ _=>rfl
       | zero=>
       cases j with
       | succ _=>rfl
       | zero=>
       have:Zu h q=Zu h' q:=(k0 (.n hdI q) (by simp[o8,hx,D0,Zv])).2 q rfl;simp only[this]
 | lload n x=>
   simp only[exec]
   cases hx:ev x with
   | none=>rfl
   | some v=>
     simp only[l8]
     cases v <;> first | rfl | skip
     rename_i l e j;have:h l=h' l:=k l (by simp[o8,hx,D0]);simp only[qit,this]
 | yield x args=>
   simp only[exec]
   cases hx:ev x with
   | none=>rfl
   | some v=>
     cases v <;> first | rfl | skip
     rename_i l;have:h l=h' l:=k l (by simp[o8,hx,D0]);simp only[this]
 | gload x=>
   simp only[exec]
   cases hx:ev x with
   | none=>rfl
   | some v=>
     simp only[l8]
     cases v <;> first | rfl | skip
     rename_i l e j;have:h l=h' l:=k l (by simp[o8,hx,D0]);simp only[qp0,this]
 | lstore x y=>
   simp only[exec]
   cases hx:ev x with
   | none=>rfl
   | some v=>
     cases hy:ev y with
     | none=>rfl
     | some u=>
       simp only[l8]
       cases v <;> first | rfl | skip
       rename_i l e j;have h1:h l=h' l:=k l (by simp[o8,hx,D0])
       cases u <;> first | (simp only[Yb,h1]; done) | skip
       rename_i l2 sz off len;have h2:h l2=h' l2:=k l2 (by simp[o8,hy,D0])
       cases off <;> simp only[Yb,h1,h2]
 | gapp n x y=>
   simp only[exec]
   cases hx:ev x with
   | none=>rfl
   | some v=>
     cases hy:ev y with
     | none=>rfl
     | some u=>
       simp only[l8]
       have h2:F7 h u=F7 h' u:=vM fun l hl=>k l (by simp only[o8,hy]; exact List.mem_append_right _ hl)
       cases v with
       | ref l sz off len=>
         have h1:h l=h' l:=k l (by simp[o8,hx,D0])
         cases off <;> simp only[qgo,h1,h2]
       | d x=>cases x <;> simp only[qgo,h2]
       | _=>simp only[qgo,h2]
 | lapp n x y=>
   simp only[exec]
   cases hx:ev x with
   | none=>rfl
   | some v=>
     cases hy:ev y with
     | none=>rfl
     | some u=>
       simp only[l8]
       cases v <;> first | rfl | skip
       rename_i l sz off len;have h1:h l=h' l:=k l (by simp[o8,hx,D0])
       have h2:F7 h u=F7 h' u:=vM fun l hl=>k l (by simp only[o8,hy]; exact List.mem_append_right _ hl)
       cases off with
       | succ _=>rfl
       | zero=>simp only[qrq,h1,h2]
 | call f args=>cases hc
 | callV f args=>cases hc
 | inv m x args=>cases hc
 | load n ag x=>
   simp only[exec]
   cases hx:ev x with
   | none=>rfl
   | some v=>simp only[l8]; exact qly (by simpa only [o8,hx] using k)
 | store n x y=>
   simp only[exec]
   cases hx:ev x with
   | none=>rfl
   | some v=>
     simp only[l8]
     congr 1
     funext u
     exact qhu (by simpa only [o8,hx] using k)
 | conv c x=>
   simp only[exec]
   cases hx:ev x with
   | none=>rfl
   | some v=>
     simp only[l8]
     cases c with
     | int kk=>cases v <;> first | rfl | (rename_i y; cases y <;> rfl)
     | rune=>cases v <;> first | rfl | (rename_i y; cases y <;> rfl)
     | b2s=>
       simp only;rw[vM (h':=h') (by simpa only [o8,hx] using k)]
 | app n x y=>
   simp only[exec];simp only[o8,List.mem_append] at k
   cases x with
   | none=>
     simp only
     cases hy:ev y with
     | none=>rfl
     | some v=>simp only[l8]; exact qeb (fun l h=>by cases h) (fun l hl=>k l (.inr (by rw[hy]; exact hl)))
   | some x=>
     simp only
     cases hx:ev x with
     | none=>rfl
     | some u=>
       simp only[l8]
       cases hy:ev y with
       | none=>rfl
       | some v=>simp only[l8]; exact qeb (fun l hl=>k l (.inl (by simp only[qr]; rw[hx]; unfold unN at hl; split at hl <;> first | exact hl | cases hl))) (fun l hl=>k l (.inr (by rw[hy]; exact hl)))
 | next x=>
   simp only[exec]
   cases hx:ev x with
   | none=>rfl
   | some v=>
     cases v <;> first | rfl | skip
     rename_i l;have:h l=h' l:=k l (by simp[o8,hx,D0]);simp only[this]
 | look s z x y=>
   simp only[exec]
   cases hx:ev x with
   | none=>rfl
   | some u=>
     cases u with
     | map l=>
       have:h l=h' l:=k l (by simp[o8,hx,D0])
       cases ev y with
       | none=>rfl
       | some w=>
         cases w with
         | d key=>simp only[this]
         | _=>rfl
     | _=>(cases ev y <;> first | rfl | (rename_i u; cases u <;> rfl))
 | upd s x y v=>
   simp only[exec]
   cases hx:ev x with
   | none=>rfl
   | some u=>
     cases u with
     | map l=>
       have:h l=h' l:=k l (by simp[o8,hx,D0])
       cases ev y with
       | none=>rfl
       | some w=>
         cases w with
         | d key=>cases ev v with
           | none=>rfl
           | some _=>simp only[this]
         | _=>rfl
     | _=>(cases ev y <;> first | rfl | (rename_i u; cases u <;> first | rfl | (cases ev v <;> rfl)))
 | _=>rfl
def zN (o:AIns):List Nat:=(Z6 o.op).filterMap (fun x=>match x with | .t n=>some n | .c _=>none)++(match o.guard with | some (t,_)=>[t] | none=>[])
theorem qg0 {o:AIns} {e e':List (Nat × V)} (h:∀ t∈zN o,A5 e t=A5 e' t):∀ x∈Z6 o.op,evO e x=evO e' x:=fun x hx=>by
 cases x with
 | c y=>rfl
 | t n=>exact h n (List.mem_append_left _ (List.mem_filterMap.2 ⟨_,hx,rfl⟩))
theorem qhn {o:AIns} {e e':List (Nat × V)} (h:∀ t∈zN o,A5 e t=A5 e' t):wanted e o.guard=wanted e' o.guard:=by
 cases hg:o.guard with
 | none=>rfl
 | some g=>
   obtain ⟨t,b⟩:=g;have:A5 e t=A5 e' t:=h t (List.mem_append_right _ (by rw[hg]; exact List.mem_singleton.2 rfl));simp only[wanted,this]
section
variable {T:Tab} {cf:CF}
theorem qo7 {A:List Loc} {h h':Loc→Option Obj} (k:∀ l∈A,h l=h' l):only A.contains h=only A.contains h':=by
 funext l
 cases hc:A.contains l with
 | true=>rw[QC hc,QC hc]; exact k l (List.contains_iff_mem.1 hc)
 | false=>rw[Xx hc,Xx hc]
theorem Ky {o:AIns} {A:List Loc} {e e':List (Nat × V)} {h h':Loc→Option Obj} (hA:K4 o.op=false→o8 o.op (evO e) h=A) (he:∀ t∈zN o,A5 e t=A5 e' t) (hh:∀ l∈A,Agr h h' l) :
 jy T cf o.i o.op A (evO e) h=jy T cf o.i o.op A (evO e') h':=by
 unfold jy;have h1:=qg0 he
 cases hc:K4 o.op with
 | true=>simp only[j3]; rw[qr8 h1,qo7 fun l hl=>(hh l hl).1]
 | false=>
   simp only[j7];rw[qp6 hc (h':=h') (fun l hl=>hh l (hA hc ▸ hl)),qr8 h1]
theorem Xl {α:Type} {b:Bool} {x:α} {r:α} (e:sel b (some x) none=some r):b=true∧x=r:=by
 cases b with
 | true=>cases e; exact ⟨rfl,rfl⟩
 | false=>cases e
inductive Comes (T:Tab) (cf:CF) (o:AIns) (A:List Loc) (s:RS):SR→Prop
 | skip (h:wanted s.env o.guard=some false):Comes T cf o A s (.go { env:=U7 s.env o.dst (.tup []),h:=s.h } { i:=o.i,rd:=[],wr:=[] })
 | ok {e:Eff} (h:wanted s.env o.guard=some true) (k:jy T cf o.i o.op A (evO s.env) s.h=some (.ok e)) (q:ZV (D1 o.op) A o.i e.wr=true) :
  Comes T cf o A s (.go { env:=U7 s.env o.dst e.v,h:=j8 s.h e.wr } { i:=o.i,rd:=A,wr:=e.wr.map (·.1),ch:=sel (K4 o.op) (chg A s.h e.wr) (chN e.wr) })
 | pan {e:Eff} (h:wanted s.env o.guard=some true) (k:jy T cf o.i o.op A (evO s.env) s.h=some (.pan e)) (q:2≤D1 o.op∧ZV (D1 o.op) A o.i e.wr=true) :
  Comes T cf o A s (.pan e.v { env:=s.env,h:=j8 s.h e.wr } { i:=o.i,rd:=A,wr:=e.wr.map (·.1) })
 | out (h:wanted s.env o.guard=some true) (k:jy T cf o.i o.op A (evO s.env) s.h=some .out) (q:D1 o.op≠0∨A=[]):Comes T cf o A s .out
theorem quz {o:AIns} {A:List Loc} {s:RS} {x:SR}:Qu T cf o A s=some x↔Comes T cf o A s x:=by
 constructor
 ·intro e;obtain ⟨b,e1,e2⟩:=f7 e
  cases b with
  | false=>cases e2; exact .skip e1
  | true=>
    simp only[j3] at e2;obtain ⟨r,e3,e4⟩:=f7 e2
    cases r with
    | ok ef=>
      obtain ⟨q,rfl⟩:=Xl e4;exact .ok e1 e3 q
    | pan ef=>
      obtain ⟨q,rfl⟩:=Xl e4;simp only[Bool.and_eq_true,decide_eq_true_eq] at q;exact .pan e1 e3 q
    | out=>
      obtain ⟨q,rfl⟩:=Xl e4;simp only[ne_eq,Bool.or_eq_true,decide_eq_true_eq,List.isEmpty_iff] at q;exact .out e1 e3 q
 ·intro k
  cases k with
  | skip h=>simp only[Qu,h,l8,j7]
  | ok h k q=>simp only[Qu,h,l8,j3,k,qbg,q]
  | pan h k q=>simp only[Qu,h,l8,j3,k,qbg,q,decide_true,Bool.and_self]
  | out h k q=>
    have:(decide (D1 o.op≠0) || A.isEmpty)=true:=by simpa only [ne_eq,Bool.or_eq_true,decide_eq_true_eq,List.isEmpty_iff] using q
    simp only[Qu,h,l8,j3,k,qbg,this]
def zg2 (x:SR) (A:List Loc):List Loc:=match x with
 | .go _ r=>r.rd
 | .pan _ _ r=>r.rd
 | .out=>A
open Classical in
theorem qzu {A:List Loc} {h:Loc→Option Obj} {wr:List (Loc × Option Obj)} {l:Loc} (k:l ∉ chg A h wr):Agr (j8 h wr) h l:=by
 unfold chg at k;rw[List.mem_append,not_or] at k;obtain ⟨k1,k2⟩:=k;refine ⟨?_,fun j hj=>?_⟩
 ·by_cases hm:l∈wr.map (·.1)
  ·rw[List.mem_filter] at k1;simp only[hm,true_and,Bool.or_eq_true,Bool.not_eq_true',decide_eq_true_eq,ne_eq,not_or,Classical.not_not] at k1;exact k1.2
  ·exact K6 _ _ _ hm
 ·unfold Zu
  by_cases hm:.b j∈wr.map (·.1)
  ·have:¬ (.b j∈(wr.map (·.1)).filter fun l=>!A.contains l || decide (JT (j8 h wr l)≠JT (h l))):=fun hq=>k2 (List.mem_map.2 ⟨.b j,hq,hj.symm⟩)
   rw[List.mem_filter] at this;simp only[hm,true_and,Bool.or_eq_true,Bool.not_eq_true',decide_eq_true_eq,ne_eq,not_or,Classical.not_not] at this;exact this.2
  ·rw[K6 _ _ _ hm]
theorem q29 {A:List Loc} {h:Loc→Option Obj} {wr:List (Loc × Option Obj)} {l:Loc} (k:l∈chg A h wr):l∈chN wr:=by
 unfold chg at k;unfold chN;rcases List.mem_append.1 k with k | k
 ·exact List.mem_append_left _ (List.mem_filter.1 k).1
 ·obtain ⟨x,h1,h2⟩:=List.mem_map.1 k;exact List.mem_append_right _ (List.mem_map.2 ⟨x,(List.mem_filter.1 h1).1,h2⟩)
theorem qu2 {A:List Loc} {h h':Loc→Option Obj} {wr:List (Loc × Option Obj)} (k:∀ l∈A,h l=h' l):chg A h wr=chg A h' wr:=by
 unfold chg
 congr 1
 ·refine List.filter_congr fun l hl=>?_
  cases hA:A.contains l with
  | false=>rfl
  | true=>
    have e:=k l (List.contains_iff_mem.1 hA);obtain ⟨x,_,hx⟩:=wW wr h l hl;rw[hx,hx,e]
 ·congr 1
  refine List.filter_congr fun l hl=>?_
  cases hA:A.contains l with
  | false=>rfl
  | true=>
    have e:=k l (List.contains_iff_mem.1 hA);obtain ⟨x,_,hx⟩:=wW wr h l hl;rw[hx,hx,e]
theorem qm9 {c:Bool} {A:List Loc} {h:Loc→Option Obj} {wr:List (Loc × Option Obj)} {l:Loc} (k:l ∉ sel c (chg A h wr) (chN wr)):Agr (j8 h wr) h l:=by
 cases c with
 | true=>exact qzu k
 | false=>
   simp only[j7,chN,List.mem_append,not_or] at k;refine ⟨K6 _ _ _ k.1,fun j hj=>?_⟩;unfold Zu;rw[K6 _ _ _ fun hm=>k.2 (List.mem_map.2 ⟨.b j,hm,hj.symm⟩)]
theorem q3a {c:Bool} {A:List Loc} {h:Loc→Option Obj} {wr:List (Loc × Option Obj)} {l:Loc} (k:l∈sel c (chg A h wr) (chN wr)):l∈chN wr:=by
 cases c with
 | true=>exact q29 k
 | false=>exact k
theorem Comes.move {o:AIns} {A:List Loc} {s s':RS} {x:SR} (k:Comes T cf o A s x) (hA:K4 o.op=false→o8 o.op (evO s.env) s.h=A) (he:∀ t∈zN o,A5 s.env t=A5 s'.env t)
 (hh:∀ l∈zg2 x A,Agr s.h s'.h l):(match x with
  | .go s1 r=>∃ v wr,s1 = { env:=U7 s.env o.dst v,h:=j8 s.h wr } ∧ (∀ l,l ∉ r.ch→Agr (j8 s.h wr) s.h l∧Agr (j8 s'.h wr) s'.h l)∧r.wr=wr.map (·.1)∧Comes T cf o A s' (.go { env:=U7 s'.env o.dst v,h:=j8 s'.h wr } r)
  | .pan v s1 r=>∃ wr,s1 = { env:=s.env,h:=j8 s.h wr } ∧ r.wr=wr.map (·.1)∧Comes T cf o A s' (.pan v { env:=s'.env,h:=j8 s'.h wr } r)
  | .out=>Comes T cf o A s' .out):=by
 have hw:=qhn he
 cases k with
 | skip h=>exact ⟨.tup [],[],rfl,fun _ _=>⟨Agr.refl _ _,Agr.refl _ _⟩,rfl,.skip (hw ▸ h)⟩
 | @ok ef h k q=>
   have e:sel (K4 o.op) (chg A s.h ef.wr) (chN ef.wr)=sel (K4 o.op) (chg A s'.h ef.wr) (chN ef.wr):=by rw[qu2 (A:=A) (h':=s'.h) fun l hl=>(hh l hl).1]
   refine ⟨_,_,rfl,fun l hl=>⟨qm9 hl,qm9 (A:=A) (c:=K4 o.op) ?_⟩,rfl,?_⟩
   ·rw[← e]; exact hl
   ·rw[e]; exact .ok (hw ▸ h) (Ky (T:=T) (cf:=cf) hA he hh ▸ k) q
 | pan h k q=>exact ⟨_,rfl,rfl,.pan (hw ▸ h) (Ky (T:=T) (cf:=cf) hA he hh ▸ k) q⟩
 | out h k q=>exact .out (hw ▸ h) (Ky (T:=T) (cf:=cf) hA he hh ▸ k) q
theorem Comes.foot {o:AIns} {A:List Loc} {s s':RS} (hA:K4 o.op=false→o8 o.op (evO s.env) s.h=A) (he:∀ t∈zN o,A5 s.env t=A5 s'.env t):K4 o.op=false→o8 o.op (evO s'.env) s'.h=A:=fun hc=>
 (qun hc (qg0 he)).symm.trans (hA hc)
end
end Go.Rf

set_option linter.unusedSectionVars false
namespace Go.Rf
variable [Prg]
abbrev Item:=AIns × List Loc × Rec
section
variable {T:Tab} {cf:CF}
inductive Runs (T:Tab) (cf:CF):List Item→RS→RR→Prop
 | nil (s:RS):Runs T cf [] s (.nrm s)
 | go {o A r s s' L rr} (hA:K4 o.op=false→o8 o.op (evO s.env) s.h=A) (h:Comes T cf o A s (.go s' r)) (k:Runs T cf L s' rr):Runs T cf ((o,A,r) :: L) s rr
 | pan {o A r s s' v} (hA:K4 o.op=false→o8 o.op (evO s.env) s.h=A) (h:Comes T cf o A s (.pan v s' r)):Runs T cf [(o,A,r)] s (.pan o.i v s')
 | out {o A s} (hA:K4 o.op=false→o8 o.op (evO s.env) s.h=A) (h:Comes T cf o A s .out):Runs T cf [(o,A,{ i:=o.i,rd:=A,wr:=[] })] s .out
def Eqv (s s':RS):Prop:=s.h=s'.h ∧ ∀ t,A5 s.env t=A5 s'.env t
inductive EqvR:RR→RR→Prop
 | nrm {s s'} (h:Eqv s s'):EqvR (.nrm s) (.nrm s')
 | pan {i v s s'} (h:∀ l,Loc.oldOr i l=true→s.h l=s'.h l):EqvR (.pan i v s) (.pan i v s')
 | out:EqvR .out .out
theorem Eqv.refl (s:RS):Eqv s s:=⟨rfl,fun _=>rfl⟩
theorem EqvR.refl (r:RR):EqvR r r:=by
 cases r with
 | nrm s=>exact .nrm (.refl s)
 | pan i v s=>exact .pan fun _ _=>rfl
 | out=>exact .out
theorem EqvR.trans {a b c:RR} (h:EqvR a b) (k:EqvR b c):EqvR a c:=by
 cases h with
 | nrm h=>cases k with | nrm k=>exact .nrm ⟨h.1.trans k.1,fun t=>(h.2 t).trans (k.2 t)⟩
 | pan h=>cases k with | pan k=>exact .pan fun l hl=>(h l hl).trans (k l hl)
 | out=>exact k
theorem qma {e e':List (Nat × V)} {d:Option Nat} {v:V} (h:∀ t,A5 e t=A5 e' t) (t:Nat):A5 (U7 e d v) t=A5 (U7 e' d v) t:=by
 cases d with
 | none=>exact h t
 | some d=>simp only[U7,A5,h t]
theorem XP {e:List (Nat × V)} {d:Option Nat} {v:V} {t:Nat} (h:d≠some t):A5 (U7 e d v) t=A5 e t:=by
 cases d with
 | none=>rfl
 | some d=>
   simp only[U7,A5];rw[if_neg (fun hd=>h (by rw[hd]))]
theorem qev {e:List (Nat × V)} {d d':Option Nat} {v v':V} (h:∀ t,d=some t→d'≠some t) (t:Nat):A5 (U7 (U7 e d v) d' v') t=A5 (U7 (U7 e d' v') d v) t:=by
 cases d with
 | none=>rfl
 | some a=>
   cases d' with
   | none=>rfl
   | some b=>
     have hab:a≠b:=fun hab=>h a rfl (by rw[hab])
     simp only[U7,A5]
     by_cases h1:b=t
     ·subst h1; simp[hab]
     ·simp[h1]
theorem JE {ws:List (Loc × Option Obj)} {h h':Loc→Option Obj} {l:Loc} (k:h l=h' l):j8 h ws l=j8 h' ws l:=by
 by_cases hm:l∈ws.map (·.1)
 ·obtain ⟨x,_,h2⟩:=wW ws h l hm;rw[h2,h2]
 ·rw[K6 _ _ _ hm,K6 _ _ _ hm,k]
theorem Runs.eqv {L:List Item} {s s':RS} {rr:RR} (k:Runs T cf L s rr) (e:Eqv s s'):∃ rr',Runs T cf L s' rr'∧EqvR rr rr':=by
 induction k generalizing s' with
 | nil s=>exact ⟨_,.nil s',.nrm e⟩
 | @go o A r s s1 L rr hA h k ih=>
   obtain ⟨v,wr,rfl,_,h2,h3⟩:=h.move hA (fun t _=>e.2 t) (fun l _=>Agr.of e.1 l);obtain ⟨rr',k1,k2⟩:=ih (s':={ env:=U7 s'.env o.dst v,h:=j8 s'.h wr }) ⟨by simp only[e.1],fun t=>qma e.2 t⟩;exact ⟨rr',.go (Comes.foot hA (fun t _=>e.2 t)) h3 k1,k2⟩
 | @pan o A r s s1 v hA h=>
   obtain ⟨wr,rfl,h2,h3⟩:=h.move hA (fun t _=>e.2 t) (fun l _=>Agr.of e.1 l);exact ⟨_,.pan (Comes.foot hA (fun t _=>e.2 t)) h3,.pan fun l _=>JE (by rw[e.1])⟩
 | @out o A s hA h=>exact ⟨_,.out (Comes.foot hA (fun t _=>e.2 t)) (h.move hA (fun t _=>e.2 t) (fun l _=>Agr.of e.1 l)),.out⟩
structure Ind (p x:Item):Prop where
 s1:∀ t,p.1.dst=some t→t ∉ zN x.1
 s2:∀ t,x.1.dst=some t→t ∉ zN p.1
 s3:∀ t,p.1.dst=some t→x.1.dst≠some t
 w1:∀ l∈p.2.2.ch,l ∉ x.2.2.rd∧l ∉ x.2.2.ch
 w2:∀ l∈x.2.2.ch,l ∉ p.2.2.rd
inductive Front (T:Tab) (cf:CF) (pre post:List Item) (x:Item) (s:RS) (rr:RR):Prop
 | go {s1 rr'} (hA:K4 x.1.op=false→o8 x.1.op (evO s.env) s.h=x.2.1) (h:Comes T cf x.1 x.2.1 s (.go s1 x.2.2)) (k:Runs T cf (pre++post) s1 rr') (e:EqvR rr rr') (hp:post=[]→∃ s2,rr = .nrm s2)
 | pan {v s1} (hA:K4 x.1.op=false→o8 x.1.op (evO s.env) s.h=x.2.1) (h:Comes T cf x.1 x.2.1 s (.pan v s1 x.2.2)) (e:EqvR rr (.pan x.1.i v s1)) (hp:post=[])
 | out (hA:K4 x.1.op=false→o8 x.1.op (evO s.env) s.h=x.2.1) (h:Comes T cf x.1 x.2.1 s .out) (hrd:x.2.2.rd=x.2.1) (e:rr = .out)
theorem q5d:∀ (pre:List Item) (post:List Item) (x:Item) (s:RS) (rr:RR),Runs T cf (pre++x :: post) s rr→(∀ p∈pre,Ind p x∧(post=[]→(∃ j v s2,rr = .pan j v s2)→∀ l∈p.2.2.wr,Loc.oldOr x.1.i l=false))→Front T cf pre post x s rr
 | [],post,x,s,rr,k,_=>by
   cases k with
   | go hA h k=>exact .go hA h k (.refl _) (fun hp=>by subst hp; cases k; exact ⟨_,rfl⟩)
   | pan hA h=>exact .pan hA h (.refl _) rfl
   | out hA h=>exact .out hA h rfl rfl
 | p :: pre,post,x,s,rr,k,hi=>by
   obtain ⟨hip,hnp⟩:=hi p (List.mem_cons_self ..);generalize hL:p :: pre++x :: post=L at k
   cases k with
   | nil=>simp at hL
   | pan hA h=>simp at hL
   | out hA h=>simp at hL
   | @go o A r _ sp L _ hA h k=>
     simp only[List.cons_append,List.cons.injEq] at hL;obtain ⟨rfl,rfl⟩:=hL;have ih:=q5d pre post x sp rr k (fun q hq=>hi q (List.mem_cons_of_mem _ hq));obtain ⟨vp,wp,rfl,hcp,hwp,_⟩:=h.move (s':=s) hA (fun _ _=>rfl) (fun _ _=>Agr.refl _ _)
     have back:∀ t∈zN x.1,A5 (U7 s.env o.dst vp) t=A5 s.env t:=fun t ht=>XP fun hd=>hip.s1 t hd ht
     have same:∀ l∈x.2.2.rd,Agr (j8 s.h wp) s.h l:=fun l hl=>(hcp l fun hm=>(hip.w1 l hm).1 hl).1
     cases ih with
     | go hA' h' k' e hp=>
       obtain ⟨vx,wx,rfl,hcx,hwx,hx⟩:=h'.move (s':=s) hA' back same;have hpm:=h.move (s':={ env:=U7 s.env x.1.dst vx,h:=j8 s.h wx }) hA (fun t ht=>(XP fun hd=>hip.s2 t hd ht).symm) (fun l hl=>((hcx l fun hm=>hip.w2 l hm hl).2).symm);have hfoot:K4 o.op=false→o8 o.op (evO (U7 s.env x.1.dst vx)) (j8 s.h wx)=A:=Comes.foot (s':={ env:=U7 s.env x.1.dst vx,h:=j8 s.h wx }) hA (fun t ht=>(XP fun hd=>hip.s2 t hd ht).symm);obtain ⟨v2,w2,e1,hc2,hw2,hp2⟩:=hpm;simp only[RS.mk.injEq] at e1;obtain ⟨e1,e2⟩:=e1
       have eqv:Eqv { env:=U7 (U7 s.env o.dst vp) x.1.dst vx,h:=j8 (j8 s.h wp) wx } { env:=U7 (U7 s.env x.1.dst vx) o.dst v2,h:=j8 (j8 s.h wx) w2 }:=by
        refine ⟨?_,fun t=>?_⟩
        ·funext l
         simp only
         by_cases hl:l∈x.2.2.ch
         ·have hlp:l ∉ r.ch:=fun hm=>(hip.w1 l hm).2 hl
          rw[(hc2 l hlp).2.1];exact JE (hcp l hlp).1.1
         ·refine (hcx l hl).1.1.trans ?_;exact (congrFun e2 l).trans (JE (hcx l hl).2.1.symm)
        ·have hput:∀ (u:List (Nat × V)) t,A5 u t=A5 u t:=fun _ _=>rfl
         have e1':∀ t,A5 (U7 s.env o.dst vp) t=A5 (U7 s.env o.dst v2) t:=fun t=>by rw[e1]
         rw[qma e1' t];exact qev (fun t h1=>hip.s3 t h1) t
       obtain ⟨rr2,k2,e3⟩:=k'.eqv eqv;exact .go (Comes.foot hA' back) hx (.go hfoot hp2 k2) (e.trans e3) hp
     | pan hA' h' e hp=>
       obtain ⟨wx,rfl,hwx,hx⟩:=h'.move (s':=s) hA' back same;refine .pan (Comes.foot hA' back) hx (e.trans (.pan fun l hl=>?_)) hp;refine JE ?_
       exact K6 _ _ _ fun hm=>by
        have:=hnp hp (by cases e; exact ⟨_,_,_,rfl⟩) l (by rw[hwp]; exact hm);rw[hl] at this;cases this
     | out hA' h' hrd e=>exact .out (Comes.foot hA' back) (h'.move (s':=s) hA' back (fun l hl=>same l (by rw[hrd]; exact hl))) hrd e
end
end Go.Rf

set_option linter.unusedSectionVars false
namespace Go.Rf
variable [Prg]
variable {B:Ice} {ds:List Deferred} {fx:List (Nat × Value)}
def qY (ops:Array Oper) (j:Nat):List Nat:=((ops[j]?).map fun o=>(o.after.toList.filter (Region.binds .any ·)).map (·.on)).getD []
theorem Xp {ops:Array Oper} {listed:Array Bool} {i:Nat}:i∈Region.ready .any ops listed↔i < ops.size∧listed.getD i true=false ∧ ∀ j∈qY ops i,listed.getD j false=true:=by
 unfold Region.ready;simp only[List.mem_filter,List.mem_range,Bool.and_eq_true,Bool.not_eq_true']
 refine and_congr_right fun hi=>and_congr_right fun _=>?_
 unfold qY;rw[Array.getElem?_eq_getElem hi];simp only[Option.map_some,Option.getD_some,List.mem_map,List.mem_filter];rw[← Array.all_toList,List.all_eq_true];constructor
 ·rintro h j ⟨e,⟨h1,h2⟩,rfl⟩
  have:=h e h1;rw[h2] at this
  simpa using this
 ·intro h e he
  cases hb:Region.binds .any e with
  | false=>rfl
  | true=>simpa using h e.on ⟨e,⟨he,hb⟩,rfl⟩
def XG (tbl:List Nat):List Nat→Nat
 | []=>0
 | e :: es=>2 ^ e ||| tbl.getD e 0 ||| XG tbl es
def KZ:List (List Nat)→List Nat→List Nat
 | [],tbl=>tbl
 | es :: rest,tbl=>KZ rest (tbl++[XG tbl es])
def kf (ops:Array Oper):List Nat:=KZ ((List.range ops.size).map (qY ops)) []
def Kp (tbl:List Nat) (i j:Nat):Bool:=(tbl.getD j 0).testBit i
theorem qcu {tbl:List Nat} {i:Nat}:∀ {es:List Nat},(XG tbl es).testBit i=true→∃ e∈es,i=e∨(tbl.getD e 0).testBit i=true
 | [],h=>by simp[XG] at h
 | e :: es,h=>by
   simp only[XG,Nat.testBit_or,Bool.or_eq_true] at h;rcases h with (h | h) | h
   ·rw[Nat.testBit_two_pow] at h;exact ⟨e,List.mem_cons_self ..,.inl (by simpa using (of_decide_eq_true h).symm)⟩
   ·exact ⟨e,List.mem_cons_self ..,.inr h⟩
   ·obtain ⟨x,h1,h2⟩:=qcu h;exact ⟨x,List.mem_cons_of_mem _ h1,h2⟩
theorem Zn:∀ (ess:List (List Nat)) (tbl:List Nat),tbl <+: KZ ess tbl
 | [],_=>List.prefix_refl _
 | _ :: rest,tbl=>(List.prefix_append tbl _).trans (Zn rest _)
theorem qmb {a b:List Nat} (h:a <+: b) {e i:Nat} (k:(a.getD e 0).testBit i=true):(b.getD e 0).testBit i=true:=by
 obtain ⟨t,rfl⟩:=h
 by_cases he:e < a.length
 ·rw[List.getD_eq_getElem?_getD,List.getElem?_append_left he,← List.getD_eq_getElem?_getD]; exact k
 ·rw[List.getD_eq_getElem?_getD,List.getElem?_eq_none (by omega)] at k;simp at k
theorem qgb:∀ (ess:List (List Nat)) (tbl:List Nat) (k:Nat) (es:List Nat),ess[k]? = some es→∃ tb,tb <+: KZ ess tbl∧(KZ ess tbl).getD (tbl.length + k) 0=XG tb es
 | [],_,k,_,h=>by simp at h
 | e :: rest,tbl,0,es,h=>by
   simp only[List.getElem?_cons_zero,Option.some.injEq] at h;subst h;refine ⟨tbl,Zn _ _,?_⟩;obtain ⟨t,ht⟩:=Zn rest (tbl++[XG tbl e]);simp only[KZ,← ht];simp
 | e :: rest,tbl,k + 1,es,h=>by
   obtain ⟨tb,h1,h2⟩:=qgb rest (tbl++[XG tbl e]) k es (by simpa using h);refine ⟨tb,h1,?_⟩;rw[← h2];simp only[KZ,List.length_append,List.length_singleton]
   congr 1
   omega
theorem qt7 {ops:Array Oper} {i j:Nat} (h:Kp (kf ops) i j=true):∃ e∈qY ops j,i=e∨Kp (kf ops) i e=true:=by
 unfold Kp at h
 by_cases hj:j < ops.size
 ·obtain ⟨tb,h1,h2⟩:=qgb ((List.range ops.size).map (qY ops)) [] j (qY ops j) (by simp[hj]);simp only[List.length_nil,Nat.zero_add] at h2;unfold kf at h;rw[h2] at h;obtain ⟨e,a1,a2⟩:=qcu h;exact ⟨e,a1,a2.imp id (qmb h1)⟩
 ·exfalso
  have hl:(kf ops).length=ops.size:=by
   have:∀ (ess:List (List Nat)) (tbl:List Nat),(KZ ess tbl).length=tbl.length + ess.length:=by
    intro ess
    induction ess with
    | nil=>intro tbl; rfl
    | cons e ess ih=>intro tbl; simp only[KZ,ih,List.length_append,List.length_cons,List.length_nil]; omega
   unfold kf;rw[this];simp
  rw[List.getD_eq_getElem?_getD,List.getElem?_eq_none (by omega)] at h;simp at h
theorem qlz {ops:Array Oper} {listed:Array Bool} (hlow:∀ j,∀ e∈qY ops j,e < j) (hdown:∀ j,listed.getD j false=true→∀ e∈qY ops j,listed.getD e false=true) :
 ∀ (j:Nat),(∀ e∈qY ops j,listed.getD e false=true)→∀ i,Kp (kf ops) i j=true→listed.getD i false=true:=by
 intro j
 induction j using Nat.strongRecOn with
 | _ j ih=>
   intro he i hm;obtain ⟨e,h1,h2⟩:=qt7 hm;rcases h2 with rfl | h2
   ·exact he _ h1
   ·exact ih e (hlow j e h1) (hdown e (he e h1)) i h2
section
variable {P:Program} {T:Tab} {cf:CF} {N:Nat} {ops:Array Oper}
theorem qjn {i:Nat} {op:AOp} {ev:Opnd→Option V} {h:Loc→Option Obj} {r:R} (hc:K4 op=true) (e:exec T cf i op ev h=some r):∃ f args,W1 cf f i h args=some r:=by
 cases op with
 | call f args=>obtain ⟨vs,_,e⟩:=f7 e; exact ⟨_,_,e⟩
 | callV f args=>
   obtain ⟨g,_,e⟩:=f7 e;obtain ⟨vs,_,e⟩:=f7 e;obtain ⟨⟨fid,cap⟩,_,e⟩:=f7 e;exact ⟨_,_,e⟩
 | inv m x args=>
   obtain ⟨v,_,e⟩:=f7 e;obtain ⟨vs,_,e⟩:=f7 e;obtain ⟨⟨t,y⟩,_,e⟩:=f7 e;obtain ⟨⟨f,path⟩,_,e⟩:=f7 e
   cases path with
   | none=>exact ⟨_,_,e⟩
   | some p=>
     obtain ⟨off,n,ag⟩:=p;obtain ⟨r,_,e⟩:=f7 e;exact ⟨_,_,e⟩
 | build z ps own=>cases own <;> cases hc
 | conv k x=>cases k <;> cases hc
 | _=>cases hc
theorem Jb {o:Oper} {a:Act} {w:World} {ρ:Map} {H:Ice} {h:Loc→Option Obj} {i:Nat} {env:List (Nat × V)} {op:AOp} {A:List Loc} {r:R} (hcf:Qp B P cf) (hfs:∀ g vs hp r,cf g vs hp=some r→S6 P g=true)
 (hH:HRel ρ H h w) (hE:EnvRel B ds fx ρ H N env a) (hN:∀ k,ρ (.n i k) = .none) (hok:q71 P op o.op=true) (e:jy T cf i op A (evO env) h=some r) (hw:∀ e,r = .ok e∨r = .pan e→ZV (D1 op) A i e.wr=true):f8 P o a w ρ H h i r:=by
 unfold jy at e
 cases hc:K4 op with
 | false=>rw[hc,j7] at e; exact Kx hcf hfs hH hE hN hok e
 | true=>
   rw[hc,j3] at e
   have hk:D1 op=3:=by simpa [K4] using hc
   have hs:=Kx (o:=o) hcf hfs (hH.only A.contains) (hE.mono (vC _ ρ) (fun _ _ _ e=>e)) (fun k=>qb7 (hN k)) hok e;obtain ⟨f,args,ec⟩:=qjn hc e
   refine hs.widen hH hN fun ef hef=>⟨?_,qjt ec ef hef⟩
   have:=hw ef hef;rw[hk] at this;exact this
theorem Je {ro:Option Nat} (hcf:Qp B P cf) (hfs:∀ g vs hp r,cf g vs hp=some r→S6 P g=true) {Q:Exit→Act→World→Prop} {o:Oper} {ai:AIns} (ho:ops[ai.i]? = some o) (hok:qcn P N ops o ai=true) (hav:∀ x∈fx,ai.dst≠some x.1)
 {A:List Loc} {s:RS} {x:SR} (e:Comes T cf ai A s x) {ρ:Map} {H:Ice} {w:World} {a:Act} {K:Act→World→Prop} (hH:HRel ρ H s.h w) (hE:EnvRel B ds fx ρ H N s.env a) (hN:∀ k,ρ (.n ai.i k) = .none)
 (hk:match x with
  | .go s1 _=>∀ ρ' H' a' w',HRel ρ' H' s1.h w'→EnvRel B ds fx ρ' H' N s1.env a'→Trans ρ H w ρ' H' w'→j4 ρ ρ'→H8 ai.i ρ ρ'→K a' w'
  | .pan v s1 _=>∀ ρ' H' w' u,HRel ρ' H' s1.h w'→Trans ρ H w ρ' H' w'→j4 ρ ρ'→j9 ρ' H' v u→Q (.panic [{ v:=u,recovered:=false }]) a w'
  | .out=>LetsOut Q):wpOpIn (Qd ro) 0 P ops Q ai.i K a w:=by
 simp only[qcn,Bool.and_eq_true,decide_eq_true_eq] at hok;obtain ⟨⟨⟨k1,k2⟩,k3⟩,k4⟩:=hok
 have hdst:∀ t,o.dst=some t→t < N ∧ ∀ x∈fx,x.1≠t:=fun t ht=>by
  rw[k2] at ht;refine ⟨?_,fun x hx he=>hav x hx (by rw[ht,he])⟩;rw[ht] at k3
  simpa using k3
 unfold wpOpIn;simp only[ho]
 cases e with
 | skip hg=>
   rw[wC (ops:=ops) (o:=o) hE k4 hg];simp only[Bool.false_eq_true,if_false];exact ⟨fun _ _=>trivial,hk ρ H _ w hH (by rw[← k2]; exact hE.put o.dst hdst ⟨[],rfl,rfl⟩) (Trans.refl ..) (j4.refl _) (H8.refl _ _)⟩
 | ok hg k q=>
   rw[wC (ops:=ops) (o:=o) hE k4 hg];simp only[if_true];refine Jb (o:=o) hcf hfs hH hE hN k1 k (fun ef hef=>by rcases hef with h | h <;> cases h; exact q) ro _ _ ?_;intro ρ' H' v w' hp;exact hk ρ' H' _ w' hp.heap (by rw[← k2]; exact (hE.mono hp.stays (hp.trans.le hH)).put o.dst hdst hp.val) hp.trans hp.stays hp.new
 | pan hg k q=>
   rw[wC (ops:=ops) (o:=o) hE k4 hg];simp only[if_true];refine Jb (o:=o) hcf hfs hH hE hN k1 k (fun ef hef=>by rcases hef with h | h <;> cases h; exact q.2) ro _ _ ?_;intro ρ' H' v w' hp;exact hk ρ' H' w' v hp.heap hp.trans hp.stays hp.val
 | out hg k q=>
   rw[wC (ops:=ops) (o:=o) hE k4 hg];simp only[if_true];exact Jb (o:=o) hcf hfs hH hE hN k1 k (fun ef hef=>by rcases hef with h | h <;> cases h) ro _ _ hk
def qel (B:Ice) (ds:List Deferred) (fx:List (Nat × Value)) (ρ:Map) (H:Ice) (w:World) (N:Nat) (Q:Exit→Act→World→Prop):RR→Prop
 | .nrm s=>∀ ρ' H' a' w' env',(∀ t,A5 s.env t=A5 env' t)→HRel ρ' H' s.h w'→EnvRel B ds fx ρ' H' N env' a'→Trans ρ H w ρ' H' w'→j4 ρ ρ'→Q .normal a' w'
 | .pan i v s=>∀ ρ' H' a' w' u h',(∀ l,Loc.oldOr i l=true→s.h l=h' l)→HRel ρ' H' h' w'→a'.defers=ds→(∀ t u,(t,u)∈fx→a'.tmps.getD t undef=u)→Trans ρ H w ρ' H' w'→j4 ρ ρ'→j9 ρ' H' v u→Q (.panic [{ v:=u,recovered:=false }]) a' w'
 | .out=>LetsOut Q
theorem qel.eqv {ρ:Map} {H:Ice} {w:World} {Q:Exit→Act→World→Prop} {r r':RR} (h:qel B ds fx ρ H w N Q r) (e:EqvR r r'):qel B ds fx ρ H w N Q r':=by
 cases e with
 | nrm e=>exact fun ρ' H' a' w' env' h1 h2=>h ρ' H' a' w' env' (fun t=>(e.2 t).trans (h1 t)) (by rw[e.1]; exact h2)
 | pan e=>exact fun ρ' H' a' w' u h' h1=>h ρ' H' a' w' u h' (fun l hl=>(e l hl).trans (h1 l hl))
 | out=>exact h
theorem qel.shift {ρ ρ1:Map} {H H1:Ice} {w w1:World} {Q:Exit→Act→World→Prop} {r:RR} (h:qel B ds fx ρ H w N Q r) (ht:Trans ρ H w ρ1 H1 w1) (hs:j4 ρ ρ1):qel B ds fx ρ1 H1 w1 N Q r:=by
 cases r with
 | nrm s=>exact fun ρ' H' a' w' env' h1 h2 h3 h4 h5=>h ρ' H' a' w' env' h1 h2 h3 (ht.trans h4) (hs.trans h5)
 | pan i v s=>exact fun ρ' H' a' w' u h' h1 h2 h3 h3x h4 h5=>h ρ' H' a' w' u h' h1 h2 h3 h3x (ht.trans h4) (hs.trans h5)
 | out=>exact h
theorem qmz {ro:Option Nat} (hcf:Qp B P cf) (hfs:∀ g vs hp r,cf g vs hp=some r→S6 P g=true) {Q:Exit→Act→World→Prop} (hlow:∀ j,∀ e∈qY ops j,e < j) :
 ∀ (fuel:Nat) (listed:Array Bool) (E:List Item) (U:List AIns) (s:RS) (rr:RR) (ρ:Map) (H:Ice) (a:Act) (w:World),
 listed.size=ops.size→E.length + U.length≤fuel→
 (∀ j,j < ops.size→(listed.getD j false=false↔j∈E.map (·.1.i)++U.map (·.i)))→(E.map (·.1.i)++U.map (·.i)).Nodup→(∀ j,j∈E.map (·.1.i)++U.map (·.i)→j < ops.size)→
 (∀ j,listed.getD j false=true→∀ e∈qY ops j,listed.getD e false=true)→
 (∀ ai∈E.map (·.1)++U,(∃ o,ops[ai.i]? = some o∧qcn P N ops o ai=true) ∧ ∀ x∈fx,ai.dst≠some x.1)→
 E.Pairwise (fun p x=>Kp (kf ops) p.1.i x.1.i=true∨Ind p x)→
 (U=[] ∨ ∃ E0 z,E=E0++[z]∧(∀ s2,rr ≠ .nrm s2) ∧ ∀ y∈U,Kp (kf ops) z.1.i y.i=true)→
 (∀ E0 z,E=E0++[z]→(∃ j v s2,rr = .pan j v s2)→∀ p∈E0,Kp (kf ops) p.1.i z.1.i=true ∨ ∀ l∈p.2.2.wr,Loc.oldOr z.1.i l=false)→
 Runs T cf E s rr→HRel ρ H s.h w→EnvRel B ds fx ρ H N s.env a→(∀ j∈E.map (·.1.i)++U.map (·.i),∀ k,ρ (.n j k) = .none)→qel B ds fx ρ H w N Q rr→
 wpAnyIn (Qd ro) 0 P .any ops Q fuel listed a w:=by
 intro fuel
 induction fuel with
 | zero=>
   intro listed E U s rr ρ H a w hsz hlen hl hnd hlt hdown hins hpw hU hpan hr hH hE hN hp;have hE0:E=[]:=List.eq_nil_of_length_eq_zero (by omega);have hU0:U=[]:=List.eq_nil_of_length_eq_zero (by omega);subst hE0;subst hU0;cases hr;refine ⟨?_,hp ρ H a w s.env (fun _=>rfl) hH hE (Trans.refl ..) (j4.refl _)⟩;rw[List.eq_nil_iff_forall_not_mem];intro i hi;obtain ⟨h1,h2,_⟩:=Xp.1 hi
   have:listed.getD i false=false:=by
    rw[← h2];simp[Array.getD,hsz,h1]
   have:=(hl i h1).1 this;simp at this
 | succ fuel ih=>
   intro listed E U s rr ρ H a w hsz hlen hl hnd hlt hdown hins hpw hU hpan hr hH hE hN hp
   have getd:∀ i,i < ops.size→listed.getD i true=listed.getD i false:=fun i hi=>by simp[Array.getD,hsz,hi]
   refine ⟨fun hready=>?_,fun i hi=>?_⟩
   ·
    have hall:E.map (·.1.i)++U.map (·.i)=[]:=by
     rw[List.eq_nil_iff_forall_not_mem]
     have:∀ j,j ∉ E.map (·.1.i)++U.map (·.i):=by
      intro j
      induction j using Nat.strongRecOn with
      | _ j ihj=>
        intro hm;have hjs:=hlt j hm
        have:j∈Region.ready .any ops listed:=Xp.2 ⟨hjs,by rw[getd j hjs]; exact (hl j hjs).2 hm,fun e he=>by
         have hej:=hlow j e he
         cases hle:listed.getD e false with
         | true=>rfl
         | false=>exact (ihj e hej ((hl e (by omega)).1 hle)).elim⟩
        rw[hready] at this;cases this
     exact this
    rw[List.append_eq_nil_iff,List.map_eq_nil_iff,List.map_eq_nil_iff] at hall;obtain ⟨rfl,rfl⟩:=hall;cases hr;exact hp ρ H a w s.env (fun _=>rfl) hH hE (Trans.refl ..) (j4.refl _)
   ·obtain ⟨h1,h2,h3⟩:=Xp.1 hi;rw[getd i h1] at h2;have hmem:=(hl i h1).1 h2;have hmust:=qlz hlow hdown i h3
    have nolist:∀ j∈E.map (·.1.i)++U.map (·.i),Kp (kf ops) j i=false:=fun j hj=>by
     cases hm:Kp (kf ops) j i with
     | false=>rfl
     | true=>
       have a1:=hmust j hm;have a2:=(hl j (hlt j hj)).2 hj;rw[a1] at a2;cases a2
    rcases List.mem_append.1 hmem with hm | hm
    ·obtain ⟨x,hx,rfl⟩:=List.mem_map.1 hm;obtain ⟨pre,post,rfl⟩:=List.append_of_mem hx;obtain ⟨⟨o,ho,hok⟩,hav⟩:=hins x.1 (List.mem_append_left _ (List.mem_map_of_mem hx))
     have hpre:∀ p∈pre,Kp (kf ops) p.1.i x.1.i=false:=fun p hp=>nolist _ (List.mem_append_left _ (List.mem_map_of_mem (f:=fun z:Item=>z.1.i) (List.mem_append_left _ hp)))
     have hfront:=q5d pre post x s rr hr (fun p hp=>by
      refine ⟨?_,fun hpost hpn l' hl'=>?_⟩
      ·rcases (List.pairwise_append.1 hpw).2.2 p hp x (List.mem_cons_self ..) with h | h
       ·rw[hpre p hp] at h; cases h
       ·exact h
      ·subst hpost;rcases hpan pre x rfl hpn p hp with h | h
       ·rw[hpre p hp] at h; cases h
       ·exact h l' hl')
     have hNx:∀ k,ρ (.n x.1.i k) = .none:=hN _ (List.mem_append_left _ hm)
     cases hfront with
     | out hA h hrd e=>exact Je hcf hfs ho hok hav h hH hE hNx (by subst e; exact hp)
     | pan hA h e hpost=>exact Je hcf hfs ho hok hav h hH hE hNx (fun ρ' H' w' u q1 q2 q3 q4=>(hp.eqv e) ρ' H' a w' u _ (fun _ _=>rfl) q1 hE.defers hE.fix q2 q3 q4)
     | @go s1 rr' hA h k e hpost=>
       refine Je hcf hfs ho hok hav h hH hE hNx (fun ρ' H' a' w' q1 q2 q3 q4 q5=>?_)
       have hsub:∀ j,j∈(pre++post).map (fun z:Item=>z.1.i)++U.map (·.i)→j∈(pre++x :: post).map (fun z:Item=>z.1.i)++U.map (·.i):=fun j hj=>by
        simp only[List.map_append,List.map_cons,List.mem_append,List.mem_cons] at hj ⊢;rcases hj with (hj | hj) | hj
        ·exact .inl (.inl hj)
        ·exact .inl (.inr (.inr hj))
        ·exact .inr hj
       have hperm:(x.1.i :: ((pre++post).map (fun z:Item=>z.1.i)++U.map (·.i))).Nodup:=by
        refine List.Perm.nodup ?_ hnd;simp only[List.map_append,List.map_cons,List.append_assoc,List.cons_append];exact List.perm_middle
       have hne:∀ j,j∈(pre++post).map (fun z:Item=>z.1.i)++U.map (·.i)→j≠x.1.i:=fun j hj he=>(List.nodup_cons.1 hperm).1 (he ▸ hj)
       have upd:∀ j,(listed.setIfInBounds x.1.i true).getD j false=if j=x.1.i then true else listed.getD j false:=fun j=>by
        by_cases hj:j=x.1.i
        ·subst hj;simp[Array.getD,hsz,h1]
        ·simp only[Array.getD_eq_getD_getElem?,Array.getElem?_setIfInBounds_ne (Ne.symm hj),if_neg hj]
       refine ih (listed.setIfInBounds x.1.i true) (pre++post) U s1 rr' ρ' H' a' w' (by simpa using hsz) ?_ (fun j hj=>?_) (List.nodup_cons.1 hperm).2 (fun j hj=>hlt j (hsub j hj)) (fun j hj e he=>?_) (fun ai hai=>?_) ?_ ?_ ?_ k q1 q2 (fun j hj kk=>?_) ((hp.eqv e).shift q3 q4)
       ·simp only[List.length_append,List.length_cons] at hlen ⊢; omega
       ·rw[upd]
        by_cases hjx:j=x.1.i
        ·rw[if_pos hjx];refine ⟨fun h=>absurd h (by simp),fun h=>(hne j h hjx).elim⟩
        ·rw[if_neg hjx,hl j hj];refine ⟨fun h=>?_,hsub j⟩;simp only[List.map_append,List.map_cons,List.mem_append,List.mem_cons] at h ⊢;rcases h with (h | h | h) | h
         ·exact .inl (.inl h)
         ·exact (hjx h).elim
         ·exact .inl (.inr h)
         ·exact .inr h
       ·rw[upd] at hj ⊢
        by_cases hex:e=x.1.i
        ·rw[if_pos hex]
        ·rw[if_neg hex]
         by_cases hjx:j=x.1.i
         ·subst hjx; exact h3 e he
         ·rw[if_neg hjx] at hj;exact hdown j hj e he
       ·refine hins ai ?_;simp only[List.map_append,List.map_cons,List.mem_append,List.mem_cons] at hai ⊢;rcases hai with (h | h) | h
        ·exact .inl (.inl h)
        ·exact .inl (.inr (.inr h))
        ·exact .inr h
       ·obtain ⟨p1,p2,p3⟩:=List.pairwise_append.1 hpw;exact List.pairwise_append.2 ⟨p1,(List.pairwise_cons.1 p2).2,fun p hp y hy=>p3 p hp y (List.mem_cons_of_mem _ hy)⟩
       ·rcases hU with h | ⟨E0,z,h1,h2,h3⟩
        ·exact .inl h
        ·right
         have hnn:post≠[]:=fun hpo=>by obtain ⟨s2,hs2⟩:=hpost hpo; exact h2 s2 hs2
         obtain ⟨post0,z',rfl⟩:∃ p0 z',post=p0++[z']:=⟨post.dropLast,post.getLast hnn,(List.dropLast_concat_getLast hnn).symm⟩
         have hz:E0++[z]=(pre++x :: post0)++[z']:=by rw[← h1]; simp
         have hzz:=(List.append_inj' hz rfl).2;simp only[List.cons.injEq,and_true] at hzz;subst hzz;refine ⟨pre++post0,z,by simp,fun s2 hs2=>?_,h3⟩;subst hs2
         cases e with
         | nrm _=>exact h2 _ rfl
       ·intro E0 z hz hpn p hp
        have hnn:post≠[]:=fun hpo=>by
         obtain ⟨s2,hs2⟩:=hpost hpo;subst hs2;obtain ⟨j,v,s3,h⟩:=hpn;subst h;cases e
        obtain ⟨post0,z',rfl⟩:∃ p0 z',post=p0++[z']:=⟨post.dropLast,post.getLast hnn,(List.dropLast_concat_getLast hnn).symm⟩
        have hz2:E0++[z]=(pre++post0)++[z']:=by rw[← hz]; simp
        obtain ⟨hz3,hzz⟩:=List.append_inj' hz2 rfl;simp only[List.cons.injEq,and_true] at hzz;subst hzz;subst hz3;refine hpan (pre++x :: post0) z (by simp) ?_ p ?_
        ·obtain ⟨j,v,s3,h⟩:=hpn;subst h
         cases e with
         | pan _=>exact ⟨_,_,_,rfl⟩
        ·rcases List.mem_append.1 hp with h | h
         ·exact List.mem_append_left _ h
         ·exact List.mem_append_right _ (List.mem_cons_of_mem _ h)
       ·cases hq:ρ' (.n j kk) with
        | none=>rfl
        | _=>
          exfalso
          obtain ⟨k',hk'⟩:=q5 _ (hN j (hsub j hj) kk) (by rw[hq]; intro h; cases h)
          injection hk' with hk' _
          exact hne j hj hk'
    ·rcases hU with h | ⟨E0,z,h1',h2',h3'⟩
     ·subst h; simp at hm
     ·obtain ⟨y,hy,rfl⟩:=List.mem_map.1 hm;have:=nolist z.1.i (List.mem_append_left _ (List.mem_map_of_mem (f:=fun z:Item=>z.1.i) (by rw[h1']; simp)));rw[h3' y hy] at this;cases this
end
end Go.Rf

set_option linter.unusedSectionVars false
namespace Go.Rf
variable [Prg]
variable {B:Ice} {ds:List Deferred} {fx:List (Nat × Value)}
def q3d (a b:AOp):Bool:=D1 a == 0 || D1 b == 0 || (D1 a == 1 && D1 b == 1)
def q18 (p x:AIns):Bool:=
 (match p.dst with | some t=>!(zN x).contains t && decide (x.dst≠some t) | none=>true) && (match x.dst with | some t=>!(zN p).contains t | none=>true)
def qay (tbl:List Nat) (ps:List (Nat × Nat)):List AIns→Bool
 | []=>true
 | p :: L=>L.all (fun x=>Kp tbl p.i x.i || (q18 p x && (q3d p.op x.op || ps.contains (p.i,x.i)))) && qay tbl ps L
def qco (tbl:List Nat) (es:List Nat):List AIns→Bool
 | []=>true
 | z :: L=>(!es.contains z.i || L.all (fun y=>Kp tbl z.i y.i)) && qco tbl es L
def YZ (P:Program) (N:Nat) (ops:Array Oper) (L:List AIns) (d:List (Nat × Nat) × List Nat):Bool:=
 P.follows .mixedOrders && (List.range ops.size).all (fun j=>(qY ops j).all fun e=>decide (e < j)) &&
 (List.range ops.size).all (fun j=>(L.map (·.i)).contains j) && decide (L.map (·.i)).Nodup && L.all (fun ai=>match ops[ai.i]? with
  | some o=>qcn P N ops o ai
  | none=>false) && (qay (kf ops) d.1 L && qco (kf ops) d.2 L)
def Apt (tbl:List Nat) (ps:List (Nat × Nat)) (p x:AIns):Prop:=Kp tbl p.i x.i=true∨(q18 p x=true∧(q3d p.op x.op=true∨(p.i,x.i)∈ps))
theorem qcl {tbl:List Nat} {ps:List (Nat × Nat)}:∀ {L:List AIns},qay tbl ps L=true→L.Pairwise (Apt tbl ps)
 | [],_=>.nil
 | p :: L,h=>by
   simp only[qay,Bool.and_eq_true,List.all_eq_true,Bool.or_eq_true,List.contains_iff_mem] at h;exact .cons (fun x hx=>h.1 x hx) (qcl h.2)
theorem qf6 {tbl:List Nat} {es:List Nat} {z:AIns} {U:List AIns}:∀ {E:List AIns},qco tbl es (E++z :: U)=true→z.i∈es→∀ y∈U,Kp tbl z.i y.i=true
 | [],h,hz=>by
   simp only[List.nil_append,qco,Bool.and_eq_true,Bool.or_eq_true,Bool.not_eq_true',List.all_eq_true] at h;rcases h.1 with h' | h'
   ·rw[← Bool.not_eq_true,List.contains_iff_mem] at h'; exact (h' hz).elim
   ·exact h'
 | e :: E,h,hz=>by
   simp only[List.cons_append,qco,Bool.and_eq_true] at h;exact qf6 h.2 hz
section
variable {P:Program} {T:Tab} {cf:CF} {N:Nat} {ops:Array Oper}
structure Fact (x:Item):Prop where
 i:x.2.2.i=x.1.i
 k0:D1 x.1.op=0→x.2.2.rd=[]∧x.2.2.wr=[]
 k1:D1 x.1.op=1→x.2.2.wr=[]
 sub:∀ l∈x.2.2.ch,l∈x.2.2.wr ∨ ∃ l'∈x.2.2.wr,l=Zv l'
theorem Fact.noch {x:Item} (f:Fact x) (h:x.2.2.wr=[]) {l:Loc} (hl:l∈x.2.2.ch):False:=by
 rcases f.sub l hl with h1 | ⟨_,h1,_⟩ <;> rw[h] at h1 <;> cases h1
theorem q3b {wr:List (Loc × Option Obj)} {l:Loc} (h:l∈chN wr):l∈wr.map (·.1) ∨ ∃ l'∈wr.map (·.1),l=Zv l':=by
 rcases List.mem_append.1 h with h | h
 ·exact .inl h
 ·obtain ⟨x,h1,h2⟩:=List.mem_map.1 h;exact .inr ⟨x,h1,h2.symm⟩
theorem qy5 {l l':Loc} (h:Zv l=Zv l'):l=l'∨l=Zv l'∨l'=Zv l:=by
 cases l <;> cases l' <;> simp_all [Zv]
theorem q2y {o:AIns} {A:List Loc} {s s':RS} {r:Rec} (h:Comes T cf o A s (.go s' r)):Fact (o,A,r):=by
 cases h with
 | skip _=>exact ⟨rfl,fun _=>⟨rfl,rfl⟩,fun _=>rfl,fun _ h=>.inl h⟩
 | ok _ _ q=>
   refine ⟨rfl,fun hk=>?_,fun hk=>?_,fun l hl=>q3b (q3a hl)⟩
   ·simp only[hk,ZV,Bool.and_eq_true,List.isEmpty_iff] at q;exact ⟨q.1,by simp only[q.2,List.map_nil]⟩
   ·simp only[hk,ZV,List.isEmpty_iff] at q;simp only[q,List.map_nil]
theorem qzg {o:AIns} {A:List Loc} {s s':RS} {v:V} {r:Rec} (h:Comes T cf o A s (.pan v s' r)):Fact (o,A,r)∧2≤D1 o.op:=by
 cases h with
 | pan _ _ q=>exact ⟨⟨rfl,fun hk=>absurd q.1 (by rw[show D1 o.op=0 from hk]; omega),fun hk=>absurd q.1 (by rw[show D1 o.op=1 from hk]; omega),fun _ h=>.inl h⟩,q.1⟩
theorem qfs {ps:List (Nat × Nat)} {es:List Nat}:∀ (L:List AIns) (s:RS) (rs:List Rec) (rr:RR) (rs':List Rec),Qx T cf ps es L s rs=some (rr,rs')→
 ∃ (E:List Item) (U:List AIns),L=E.map (·.1)++U∧Runs T cf E s rr∧rs'=(E.map (·.2.2)).reverse++rs∧(∀ x∈E,Fact x) ∧
   ((U=[] ∧ ∃ s2,rr = .nrm s2) ∨ ∃ E0 z,E=E0++[z]∧(∀ s2,rr ≠ .nrm s2)∧z.1.i∈es∧((∃ j v s2,rr = .pan j v s2)→2≤D1 z.1.op∧WH ps ((E0.map (·.2.2)).reverse++rs) z.1.i=true))
 | [],s,rs,rr,rs',e=>by
   cases e;exact ⟨[],[],rfl,.nil s,rfl,(fun x h=>by cases h),.inl ⟨rfl,_,rfl⟩⟩
 | o :: os,s,rs,rr,rs',e=>by
   obtain ⟨x,e1,e2⟩:=f7 e;have hc:=quz.1 e1
   cases x with
   | go s1 r=>
     obtain ⟨E,U,a1,a2,a3,a4,a5⟩:=qfs os s1 (r :: rs) rr rs' e2;refine ⟨(o,_,r) :: E,U,by simp[a1],.go (fun _=>rfl) hc a2,by simp[a3],fun x hx=>?_,?_⟩
     ·rcases List.mem_cons.1 hx with rfl | hx
      ·exact q2y hc
      ·exact a4 x hx
     ·rcases a5 with h | ⟨E0,z,h1,h2,h3,h4⟩
      ·exact .inl h
      ·refine .inr ⟨(o,_,r) :: E0,z,by rw[h1]; rfl,h2,h3,fun hpn=>?_⟩;have:=h4 hpn
       simpa using this
   | pan v s1 r=>
     obtain ⟨hk,h⟩:=Xl e2;cases h;simp only[Bool.and_eq_true,List.contains_iff_mem] at hk;obtain ⟨hf,hq⟩:=qzg hc;refine ⟨[(o,_,r)],os,rfl,.pan (fun _=>rfl) hc,rfl,fun x hx=>?_,.inr ⟨[],(o,_,r),rfl,(fun s2 h=>by cases h),hk.1,fun _=>⟨hq,hk.2⟩⟩⟩;rw[List.mem_singleton] at hx;subst hx;exact hf
   | out=>
     obtain ⟨hk,h⟩:=Xl e2;cases h;simp only[List.contains_iff_mem] at hk;refine ⟨[(o,_,_)],os,rfl,.out (fun _=>rfl) hc,rfl,fun x hx=>?_,.inr ⟨[],(o,_,_),rfl,(fun s2 h=>by cases h),hk,fun hpn=>?_⟩⟩
     ·rw[List.mem_singleton] at hx;subst hx;refine ⟨rfl,fun h0=>?_,fun _=>rfl,fun _ h=>.inl h⟩
      cases hc with
      | out _ _ q=>
        rcases q with q | q
        ·exact (q h0).elim
        ·exact ⟨q,rfl⟩
     ·obtain ⟨j,v,s2,h⟩:=hpn;cases h
theorem qfw:∀ {l:List Rec} {r:Rec},(l.map (·.i)).Nodup→r∈l→Qy l r.i=some r
 | x :: l,r,hn,hr=>by
   rw[List.map_cons,List.nodup_cons] at hn;unfold Qy;rw[List.find?_cons];rcases List.mem_cons.1 hr with rfl | hr
   ·simp
   ·have:(x.i == r.i)=false:=by
     rw[beq_eq_false_iff_ne];intro h;exact hn.1 (h ▸ List.mem_map_of_mem hr)
    simp only[this];exact qfw hn.2 hr
theorem qpv {p x:AIns} (h:q18 p x=true):(∀ t,p.dst=some t→t ∉ zN x)∧(∀ t,x.dst=some t→t ∉ zN p) ∧ ∀ t,p.dst=some t→x.dst≠some t:=by
 unfold q18 at h;rw[Bool.and_eq_true] at h;obtain ⟨h1,h2⟩:=h;refine ⟨fun t ht=>?_,fun t ht=>?_,fun t ht=>?_⟩
 ·rw[ht] at h1;simp only[Bool.and_eq_true,Bool.not_eq_true'] at h1;rw[← List.contains_iff_mem,h1.1];exact Bool.false_ne_true
 ·rw[ht] at h2;simp only[Bool.not_eq_true'] at h2;rw[← List.contains_iff_mem,h2];exact Bool.false_ne_true
 ·rw[ht] at h1;simp only[Bool.and_eq_true,decide_eq_true_eq] at h1;exact h1.2
theorem qes {ro:Option Nat} (hcf:Qp B P cf) (hfs:∀ g vs hp r,cf g vs hp=some r→S6 P g=true) {L:List AIns} {d:List (Nat × Nat) × List Nat} {keep:List Nat} {id p:Nat} (hok:YZ P N ops L d=true) (hav:∀ ai∈L,∀ x∈fx,ai.dst≠some x.1) {st:St} {r:Ex × St}
 (e:region T cf p L (some d) keep st=some r) {ρ:Map} {H:Ice} {w:World} {a:Act} {Q:Exit→Act→World→Prop} (hS:StRel B ds fx ρ H N st a w) {pl:Bool} (hp:kU pl B ds fx ρ H w N p Q r) :
 (Code.region id ops true).wpIn (Qd ro) 0 P Q a w:=by
 simp only[YZ,Bool.and_eq_true,List.all_eq_true,List.mem_range,decide_eq_true_eq,List.contains_iff_mem] at hok;obtain ⟨⟨⟨⟨⟨hm,hlow⟩,hall⟩,hnd⟩,hins⟩,hpairs,hends⟩:=hok;obtain ⟨⟨rr,rs⟩,e1,e2⟩:=f7 (show (bnd _ _:Option _)=some r from e);simp only at e2
 have hpo:kY d.1 rs=true:=by
  cases h:kY d.1 rs with
  | true=>rfl
  | false=>rw[h] at e2; cases e2
 rw[hpo,j3] at e2;obtain ⟨E,U,a1,a2,a3,a4,a5⟩:=qfs L _ _ rr rs e1;rw[List.append_nil] at a3
 have hids:L.map (·.i)=E.map (·.1.i)++U.map (·.i):=by rw[a1]; simp[Function.comp_def]
 have hndE:(E.map (·.1.i)).Nodup:=by rw[hids] at hnd; exact (List.nodup_append.1 hnd).1
 have hrecs:∀ (F:List Item),(∀ x∈F,Fact x)→(F.map (·.1.i)).Nodup→∀ x∈F,Qy (F.map (·.2.2)).reverse x.1.i=some x.2.2:=fun F hF hn x hx=>by
  rw[← (hF x hx).i];refine qfw ?_ (List.mem_reverse.2 (List.mem_map_of_mem hx));rw[← List.map_reverse,List.map_map]
  have:F.reverse.map ((fun r:Rec=>r.i) ∘ fun x:Item=>x.2.2)=(F.map (·.1.i)).reverse:=by
   rw[← List.map_reverse]
   exact List.map_congr_left fun y hy=>(hF y (List.mem_reverse.1 hy)).i
  rw[this];exact (List.reverse_perm _).symm.nodup hn
 have hpw0:(E.map (·.1)).Pairwise (Apt (kf ops) d.1):=by
  have:=qcl hpairs;rw[a1] at this;exact (List.pairwise_append.1 this).1
 rw[List.pairwise_map] at hpw0
 have hpw:E.Pairwise (fun p x=>Kp (kf ops) p.1.i x.1.i=true∨Ind p x):=by
  refine List.Pairwise.imp_of_mem ?_ hpw0;intro q x hq hx h;rcases h with h | ⟨h,hc⟩
  ·exact .inl h
  ·right;obtain ⟨s1,s2,s3⟩:=qpv h;have fq:=a4 q hq;have fx:=a4 x hx;rcases hc with hc | hc
   ·simp only[q3d,Bool.or_eq_true,beq_iff_eq,Bool.and_eq_true] at hc;rcases hc with (hc | hc) | ⟨hc1,hc2⟩
    ·exact ⟨s1,s2,s3,(fun l hl=>(fq.noch (fq.k0 hc).2 hl).elim),(fun l _ hl=>by rw[(fq.k0 hc).1] at hl; cases hl)⟩
    ·exact ⟨s1,s2,s3,(fun l _=>⟨by rw[(fx.k0 hc).1]; exact List.not_mem_nil,fun hl=>fx.noch (fx.k0 hc).2 hl⟩),(fun l hl=>(fx.noch (fx.k0 hc).2 hl).elim)⟩
    ·exact ⟨s1,s2,s3,(fun l hl=>(fq.noch (fq.k1 hc1) hl).elim),(fun l hl=>(fx.noch (fx.k1 hc2) hl).elim)⟩
   ·have:=List.all_eq_true.1 hpo _ hc;simp only[a3,hrecs E a4 hndE q hq,hrecs E a4 hndE x hx] at this;simp only[qns,Bool.or_eq_true,Bool.and_eq_true,List.all_eq_true,Bool.not_eq_true'] at this
    have nc:∀ {l:Loc} {xs:List Loc},xs.contains l=false→l ∉ xs:=fun {l xs} h hm=>by
     rw[List.contains_iff_mem.2 hm] at h; cases h
    rcases this with this | this
    ·obtain ⟨t1,t2⟩:=this;refine ⟨s1,s2,s3,fun l hl=>⟨fun h=>?_,fun h=>?_⟩,fun l hl h=>?_⟩
     ·rcases fq.sub l hl with g | ⟨l',g,rfl⟩
      ·exact nc (t1 l g).1.1.2 h
      ·exact nc (t1 l' g).1.2 h
     ·rcases fq.sub l hl with g | ⟨l',g,rfl⟩ <;> rcases fx.sub _ h with g' | ⟨l'',g',e⟩
      ·exact nc (t1 l g).1.1.1 g'
      ·subst e; exact nc (t2 l'' g').2 g
      ·exact nc (t1 l' g).2 g'
      ·rcases qy5 e with e | e | e
       ·subst e; exact nc (t1 _ g).1.1.1 g'
       ·subst e; exact nc (t2 _ g').2 g
       ·subst e; exact nc (t1 _ g).2 g'
     ·rcases fx.sub l hl with g | ⟨l',g,rfl⟩
      ·exact nc (t2 l g).1.1 h
      ·exact nc (t2 l' g).1.2 h
    ·exact ⟨s1,s2,s3,fun l hl=>⟨nc (this.1 l hl).2,nc (this.1 l hl).1⟩,fun l hl=>nc (this.2 l hl)⟩
 have hlt:∀ j,j∈L.map (·.i)→j < ops.size:=fun j hj=>by
  obtain ⟨ai,h1,rfl⟩:=List.mem_map.1 hj;have:=hins ai h1;split at this
  ·rename_i o ho; exact (Array.getElem?_eq_some_iff.1 ho).1
  ·cases this
 refine wpIn_region_any hm ?_
 refine qmz (T:=T) (N:=N) hcf hfs (fun j e he=>?_) ops.size (Array.replicate ops.size false) E U { env:=st.env,h:=j5 st.heap } rr ρ H a { w with drawn:=w.drawn + 1 } (by simp) ?_ (fun j hj=>?_) (hids ▸ hnd) (fun j hj=>hlt j (hids ▸ hj)) (fun j hj=>?_) (fun ai hai=>?_) hpw ?_ ?_ a2
  (hS.heap.drawn _) hS.env (fun j _ k=>?_) ?_
 ·by_cases hj:j < ops.size
  ·exact hlow j hj e he
  ·unfold qY at he;rw[Array.getElem?_eq_none (by omega)] at he;cases he
 ·have h1:(L.map (·.i)).length≤(List.range ops.size).length:=List.Nodup.length_le_of_subset hnd (fun j hj=>List.mem_range.2 (hlt j hj));rw[hids] at h1
  simpa using h1
 ·rw[← hids];simp[hj]
  simpa using hall j hj
 ·simp only[Array.getD_eq_getD_getElem?,Array.getElem?_replicate] at hj
  split at hj <;> cases hj
 ·rw[← a1] at hai;have:=hins ai hai;refine ⟨?_,hav ai hai⟩;split at this
  ·rename_i o ho; exact ⟨o,ho,this⟩
  ·cases this
 ·rcases a5 with ⟨h,_⟩ | ⟨E0,z,h1,h2,h3,_⟩
  ·exact .inl h
  ·refine .inr ⟨E0,z,h1,h2,?_⟩;rw[a1,h1,List.map_append,List.map_cons,List.map_nil,List.append_assoc,List.singleton_append] at hends;exact qf6 hends h3
 ·intro E0 z hE hpn q hq;rcases a5 with ⟨_,s2,h⟩ | ⟨E1,z1,h1,h2,h3,h4⟩
  ·subst h; obtain ⟨j,v,s2,h⟩:=hpn; cases h
  ·obtain ⟨rfl,hz⟩:=List.append_inj' (hE.symm.trans h1) rfl;simp only[List.cons.injEq,and_true] at hz;subst hz;obtain ⟨k1,k2⟩:=h4 hpn;rw[List.append_nil] at k2
   have hqE:q∈E:=by rw[hE]; exact List.mem_append_left _ hq
   have hqz:Apt (kf ops) d.1 q.1 z.1:=by
    rw[hE] at hpw0;exact (List.pairwise_append.1 hpw0).2.2 q hq z (List.mem_singleton.2 rfl)
   have hiz:q.1.i≠z.1.i:=by
    rw[hE,List.map_append] at hndE;exact (List.nodup_append.1 hndE).2.2 _ (List.mem_map_of_mem (f:=fun x:Item=>x.1.i) hq) _ (by simp)
   rcases hqz with h | ⟨_,hc⟩
   ·exact .inl h
   ·right;intro l hl;rcases hc with hc | hc
    ·simp only[q3d,Bool.or_eq_true,beq_iff_eq,Bool.and_eq_true] at hc;rcases hc with (hc | hc) | ⟨hc1,hc2⟩
     ·rw[((a4 q hqE).k0 hc).2] at hl; cases hl
     ·omega
     ·omega
    ·have:=List.all_eq_true.1 k2 _ hc
     have hn0:(E0.map (·.1.i)).Nodup:=by
      rw[hE,List.map_append] at hndE;exact (List.nodup_append.1 hndE).1
     simp only[beq_self_eq_true,j3,hrecs E0 (fun x hx=>a4 x (by rw[hE]; exact List.mem_append_left _ hx)) hn0 q hq,qr,List.all_eq_true] at this;obtain ⟨k,rfl⟩:=qc1.1 (this l hl);simp only[Loc.oldOr,beq_eq_false_iff_ne];exact hiz
 ·cases hq:ρ (.n j k) with
  | none=>rfl
  | _=>
    obtain ⟨_,_,hk⟩:=hS.only (.n j k) (by rw[hq]; intro h; cases h);cases hk
 ·cases rr with
  | out=>(cases e2; exact hp)
  | nrm s'=>
    intro ρ' H' a' w' env' henv q1 q2 q3 q4;obtain ⟨st',e3,e4⟩:=f7 e2;cases e4
    have hk:∀ ks,zK s'.env ks=zK env' ks:=by
     intro ks
     induction ks with
     | nil=>rfl
     | cons t ks ih=>simp only[zK,henv t,ih]
    have e5:wb p keep env' s'.h=some st':=by
     unfold wb at e3 ⊢;rw[← hk];exact e3
    obtain ⟨M,m1,m2,m3,m4⟩:=Jc q1 q2 e5;exact hp [] _ _ _ _ (fun _=>rfl) Marks.nil m1 (((Trans.drawn ρ H w _).trans q3).trans m3) ((q4.toP p).trans m2) m4
  | pan j v s'=>
    intro ρ' H' a' w' u h' hh q1 q2 q2x q3 q4 q5;obtain ⟨ex,st'⟩:=r
    have hfun:only (Loc.oldOr j) s'.h=only (Loc.oldOr j) h':=by
     funext l
     cases hl:Loc.oldOr j l with
     | true=>rw[QC hl,QC hl,hh l hl]
     | false=>rw[Xx hl,Xx hl]
    have e3:qmw p v (only (Loc.oldOr j) h')=some (ex,st'):=by rw[← hfun]; exact e2
    obtain ⟨x,ρ2,H2,rfl,m1,m2,m3,m4,m5,m6⟩:=qmv (q1.only (Loc.oldOr j)) (q5.mono (vC _ _) (fun _ _ _ e=>e)) e3;exact hp [] _ _ _ _ u (fun _=>rfl) Marks.nil m1 m2 m3 q2 q2x ((((Trans.drawn ρ H w _).trans q3).trans (qlg _ _ _ _)).trans m4) (((q4.trans (vC _ _)).toP p).trans m5) m6
end
end Go.Rf
