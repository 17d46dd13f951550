/- Parts of the proof. -/
import Derived.Test.YtpaeaccmddffjaaGreatDoorRb2
import Derived.Test.YtpaeaccmddffjaaGreatDoorSp5
set_option linter.all false
namespace Go.Rf
def qi (s:List UInt8):Prop:=s.length≤4096∧(dec s 0).1≠45∧(dec s 0).1≠8722
theorem Wz {s:List UInt8} (h:qi s):∃ e,d6 T0 X0 qe1 [.d (.str s)] []=some (.ret [.d (Wd (qW s)),.d (.int .i64 e)] []):=by
 obtain ⟨hl,h1,h2⟩:=h;have hn:=Jt hl;have hk:(d7 (qW s)).length≤456:=o6 hn.1 (by have:=(kW 456).2; omega);have s1:=qb4 (s:=s) (by omega);have s2:=Q0 false hn.1 (by omega)
 have lp:j6 T0 X0 0 jI (some (.nrm,⟨[(0,.d (.str s)),(2,.ptr (.b 0) 0 0),(4,.d (.bool false)),(10,.iter (.b 1))],[.arr [.d (.agg [.bool false,.sl []])] ⟨2,0⟩,.iter s 0]⟩)) =
  some (.exit 0,⟨[(0,.d (.str s)),(2,.ptr (.b 0) 0 0),(4,.d (.bool false))],[.arr [.d (.agg [.bool false,.sl []])] ⟨2,0⟩]⟩):=by
  rw[d5 (l:=jI) rfl]
  by_cases h0:0 < s.length
  ·have d1:=Yy h0;simp -implicitDefEqProofs (disch:=omega) [jJ]
  ·simp -implicitDefEqProofs (disch:=omega) [jJ]
 rw[c9 (af:=jT) rfl rfl rfl];unfold qW at *
 cases hp:Xv s with
 | none=>
   rw[hp] at s1;refine ⟨10,?_⟩;simp -implicitDefEqProofs (disch:=omega) [jT,lp,s1,Wd]
 | some v=>
   rw[hp] at s1 s2 hk;simp only[Option.getD_some,qwr] at s2 hk;refine ⟨0,?_⟩;simp -implicitDefEqProofs (disch:=omega) [jT,lp,s1,s2,Wd]
inductive Rs where
 | ok (x:Nd) (r:Rd)
 | bad (e:Int) (p:Pl) (r:Rd)
def Rs.out:Rs→Option CRes
 | .ok x r=>some (.ret [.d x.d] r.heap)
 | .bad e p r=>some (.pan (.d (i9 e p)) r.heap)
def Rs.end:Rs→Option (Ex × St)
 | .ok x r=>some (.ret,⟨[(2,.d x.d)],r.heap⟩)
 | .bad e p r=>some (.pan (.d (i9 e p)),⟨[],r.heap⟩)
def Rs.bind:Rs→(Nd→Rd→Rs)→Rs
 | .ok x r,f=>f x r
 | .bad e p r,_=>.bad e p r
inductive Md where
 | u
 | p
 | s
 | lp (x:Nd)
 | ls (x:Nd)
def rd:Nat→Md→Rd→Rs
 | 0,_,r=>.bad 80 g9 r
 | n + 1,.u,r=>
   if r.isT [45]=true then (rd n .u r.next).bind fun x r=>.ok (.minus x) r
   else if r.tok.kind=2 then .ok (.num (qW r.tok.text)) r.next
   else if r.isName=true then (if 0≤r.var r.tok.text then .ok (.name (r.var r.tok.text) r.tok.text) r.next else .bad 81 r.tok.pos r)
   else match r.into [40] with
    | some e=>.bad e r.tok.pos r
    | none=>(rd n .s r.opened.next).bind fun x r=>if r.isT [41]=true then .ok x r.next.closed else .bad 80 r.tok.pos r
 | n + 1,.p,r=>(rd n .u r).bind fun x r=>rd n (.lp x) r
 | n + 1,.s,r=>(rd n .p r).bind fun x r=>rd n (.ls x) r
 | n + 1,.lp x,r=>
   if r.isT [42]=true then (rd n .u r.next).bind fun y r=>rd n (.lp (.two 42 x y)) r
   else if r.isT [47]=true then (rd n .u r.next).bind fun y r=>rd n (.lp (.two 47 x y)) r
   else if r.isT [37]=true then (rd n .u r.next).bind fun y r=>rd n (.lp (.two 37 x y)) r
   else .ok x r
 | n + 1,.ls x,r=>
   if r.isT [43]=true then (rd n .p r.next).bind fun y r=>rd n (.ls (.two 43 x y)) r
   else if r.isT [45]=true then (rd n .p r.next).bind fun y r=>rd n (.ls (.two 45 x y)) r
   else .ok x r
structure Kept (r r':Rd):Prop where
 ok:r'.ok
 ts:r'.ts=r.ts
 vs:r'.vs=r.vs
 op:r'.op=r.op
 i:r.i≤r'.i
 ly:r'.ly=r.ly
 ms:r'.ms=r.ms
def Rs.fine (r:Rd) (d:Nat):Rs→Prop
 | .ok _ r'=>Kept r r'∧r.i + d≤r'.i
 | .bad _ _ r'=>r'.ly=r.ly
def Rs.st:Rs→Rd
 | .ok _ r=>r
 | .bad _ _ r=>r
theorem fine_ly {r:Rd} {d:Nat} {b:Rs} (h:b.fine r d):b.st.ly=r.ly:=by
 cases b with
 | ok x r'=>exact h.1.ly
 | bad e p r'=>exact h
theorem Kept.refl {r:Rd} (h:r.ok):Kept r r:=⟨h,rfl,rfl,rfl,Nat.le_refl _,rfl,rfl⟩
theorem Kept.trans {a b c:Rd} (h:Kept a b) (k:Kept b c):Kept a c:=⟨k.ok,k.ts.trans h.ts,k.vs.trans h.vs,k.op.trans h.op,Nat.le_trans h.i k.i,k.ly.trans h.ly,k.ms.trans h.ms⟩
theorem Kept.next {r:Rd} (h:r.ok):Kept r r.next:=⟨Rd.next_ok h,r.next_op.2.1,r.next_op.2.2,r.next_op.1,by unfold Rd.next; split <;> simp,(lys r).1,by unfold Rd.next; split <;> rfl⟩
theorem Wj {r:Rd} {d:Nat} {b:Rs} {f:Nd→Rd→Rs} (h:b.fine r d) (g:∀ x r',Kept r r'→r.i + d≤r'.i→(f x r').fine r' 0):(b.bind f).fine r d:=by
 cases b with
 | bad e p r'=>exact h
 | ok x r'=>
   have q:=g x r' h.1 h.2;simp only[Rs.bind];have h2:=h.2
   cases hv:f x r' with
   | bad e p r2=>rw[hv] at q; exact Eq.trans q h.1.ly
   | ok y r2=>rw[hv] at q; exact ⟨h.1.trans q.1,by have:=q.2; omega⟩
theorem fine_kept {r r':Rd} {d d':Nat} {b:Rs} (h:b.fine r' d') (k:Kept r r') (l:r.i + d≤r'.i + d'):b.fine r d:=by
 cases b with
 | bad e p r2=>exact Eq.trans h k.ly
 | ok x r2=>exact ⟨k.trans h.1,by have:=h.2; omega⟩
theorem F8 {r:Rd} (h:r.tok.kind≠0):r.next.i=r.i + 1:=by unfold Rd.next; rw[if_neg h]
theorem A4 {r:Rd} {s} (h:r.isT s=true):r.tok.kind≠0:=by
 unfold Rd.isT at h;have:=of_decide_eq_true h;omega
structure Reads (n:Nat) (ts:List Tok):Prop where
 u:∀ r:Rd,r.ok→r.ts=ts→4 * (ts.length - r.i) + 1≤n→d6 T0 X0 zt [.ptr (.b 0) 0 0] r.heap=(rd n .u r).out∧(rd n .u r).fine r 1
 p:∀ r:Rd,r.ok→r.ts=ts→4 * (ts.length - r.i) + 2≤n→d6 T0 X0 Y4 [.ptr (.b 0) 0 0] r.heap=(rd n .p r).out∧(rd n .p r).fine r 1
 s:∀ r:Rd,r.ok→r.ts=ts→4 * (ts.length - r.i) + 3≤n→d6 T0 X0 xP [.ptr (.b 0) 0 0] r.heap=(rd n .s r).out∧(rd n .s r).fine r 1
 lp:∀ (r:Rd) (x:Nd),r.ok→r.ts=ts→4 * (ts.length - r.i) + 1≤n→j6 T0 X0 r.heap.length D4 (some (.nrm,⟨[(0,.ptr (.b 0) 0 0),(3,.d x.d)],r.heap⟩))=(rd n (.lp x) r).end∧(rd n (.lp x) r).fine r 0
 ls:∀ (r:Rd) (x:Nd),r.ok→r.ts=ts→4 * (ts.length - r.i) + 1≤n→j6 T0 X0 r.heap.length K7 (some (.nrm,⟨[(0,.ptr (.b 0) 0 0),(3,.d x.d)],r.heap⟩))=(rd n (.ls x) r).end∧(rd n (.ls x) r).fine r 0
theorem q1l {n:Nat} {ts:List Tok} (ih:Reads n ts) (r:Rd) (h:r.ok) (ht:r.ts=ts) (hn:4 * (ts.length - r.i) + 2≤n + 1) :
 d6 T0 X0 Y4 [.ptr (.b 0) 0 0] r.heap=(rd (n + 1) .p r).out∧(rd (n + 1) .p r).fine r 1:=by
 obtain ⟨s1,f1⟩:=ih.u r h ht (by omega);rw[c9 (af:=P1) rfl rfl rfl];unfold rd;refine ⟨?_,Wj f1 fun x r' k1 k2=>(ih.lp r' x k1.ok (k1.ts.trans ht) (by omega)).2⟩;have e1:=fine_ly f1;rcases hu:rd n .u r with ⟨x,r'⟩ | ⟨e,p,r'⟩
 case bad=>
  rw[hu] at s1 e1;cases hly:r.ly
  all_goals
   simp only[Rd.heap,hly,e1,Rs.st,Rs.bind,Rs.out,i9] at s1 e1 ⊢;simp -implicitDefEqProofs (disch:=omega) [P1,s1,e1]
 rw[hu] at s1 f1 e1;obtain ⟨s2,f2⟩:=ih.lp r' x f1.1.ok (f1.1.ts.trans ht) (by have:=f1.2; omega);have e2:=fine_ly f2;simp only[Rs.bind];rcases hv:rd n (.lp x) r' with ⟨y,r2⟩ | ⟨e,p,r2⟩
 all_goals
  rw[hv] at s2 e2;cases hly:r.ly
  all_goals
   rw[hly] at e1;simp only[Rs.st] at e1 e2;rw[e1] at e2;simp only[Rd.heap,hly,e1,e2,Rs.end,Rs.out,i9,List.length_cons,List.length_nil,Nat.reduceAdd] at s1 s2 ⊢;simp -implicitDefEqProofs (disch:=omega) [P1,s1,s2]
theorem q1k {n:Nat} {ts:List Tok} (ih:Reads n ts) (r:Rd) (h:r.ok) (ht:r.ts=ts) (hn:4 * (ts.length - r.i) + 3≤n + 1) :
 d6 T0 X0 xP [.ptr (.b 0) 0 0] r.heap=(rd (n + 1) .s r).out∧(rd (n + 1) .s r).fine r 1:=by
 obtain ⟨s1,f1⟩:=ih.p r h ht (by omega);rw[c9 (af:=qc) rfl rfl rfl];unfold rd;refine ⟨?_,Wj f1 fun x r' k1 k2=>(ih.ls r' x k1.ok (k1.ts.trans ht) (by omega)).2⟩;have e1:=fine_ly f1;rcases hu:rd n .p r with ⟨x,r'⟩ | ⟨e,p,r'⟩
 case bad=>
  rw[hu] at s1 e1;cases hly:r.ly
  all_goals
   simp only[Rd.heap,hly,e1,Rs.st,Rs.bind,Rs.out,i9] at s1 e1 ⊢;simp -implicitDefEqProofs (disch:=omega) [qc,s1,e1]
 rw[hu] at s1 f1 e1;obtain ⟨s2,f2⟩:=ih.ls r' x f1.1.ok (f1.1.ts.trans ht) (by have:=f1.2; omega);have e2:=fine_ly f2;simp only[Rs.bind];rcases hv:rd n (.ls x) r' with ⟨y,r2⟩ | ⟨e,p,r2⟩
 all_goals
  rw[hv] at s2 e2;cases hly:r.ly
  all_goals
   rw[hly] at e1;simp only[Rs.st] at e1 e2;rw[e1] at e2;simp only[Rd.heap,hly,e1,e2,Rs.end,Rs.out,i9,List.length_cons,List.length_nil,Nat.reduceAdd] at s1 s2 ⊢;simp -implicitDefEqProofs (disch:=omega) [qc,s1,s2]
theorem qxg {n:Nat} {ts:List Tok} (ih:Reads n ts) (r:Rd) (x:Nd) (h:r.ok) (ht:r.ts=ts) (hn:4 * (ts.length - r.i) + 1≤n + 1) :
 j6 T0 X0 r.heap.length D4 (some (.nrm,⟨[(0,.ptr (.b 0) 0 0),(3,.d x.d)],r.heap⟩))=(rd (n + 1) (.lp x) r).end∧(rd (n + 1) (.lp x) r).fine r 0:=by
 have hi:r.i < ts.length:=ht ▸ h.i;have a0:=n7 h [42] (by simp);have a1:=n7 h [47] (by simp);have a2:=n7 h [37] (by simp);rw[d5 (l:=D4) rfl];unfold rd
 have go:r.tok.kind≠0→d6 T0 X0 zt [.ptr (.b 0) 0 0] r.next.heap=(rd n .u r.next).out∧(rd n .u r.next).fine r 0 ∧ ∀ y r',rd n .u r.next = .ok y r'→∀ op,
  j6 T0 X0 r'.heap.length D4 (some (.nrm,⟨[(0,.ptr (.b 0) 0 0),(3,.d (Nd.d (.two op x y)))],r'.heap⟩))=(rd n (.lp (.two op x y)) r').end∧(rd n (.lp (.two op x y)) r').fine r' 0:=by
  intro hk;have hni:=F8 hk;have hno:=r.next_op;obtain ⟨s1,f1⟩:=ih.u r.next (Rd.next_ok h) (hno.2.1.trans ht) (by omega);refine ⟨s1,fine_kept f1 (Kept.next h) (by omega),fun y r' hb op=>?_⟩;rw[hb] at f1;exact ih.lp r' (.two op x y) f1.1.ok (f1.1.ts.trans (hno.2.1.trans ht)) (by have:=f1.2; omega)
 by_cases c0:r.isT [42]=true
 ·rw[if_pos c0];rw[c0,if_pos rfl] at a0;obtain ⟨s1,f1,g⟩:=go (A4 c0);have e1:=fine_ly f1;have hno:=(lys r).1;rcases hb:rd n .u r.next with ⟨y,r'⟩ | ⟨e,p,r'⟩
  all_goals rw[hb] at s1 e1 f1
  ·obtain ⟨s2,f2⟩:=g y r' hb 42;simp only[Rs.bind];refine ⟨?_,fine_kept f2 f1.1 (by have:=f1.2; omega)⟩;rw[← s2];cases hly:r.ly
   all_goals
    simp only[Rd.heap,hly,hno,e1,Rs.st,Rs.out,List.length_cons,List.length_nil,Nat.reduceAdd] at a0 s1 e1 ⊢;simp -implicitDefEqProofs (disch:=omega) [r8,a0,s1,e1,Nd.d]
  ·refine ⟨?_,f1⟩;cases hly:r.ly
   all_goals
    simp only[Rd.heap,hly,hno,e1,Rs.st,Rs.bind,Rs.end,Rs.out,i9,List.length_cons,List.length_nil,Nat.reduceAdd] at a0 s1 e1 ⊢;simp -implicitDefEqProofs (disch:=omega) [r8,a0,s1,e1]
 rw[if_neg c0];rw[show r.isT [42]=false by simpa using c0,if_neg (by simp)] at a0
 by_cases c1:r.isT [47]=true
 ·rw[if_pos c1];rw[c1,if_pos rfl] at a1;obtain ⟨s1,f1,g⟩:=go (A4 c1);have e1:=fine_ly f1;have hno:=(lys r).1;rcases hb:rd n .u r.next with ⟨y,r'⟩ | ⟨e,p,r'⟩
  all_goals rw[hb] at s1 e1 f1
  ·obtain ⟨s2,f2⟩:=g y r' hb 47;simp only[Rs.bind];refine ⟨?_,fine_kept f2 f1.1 (by have:=f1.2; omega)⟩;rw[← s2];cases hly:r.ly
   all_goals
    simp only[Rd.heap,hly,hno,e1,Rs.st,Rs.out,List.length_cons,List.length_nil,Nat.reduceAdd] at a0 a1 s1 e1 ⊢;simp -implicitDefEqProofs (disch:=omega) [r8,a0,a1,s1,e1,Nd.d]
  ·refine ⟨?_,f1⟩;cases hly:r.ly
   all_goals
    simp only[Rd.heap,hly,hno,e1,Rs.st,Rs.bind,Rs.end,Rs.out,i9,List.length_cons,List.length_nil,Nat.reduceAdd] at a0 a1 s1 e1 ⊢;simp -implicitDefEqProofs (disch:=omega) [r8,a0,a1,s1,e1]
 rw[if_neg c1];rw[show r.isT [47]=false by simpa using c1,if_neg (by simp)] at a1
 by_cases c2:r.isT [37]=true
 ·rw[if_pos c2];rw[c2,if_pos rfl] at a2;obtain ⟨s1,f1,g⟩:=go (A4 c2);have e1:=fine_ly f1;have hno:=(lys r).1;rcases hb:rd n .u r.next with ⟨y,r'⟩ | ⟨e,p,r'⟩
  all_goals rw[hb] at s1 e1 f1
  ·obtain ⟨s2,f2⟩:=g y r' hb 37;simp only[Rs.bind];refine ⟨?_,fine_kept f2 f1.1 (by have:=f1.2; omega)⟩;rw[← s2];cases hly:r.ly
   all_goals
    simp only[Rd.heap,hly,hno,e1,Rs.st,Rs.out,List.length_cons,List.length_nil,Nat.reduceAdd] at a0 a1 a2 s1 e1 ⊢;simp -implicitDefEqProofs (disch:=omega) [r8,a0,a1,a2,s1,e1,Nd.d]
  ·refine ⟨?_,f1⟩;cases hly:r.ly
   all_goals
    simp only[Rd.heap,hly,hno,e1,Rs.st,Rs.bind,Rs.end,Rs.out,i9,List.length_cons,List.length_nil,Nat.reduceAdd] at a0 a1 a2 s1 e1 ⊢;simp -implicitDefEqProofs (disch:=omega) [r8,a0,a1,a2,s1,e1]
 rw[if_neg c2];rw[show r.isT [37]=false by simpa using c2,if_neg (by simp)] at a2;refine ⟨?_,Kept.refl h,Nat.le_refl _⟩;cases hly:r.ly
 all_goals
  simp only[Rd.heap,hly,Rs.end,List.length_cons,List.length_nil,Nat.reduceAdd] at *;simp -implicitDefEqProofs (disch:=omega) [r8,a0,a1,a2]
theorem qxf {n:Nat} {ts:List Tok} (ih:Reads n ts) (r:Rd) (x:Nd) (h:r.ok) (ht:r.ts=ts) (hn:4 * (ts.length - r.i) + 1≤n + 1) :
 j6 T0 X0 r.heap.length K7 (some (.nrm,⟨[(0,.ptr (.b 0) 0 0),(3,.d x.d)],r.heap⟩))=(rd (n + 1) (.ls x) r).end∧(rd (n + 1) (.ls x) r).fine r 0:=by
 have hi:r.i < ts.length:=ht ▸ h.i;have a0:=n7 h [43] (by simp);have a1:=n7 h [45] (by simp);rw[d5 (l:=K7) rfl];unfold rd
 have go:r.tok.kind≠0→d6 T0 X0 Y4 [.ptr (.b 0) 0 0] r.next.heap=(rd n .p r.next).out∧(rd n .p r.next).fine r 0 ∧ ∀ y r',rd n .p r.next = .ok y r'→∀ op,
  j6 T0 X0 r'.heap.length K7 (some (.nrm,⟨[(0,.ptr (.b 0) 0 0),(3,.d (Nd.d (.two op x y)))],r'.heap⟩))=(rd n (.ls (.two op x y)) r').end∧(rd n (.ls (.two op x y)) r').fine r' 0:=by
  intro hk;have hni:=F8 hk;have hno:=r.next_op;obtain ⟨s1,f1⟩:=ih.p r.next (Rd.next_ok h) (hno.2.1.trans ht) (by omega);refine ⟨s1,fine_kept f1 (Kept.next h) (by omega),fun y r' hb op=>?_⟩;rw[hb] at f1;exact ih.ls r' (.two op x y) f1.1.ok (f1.1.ts.trans (hno.2.1.trans ht)) (by have:=f1.2; omega)
 by_cases c0:r.isT [43]=true
 ·rw[if_pos c0];rw[c0,if_pos rfl] at a0;obtain ⟨s1,f1,g⟩:=go (A4 c0);have e1:=fine_ly f1;have hno:=(lys r).1;rcases hb:rd n .p r.next with ⟨y,r'⟩ | ⟨e,p,r'⟩
  all_goals rw[hb] at s1 e1 f1
  ·obtain ⟨s2,f2⟩:=g y r' hb 43;simp only[Rs.bind];refine ⟨?_,fine_kept f2 f1.1 (by have:=f1.2; omega)⟩;rw[← s2];cases hly:r.ly
   all_goals
    simp only[Rd.heap,hly,hno,e1,Rs.st,Rs.out,List.length_cons,List.length_nil,Nat.reduceAdd] at a0 s1 e1 ⊢;simp -implicitDefEqProofs (disch:=omega) [F0,a0,s1,e1,Nd.d]
  ·refine ⟨?_,f1⟩;cases hly:r.ly
   all_goals
    simp only[Rd.heap,hly,hno,e1,Rs.st,Rs.bind,Rs.end,Rs.out,i9,List.length_cons,List.length_nil,Nat.reduceAdd] at a0 s1 e1 ⊢;simp -implicitDefEqProofs (disch:=omega) [F0,a0,s1,e1]
 rw[if_neg c0];rw[show r.isT [43]=false by simpa using c0,if_neg (by simp)] at a0
 by_cases c1:r.isT [45]=true
 ·rw[if_pos c1];rw[c1,if_pos rfl] at a1;obtain ⟨s1,f1,g⟩:=go (A4 c1);have e1:=fine_ly f1;have hno:=(lys r).1;rcases hb:rd n .p r.next with ⟨y,r'⟩ | ⟨e,p,r'⟩
  all_goals rw[hb] at s1 e1 f1
  ·obtain ⟨s2,f2⟩:=g y r' hb 45;simp only[Rs.bind];refine ⟨?_,fine_kept f2 f1.1 (by have:=f1.2; omega)⟩;rw[← s2];cases hly:r.ly
   all_goals
    simp only[Rd.heap,hly,hno,e1,Rs.st,Rs.out,List.length_cons,List.length_nil,Nat.reduceAdd] at a0 a1 s1 e1 ⊢;simp -implicitDefEqProofs (disch:=omega) [F0,a0,a1,s1,e1,Nd.d]
  ·refine ⟨?_,f1⟩;cases hly:r.ly
   all_goals
    simp only[Rd.heap,hly,hno,e1,Rs.st,Rs.bind,Rs.end,Rs.out,i9,List.length_cons,List.length_nil,Nat.reduceAdd] at a0 a1 s1 e1 ⊢;simp -implicitDefEqProofs (disch:=omega) [F0,a0,a1,s1,e1]
 rw[if_neg c1];rw[show r.isT [45]=false by simpa using c1,if_neg (by simp)] at a1;refine ⟨?_,Kept.refl h,Nat.le_refl _⟩;cases hly:r.ly
 all_goals
  simp only[Rd.heap,hly,Rs.end,List.length_cons,List.length_nil,Nat.reduceAdd] at *;simp -implicitDefEqProofs (disch:=omega) [F0,a0,a1]
theorem QV {r:Rd} (h:r.ok):r.tok∈r.ts:=by
 unfold Rd.tok;have:=h.i;simp[this]
set_option maxHeartbeats 2000000 in
theorem q1j {n:Nat} {ts:List Tok} (hnum:∀ t∈ts,t.kind=2→qi t.text) (ih:Reads n ts) (r:Rd) (h:r.ok) (ht:r.ts=ts) (hn:4 * (ts.length - r.i) + 1≤n + 1) :
 d6 T0 X0 zt [.ptr (.b 0) 0 0] r.heap=(rd (n + 1) .u r).out∧(rd (n + 1) .u r).fine r 1:=by
 have hi:r.i < ts.length:=ht ▸ h.i;rw[c9 (af:=w6) rfl rfl rfl];have s0:=r9 h;have a1:=n7 h [45] (by simp);have htx:=Q3 h;have hno:=r.next_op;have l1:=(lys r).1;unfold rd
 by_cases c1:r.isT [45]=true
 ·rw[if_pos c1];rw[c1,if_pos rfl] at a1;have hni:=F8 (A4 c1);obtain ⟨s1,f1⟩:=ih.u r.next (Rd.next_ok h) (hno.2.1.trans ht) (by omega);have e1:=fine_ly f1;refine ⟨?_,Wj (fine_kept f1 (Kept.next h) (by omega)) fun x r' k1 k2=>⟨Kept.refl k1.ok,Nat.le_refl _⟩⟩;rcases hb:rd n .u r.next with ⟨y,r'⟩ | ⟨e,p,r'⟩
  all_goals
   rw[hb] at s1 e1;cases hly:r.ly
   all_goals
    simp only[Rd.heap,hly,l1,e1,Rs.st,Rs.bind,Rs.out,i9,Tok.cs] at s0 a1 s1 e1 ⊢;simp -implicitDefEqProofs (disch:=omega) [w6,s0,a1,s1,e1,Nd.d]
 rw[if_neg c1];rw[show r.isT [45]=false by simpa using c1,if_neg (by simp)] at a1;have s2:=V7 h
 by_cases c2:r.tok.kind=2
 ·rw[if_pos c2];obtain ⟨e,s3⟩:=Wz (hnum r.tok (ht ▸ QV h) c2);have hni:=F8 (r:=r) (by omega);refine ⟨?_,Kept.next h,by omega⟩;cases hly:r.ly
  all_goals
   simp only[Rd.heap,hly,l1,Rs.out,Tok.cs,Wd] at s0 a1 s2 s3 ⊢;generalize r.tok=t at *;simp -implicitDefEqProofs (disch:=omega) [w6,s0,a1,s2,s3,Nd.d,Wd]
 rw[if_neg c2];have s4:=B3 h
 by_cases c3:r.isName=true
 ·rw[if_pos c3];rw[c3] at s4;have s5:=KD h r.tok.text htx
  have hk:r.tok.kind≠0:=by
   unfold Rd.isName at c3;simp at c3;omega
  have hni:=F8 hk
  by_cases c4:0≤r.var r.tok.text
  ·rw[if_pos c4];have s6:=C3 r 81;refine ⟨?_,Kept.next h,by omega⟩;cases hly:r.ly
   all_goals
    simp only[Rd.heap,hly,l1,Rs.out,Tok.cs] at s0 a1 s2 s4 s5 s6 ⊢;generalize r.tok=t at *;simp -implicitDefEqProofs (disch:=omega) [w6,s0,a1,s2,s4,s5,s6,Nd.d]
  ·rw[if_neg c4];have s6:=F9 h 81;refine ⟨?_,rfl⟩;cases hly:r.ly
   all_goals
    simp only[Rd.heap,hly,l1,Rs.out,Tok.cs,i9] at s0 a1 s2 s4 s5 s6 ⊢;generalize r.tok=t at *;simp -implicitDefEqProofs (disch:=omega) [w6,s0,a1,s2,s4,s5,s6]
 rw[if_neg c3];rw[show r.isName=false by simpa using c3] at s4
 cases hin:r.into [40] with
 | some e=>
   have s5:=qgk h (by simp) hin;refine ⟨?_,rfl⟩;cases hly:r.ly
   all_goals
    simp only[Rd.heap,hly,Rs.out,Tok.cs,i9] at s0 a1 s4 s5 ⊢;generalize r.tok=t at *;simp -implicitDefEqProofs (disch:=omega) [w6,s0,a1,s4,s5]
 | none=>
   have s5:=qgl h (by simp) hin
   have hc:r.tok.kind=3∧r.op < 16:=by
    unfold Rd.into at hin;split at hin
    ·rename_i hk;split at hin
     ·rename_i ho; exact ⟨hk.1,ho⟩
     ·cases hin
    ·cases hin
   have hop:=Rd.opened_ok h hc.2;have hni:r.opened.next.i=r.i + 1:=F8 (r:=r.opened) (by rw[show r.opened.tok=r.tok from rfl]; omega);have hno:=r.opened.next_op;have l2:r.opened.next.ly=r.ly:=(lys r.opened).1;obtain ⟨s6,f6⟩:=ih.s r.opened.next (Rd.next_ok hop) (hno.2.1.trans ht) (by omega);have e6:=fine_ly f6;simp only[];rcases hb:rd n .s r.opened.next with ⟨x,r'⟩ | ⟨e,p,r'⟩
   all_goals rw[hb] at s6 e6 f6
   case bad=>
    refine ⟨?_,Eq.trans e6 l2⟩;cases hly:r.ly
    all_goals
     simp only[Rd.heap,hly,l2,e6,Rs.st,Rs.bind,Rs.out,Tok.cs,i9] at s0 a1 s4 s5 s6 e6 ⊢;generalize r.tok=t at *;simp -implicitDefEqProofs (disch:=omega) [w6,s0,a1,s4,s5,s6,e6]
   obtain ⟨k1,k2⟩:=f6;simp only[Rs.bind];have e7:r'.ly=r.ly:=e6.trans l2
   by_cases c5:r'.isT [41]=true
   ·rw[if_pos c5];have s7:=qlf k1.ok (by simp) c5;have hni':=F8 (A4 c5);have hno':=r'.next_op;have hop':r'.next.op=r.op + 1:=hno'.1.trans (k1.op.trans hno.1);have h16:=h.op;have l3:r'.next.closed.ly=r'.ly:=(lys r'.next).2.2.trans (lys r').1;refine ⟨?_,⟨Rd.closed_ok (Rd.next_ok k1.ok) (by omega),hno'.2.1.trans (k1.ts.trans hno.2.1),hno'.2.2.trans (k1.vs.trans hno.2.2),by show r'.next.op - 1=r.op; omega,?_,l3.trans (e6.trans l2),?_⟩,?_⟩
    ·cases hly:r.ly
     all_goals
      simp only[Rd.heap,hly,l2,l3,e7,Rs.out,Tok.cs] at s0 a1 s4 s5 s6 s7 ⊢;generalize r.tok=t at *;simp -implicitDefEqProofs (disch:=omega) [w6,s0,a1,s4,s5,s6,s7]
    ·show r.i≤r'.next.i;omega
    ·exact (Kept.next k1.ok).ms.trans (k1.ms.trans (Kept.next hop).ms)
    ·show r.i + 1≤r'.next.i;omega
   ·rw[if_neg c5];have s7:=qf4 k1.ok (by simp) (show r'.isT [41]=false by simpa using c5);refine ⟨?_,e6.trans l2⟩;cases hly:r.ly
    all_goals
     simp only[Rd.heap,hly,l2,e7,Rs.out,Tok.cs,i9] at s0 a1 s4 s5 s6 s7 ⊢;generalize r.tok=t at *;generalize r'.tok=t' at *;simp -implicitDefEqProofs (disch:=omega) [w6,s0,a1,s4,s5,s6,s7]
theorem reads {ts:List Tok} (hnum:∀ t∈ts,t.kind=2→qi t.text):∀ n,Reads n ts
 | 0=>⟨fun _ _ _ h=>by omega,fun _ _ _ h=>by omega,fun _ _ _ h=>by omega,fun _ _ _ _ h=>by omega,fun _ _ _ _ h=>by omega⟩
 | n + 1=>⟨fun r h ht hn=>q1j hnum (reads hnum n) r h ht hn,fun r h ht hn=>q1l (reads hnum n) r h ht hn,fun r h ht hn=>q1k (reads hnum n) r h ht hn,
     fun r x h ht hn=>qxg (reads hnum n) r x h ht hn,fun r x h ht hn=>qxf (reads hnum n) r x h ht hn⟩
def Rd.fuel (r:Rd):Nat:=4 * (r.ts.length - r.i) + 3
inductive Rz (α:Type) where
 | ok (x:α) (r:Rd)
 | bad (e:Int) (p:Pl) (r:Rd)
def Rz.st {α:Type}:Rz α→Rd
 | .ok _ r=>r
 | .bad _ _ r=>r
def Rz.out {α:Type} (d:α→List V):Rz α→Option CRes
 | .ok x r=>some (.ret (d x) r.heap)
 | .bad e p r=>some (.pan (.d (i9 e p)) r.heap)
def Rz.bind {α β:Type}:Rz α→(α→Rd→Rz β)→Rz β
 | .ok x r,f=>f x r
 | .bad e p r,_=>.bad e p r
def Rs.z:Rs→Rz Nd
 | .ok x r=>.ok x r
 | .bad e p r=>.bad e p r
def Rd.sum (r:Rd):Rz Nd:=(rd r.fuel .s r).z
def Rz.fine {α:Type} (r:Rd) (d:Nat):Rz α→Prop
 | .ok _ r'=>Kept r r'∧r.i + d≤r'.i
 | .bad _ _ r'=>r'.ly=r.ly
theorem Rz.fine_ly {α:Type} {r:Rd} {d:Nat} {b:Rz α} (h:b.fine r d):b.st.ly=r.ly:=by
 cases b with
 | ok x r'=>exact h.1.ly
 | bad e p r'=>exact h
theorem Rz.fine_kept {α:Type} {r r':Rd} {d d':Nat} {b:Rz α} (h:b.fine r' d') (k:Kept r r') (l:r.i + d≤r'.i + d'):b.fine r d:=by
 cases b with
 | bad e p r2=>exact Eq.trans h k.ly
 | ok x r2=>exact ⟨k.trans h.1,by have:=h.2; omega⟩
theorem YO {r:Rd} (h:r.ok) (hnum:∀ t∈r.ts,t.kind=2→qi t.text):d6 T0 X0 xP [.ptr (.b 0) 0 0] r.heap=r.sum.out (fun x=>[.d x.d])∧r.sum.fine r 1:=by
 have:=(reads hnum r.fuel).s r h rfl (Nat.le_refl _);unfold Rd.sum
 cases hb:rd r.fuel .s r <;> rw[hb] at this <;> exact this
def Rd.cond (r:Rd):Rz (Nd × Nd × Bool):=r.sum.bind fun x r1=>
 if r1.isT [61]=true then r1.next.sum.bind fun y r3=>.ok (x,y,true) r3
 else if r1.isT [33,61]=true then r1.next.sum.bind fun y r3=>.ok (x,y,false) r3
 else .bad 80 r1.tok.pos r1
def cD (x y:Nd) (b:Bool):D:=.agg [x.d,y.d,.bool b]
def cDs (c:Nd × Nd × Bool):List V:=[.d (cD c.1 c.2.1 c.2.2)]
theorem quy {r:Rd} (h:r.ok) (hnum:∀ t∈r.ts,t.kind=2→qi t.text):d6 T0 X0 W0 [.ptr (.b 0) 0 0] r.heap=r.cond.out cDs∧r.cond.fine r 1:=by
 obtain ⟨s1,f1⟩:=YO h hnum;have e1:=Rz.fine_ly f1;rw[c9 (af:=K0) rfl rfl rfl];unfold Rd.cond;rcases hb:r.sum with ⟨x,r1⟩ | ⟨e,p,r1⟩
 all_goals
  rw[hb] at s1 f1 e1;have e1:r1.ly=r.ly:=e1
 case bad=>
  refine ⟨?_,f1⟩;cases hly:r.ly
  all_goals
   simp only[Rd.heap,hly,e1,Rz.bind,Rz.out,i9] at s1 ⊢;simp -implicitDefEqProofs (disch:=omega) [K0,s1]
 obtain ⟨k1,k2⟩:=f1;have a1:=n7 k1.ok [61] (by simp);have l1:r1.next.ly=r.ly:=(lys r1).1.trans e1;have kn:=k1.trans (Kept.next k1.ok);obtain ⟨s2,f2⟩:=YO kn.ok (by rw[kn.ts]; exact hnum)
 have f3:∀ b:Bool,(r1.next.sum.bind fun y r3=>.ok (x,y,b) r3:Rz (Nd × Nd × Bool)).fine r 1:=fun b=>by
  have f4:=Rz.fine_kept f2 kn (d:=1) (by have:=(Kept.next k1.ok).i; omega)
  rcases hq:r1.next.sum with ⟨z,r3⟩ | ⟨e,p,r3⟩ <;> rw[hq] at f4 <;> exact f4
 have e2:r1.next.sum.st.ly=r.ly:=(Rz.fine_ly f2).trans l1;simp only[Rz.bind]
 by_cases c1:r1.isT [61]=true
 ·rw[if_pos c1];rw[c1,if_pos rfl] at a1;refine ⟨?_,f3 true⟩;rcases hb2:r1.next.sum with ⟨y,r3⟩ | ⟨e,p,r3⟩
  all_goals
   rw[hb2] at s2 e2;have e2:r3.ly=r.ly:=e2;cases hly:r.ly
   all_goals
    simp only[Rd.heap,hly,l1,e1,e2,Rz.out,cDs,cD,i9] at a1 s1 s2 ⊢;simp -implicitDefEqProofs (disch:=omega) [K0,s1,a1,s2]
 rw[if_neg c1];rw[show r1.isT [61]=false by simpa using c1,if_neg (by simp)] at a1
 by_cases c2:r1.isT [33,61]=true
 ·rw[if_pos c2];have a2:=X9 k1.ok (by simp) c2;refine ⟨?_,f3 false⟩;rcases hb2:r1.next.sum with ⟨y,r3⟩ | ⟨e,p,r3⟩
  all_goals
   rw[hb2] at s2 e2;have e2:r3.ly=r.ly:=e2;cases hly:r.ly
   all_goals
    simp only[Rd.heap,hly,l1,e1,e2,Rz.out,cDs,cD,i9] at a1 a2 s1 s2 ⊢;simp -implicitDefEqProofs (disch:=omega) [K0,s1,a1,a2,s2]
 rw[if_neg c2];have a2:=S0 k1.ok (s:=[33,61]) (by simp) (by simpa using c2);refine ⟨?_,e1⟩;cases hly:r.ly
 all_goals
  simp only[Rd.heap,hly,l1,e1,Rz.out,i9] at a1 a2 s1 ⊢;simp -implicitDefEqProofs (disch:=omega) [K0,s1,a1,a2]
def quu (s:List UInt8):Nat→Nat→Bool
 | 0,_=>false
 | f + 1,i=>if i < s.length then (if (dec s i).1=176 then true else quu s f (i + (dec s i).2)) else false
def zq (s:List UInt8):Bool:=!quu s (s.length + 1) 0 && decide (rc s < 16)
theorem qlu (s:List UInt8) (hs:s.length≤1100000):∀ f i (e:List (Nat × V)),s.length - i < f→i≤s.length→
 j6 T0 X0 0 kK (some (.nrm,⟨(0,.d (.str s)) :: (6,.iter (.b 0)) :: e,[.iter s i]⟩))=if quu s f i=true then some (.ret,⟨[(2,.d (.bool false))],[]⟩) else some (.exit 0,⟨[(0,.d (.str s))],[]⟩):=by
 intro f
 induction f with
 | zero=>intro i e h; omega
 | succ f ih=>
   intro i e hf hi;rw[d5 (l:=kK) rfl];unfold quu
   by_cases h0:i < s.length
   ·have d1:=Yy h0;rw[if_pos h0]
    by_cases h1:(dec s i).1=176
    ·rw[if_pos h1,if_pos rfl];simp -implicitDefEqProofs (disch:=omega) [zY,h1]
    ·rw[if_neg h1,← ih _ [(11,.d (.bool false))] (by omega) (by omega)];simp -implicitDefEqProofs (disch:=omega) [zY]
   ·rw[if_neg h0,if_neg (by simp)];simp -implicitDefEqProofs (disch:=omega) [zY]
theorem XI (s:List UInt8) (hs:s.length≤1100000):d6 T0 X0 qjd [.d (.str s)] []=some (.ret [.d (.bool (zq s))] []):=by
 rw[c9 (af:=wi) rfl rfl rfl];have s1:=qlu s hs (s.length + 1) 0 [] (by omega) (by omega);have s2:=qq8 hs;unfold zq
 by_cases h:quu s (s.length + 1) 0=true
 ·rw[if_pos h] at s1;rw[h];simp -implicitDefEqProofs (disch:=omega) [wi,s1]
 ·rw[if_neg h] at s1;rw[show quu s (s.length + 1) 0=false by simpa using h];simp -implicitDefEqProofs (disch:=omega) [wi,s1,s2];omega
theorem vB (n:Nat):pw (n + 1)=4294967296 * pw n:=by rw[pw]
theorem Q7 {xs:List Int} {j:Nat} (h:j≤xs.length):nv xs=nv (xs.take j) + pw j * nv (xs.drop j):=by
 conv=>lhs; rw[← List.take_append_drop j xs]
 rw[qio,List.length_take,Nat.min_eq_left h]
theorem qcp {xs:List Int} (hg:n9 xs) {k:Nat} (h:∀ i,k≤i→nth xs i=0):nv xs < pw k:=by
 by_cases hk:xs.length≤k
 ·exact Int.lt_of_lt_of_le (d8 hg).2 (Qz hk)
 ·have e:=Q7 (xs:=xs) (j:=k) (by omega)
  have z:∀ l:List Int,(∀ i,nth l i=0)→nv l=0:=by
   intro l
   induction l with
   | nil=>intro _; rfl
   | cons x l ih=>
     intro hl;have h0:=hl 0;rw[vZ] at h0;have h1:=ih (fun i=>by have:=hl (i + 1); rwa [Qa] at this);simp only[nv,h0,h1];rfl
  have e2:nv (xs.drop k)=0:=z _ (fun i=>by
   have:=h (k + i) (by omega)
   simpa [nth,List.getD_eq_getElem?_getD,List.getElem?_drop] using this)
  rw[e2,Int.mul_zero,Int.add_zero] at e;have:=(d8 (hg.take k)).2;rw[List.length_take,Nat.min_eq_left (by omega)] at this;omega
theorem WJ {xs:List Int} (hg:n9 xs) {k:Nat} (h:nv xs < pw k):∀ i,k≤i→nth xs i=0:=by
 intro i hi
 by_cases hl:i < xs.length
 ·have e:=Q7 (xs:=xs) (j:=i) (by omega);rw[M0 hl,nv] at e;have b1:=(d8 (hg.take i)).1;have b2:=(d8 (hg.drop (i + 1))).1;have b3:=hg.nth i;have p1:=T4 i;have p2:=Qz hi
  by_cases hz:nth xs i=0
  ·exact hz
  ·exfalso
   have:pw i * 1≤pw i * (nth xs i + 4294967296 * nv (xs.drop (i + 1))):=Int.mul_le_mul_of_nonneg_left (by omega) (by omega);omega
 ·exact xN (by omega)
theorem qti (vs us:List Int) (j:Nat) (g:Int) (hs:us.length≤1099511627776) (hj:j + vs.length < us.length) (hv:n9 vs) (hg:0≤g∧g < 4294967296):∀ d i (out:List Int) (c b:Int),d + i=vs.length→out.length=us.length→n9 out→0≤c→c < 4294967296→0≤b→b≤1→
 (∀ k,j + i≤k→nth out k=nth us k)→nv out=nv us - pw j * (g * nv (vs.take i)) + pw (j + i) * (c + b)→
 ∃ out' c' b',j6 T0 X0 2 zQ (some (.nrm,⟨[(0,.ref (.b 0) ⟨1,4⟩ j (vs.length + 1)),(1,.ref (.b 1) ⟨1,4⟩ 0 vs.length),(2,.d (.int .u64 g)),(7,.d (.int .u64 c)),(8,.d (.int .u64 b)),(14,.d (.int .i64 vs.length)),(15,.d (.int .i64 i))],[.arr (LV out) ⟨1,4⟩,.arr (LV vs) ⟨1,4⟩]⟩)) =
  some (.exit 0,⟨[(0,.ref (.b 0) ⟨1,4⟩ j (vs.length + 1)),(1,.ref (.b 1) ⟨1,4⟩ 0 vs.length),(2,.d (.int .u64 g)),(7,.d (.int .u64 c')),(8,.d (.int .u64 b'))],[.arr (LV out') ⟨1,4⟩,.arr (LV vs) ⟨1,4⟩]⟩) ∧
   out'.length=us.length∧n9 out'∧0≤c'∧c' < 4294967296∧0≤b'∧b'≤1∧(∀ k,j + vs.length≤k→nth out' k=nth us k)∧nv out'=nv us - pw j * (g * nv vs) + pw (j + vs.length) * (c' + b'):=by
 intro d
 induction d with
 | zero=>
   intro i out c b hd ho hgo hc hc1 hb hb1 hk hn
   have:i=vs.length:=by omega
   subst this;refine ⟨out,c,b,?_,ho,hgo,hc,hc1,hb,hb1,hk,by rw[hn,List.take_length]⟩;rw[d5 (l:=zQ) rfl];simp -implicitDefEqProofs (disch:=omega) [kF]
 | succ d ih=>
   intro i out c b hd ho hgo hc hc1 hb hb1 hk hn;have n1:=hv.nth i;have n2:=hgo.nth (j + i);have n3:=qcr hg n1;rw[d5 (l:=zQ) rfl]
   have hx:0≤c + g * nth vs i∧c + g * nth vs i < 18446744073709551616:=by omega
   have e1:(nth out (j + i) - (c + g * nth vs i) % 4294967296 - b) % 18446744073709551616 % 4294967296=(nth out (j + i) - (c + g * nth vs i) % 4294967296 - b) % 4294967296:=by omega
   have e2:(nth out (j + i) - (c + g * nth vs i) % 4294967296 - b) % 18446744073709551616 / 9223372036854775808 = -((nth out (j + i) - (c + g * nth vs i) % 4294967296 - b) / 4294967296):=by omega
   have step:=ih (i + 1) (out.set (j + i) ((nth out (j + i) - (c + g * nth vs i) % 4294967296 - b) % 4294967296)) ((c + g * nth vs i) / 4294967296) (-((nth out (j + i) - (c + g * nth vs i) % 4294967296 - b) / 4294967296)) (by omega) (by simp[ho]) (T5 hgo _ (by omega)) (by omega) (by omega) (by omega) (by omega) (by
    intro k hk';rw[S7 (by omega),if_neg (by omega)]
    exact hk k (by omega)) (by
    rw[C9,Zm (by omega),hn];have s1:=xI (j + i) (c + g * nth vs i);have s2:=xI (j + i) (nth out (j + i) - (c + g * nth vs i) % 4294967296 - b)
    have s3:pw j * (g * (nv (vs.take i) + pw i * nth vs i))=pw j * (g * nv (vs.take i)) + pw (j + i) * (g * nth vs i):=by
     rw[Nat.add_comm j i,Zf j i,Int.mul_add,Int.mul_add,← Int.mul_assoc g (pw i),Int.mul_comm g (pw i)];simp only[Int.mul_assoc,Int.mul_left_comm]
    rw[s3,← Nat.add_assoc];generalize (nth out (j + i) - (c + g * nth vs i) % 4294967296 - b) % 4294967296=y at *;generalize (nth out (j + i) - (c + g * nth vs i) % 4294967296 - b) / 4294967296=z at *;generalize (c + g * nth vs i) % 4294967296=m at *;generalize (c + g * nth vs i) / 4294967296=q at *;simp only[Int.mul_sub,Int.mul_add,Int.mul_neg] at s1 s2 ⊢
    omega)
   obtain ⟨out',c',b',h1,h2⟩:=step;refine ⟨out',c',b',?_,h2⟩;rw[← h1];simp -implicitDefEqProofs (disch:=omega) [kF,xA,e1,e2,Int.emod_eq_of_lt hx.1 hx.2]
theorem qu9 (vs us:List Int) (j:Nat) (g:Int) (hs:us.length≤1099511627776) (hj:j + vs.length < us.length) (hv:n9 vs):∀ d i (out:List Int) (c:Int),d + i=vs.length→out.length=us.length→n9 out→0≤c→c≤1→
 (∀ k,j + i≤k→nth out k=nth us k)→nv out=nv us + pw j * nv (vs.take i) - pw (j + i) * c→
 ∃ out' c',j6 T0 X0 2 zP (some (.nrm,⟨[(0,.ref (.b 0) ⟨1,4⟩ j (vs.length + 1)),(1,.ref (.b 1) ⟨1,4⟩ 0 vs.length),(2,.d (.int .u64 g)),(7,.d (.int .u64 c)),(70,.d (.int .i64 vs.length)),(71,.d (.int .i64 i))],[.arr (LV out) ⟨1,4⟩,.arr (LV vs) ⟨1,4⟩]⟩)) =
  some (.exit 2,⟨[(0,.ref (.b 0) ⟨1,4⟩ j (vs.length + 1)),(1,.ref (.b 1) ⟨1,4⟩ 0 vs.length),(2,.d (.int .u64 g)),(7,.d (.int .u64 c'))],[.arr (LV out') ⟨1,4⟩,.arr (LV vs) ⟨1,4⟩]⟩) ∧
   out'.length=us.length∧n9 out'∧0≤c'∧c'≤1∧(∀ k,j + vs.length≤k→nth out' k=nth us k)∧nv out'=nv us + pw j * nv vs - pw (j + vs.length) * c':=by
 intro d
 induction d with
 | zero=>
   intro i out c hd ho hgo hc hc1 hk hn
   have:i=vs.length:=by omega
   subst this;refine ⟨out,c,?_,ho,hgo,hc,hc1,hk,by rw[hn,List.take_length]⟩;rw[d5 (l:=zP) rfl];simp -implicitDefEqProofs (disch:=omega) [kE]
 | succ d ih=>
   intro i out c hd ho hgo hc hc1 hk hn;have n1:=hv.nth i;have n2:=hgo.nth (j + i);rw[d5 (l:=zP) rfl]
   have step:=ih (i + 1) (out.set (j + i) ((c + (nth out (j + i) + nth vs i)) % 4294967296)) ((c + (nth out (j + i) + nth vs i)) / 4294967296) (by omega) (by simp[ho]) (T5 hgo _ (by omega)) (by omega) (by omega) (by
    intro k hk';rw[S7 (by omega),if_neg (by omega)]
    exact hk k (by omega)) (by
    rw[C9,Zm (by omega),hn];have s1:=xI (j + i) (c + (nth out (j + i) + nth vs i))
    have s3:pw j * (nv (vs.take i) + pw i * nth vs i)=pw j * nv (vs.take i) + pw (j + i) * nth vs i:=by
     rw[Nat.add_comm j i,Zf j i,Int.mul_add];simp only[Int.mul_assoc,Int.mul_left_comm]
    rw[s3,← Nat.add_assoc];generalize (c + (nth out (j + i) + nth vs i)) % 4294967296=m at *;generalize (c + (nth out (j + i) + nth vs i)) / 4294967296=q at *;simp only[Int.mul_sub,Int.mul_add,Int.mul_neg] at s1 ⊢
    omega)
   obtain ⟨out',c',h1,h2⟩:=step;refine ⟨out',c',?_,h2⟩;rw[← h1];simp -implicitDefEqProofs (disch:=omega) [kE]
theorem qzm {a b q:Int} (hb:0 < b) (h0:q * b≤a) (h1:a < (q + 1) * b):a / b=q:=by
 have h2:=Int.le_ediv_of_mul_le hb h0;have h3:=Int.ediv_lt_of_lt_mul hb h1;omega
theorem qth {vs us:List Int} {j:Nat} {g:Int} (hs:us.length≤1099511627776) (hj:j + vs.length < us.length) (hv:n9 vs) (hu:n9 us) (hg:0≤g∧g < 4294967296)
 (hz:∀ i,j + vs.length + 1≤i→nth us i=0) (hp:0 < nv vs) (h1:(g - 1) * nv vs≤nv (us.drop j)) (h2:nv (us.drop j) < (g + 1) * nv vs) :
 ∃ out,d6 T0 X0 qi8 [.ref (.b 0) ⟨1,4⟩ j (vs.length + 1),.ref (.b 1) ⟨1,4⟩ 0 vs.length,.d (.int .u64 g)] [.arr (LV us) ⟨1,4⟩,.arr (LV vs) ⟨1,4⟩]=some (.ret [.d (.int .u32 (nv (us.drop j) / nv vs))] [.arr (LV out) ⟨1,4⟩,.arr (LV vs) ⟨1,4⟩]) ∧
   out.length=us.length∧n9 out∧nv out=nv us - pw j * ((nv (us.drop j) / nv vs) * nv vs):=by
 obtain ⟨o1,c,b,l1,ho1,hg1,hc0,hc1,hb0,hb1,hk1,hn1⟩:=qti vs us j g hs hj hv hg vs.length 0 us 0 0 (by omega) rfl hu (by omega) (by omega) (by omega) (by omega) (fun _ _=>rfl) (by simp[nv]);rw[c9 (af:=we) rfl rfl rfl];simp only[Int.cast_ofNat_Int] at l1;have n1:=hg1.nth (j + vs.length);have hd:=Q7 (xs:=us) (j:=j) (by omega);have hlo:=d8 (hu.take j);rw[List.length_take,Nat.min_eq_left (by omega)] at hlo;have pp:=T4 j;have ps:=vB (j + vs.length);generalize hW:nv (us.drop j)=W at *;generalize hV:nv vs=Vv at *;generalize hx:nth o1 (j + vs.length) - c - b=x
 have fin:∀ {o:List Int},n9 o→o.length=us.length→(∀ k,j + vs.length + 1≤k→nth o k=0)→0≤nv o∧nv o < pw (j + vs.length + 1):=fun h _ hk=>⟨(d8 h).1,qcp h hk⟩
 by_cases hneg:x < 0
 ·have hx1:x % 18446744073709551616 % 4294967296=x + 4294967296:=by omega
  have hx2:x % 18446744073709551616 / 9223372036854775808=1:=by omega
  have go2:n9 (o1.set (j + vs.length) (x + 4294967296)):=T5 hg1 _ (by omega)
  have v2:nv (o1.set (j + vs.length) (x + 4294967296))=nv us - pw j * (g * Vv) + pw (j + vs.length + 1):=by
   rw[Zm (by omega),hn1,ps]
   have:x + 4294967296 - nth o1 (j + vs.length)=4294967296 - (c + b):=by omega
   rw[this,Int.mul_sub,Int.mul_comm (pw (j + vs.length)) 4294967296];omega
  have z2:∀ k,j + vs.length + 1≤k→nth (o1.set (j + vs.length) (x + 4294967296)) k=0:=fun k hk=>by
   rw[S7 (by omega),if_neg (by omega),hk1 k (by omega)];exact hz k hk
  have f2:=fin go2 (by simp[ho1]) z2
  have hlt:W < g * Vv:=by
   have:pw j * W < pw j * (g * Vv):=by omega
   exact Int.lt_of_mul_lt_mul_left this (by omega)
  obtain ⟨o3,c3,l3,ho3,hg3,hc30,hc31,hk3,hn3⟩:=qu9 vs (o1.set (j + vs.length) (x + 4294967296)) j g (by simpa [ho1] using hs) (by simpa [ho1] using hj) hv vs.length 0 _ 0 (by omega) rfl go2 (by omega) (by omega) (fun _ _=>rfl) (by simp[nv]);simp only[Int.cast_ofNat_Int] at l3;have n3:=hg3.nth (j + vs.length)
  have ho3':o3.length=us.length:=by simpa [ho1] using ho3
  have e3:nth o3 (j + vs.length)=x + 4294967296:=by rw[hk3 _ (Nat.le_refl _),S7 (by omega),if_pos rfl]
  have hq:W / Vv=g - 1:=qzm hp h1 (by rw[Int.sub_add_cancel]; exact hlt)
  have g1:1≤g:=by
   by_cases h:1≤g
   ·exact h
   ·have:g=0:=by omega
    subst this;have:=(d8 (hu.drop j)).1;omega
  have gm:(g - 1) % 18446744073709551616 % 4294967296=g - 1:=by omega
  have go4:n9 (o3.set (j + vs.length) ((nth o3 (j + vs.length) + c3) % 4294967296)):=T5 hg3 _ (by omega)
  have z4:∀ k,j + vs.length + 1≤k→nth (o3.set (j + vs.length) ((nth o3 (j + vs.length) + c3) % 4294967296)) k=0:=fun k hk=>by
   rw[S7 (by omega),if_neg (by omega),hk3 k (by omega)];exact z2 k hk
  have f4:=fin go4 (by simp[ho3']) z4
  have v4:nv (o3.set (j + vs.length) ((nth o3 (j + vs.length) + c3) % 4294967296))=nv us - pw j * ((g - 1) * Vv):=by
   rw[Zm (by omega)] at f4 ⊢;rw[hn3,v2,hV] at f4 ⊢;have s1:=xI (j + vs.length) (nth o3 (j + vs.length) + c3)
   have e5:pw j * ((g - 1) * Vv)=pw j * (g * Vv) - pw j * Vv:=by rw[Int.sub_mul,Int.one_mul,Int.mul_sub]
   have e6:pw j * ((g - 1) * Vv)≤pw j * W:=Int.mul_le_mul_of_nonneg_left h1 (by omega)
   have ht:(nth o3 (j + vs.length) + c3) / 4294967296=0∨(nth o3 (j + vs.length) + c3) / 4294967296=1:=by omega
   generalize (nth o3 (j + vs.length) + c3) % 4294967296=m at *;generalize (nth o3 (j + vs.length) + c3) / 4294967296=q at *;simp only[Int.mul_sub,Int.mul_add] at s1 f4 ⊢;rcases ht with ht | ht
   ·subst ht
    exfalso
    omega
   ·subst ht;omega
  refine ⟨_,?_,by simp[ho3'],go4,by rw[hq]; exact v4⟩;rw[hq];have hxx:nth o1 (j + vs.length) - c - b=x:=hx;simp -implicitDefEqProofs (disch:=omega) [we,l1,l3,hxx,hx1,hx2,xA,gm]
 ·have hx1:x % 18446744073709551616 % 4294967296=x:=by omega
  have hx2:x % 18446744073709551616 / 9223372036854775808=0:=by omega
  have go2:n9 (o1.set (j + vs.length) x):=T5 hg1 _ (by omega)
  have v2:nv (o1.set (j + vs.length) x)=nv us - pw j * (g * Vv):=by
   rw[Zm (by omega),hn1]
   have:x - nth o1 (j + vs.length) = - (c + b):=by omega
   rw[this,Int.mul_neg];omega
  have hge:g * Vv≤W:=by
   have h0:=(d8 go2).1
   have:pw j * (g * Vv) < pw j * (W + 1):=by rw[Int.mul_add]; omega
   have:=Int.lt_of_mul_lt_mul_left this (by omega);omega
  have hq:W / Vv=g:=qzm hp hge h2;refine ⟨_,?_,by simp[ho1],go2,by rw[hq]; exact v2⟩;rw[hq]
  have hgm:g % 4294967296=g:=by omega
  have hxx:nth o1 (j + vs.length) - c - b=x:=hx;simp -implicitDefEqProofs (disch:=omega) [we,l1,hxx,hx1,hx2,xA,hgm]
structure Bg where
 name:List UInt8
 any:Bool
 n:Int
def Bg.cs (b:Bg):List D:=[.str b.name,.bool b.any,.bool (decide (b.n < 0)),.sl (L (d7 b.n.natAbs))]
def Rd.push (r:Rd) (s:List UInt8):Rd:={ r with vs:=r.vs++[s],ly:=none }
def Rd.heapN (r:Rd) (f:Bool):List Obj:=match f with
 | true=>[.arr [.agg [.d (.sl (LT r.ts)),.d (.int .i64 r.i),.ref (.b 2) ⟨1,16⟩ 0 r.vs.length,.d (.int .i64 r.op),.map (.b 1)]] ⟨5,0⟩,.map (ME r.ms),.arr (SV r.vs) ⟨1,16⟩]
 | false=>[.arr [.agg [.d (.sl (LT r.ts)),.d (.int .i64 r.i),.ref (.b 3) ⟨1,16⟩ 0 r.vs.length,.d (.int .i64 r.op),.map (.b 2)]] ⟨5,0⟩,.dead,.map (ME r.ms),.arr (SV r.vs) ⟨1,16⟩]
def Rd.newName (r:Rd):Option Int:=
 if r.isName=false then some 80 else if zq r.tok.text=false then some 42 else if 0≤r.var r.tok.text then some 82 else if r.vs.length < 8 then none else some 2
def Rd.num (r:Rd) (p:Bool) (s:List UInt8):Rz Bg:=
 if r.tok.kind=2 then .ok ⟨s,false,sg p (qW r.tok.text)⟩ r.next else .bad 80 r.tok.pos r
def Rd.value (r:Rd) (s:List UInt8):Rz Bg:=
 if r.isT [61]=true then (if r.next.isT [45]=true then r.next.next.num true s else r.next.num false s) else .ok ⟨s,true,0⟩ r
theorem Jq {r:Rd} (h:r.ok) (hl:r.vs.length < 8) {s:List UInt8} (hs:s.length≤1100000):(r.push s).ok:=
 ⟨h.i,h.n,h.mid,h.fin,by show (r.vs++[s]).length≤16; simp; omega,h.op,h.tx,fun k=>by
  show (tx (r.vs++[s]) k).length≤1100000;unfold tx;rw[List.getD_eq_getElem?_getD,List.getElem?_append];split
  ·have:=h.tv k;unfold tx at this
   rwa [List.getD_eq_getElem?_getD] at this
  ·cases k - r.vs.length <;> simp[hs],fun x e=>by cases e⟩
def Rd.own (r:Rd) (f:Bool):Prop:=if f then r.ly=some .nils∧r.vs=[] else r.ly=none
theorem qzp {r:Rd} (h:r.ok) {e:Int} (hn:r.newName=some e):d6 T0 X0 P0 [.ptr (.b 0) 0 0] r.heap=some (.pan (.d (i9 e r.tok.pos)) r.heap):=by
 rw[c9 (af:=p7) rfl rfl rfl];have s0:=r9 h;have htx:=Q3 h;have s1:=B3 h;have s2:=XI _ htx;have s3:=KD h _ htx;have n1:=C3 r 80;have n2:=C3 r 42;have n3:=C3 r 82;have hv:=h.vs;have hx:=h.ly;unfold Rd.newName at hn
 by_cases c1:r.isName=false
 ·rw[if_pos c1] at hn;cases hn;have n4:=F9 h 80;rw[c1] at s1;cases hly:r.ly
  all_goals
   simp only[Rd.heap,hly,i9] at s1 n4 ⊢;simp -implicitDefEqProofs (disch:=omega) [p7,s1,n4]
 rw[if_neg c1] at hn;rw[show r.isName=true by simpa using c1] at s1
 by_cases c2:zq r.tok.text=false
 ·rw[if_pos c2] at hn;cases hn;have n4:=F9 h 42;rw[c2] at s2;cases hly:r.ly
  all_goals
   simp only[Rd.heap,hly,i9,Tok.cs] at s0 s1 n1 n4 ⊢;generalize r.tok=t at *;simp -implicitDefEqProofs (disch:=omega) [p7,s0,s1,s2,n1,n4]
 rw[if_neg c2] at hn;rw[show zq r.tok.text=true by simpa using c2] at s2
 by_cases c3:0≤r.var r.tok.text
 ·rw[if_pos c3] at hn;cases hn;have n4:=F9 h 82;cases hly:r.ly
  all_goals
   simp only[Rd.heap,hly,i9,Tok.cs] at s0 s1 s3 n1 n2 n4 ⊢;generalize r.tok=t at *;simp -implicitDefEqProofs (disch:=omega) [p7,s0,s1,s2,s3,n1,n2,n4]
 rw[if_neg c3] at hn
 by_cases c4:r.vs.length < 8
 ·rw[if_pos c4] at hn; cases hn
 rw[if_neg c4] at hn;cases hn;have n4:=F9 h 2;cases hly:r.ly
 case' some=>rcases hx _ hly with rfl | ⟨rfl,hvs⟩; rotate_left; rw[hvs] at c4; exact absurd (Nat.zero_lt_succ 7) c4
 all_goals
  simp only[Rd.heap,hly,i9,Tok.cs] at s0 s1 s3 n1 n2 n3 n4 ⊢;generalize r.tok=t at *;simp -implicitDefEqProofs (disch:=omega) [p7,s0,s1,s2,s3,n1,n2,n3,n4]
def outN (f:Bool):Rz Bg→Option CRes
 | .ok b r=>some (.ret [.d (.agg b.cs)] (r.heapN f))
 | .bad e p r=>some (.pan (.d (i9 e p)) (r.heapN f))
theorem qtz (r:Rd) (s):(r.push s).heap=[.arr [.agg [.d (.sl (LT r.ts)),.d (.int .i64 r.i),.ref (.b 1) ⟨1,16⟩ 0 (r.vs.length + 1),.d (.int .i64 r.op),.map (.b 2)]] ⟨5,0⟩,.arr (SV (r.vs++[s])) ⟨1,16⟩,.map (ME r.ms)]:=by
 unfold Rd.heap Rd.push;simp
set_option maxHeartbeats 4000000 in
theorem q25 {r:Rd} {f:Bool} (h:r.ok) (hn:r.newName=none) (hf:r.own f) (hnum:∀ t∈r.ts,t.kind=2→qi t.text) :
 d6 T0 X0 P0 [.ptr (.b 0) 0 0] r.heap=outN f ((r.next.push r.tok.text).value r.tok.text):=by
 rw[c9 (af:=p7) rfl rfl rfl];have s0:=r9 h;have htx:=Q3 h;have s1:=B3 h;have s2:=XI _ htx;have s3:=KD h _ htx;have n1:=C3 r 80;have n2:=C3 r 42;have n3:=C3 r 82;have n4:=C3 r 2;unfold Rd.newName at hn
 by_cases c1:r.isName=false
 ·rw[if_pos c1] at hn; cases hn
 rw[if_neg c1] at hn;rw[show r.isName=true by simpa using c1] at s1
 by_cases c2:zq r.tok.text=false
 ·rw[if_pos c2] at hn; cases hn
 rw[if_neg c2] at hn;rw[show zq r.tok.text=true by simpa using c2] at s2
 by_cases c3:0≤r.var r.tok.text
 ·rw[if_pos c3] at hn; cases hn
 rw[if_neg c3] at hn
 by_cases c4:r.vs.length < 8
 case neg=>rw[if_neg c4] at hn; cases hn
 have s4:=V7 h;have hno:=r.next_op;have hms:=(Kept.next h).ms;have l1:=(lys r).1;have h2:(r.next.push r.tok.text).ok:=Jq (Rd.next_ok h) (by rw[hno.2.2]; exact c4) htx;have a1:=n7 h2 [61] (by simp);have hp:=qtz r.next r.tok.text;have hts:(r.next.push r.tok.text).ts=r.ts:=hno.2.1
 have hl:r.ly=none∧f=false∨r.ly=some .nils∧r.vs=[]∧f=true:=by
  unfold Rd.own at hf;cases f
  ·exact .inl ⟨by simpa using hf,rfl⟩
  ·exact .inr ⟨(by simpa using hf.1),(by simpa using hf.2),rfl⟩
 have hvs:r.next.vs=r.vs:=hno.2.2;have hpl:(r.next.push r.tok.text).ly=none:=rfl
 have hpv:(r.next.push r.tok.text).vs=r.vs++[r.tok.text]:=by show r.next.vs++_=_; rw[hvs]
 have hpm:(r.next.push r.tok.text).ms=r.next.ms:=rfl;have hpi:(r.next.push r.tok.text).i=r.next.i:=rfl;have hpo:(r.next.push r.tok.text).op=r.next.op:=rfl;have hpt:(r.next.push r.tok.text).ts=r.next.ts:=rfl;unfold Rd.value;generalize r.next.push r.tok.text=q at *
 by_cases c5:q.isT [61]=true
 case neg=>
  rw[if_neg c5];rw[show q.isT [61]=false by simpa using c5,if_neg (by simp)] at a1;rcases hl with ⟨hly,rfl⟩ | ⟨hly,hv0,rfl⟩
  case' inr=>rw[hv0] at hvs hpv
  all_goals
   simp only[Rd.heap,Rd.heapN,hly,l1,outN,Bg.cs,Tok.cs,hpl,hpm,hpi,hpo,hpt,hpv,List.length_append,List.length_cons,List.length_nil,Nat.zero_add,List.nil_append,JG,qjx] at s0 s1 s3 s4 n1 n2 n3 n4 a1 ⊢;generalize r.tok=t at *;simp -implicitDefEqProofs (disch:=omega) [p7,s0,s1,s2,s3,s4,n1,n2,n3,n4,a1,hvs,JG]
 rw[if_pos c5];rw[c5,if_pos rfl] at a1;have h3:=Rd.next_ok h2;have l3:=(lys q).1.trans hpl;have v3:=q.next_op.2.2.trans hpv;have a2:=n7 h3 [45] (by simp)
 have num3:∀ t∈q.next.ts,t.kind=2→qi t.text:=by rw[q.next_op.2.1,hts]; exact hnum
 obtain ⟨p,w,hw,lw,vw,tw,a3,hv⟩:∃ (p:Bool) (w:Rd),w.ok∧w.ly=none∧w.vs=r.vs++[r.tok.text]∧w.ts=r.ts∧d6 T0 X0 jE [.ptr (.b 0) 0 0,.d (.str [45])] q.next.heap=some (.ret [.d (.bool p)] w.heap) ∧
  (if q.next.isT [45]=true then q.next.next.num true r.tok.text else q.next.num false r.tok.text)=w.num p r.tok.text:=by
  by_cases c6:q.next.isT [45]=true
  ·rw[if_pos c6];rw[c6,if_pos rfl] at a2;exact ⟨true,_,Rd.next_ok h3,(lys _).1.trans l3,(Rd.next_op _).2.2.trans v3,(Rd.next_op _).2.1.trans (q.next_op.2.1.trans hts),a2,rfl⟩
  ·rw[if_neg c6];rw[show q.next.isT [45]=false by simpa using c6,if_neg (by simp)] at a2;exact ⟨false,_,h3,l3,v3,q.next_op.2.1.trans hts,a2,rfl⟩
 rw[hv];clear hv a2;have s5:=r9 hw;have l5:=(lys w).1.trans lw;have v5:=w.next_op.2.2.trans vw;unfold Rd.num
 by_cases c7:w.tok.kind=2
 case neg=>
  rw[if_neg c7];have n5:=F9 hw 80;rcases hl with ⟨hly,rfl⟩ | ⟨hly,hv0,rfl⟩
  case' inr=>rw[hv0] at hvs hpv v3 vw v5
  all_goals
   simp only[Rd.heap,Rd.heapN,hly,l1,l3,lw,outN,Tok.cs,i9,hpl,hpm,hpi,hpo,hpt,hpv,v3,vw,List.length_append,List.length_cons,List.length_nil,Nat.zero_add,List.nil_append,JG,qjx] at s0 s1 s3 s4 n1 n2 n3 n4 n5 s5 a1 a3 ⊢;generalize r.tok=t at *;generalize w.tok=t2 at *;simp -implicitDefEqProofs (disch:=omega) [p7,s0,s1,s2,s3,s4,n1,n2,n3,n4,n5,s5,a1,a3,hvs,JG]
 rw[if_pos c7];have n5:=C3 w 80;have s6:=V7 hw;have tl:=Q3 hw;obtain ⟨e,s7⟩:=Wz (hnum w.tok (tw ▸ QV hw) c7)
 have hk:(d7 ((qW w.tok.text).natAbs:Int)).length≤456:=by
  obtain ⟨hl,_⟩:=hnum w.tok (tw ▸ QV hw) c7;have hn:=Jt hl;rw[Int.natAbs_of_nonneg hn.1];exact o6 hn.1 (by have:=(kW 456).2; omega)
 have s8:=qn2 (m:=qW w.tok.text) (by unfold nl; omega);rcases hl with ⟨hly,rfl⟩ | ⟨hly,hv0,rfl⟩
 case' inr=>rw[hv0] at hvs hpv v3 vw v5
 all_goals
  cases p
  all_goals
   simp only[Rd.heap,Rd.heapN,hly,l1,l3,l5,lw,outN,Bg.cs,sg,Tok.cs,Wd,hpl,hpm,hpi,hpo,hpt,hpv,v3,vw,v5,List.length_append,List.length_cons,List.length_nil,Nat.zero_add,List.nil_append,JG,qjx] at s0 s1 s3 s4 n1 n2 n3 n4 n5 s5 s6 s7 s8 a1 a3 ⊢;generalize r.tok=t at *;generalize w.tok=t2 at *;simp -implicitDefEqProofs (disch:=omega) [p7,s0,s1,s2,s3,s4,n1,n2,n3,n4,n5,s5,s6,s7,s8,a1,a3,hvs,JG]
theorem q26 {w t:List UInt8} {r n:Nat} (h:w≠[]) (e:dec w 0=(r,n)) (hb:¬ (r=65533∧n=1)):dec (w++t) 0=(r,n):=by
 unfold dec Utf8.decode at *
 have hsz:(ByteArray.mk w.toArray).size=w.length:=by simp[ByteArray.size]
 have hsz2:(ByteArray.mk (w++t).toArray).size=w.length + t.length:=by simp[ByteArray.size]
 have hl:0 < w.length:=List.length_pos_iff.2 h
 have g:∀ k,k < w.length→(ByteArray.mk (w++t).toArray).get! (0 + k)=(ByteArray.mk w.toArray).get! (0 + k):=by
  intro k hk;simp only[ByteArray.get!,Nat.zero_add];simp[hk,List.getElem?_append_left]
 extract_lets a1 c1 b1 x1 x2 x3 at e
 extract_lets a2 c2 b2 y1 y2 y3
 have ha:∀ k,k < w.length→a2 k=a1 k:=fun k hk=>congrArg UInt8.toNat (g k hk)
 have hc:∀ k,c1 k=true→c2 k=true∧k < w.length:=by
  intro k hk;simp only[c1,Bool.and_eq_true,decide_eq_true_eq,hsz] at hk
  have hk1:k < w.length:=by omega
  refine ⟨?_,hk1⟩;simp only[c2,Bool.and_eq_true,decide_eq_true_eq,hsz2];refine ⟨by omega,?_⟩;rw[ha k hk1];exact hk.2
 have hc':∀ k,k < w.length→c2 k=true→c1 k=true:=by
  intro k hk hk2;simp only[c2,Bool.and_eq_true,decide_eq_true_eq] at hk2;simp only[c1,Bool.and_eq_true,decide_eq_true_eq,hsz];refine ⟨by omega,?_⟩;rw[← ha k hk];exact hk2.2
 have hb0:b2=b1:=ha 0 hl
 have hx1:c1 1=true→y1=x1:=fun h=>by simp only[y1,x1,hb0,ha 1 (hc 1 h).2]
 have hx2:c1 1=true→c1 2=true→y2=x2:=fun h h2=>by simp only[y2,x2,hb0,ha 1 (hc 1 h).2,ha 2 (hc 2 h2).2]
 have hx3:c1 1=true→c1 2=true→c1 3=true→y3=x3:=fun h h2 h3=>by simp only[y3,x3,hb0,ha 1 (hc 1 h).2,ha 2 (hc 2 h2).2,ha 3 (hc 3 h3).2]
 clear_value y1 y2 y3 x1 x2 x3
 clear_value c1 c2
 clear_value b1 b2
 subst hb0
 by_cases k0:b2 < 128
 ·rw[if_pos k0] at e ⊢;exact e
 rw[if_neg k0] at e ⊢
 by_cases k1:(b2 / 32 == 6 && c1 1)=true
 ·rw[if_pos k1] at e;simp only[Bool.and_eq_true] at k1;rw[if_pos (by simp[k1.1,(hc 1 k1.2).1]),hx1 k1.2];exact e
 rw[if_neg k1] at e
 by_cases k2:(b2 / 16 == 14 && c1 1 && c1 2)=true
 ·rw[if_pos k2] at e;simp only[Bool.and_eq_true,beq_iff_eq] at k2;rw[if_neg (by simp; omega),if_pos (by simp[k2.1.1,(hc 1 k2.1.2).1,(hc 2 k2.2).1]),hx2 k2.1.2 k2.2];exact e
 rw[if_neg k2] at e
 by_cases k3:(b2 / 8 == 30 && c1 1 && c1 2 && c1 3)=true
 ·rw[if_pos k3] at e;simp only[Bool.and_eq_true,beq_iff_eq] at k3;rw[if_neg (by simp; omega),if_neg (by simp; omega),if_pos (by simp[k3.1.1.1,(hc 1 k3.1.1.2).1,(hc 2 k3.1.2).1,(hc 3 k3.2).1]),hx3 k3.1.1.2 k3.1.2 k3.2];exact e
 rw[if_neg k3] at e;cases e;exact absurd ⟨rfl,rfl⟩ hb
def wE (p:Int→Bool):Nat→List UInt8→Bool
 | _,[]=>true
 | 0,_=>false
 | f + 1,w=>!L8 w (dec w 0).1 && p (cls (dec w 0).1) && wE p f (w.drop (dec w 0).2)
def Jn (p:Int→Bool):List UInt8→Prop
 | []=>True
 | b :: _=>b.toNat < 128∧p (cls b.toNat)=false
theorem qd8:∀ f k (n:Int),n < kB k→(qD f n).length≤9 * k
 | 0,k,n,_=>by simp[qD]
 | f + 1,0,n,h=>by
   unfold qD;rw[if_pos (by simp only[kB] at h; omega)];simp
 | f + 1,k + 1,n,h=>by
   unfold qD;split
   ·simp
   ·have h1:=qa6 9 (n % 1000000000) (decide (0 < n / 1000000000));have h2:=qd8 f k (n / 1000000000) (by simp only[kB] at h; omega);simp only[List.length_append]; omega
theorem zao (r:Int):48≤(dig r).toNat∧(dig r).toNat≤57:=by
 unfold dig
 have:(r % 10).toNat < 10:=by omega
 rw[UInt8.toNat_ofNat',Nat.mod_eq_of_lt (by omega)];omega
theorem qrw:∀ f r b,∀ c∈inF f r b,48≤c.toNat∧c.toNat≤57
 | 0,_,_,c,h=>by cases h
 | f + 1,r,b,c,h=>by
   unfold inF at h;split at h
   ·rcases List.mem_cons.1 h with rfl | h
    ·exact zao r
    ·exact qrw f _ _ c h
   ·cases h
theorem qhg:∀ f n,∀ c∈qD f n,48≤c.toNat∧c.toNat≤57
 | 0,_,c,h=>by cases h
 | f + 1,n,c,h=>by
   unfold qD at h;split at h
   ·cases h
   ·rcases List.mem_append.1 h with h | h
    ·exact qrw _ _ _ c h
    ·exact qhg f _ c h
theorem YI (f n):∀ c∈B2 f n,48≤c.toNat∧c.toNat≤57:=by
 intro c h;unfold B2 at h;split at h
 ·rw[List.mem_singleton] at h; subst h; decide
 ·exact qhg f n c (List.mem_reverse.1 h)
theorem zg5:pw 32≤kB 35:=by decide +kernel
theorem qpm {v:Int} (h0:0≤v) (h:(d7 v).length≤32):qi (B2 456 v):=by
 have hv:v < kB 35:=by
  have h1:=(d8 (g8 v)).2;rw[o9 h0] at h1;exact Int.lt_of_lt_of_le (Int.lt_of_lt_of_le h1 (Qz h)) zg5
 have hd:=YI 456 v;refine ⟨?_,?_⟩
 ·unfold B2;split
  ·simp
  ·rw[List.length_reverse];exact Nat.le_trans (qd8 456 35 v hv) (by omega)
 ·cases ht:B2 456 v with
  | nil=>decide
  | cons c s=>
    rw[ht] at hd;have:=hd c (List.mem_cons_self ..);rw[jF (by omega)];simp only[];omega
theorem qtd {s:Sc} (h:s.ok) (hc:s.token.2.code=0) (hk:s.token.1.kind=2):qi s.token.1.text:=by
 unfold Sc.token at *;split at hk
 ·cases hk
 rename_i c2;rw[if_neg c2] at hc ⊢;split at hk
 ·rename_i c3;rw[if_pos c3] at hc ⊢;have hl:=h.1
  have h3:(s.ran z8).length≤4096:=by unfold Sc.ran; rw[List.length_take]; omega
  have hn:=Jt h3
  by_cases h32:32 < (d7 (qW (s.ran z8))).length
  ·simp only[if_pos h32] at hc;cases hc
  ·exact qpm hn.1 (by omega)
 split at hk
 ·cases hk
 split at hk
 ·cases hk
 ·cases hk
structure Pre (out:List Tok):Prop where
 k:∀ t∈out,t.kind≠0
 tx:∀ t∈out,t.text.length≤1100000
 nm:∀ t∈out,t.kind=2→qi t.text
theorem qkr:∀ f (s:Sc) (out l:List Tok) e p,s.ok→s.rest.length < f→Pre out→E4 f s out=(some l,e,p)→
 ∃ o t,l=o++[t]∧Pre o∧t.kind=0∧t.text.length≤1100000∧e=0
 | 0,s,out,l,e,p,_,hf,_,_=>by omega
 | f + 1,s,out,l,e,p,hs,hf,hp,h=>by
   have hb:=xl (s.rest.length + 1) hs;change s.blanks.ok∧s.blanks.rest.length≤s.rest.length at hb;have ht:=Xh hb.1;unfold E4 at h;split at h
   ·cases h
   ·rename_i hc;have hc:s.blanks.token.2.code=0:=Classical.not_not.1 hc;split at h
    ·rename_i hk;cases h;exact ⟨out,_,rfl,hp,hk,ht.2.2,rfl⟩
    ·rename_i hk;have hlt:=ht.2.1 hk;refine qkr f _ _ l e p ht.1 (by omega) ⟨fun t hm=>?_,fun t hm=>?_,fun t hm=>?_⟩ h
     ·rcases List.mem_append.1 hm with hm | hm
      ·exact hp.k t hm
      ·rw[List.mem_singleton] at hm; subst hm; exact hk
     ·rcases List.mem_append.1 hm with hm | hm
      ·exact hp.tx t hm
      ·rw[List.mem_singleton] at hm; subst hm; exact ht.2.2
     ·rcases List.mem_append.1 hm with hm | hm
      ·exact hp.nm t hm
      ·rw[List.mem_singleton] at hm; subst hm; exact qtd hb.1 hc
end Go.Rf
