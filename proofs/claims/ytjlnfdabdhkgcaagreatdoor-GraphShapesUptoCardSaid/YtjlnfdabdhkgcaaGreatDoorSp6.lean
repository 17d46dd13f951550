/- Parts of the proof: SpR4, SpR5, SpR6, SpM1, SpM2, SpD1, SpM3, SpC1, SpR8, SpC2, SpC3. -/
import Derived.Test.YtjlnfdabdhkgcaaGreatDoorRb2
import Derived.Test.YtjlnfdabdhkgcaaGreatDoorSp5

set_option linter.unusedSimpArgs false
set_option linter.unusedVariables false
set_option linter.unnecessarySimpa false
set_option linter.unusedSectionVars false
set_option linter.all false
namespace Go.Rf
def qJ (s:List UInt8):Prop:=s.length≤4096∧(dec s 0).1≠45∧(dec s 0).1≠8722
theorem WX {s:List UInt8} (h:qJ s):∃ e,d5 T0 X0 qeu [.d (.str s)] []=some (.ret [.d (Wd (jO s)),.d (.int .i64 e)] []):=by
 obtain ⟨hl,h1,h2⟩:=h;have hn:=Jy hl;have hk:(d6 (jO s)).length≤456:=o6 hn.1 (by have:=(wj 456).2; omega);have s1:=qb5 (s:=s) (by omega);have s2:=S3 false hn.1 (by omega)
 have lp:j0 T0 X0 0 kh (some (.nrm,⟨[(0,.d (.str s)),(2,.ptr (.b 0) 0 0),(4,.d (.bool false)),(10,.iter (.b 1))],[.arr [.d (.agg [.bool false,.sl []])] ⟨2,0⟩,.iter s 0]⟩)) =
  some (.exit 0,⟨[(0,.d (.str s)),(2,.ptr (.b 0) 0 0),(4,.d (.bool false))],[.arr [.d (.agg [.bool false,.sl []])] ⟨2,0⟩]⟩):=by
  rw[c9 (l:=kh) rfl]
  by_cases h0:0 < s.length
  ·have d1:=YT h0;simp -implicitDefEqProofs (disch:=omega) [ki]
  ·simp -implicitDefEqProofs (disch:=omega) [ki]
 rw[a8 (af:=ku) rfl rfl rfl];unfold jO at *
 cases hp:XE s with
 | none=>
   rw[hp] at s1;refine ⟨10,?_⟩;simp -implicitDefEqProofs (disch:=omega) [ku,lp,s1,Wd]
 | some v=>
   rw[hp] at s1 s2 hk;simp only[Option.getD_some,qu1] at s2 hk;refine ⟨0,?_⟩;simp -implicitDefEqProofs (disch:=omega) [ku,lp,s1,s2,Wd]
inductive Rs where
 | ok (x:Nd) (r:Rd)
 | bad (e:Int) (p:Pl) (r:Rd)
def Rs.out:Rs→Option CRes
 | .ok x r=>some (.ret [.d x.d] r.heap)
 | .bad e p r=>some (.pan (.d (i7 e p)) r.heap)
def Rs.end:Rs→Option (Ex × St)
 | .ok x r=>some (.ret,⟨[(2,.d x.d)],r.heap⟩)
 | .bad e p r=>some (.pan (.d (i7 e p)),⟨[],r.heap⟩)
def Rs.bind:Rs→(Nd→Rd→Rs)→Rs
 | .ok x r,f=>f x r
 | .bad e p r,_=>.bad e p r
inductive Md where
 | u
 | p
 | s
 | lp (x:Nd)
 | ls (x:Nd)
def rd:Nat→Md→Rd→Rs
 | 0,_,r=>.bad 80 n0 r
 | n + 1,.u,r=>
   if r.isT [45]=true then (rd n .u r.next).bind fun x r=>.ok (.minus x) r
   else if r.tok.kind=2 then .ok (.num (jO r.tok.text)) r.next
   else if r.isName=true then (if 0≤r.var r.tok.text then .ok (.name (r.var r.tok.text) r.tok.text) r.next else .bad 81 r.tok.pos r)
   else match r.into [40] with
    | some e=>.bad e r.tok.pos r
    | none=>(rd n .s r.opened.next).bind fun x r=>if r.isT [41]=true then .ok x r.next.closed else .bad 80 r.tok.pos r
 | n + 1,.p,r=>(rd n .u r).bind fun x r=>rd n (.lp x) r
 | n + 1,.s,r=>(rd n .p r).bind fun x r=>rd n (.ls x) r
 | n + 1,.lp x,r=>
   if r.isT [42]=true then (rd n .u r.next).bind fun y r=>rd n (.lp (.two 42 x y)) r
   else if r.isT [47]=true then (rd n .u r.next).bind fun y r=>rd n (.lp (.two 47 x y)) r
   else if r.isT [37]=true then (rd n .u r.next).bind fun y r=>rd n (.lp (.two 37 x y)) r
   else .ok x r
 | n + 1,.ls x,r=>
   if r.isT [43]=true then (rd n .p r.next).bind fun y r=>rd n (.ls (.two 43 x y)) r
   else if r.isT [45]=true then (rd n .p r.next).bind fun y r=>rd n (.ls (.two 45 x y)) r
   else .ok x r
structure Kept (r r':Rd):Prop where
 ok:r'.ok
 ts:r'.ts=r.ts
 vs:r'.vs=r.vs
 op:r'.op=r.op
 i:r.i≤r'.i
 ly:r'.ly=r.ly
 ms:r'.ms=r.ms
def Rs.fine (r:Rd) (d:Nat):Rs→Prop
 | .ok _ r'=>Kept r r'∧r.i + d≤r'.i
 | .bad _ _ r'=>r'.ly=r.ly
def Rs.st:Rs→Rd
 | .ok _ r=>r
 | .bad _ _ r=>r
theorem fine_ly {r:Rd} {d:Nat} {b:Rs} (h:b.fine r d):b.st.ly=r.ly:=by
 cases b with
 | ok x r'=>exact h.1.ly
 | bad e p r'=>exact h
theorem Kept.refl {r:Rd} (h:r.ok):Kept r r:=⟨h,rfl,rfl,rfl,Nat.le_refl _,rfl,rfl⟩
theorem Kept.trans {a b c:Rd} (h:Kept a b) (k:Kept b c):Kept a c:=⟨k.ok,k.ts.trans h.ts,k.vs.trans h.vs,k.op.trans h.op,Nat.le_trans h.i k.i,k.ly.trans h.ly,k.ms.trans h.ms⟩
theorem Kept.next {r:Rd} (h:r.ok):Kept r r.next:=⟨Rd.next_ok h,r.next_op.2.1,r.next_op.2.2,r.next_op.1,by unfold Rd.next; split <;> simp,(lys r).1,by unfold Rd.next; split <;> rfl⟩
theorem WH {r:Rd} {d:Nat} {b:Rs} {f:Nd→Rd→Rs} (h:b.fine r d) (g:∀ x r',Kept r r'→r.i + d≤r'.i→(f x r').fine r' 0):(b.bind f).fine r d:=by
 cases b with
 | bad e p r'=>exact h
 | ok x r'=>
   have q:=g x r' h.1 h.2;simp only[Rs.bind];have h2:=h.2
   cases hv:f x r' with
   | bad e p r2=>rw[hv] at q; exact Eq.trans q h.1.ly
   | ok y r2=>rw[hv] at q; exact ⟨h.1.trans q.1,by have:=q.2; omega⟩
theorem fine_kept {r r':Rd} {d d':Nat} {b:Rs} (h:b.fine r' d') (k:Kept r r') (l:r.i + d≤r'.i + d'):b.fine r d:=by
 cases b with
 | bad e p r2=>exact Eq.trans h k.ly
 | ok x r2=>exact ⟨k.trans h.1,by have:=h.2; omega⟩
theorem K6 {r:Rd} (h:r.tok.kind≠0):r.next.i=r.i + 1:=by unfold Rd.next; rw[if_neg h]
theorem A8 {r:Rd} {s} (h:r.isT s=true):r.tok.kind≠0:=by
 unfold Rd.isT at h;have:=of_decide_eq_true h;omega
structure Reads (n:Nat) (ts:List Tok):Prop where
 u:∀ r:Rd,r.ok→r.ts=ts→4 * (ts.length - r.i) + 1≤n→d5 T0 X0 zK [.ptr (.b 0) 0 0] r.heap=(rd n .u r).out∧(rd n .u r).fine r 1
 p:∀ r:Rd,r.ok→r.ts=ts→4 * (ts.length - r.i) + 2≤n→d5 T0 X0 qg [.ptr (.b 0) 0 0] r.heap=(rd n .p r).out∧(rd n .p r).fine r 1
 s:∀ r:Rd,r.ok→r.ts=ts→4 * (ts.length - r.i) + 3≤n→d5 T0 X0 jn [.ptr (.b 0) 0 0] r.heap=(rd n .s r).out∧(rd n .s r).fine r 1
 lp:∀ (r:Rd) (x:Nd),r.ok→r.ts=ts→4 * (ts.length - r.i) + 1≤n→j0 T0 X0 r.heap.length D4 (some (.nrm,⟨[(0,.ptr (.b 0) 0 0),(3,.d x.d)],r.heap⟩))=(rd n (.lp x) r).end∧(rd n (.lp x) r).fine r 0
 ls:∀ (r:Rd) (x:Nd),r.ok→r.ts=ts→4 * (ts.length - r.i) + 1≤n→j0 T0 X0 r.heap.length L9 (some (.nrm,⟨[(0,.ptr (.b 0) 0 0),(3,.d x.d)],r.heap⟩))=(rd n (.ls x) r).end∧(rd n (.ls x) r).fine r 0
theorem qz2 {n:Nat} {ts:List Tok} (ih:Reads n ts) (r:Rd) (h:r.ok) (ht:r.ts=ts) (hn:4 * (ts.length - r.i) + 2≤n + 1) :
 d5 T0 X0 qg [.ptr (.b 0) 0 0] r.heap=(rd (n + 1) .p r).out∧(rd (n + 1) .p r).fine r 1:=by
 obtain ⟨s1,f1⟩:=ih.u r h ht (by omega);rw[a8 (af:=R5) rfl rfl rfl];unfold rd;refine ⟨?_,WH f1 fun x r' k1 k2=>(ih.lp r' x k1.ok (k1.ts.trans ht) (by omega)).2⟩;have e1:=fine_ly f1;rcases hu:rd n .u r with ⟨x,r'⟩ | ⟨e,p,r'⟩
 case bad=>
  rw[hu] at s1 e1;cases hly:r.ly
  all_goals
   simp only[Rd.heap,hly,e1,Rs.st,Rs.bind,Rs.out,i7] at s1 e1 ⊢;simp -implicitDefEqProofs (disch:=omega) [R5,s1,e1]
 rw[hu] at s1 f1 e1;obtain ⟨s2,f2⟩:=ih.lp r' x f1.1.ok (f1.1.ts.trans ht) (by have:=f1.2; omega);have e2:=fine_ly f2;simp only[Rs.bind];rcases hv:rd n (.lp x) r' with ⟨y,r2⟩ | ⟨e,p,r2⟩
 all_goals
  rw[hv] at s2 e2;cases hly:r.ly
  all_goals
   rw[hly] at e1;simp only[Rs.st] at e1 e2;rw[e1] at e2;simp only[Rd.heap,hly,e1,e2,Rs.end,Rs.out,i7,List.length_cons,List.length_nil,Nat.reduceAdd] at s1 s2 ⊢;simp -implicitDefEqProofs (disch:=omega) [R5,s1,s2]
theorem qz1 {n:Nat} {ts:List Tok} (ih:Reads n ts) (r:Rd) (h:r.ok) (ht:r.ts=ts) (hn:4 * (ts.length - r.i) + 3≤n + 1) :
 d5 T0 X0 jn [.ptr (.b 0) 0 0] r.heap=(rd (n + 1) .s r).out∧(rd (n + 1) .s r).fine r 1:=by
 obtain ⟨s1,f1⟩:=ih.p r h ht (by omega);rw[a8 (af:=qE) rfl rfl rfl];unfold rd;refine ⟨?_,WH f1 fun x r' k1 k2=>(ih.ls r' x k1.ok (k1.ts.trans ht) (by omega)).2⟩;have e1:=fine_ly f1;rcases hu:rd n .p r with ⟨x,r'⟩ | ⟨e,p,r'⟩
 case bad=>
  rw[hu] at s1 e1;cases hly:r.ly
  all_goals
   simp only[Rd.heap,hly,e1,Rs.st,Rs.bind,Rs.out,i7] at s1 e1 ⊢;simp -implicitDefEqProofs (disch:=omega) [qE,s1,e1]
 rw[hu] at s1 f1 e1;obtain ⟨s2,f2⟩:=ih.ls r' x f1.1.ok (f1.1.ts.trans ht) (by have:=f1.2; omega);have e2:=fine_ly f2;simp only[Rs.bind];rcases hv:rd n (.ls x) r' with ⟨y,r2⟩ | ⟨e,p,r2⟩
 all_goals
  rw[hv] at s2 e2;cases hly:r.ly
  all_goals
   rw[hly] at e1;simp only[Rs.st] at e1 e2;rw[e1] at e2;simp only[Rd.heap,hly,e1,e2,Rs.end,Rs.out,i7,List.length_cons,List.length_nil,Nat.reduceAdd] at s1 s2 ⊢;simp -implicitDefEqProofs (disch:=omega) [qE,s1,s2]
theorem qvl {n:Nat} {ts:List Tok} (ih:Reads n ts) (r:Rd) (x:Nd) (h:r.ok) (ht:r.ts=ts) (hn:4 * (ts.length - r.i) + 1≤n + 1) :
 j0 T0 X0 r.heap.length D4 (some (.nrm,⟨[(0,.ptr (.b 0) 0 0),(3,.d x.d)],r.heap⟩))=(rd (n + 1) (.lp x) r).end∧(rd (n + 1) (.lp x) r).fine r 0:=by
 have hi:r.i < ts.length:=ht ▸ h.i;have a0:=m9 h [42] (by simp);have a1:=m9 h [47] (by simp);have a2:=m9 h [37] (by simp);rw[c9 (l:=D4) rfl];unfold rd
 have go:r.tok.kind≠0→d5 T0 X0 zK [.ptr (.b 0) 0 0] r.next.heap=(rd n .u r.next).out∧(rd n .u r.next).fine r 0 ∧ ∀ y r',rd n .u r.next = .ok y r'→∀ op,
  j0 T0 X0 r'.heap.length D4 (some (.nrm,⟨[(0,.ptr (.b 0) 0 0),(3,.d (Nd.d (.two op x y)))],r'.heap⟩))=(rd n (.lp (.two op x y)) r').end∧(rd n (.lp (.two op x y)) r').fine r' 0:=by
  intro hk;have hni:=K6 hk;have hno:=r.next_op;obtain ⟨s1,f1⟩:=ih.u r.next (Rd.next_ok h) (hno.2.1.trans ht) (by omega);refine ⟨s1,fine_kept f1 (Kept.next h) (by omega),fun y r' hb op=>?_⟩;rw[hb] at f1;exact ih.lp r' (.two op x y) f1.1.ok (f1.1.ts.trans (hno.2.1.trans ht)) (by have:=f1.2; omega)
 by_cases c0:r.isT [42]=true
 ·rw[if_pos c0];rw[c0,if_pos rfl] at a0;obtain ⟨s1,f1,g⟩:=go (A8 c0);have e1:=fine_ly f1;have hno:=(lys r).1;rcases hb:rd n .u r.next with ⟨y,r'⟩ | ⟨e,p,r'⟩
  all_goals rw[hb] at s1 e1 f1
  ·obtain ⟨s2,f2⟩:=g y r' hb 42;simp only[Rs.bind];refine ⟨?_,fine_kept f2 f1.1 (by have:=f1.2; omega)⟩;rw[← s2];cases hly:r.ly
   all_goals
    simp only[Rd.heap,hly,hno,e1,Rs.st,Rs.out,List.length_cons,List.length_nil,Nat.reduceAdd] at a0 s1 e1 ⊢;simp -implicitDefEqProofs (disch:=omega) [w6,a0,s1,e1,Nd.d]
  ·refine ⟨?_,f1⟩;cases hly:r.ly
   all_goals
    simp only[Rd.heap,hly,hno,e1,Rs.st,Rs.bind,Rs.end,Rs.out,i7,List.length_cons,List.length_nil,Nat.reduceAdd] at a0 s1 e1 ⊢;simp -implicitDefEqProofs (disch:=omega) [w6,a0,s1,e1]
 rw[if_neg c0];rw[show r.isT [42]=false by simpa using c0,if_neg (by simp)] at a0
 by_cases c1:r.isT [47]=true
 ·rw[if_pos c1];rw[c1,if_pos rfl] at a1;obtain ⟨s1,f1,g⟩:=go (A8 c1);have e1:=fine_ly f1;have hno:=(lys r).1;rcases hb:rd n .u r.next with ⟨y,r'⟩ | ⟨e,p,r'⟩
  all_goals rw[hb] at s1 e1 f1
  ·obtain ⟨s2,f2⟩:=g y r' hb 47;simp only[Rs.bind];refine ⟨?_,fine_kept f2 f1.1 (by have:=f1.2; omega)⟩;rw[← s2];cases hly:r.ly
   all_goals
    simp only[Rd.heap,hly,hno,e1,Rs.st,Rs.out,List.length_cons,List.length_nil,Nat.reduceAdd] at a0 a1 s1 e1 ⊢;simp -implicitDefEqProofs (disch:=omega) [w6,a0,a1,s1,e1,Nd.d]
  ·refine ⟨?_,f1⟩;cases hly:r.ly
   all_goals
    simp only[Rd.heap,hly,hno,e1,Rs.st,Rs.bind,Rs.end,Rs.out,i7,List.length_cons,List.length_nil,Nat.reduceAdd] at a0 a1 s1 e1 ⊢;simp -implicitDefEqProofs (disch:=omega) [w6,a0,a1,s1,e1]
 rw[if_neg c1];rw[show r.isT [47]=false by simpa using c1,if_neg (by simp)] at a1
 by_cases c2:r.isT [37]=true
 ·rw[if_pos c2];rw[c2,if_pos rfl] at a2;obtain ⟨s1,f1,g⟩:=go (A8 c2);have e1:=fine_ly f1;have hno:=(lys r).1;rcases hb:rd n .u r.next with ⟨y,r'⟩ | ⟨e,p,r'⟩
  all_goals rw[hb] at s1 e1 f1
  ·obtain ⟨s2,f2⟩:=g y r' hb 37;simp only[Rs.bind];refine ⟨?_,fine_kept f2 f1.1 (by have:=f1.2; omega)⟩;rw[← s2];cases hly:r.ly
   all_goals
    simp only[Rd.heap,hly,hno,e1,Rs.st,Rs.out,List.length_cons,List.length_nil,Nat.reduceAdd] at a0 a1 a2 s1 e1 ⊢;simp -implicitDefEqProofs (disch:=omega) [w6,a0,a1,a2,s1,e1,Nd.d]
  ·refine ⟨?_,f1⟩;cases hly:r.ly
   all_goals
    simp only[Rd.heap,hly,hno,e1,Rs.st,Rs.bind,Rs.end,Rs.out,i7,List.length_cons,List.length_nil,Nat.reduceAdd] at a0 a1 a2 s1 e1 ⊢;simp -implicitDefEqProofs (disch:=omega) [w6,a0,a1,a2,s1,e1]
 rw[if_neg c2];rw[show r.isT [37]=false by simpa using c2,if_neg (by simp)] at a2;refine ⟨?_,Kept.refl h,Nat.le_refl _⟩;cases hly:r.ly
 all_goals
  simp only[Rd.heap,hly,Rs.end,List.length_cons,List.length_nil,Nat.reduceAdd] at *;simp -implicitDefEqProofs (disch:=omega) [w6,a0,a1,a2]
theorem qvk {n:Nat} {ts:List Tok} (ih:Reads n ts) (r:Rd) (x:Nd) (h:r.ok) (ht:r.ts=ts) (hn:4 * (ts.length - r.i) + 1≤n + 1) :
 j0 T0 X0 r.heap.length L9 (some (.nrm,⟨[(0,.ptr (.b 0) 0 0),(3,.d x.d)],r.heap⟩))=(rd (n + 1) (.ls x) r).end∧(rd (n + 1) (.ls x) r).fine r 0:=by
 have hi:r.i < ts.length:=ht ▸ h.i;have a0:=m9 h [43] (by simp);have a1:=m9 h [45] (by simp);rw[c9 (l:=L9) rfl];unfold rd
 have go:r.tok.kind≠0→d5 T0 X0 qg [.ptr (.b 0) 0 0] r.next.heap=(rd n .p r.next).out∧(rd n .p r.next).fine r 0 ∧ ∀ y r',rd n .p r.next = .ok y r'→∀ op,
  j0 T0 X0 r'.heap.length L9 (some (.nrm,⟨[(0,.ptr (.b 0) 0 0),(3,.d (Nd.d (.two op x y)))],r'.heap⟩))=(rd n (.ls (.two op x y)) r').end∧(rd n (.ls (.two op x y)) r').fine r' 0:=by
  intro hk;have hni:=K6 hk;have hno:=r.next_op;obtain ⟨s1,f1⟩:=ih.p r.next (Rd.next_ok h) (hno.2.1.trans ht) (by omega);refine ⟨s1,fine_kept f1 (Kept.next h) (by omega),fun y r' hb op=>?_⟩;rw[hb] at f1;exact ih.ls r' (.two op x y) f1.1.ok (f1.1.ts.trans (hno.2.1.trans ht)) (by have:=f1.2; omega)
 by_cases c0:r.isT [43]=true
 ·rw[if_pos c0];rw[c0,if_pos rfl] at a0;obtain ⟨s1,f1,g⟩:=go (A8 c0);have e1:=fine_ly f1;have hno:=(lys r).1;rcases hb:rd n .p r.next with ⟨y,r'⟩ | ⟨e,p,r'⟩
  all_goals rw[hb] at s1 e1 f1
  ·obtain ⟨s2,f2⟩:=g y r' hb 43;simp only[Rs.bind];refine ⟨?_,fine_kept f2 f1.1 (by have:=f1.2; omega)⟩;rw[← s2];cases hly:r.ly
   all_goals
    simp only[Rd.heap,hly,hno,e1,Rs.st,Rs.out,List.length_cons,List.length_nil,Nat.reduceAdd] at a0 s1 e1 ⊢;simp -implicitDefEqProofs (disch:=omega) [G3,a0,s1,e1,Nd.d]
  ·refine ⟨?_,f1⟩;cases hly:r.ly
   all_goals
    simp only[Rd.heap,hly,hno,e1,Rs.st,Rs.bind,Rs.end,Rs.out,i7,List.length_cons,List.length_nil,Nat.reduceAdd] at a0 s1 e1 ⊢;simp -implicitDefEqProofs (disch:=omega) [G3,a0,s1,e1]
 rw[if_neg c0];rw[show r.isT [43]=false by simpa using c0,if_neg (by simp)] at a0
 by_cases c1:r.isT [45]=true
 ·rw[if_pos c1];rw[c1,if_pos rfl] at a1;obtain ⟨s1,f1,g⟩:=go (A8 c1);have e1:=fine_ly f1;have hno:=(lys r).1;rcases hb:rd n .p r.next with ⟨y,r'⟩ | ⟨e,p,r'⟩
  all_goals rw[hb] at s1 e1 f1
  ·obtain ⟨s2,f2⟩:=g y r' hb 45;simp only[Rs.bind];refine ⟨?_,fine_kept f2 f1.1 (by have:=f1.2; omega)⟩;rw[← s2];cases hly:r.ly
   all_goals
    simp only[Rd.heap,hly,hno,e1,Rs.st,Rs.out,List.length_cons,List.length_nil,Nat.reduceAdd] at a0 a1 s1 e1 ⊢;simp -implicitDefEqProofs (disch:=omega) [G3,a0,a1,s1,e1,Nd.d]
  ·refine ⟨?_,f1⟩;cases hly:r.ly
   all_goals
    simp only[Rd.heap,hly,hno,e1,Rs.st,Rs.bind,Rs.end,Rs.out,i7,List.length_cons,List.length_nil,Nat.reduceAdd] at a0 a1 s1 e1 ⊢;simp -implicitDefEqProofs (disch:=omega) [G3,a0,a1,s1,e1]
 rw[if_neg c1];rw[show r.isT [45]=false by simpa using c1,if_neg (by simp)] at a1;refine ⟨?_,Kept.refl h,Nat.le_refl _⟩;cases hly:r.ly
 all_goals
  simp only[Rd.heap,hly,Rs.end,List.length_cons,List.length_nil,Nat.reduceAdd] at *;simp -implicitDefEqProofs (disch:=omega) [G3,a0,a1]
end Go.Rf

namespace Go.Rf
theorem Ze {r:Rd} (h:r.ok):r.tok∈r.ts:=by
 unfold Rd.tok;have:=h.i;simp[this]
set_option maxHeartbeats 2000000 in
theorem qz0 {n:Nat} {ts:List Tok} (hnum:∀ t∈ts,t.kind=2→qJ t.text) (ih:Reads n ts) (r:Rd) (h:r.ok) (ht:r.ts=ts) (hn:4 * (ts.length - r.i) + 1≤n + 1) :
 d5 T0 X0 zK [.ptr (.b 0) 0 0] r.heap=(rd (n + 1) .u r).out∧(rd (n + 1) .u r).fine r 1:=by
 have hi:r.i < ts.length:=ht ▸ h.i;rw[a8 (af:=x4) rfl rfl rfl];have s0:=w7 h;have a1:=m9 h [45] (by simp);have htx:=X8 h;have hno:=r.next_op;have l1:=(lys r).1;unfold rd
 by_cases c1:r.isT [45]=true
 ·rw[if_pos c1];rw[c1,if_pos rfl] at a1;have hni:=K6 (A8 c1);obtain ⟨s1,f1⟩:=ih.u r.next (Rd.next_ok h) (hno.2.1.trans ht) (by omega);have e1:=fine_ly f1;refine ⟨?_,WH (fine_kept f1 (Kept.next h) (by omega)) fun x r' k1 k2=>⟨Kept.refl k1.ok,Nat.le_refl _⟩⟩;rcases hb:rd n .u r.next with ⟨y,r'⟩ | ⟨e,p,r'⟩
  all_goals
   rw[hb] at s1 e1;cases hly:r.ly
   all_goals
    simp only[Rd.heap,hly,l1,e1,Rs.st,Rs.bind,Rs.out,i7,Tok.cs] at s0 a1 s1 e1 ⊢;simp -implicitDefEqProofs (disch:=omega) [x4,s0,a1,s1,e1,Nd.d]
 rw[if_neg c1];rw[show r.isT [45]=false by simpa using c1,if_neg (by simp)] at a1;have s2:=Y1 h
 by_cases c2:r.tok.kind=2
 ·rw[if_pos c2];obtain ⟨e,s3⟩:=WX (hnum r.tok (ht ▸ Ze h) c2);have hni:=K6 (r:=r) (by omega);refine ⟨?_,Kept.next h,by omega⟩;cases hly:r.ly
  all_goals
   simp only[Rd.heap,hly,l1,Rs.out,Tok.cs,Wd] at s0 a1 s2 s3 ⊢;generalize r.tok=t at *;simp -implicitDefEqProofs (disch:=omega) [x4,s0,a1,s2,s3,Nd.d,Wd]
 rw[if_neg c2];have s4:=B7 h
 by_cases c3:r.isName=true
 ·rw[if_pos c3];rw[c3] at s4;have s5:=KT h r.tok.text htx
  have hk:r.tok.kind≠0:=by
   unfold Rd.isName at c3;simp at c3;omega
  have hni:=K6 hk
  by_cases c4:0≤r.var r.tok.text
  ·rw[if_pos c4];have s6:=C7 r 81;refine ⟨?_,Kept.next h,by omega⟩;cases hly:r.ly
   all_goals
    simp only[Rd.heap,hly,l1,Rs.out,Tok.cs] at s0 a1 s2 s4 s5 s6 ⊢;generalize r.tok=t at *;simp -implicitDefEqProofs (disch:=omega) [x4,s0,a1,s2,s4,s5,s6,Nd.d]
  ·rw[if_neg c4];have s6:=H4 h 81;refine ⟨?_,rfl⟩;cases hly:r.ly
   all_goals
    simp only[Rd.heap,hly,l1,Rs.out,Tok.cs,i7] at s0 a1 s2 s4 s5 s6 ⊢;generalize r.tok=t at *;simp -implicitDefEqProofs (disch:=omega) [x4,s0,a1,s2,s4,s5,s6]
 rw[if_neg c3];rw[show r.isName=false by simpa using c3] at s4
 cases hin:r.into [40] with
 | some e=>
   have s5:=qga h (by simp) hin;refine ⟨?_,rfl⟩;cases hly:r.ly
   all_goals
    simp only[Rd.heap,hly,Rs.out,Tok.cs,i7] at s0 a1 s4 s5 ⊢;generalize r.tok=t at *;simp -implicitDefEqProofs (disch:=omega) [x4,s0,a1,s4,s5]
 | none=>
   have s5:=qgb h (by simp) hin
   have hc:r.tok.kind=3∧r.op < 16:=by
    unfold Rd.into at hin;split at hin
    ·rename_i hk;split at hin
     ·rename_i ho; exact ⟨hk.1,ho⟩
     ·cases hin
    ·cases hin
   have hop:=Rd.opened_ok h hc.2;have hni:r.opened.next.i=r.i + 1:=K6 (r:=r.opened) (by rw[show r.opened.tok=r.tok from rfl]; omega);have hno:=r.opened.next_op;have l2:r.opened.next.ly=r.ly:=(lys r.opened).1;obtain ⟨s6,f6⟩:=ih.s r.opened.next (Rd.next_ok hop) (hno.2.1.trans ht) (by omega);have e6:=fine_ly f6;simp only[];rcases hb:rd n .s r.opened.next with ⟨x,r'⟩ | ⟨e,p,r'⟩
   all_goals rw[hb] at s6 e6 f6
   case bad=>
    refine ⟨?_,Eq.trans e6 l2⟩;cases hly:r.ly
    all_goals
     simp only[Rd.heap,hly,l2,e6,Rs.st,Rs.bind,Rs.out,Tok.cs,i7] at s0 a1 s4 s5 s6 e6 ⊢;generalize r.tok=t at *;simp -implicitDefEqProofs (disch:=omega) [x4,s0,a1,s4,s5,s6,e6]
   obtain ⟨k1,k2⟩:=f6;simp only[Rs.bind];have e7:r'.ly=r.ly:=e6.trans l2
   by_cases c5:r'.isT [41]=true
   ·rw[if_pos c5];have s7:=qkk k1.ok (by simp) c5;have hni':=K6 (A8 c5);have hno':=r'.next_op;have hop':r'.next.op=r.op + 1:=hno'.1.trans (k1.op.trans hno.1);have h16:=h.op;have l3:r'.next.closed.ly=r'.ly:=(lys r'.next).2.2.trans (lys r').1;refine ⟨?_,⟨Rd.closed_ok (Rd.next_ok k1.ok) (by omega),hno'.2.1.trans (k1.ts.trans hno.2.1),hno'.2.2.trans (k1.vs.trans hno.2.2),by show r'.next.op - 1=r.op; omega,?_,l3.trans (e6.trans l2),?_⟩,?_⟩
    ·cases hly:r.ly
     all_goals
      simp only[Rd.heap,hly,l2,l3,e7,Rs.out,Tok.cs] at s0 a1 s4 s5 s6 s7 ⊢;generalize r.tok=t at *;simp -implicitDefEqProofs (disch:=omega) [x4,s0,a1,s4,s5,s6,s7]
    ·show r.i≤r'.next.i;omega
    ·exact (Kept.next k1.ok).ms.trans (k1.ms.trans (Kept.next hop).ms)
    ·show r.i + 1≤r'.next.i;omega
   ·rw[if_neg c5];have s7:=qfv k1.ok (by simp) (show r'.isT [41]=false by simpa using c5);refine ⟨?_,e6.trans l2⟩;cases hly:r.ly
    all_goals
     simp only[Rd.heap,hly,l2,e7,Rs.out,Tok.cs,i7] at s0 a1 s4 s5 s6 s7 ⊢;generalize r.tok=t at *;generalize r'.tok=t' at *;simp -implicitDefEqProofs (disch:=omega) [x4,s0,a1,s4,s5,s6,s7]
theorem reads {ts:List Tok} (hnum:∀ t∈ts,t.kind=2→qJ t.text):∀ n,Reads n ts
 | 0=>⟨fun _ _ _ h=>by omega,fun _ _ _ h=>by omega,fun _ _ _ h=>by omega,fun _ _ _ _ h=>by omega,fun _ _ _ _ h=>by omega⟩
 | n + 1=>⟨fun r h ht hn=>qz0 hnum (reads hnum n) r h ht hn,fun r h ht hn=>qz2 (reads hnum n) r h ht hn,fun r h ht hn=>qz1 (reads hnum n) r h ht hn,
     fun r x h ht hn=>qvl (reads hnum n) r x h ht hn,fun r x h ht hn=>qvk (reads hnum n) r x h ht hn⟩
end Go.Rf

namespace Go.Rf
@[simp] theorem q5w (x:Nd):B6 (.d .nili) 0 (.d x.d)=some (.d x.d):=by cases x <;> rfl
def Rd.fuel (r:Rd):Nat:=4 * (r.ts.length - r.i) + 3
end Go.Rf

namespace Go.Rf
inductive Rz (α:Type) where
 | ok (x:α) (r:Rd)
 | bad (e:Int) (p:Pl) (r:Rd)
def Rz.st {α:Type}:Rz α→Rd
 | .ok _ r=>r
 | .bad _ _ r=>r
def Rz.out {α:Type} (d:α→List V):Rz α→Option CRes
 | .ok x r=>some (.ret (d x) r.heap)
 | .bad e p r=>some (.pan (.d (i7 e p)) r.heap)
def Rz.bind {α β:Type}:Rz α→(α→Rd→Rz β)→Rz β
 | .ok x r,f=>f x r
 | .bad e p r,_=>.bad e p r
def Rs.z:Rs→Rz Nd
 | .ok x r=>.ok x r
 | .bad e p r=>.bad e p r
def Rd.sum (r:Rd):Rz Nd:=(rd r.fuel .s r).z
def Rz.fine {α:Type} (r:Rd) (d:Nat):Rz α→Prop
 | .ok _ r'=>Kept r r'∧r.i + d≤r'.i
 | .bad _ _ r'=>r'.ly=r.ly
theorem Rz.fine_ly {α:Type} {r:Rd} {d:Nat} {b:Rz α} (h:b.fine r d):b.st.ly=r.ly:=by
 cases b with
 | ok x r'=>exact h.1.ly
 | bad e p r'=>exact h
theorem Rz.fine_kept {α:Type} {r r':Rd} {d d':Nat} {b:Rz α} (h:b.fine r' d') (k:Kept r r') (l:r.i + d≤r'.i + d'):b.fine r d:=by
 cases b with
 | bad e p r2=>exact Eq.trans h k.ly
 | ok x r2=>exact ⟨k.trans h.1,by have:=h.2; omega⟩
theorem Wn {r:Rd} (h:r.ok) (hnum:∀ t∈r.ts,t.kind=2→qJ t.text):d5 T0 X0 jn [.ptr (.b 0) 0 0] r.heap=r.sum.out (fun x=>[.d x.d])∧r.sum.fine r 1:=by
 have:=(reads hnum r.fuel).s r h rfl (Nat.le_refl _);unfold Rd.sum
 cases hb:rd r.fuel .s r <;> rw[hb] at this <;> exact this
def Rd.cond (r:Rd):Rz (Nd × Nd × Bool):=r.sum.bind fun x r1=>
 if r1.isT [61]=true then r1.next.sum.bind fun y r3=>.ok (x,y,true) r3
 else if r1.isT [33,61]=true then r1.next.sum.bind fun y r3=>.ok (x,y,false) r3
 else .bad 80 r1.tok.pos r1
def cD (x y:Nd) (b:Bool):D:=.agg [x.d,y.d,.bool b]
def cDs (c:Nd × Nd × Bool):List V:=[.d (cD c.1 c.2.1 c.2.2)]
theorem qtc {r:Rd} (h:r.ok) (hnum:∀ t∈r.ts,t.kind=2→qJ t.text):d5 T0 X0 Y6 [.ptr (.b 0) 0 0] r.heap=r.cond.out cDs∧r.cond.fine r 1:=by
 obtain ⟨s1,f1⟩:=Wn h hnum;have e1:=Rz.fine_ly f1;rw[a8 (af:=K9) rfl rfl rfl];unfold Rd.cond;rcases hb:r.sum with ⟨x,r1⟩ | ⟨e,p,r1⟩
 all_goals
  rw[hb] at s1 f1 e1;have e1:r1.ly=r.ly:=e1
 case bad=>
  refine ⟨?_,f1⟩;cases hly:r.ly
  all_goals
   simp only[Rd.heap,hly,e1,Rz.bind,Rz.out,i7] at s1 ⊢;simp -implicitDefEqProofs (disch:=omega) [K9,s1]
 obtain ⟨k1,k2⟩:=f1;have a1:=m9 k1.ok [61] (by simp);have l1:r1.next.ly=r.ly:=(lys r1).1.trans e1;have kn:=k1.trans (Kept.next k1.ok);obtain ⟨s2,f2⟩:=Wn kn.ok (by rw[kn.ts]; exact hnum)
 have f3:∀ b:Bool,(r1.next.sum.bind fun y r3=>.ok (x,y,b) r3:Rz (Nd × Nd × Bool)).fine r 1:=fun b=>by
  have f4:=Rz.fine_kept f2 kn (d:=1) (by have:=(Kept.next k1.ok).i; omega)
  rcases hq:r1.next.sum with ⟨z,r3⟩ | ⟨e,p,r3⟩ <;> rw[hq] at f4 <;> exact f4
 have e2:r1.next.sum.st.ly=r.ly:=(Rz.fine_ly f2).trans l1;simp only[Rz.bind]
 by_cases c1:r1.isT [61]=true
 ·rw[if_pos c1];rw[c1,if_pos rfl] at a1;refine ⟨?_,f3 true⟩;rcases hb2:r1.next.sum with ⟨y,r3⟩ | ⟨e,p,r3⟩
  all_goals
   rw[hb2] at s2 e2;have e2:r3.ly=r.ly:=e2;cases hly:r.ly
   all_goals
    simp only[Rd.heap,hly,l1,e1,e2,Rz.out,cDs,cD,i7] at a1 s1 s2 ⊢;simp -implicitDefEqProofs (disch:=omega) [K9,s1,a1,s2]
 rw[if_neg c1];rw[show r1.isT [61]=false by simpa using c1,if_neg (by simp)] at a1
 by_cases c2:r1.isT [33,61]=true
 ·rw[if_pos c2];have a2:=qd k1.ok (by simp) c2;refine ⟨?_,f3 false⟩;rcases hb2:r1.next.sum with ⟨y,r3⟩ | ⟨e,p,r3⟩
  all_goals
   rw[hb2] at s2 e2;have e2:r3.ly=r.ly:=e2;cases hly:r.ly
   all_goals
    simp only[Rd.heap,hly,l1,e1,e2,Rz.out,cDs,cD,i7] at a1 a2 s1 s2 ⊢;simp -implicitDefEqProofs (disch:=omega) [K9,s1,a1,a2,s2]
 rw[if_neg c2];have a2:=U4 k1.ok (s:=[33,61]) (by simp) (by simpa using c2);refine ⟨?_,e1⟩;cases hly:r.ly
 all_goals
  simp only[Rd.heap,hly,l1,e1,Rz.out,i7] at a1 a2 s1 ⊢;simp -implicitDefEqProofs (disch:=omega) [K9,s1,a1,a2]
end Go.Rf

namespace Go.Rf
def qta (s:List UInt8):Nat→Nat→Bool
 | 0,_=>false
 | f + 1,i=>if i < s.length then (if (dec s i).1=176 then true else qta s f (i + (dec s i).2)) else false
def wP (s:List UInt8):Bool:=!qta s (s.length + 1) 0 && decide (rc s < 16)
theorem qk1 (s:List UInt8) (hs:s.length≤1100000):∀ f i (e:List (Nat × V)),s.length - i < f→i≤s.length→
 j0 T0 X0 0 wb (some (.nrm,⟨(0,.d (.str s)) :: (6,.iter (.b 0)) :: e,[.iter s i]⟩))=if qta s f i=true then some (.ret,⟨[(2,.d (.bool false))],[]⟩) else some (.exit 0,⟨[(0,.d (.str s))],[]⟩):=by
 intro f
 induction f with
 | zero=>intro i e h; omega
 | succ f ih=>
   intro i e hf hi;rw[c9 (l:=wb) rfl];unfold qta
   by_cases h0:i < s.length
   ·have d1:=YT h0;rw[if_pos h0]
    by_cases h1:(dec s i).1=176
    ·rw[if_pos h1,if_pos rfl];simp -implicitDefEqProofs (disch:=omega) [xw,h1]
    ·rw[if_neg h1,← ih _ [(11,.d (.bool false))] (by omega) (by omega)];simp -implicitDefEqProofs (disch:=omega) [xw]
   ·rw[if_neg h0,if_neg (by simp)];simp -implicitDefEqProofs (disch:=omega) [xw]
theorem XP (s:List UInt8) (hs:s.length≤1100000):d5 T0 X0 qio [.d (.str s)] []=some (.ret [.d (.bool (wP s))] []):=by
 rw[a8 (af:=wA) rfl rfl rfl];have s1:=qk1 s hs (s.length + 1) 0 [] (by omega) (by omega);have s2:=qqe hs;unfold wP
 by_cases h:qta s (s.length + 1) 0=true
 ·rw[if_pos h] at s1;rw[h];simp -implicitDefEqProofs (disch:=omega) [wA,s1]
 ·rw[if_neg h] at s1;rw[show qta s (s.length + 1) 0=false by simpa using h];simp -implicitDefEqProofs (disch:=omega) [wA,s1,s2];omega
end Go.Rf

namespace Go.Rf
theorem vM (n:Nat):pw (n + 1)=4294967296 * pw n:=by rw[pw]
theorem S6 {xs:List Int} {j:Nat} (h:j≤xs.length):nv xs=nv (xs.take j) + pw j * nv (xs.drop j):=by
 conv=>lhs; rw[← List.take_append_drop j xs]
 rw[qh0,List.length_take,Nat.min_eq_left h]
theorem qcp {xs:List Int} (hg:n8 xs) {k:Nat} (h:∀ i,k≤i→nth xs i=0):nv xs < pw k:=by
 by_cases hk:xs.length≤k
 ·exact Int.lt_of_lt_of_le (d7 hg).2 (QJ hk)
 ·have e:=S6 (xs:=xs) (j:=k) (by omega)
  have z:∀ l:List Int,(∀ i,nth l i=0)→nv l=0:=by
   intro l
   induction l with
   | nil=>intro _; rfl
   | cons x l ih=>
     intro hl;have h0:=hl 0;rw[Qk] at h0;have h1:=ih (fun i=>by have:=hl (i + 1); rwa [Ql] at this);simp only[nv,h0,h1];rfl
  have e2:nv (xs.drop k)=0:=z _ (fun i=>by
   have:=h (k + i) (by omega)
   simpa [nth,List.getD_eq_getElem?_getD,List.getElem?_drop] using this)
  rw[e2,Int.mul_zero,Int.add_zero] at e;have:=(d7 (hg.take k)).2;rw[List.length_take,Nat.min_eq_left (by omega)] at this;omega
theorem qad {xs:List Int} (hg:n8 xs) {k:Nat} (h:nv xs < pw k):∀ i,k≤i→nth xs i=0:=by
 intro i hi
 by_cases hl:i < xs.length
 ·have e:=S6 (xs:=xs) (j:=i) (by omega);rw[N7 hl,nv] at e;have b1:=(d7 (hg.take i)).1;have b2:=(d7 (hg.drop (i + 1))).1;have b3:=hg.nth i;have p1:=V4 i;have p2:=QJ hi
  by_cases hz:nth xs i=0
  ·exact hz
  ·exfalso
   have:pw i * 1≤pw i * (nth xs i + 4294967296 * nv (xs.drop (i + 1))):=Int.mul_le_mul_of_nonneg_left (by omega) (by omega);omega
 ·exact ji (by omega)
theorem qrw (vs us:List Int) (j:Nat) (g:Int) (hs:us.length≤1099511627776) (hj:j + vs.length < us.length) (hv:n8 vs) (hg:0≤g∧g < 4294967296):∀ d i (out:List Int) (c b:Int),d + i=vs.length→out.length=us.length→n8 out→0≤c→c < 4294967296→0≤b→b≤1→
 (∀ k,j + i≤k→nth out k=nth us k)→nv out=nv us - pw j * (g * nv (vs.take i)) + pw (j + i) * (c + b)→
 ∃ out' c' b',j0 T0 X0 2 xk (some (.nrm,⟨[(0,.ref (.b 0) ⟨1,4⟩ j (vs.length + 1)),(1,.ref (.b 1) ⟨1,4⟩ 0 vs.length),(2,.d (.int .u64 g)),(7,.d (.int .u64 c)),(8,.d (.int .u64 b)),(14,.d (.int .i64 vs.length)),(15,.d (.int .i64 i))],[.arr (LV out) ⟨1,4⟩,.arr (LV vs) ⟨1,4⟩]⟩)) =
  some (.exit 0,⟨[(0,.ref (.b 0) ⟨1,4⟩ j (vs.length + 1)),(1,.ref (.b 1) ⟨1,4⟩ 0 vs.length),(2,.d (.int .u64 g)),(7,.d (.int .u64 c')),(8,.d (.int .u64 b'))],[.arr (LV out') ⟨1,4⟩,.arr (LV vs) ⟨1,4⟩]⟩) ∧
   out'.length=us.length∧n8 out'∧0≤c'∧c' < 4294967296∧0≤b'∧b'≤1∧(∀ k,j + vs.length≤k→nth out' k=nth us k)∧nv out'=nv us - pw j * (g * nv vs) + pw (j + vs.length) * (c' + b'):=by
 intro d
 induction d with
 | zero=>
   intro i out c b hd ho hgo hc hc1 hb hb1 hk hn
   have:i=vs.length:=by omega
   subst this;refine ⟨out,c,b,?_,ho,hgo,hc,hc1,hb,hb1,hk,by rw[hn,List.take_length]⟩;rw[c9 (l:=xk) rfl];simp -implicitDefEqProofs (disch:=omega) [kX]
 | succ d ih=>
   intro i out c b hd ho hgo hc hc1 hb hb1 hk hn;have n1:=hv.nth i;have n2:=hgo.nth (j + i);have n3:=qcr hg n1;rw[c9 (l:=xk) rfl]
   have hx:0≤c + g * nth vs i∧c + g * nth vs i < 18446744073709551616:=by omega
   have e1:(nth out (j + i) - (c + g * nth vs i) % 4294967296 - b) % 18446744073709551616 % 4294967296=(nth out (j + i) - (c + g * nth vs i) % 4294967296 - b) % 4294967296:=by omega
   have e2:(nth out (j + i) - (c + g * nth vs i) % 4294967296 - b) % 18446744073709551616 / 9223372036854775808 = -((nth out (j + i) - (c + g * nth vs i) % 4294967296 - b) / 4294967296):=by omega
   have step:=ih (i + 1) (out.set (j + i) ((nth out (j + i) - (c + g * nth vs i) % 4294967296 - b) % 4294967296)) ((c + g * nth vs i) / 4294967296) (-((nth out (j + i) - (c + g * nth vs i) % 4294967296 - b) / 4294967296)) (by omega) (by simp[ho]) (V7 hgo _ (by omega)) (by omega) (by omega) (by omega) (by omega) (by
    intro k hk';rw[U9 (by omega),if_neg (by omega)]
    exact hk k (by omega)) (by
    rw[D2,Zt (by omega),hn];have s1:=jg (j + i) (c + g * nth vs i);have s2:=jg (j + i) (nth out (j + i) - (c + g * nth vs i) % 4294967296 - b)
    have s3:pw j * (g * (nv (vs.take i) + pw i * nth vs i))=pw j * (g * nv (vs.take i)) + pw (j + i) * (g * nth vs i):=by
     rw[Nat.add_comm j i,Zo j i,Int.mul_add,Int.mul_add,← Int.mul_assoc g (pw i),Int.mul_comm g (pw i)];simp only[Int.mul_assoc,Int.mul_left_comm]
    rw[s3,← Nat.add_assoc];generalize (nth out (j + i) - (c + g * nth vs i) % 4294967296 - b) % 4294967296=y at *;generalize (nth out (j + i) - (c + g * nth vs i) % 4294967296 - b) / 4294967296=z at *;generalize (c + g * nth vs i) % 4294967296=m at *;generalize (c + g * nth vs i) / 4294967296=q at *;simp only[Int.mul_sub,Int.mul_add,Int.mul_neg] at s1 s2 ⊢
    omega)
   obtain ⟨out',c',b',h1,h2⟩:=step;refine ⟨out',c',b',?_,h2⟩;rw[← h1];simp -implicitDefEqProofs (disch:=omega) [kX,ja,e1,e2,Int.emod_eq_of_lt hx.1 hx.2]
theorem qtn (vs us:List Int) (j:Nat) (g:Int) (hs:us.length≤1099511627776) (hj:j + vs.length < us.length) (hv:n8 vs):∀ d i (out:List Int) (c:Int),d + i=vs.length→out.length=us.length→n8 out→0≤c→c≤1→
 (∀ k,j + i≤k→nth out k=nth us k)→nv out=nv us + pw j * nv (vs.take i) - pw (j + i) * c→
 ∃ out' c',j0 T0 X0 2 xj (some (.nrm,⟨[(0,.ref (.b 0) ⟨1,4⟩ j (vs.length + 1)),(1,.ref (.b 1) ⟨1,4⟩ 0 vs.length),(2,.d (.int .u64 g)),(7,.d (.int .u64 c)),(70,.d (.int .i64 vs.length)),(71,.d (.int .i64 i))],[.arr (LV out) ⟨1,4⟩,.arr (LV vs) ⟨1,4⟩]⟩)) =
  some (.exit 2,⟨[(0,.ref (.b 0) ⟨1,4⟩ j (vs.length + 1)),(1,.ref (.b 1) ⟨1,4⟩ 0 vs.length),(2,.d (.int .u64 g)),(7,.d (.int .u64 c'))],[.arr (LV out') ⟨1,4⟩,.arr (LV vs) ⟨1,4⟩]⟩) ∧
   out'.length=us.length∧n8 out'∧0≤c'∧c'≤1∧(∀ k,j + vs.length≤k→nth out' k=nth us k)∧nv out'=nv us + pw j * nv vs - pw (j + vs.length) * c':=by
 intro d
 induction d with
 | zero=>
   intro i out c hd ho hgo hc hc1 hk hn
   have:i=vs.length:=by omega
   subst this;refine ⟨out,c,?_,ho,hgo,hc,hc1,hk,by rw[hn,List.take_length]⟩;rw[c9 (l:=xj) rfl];simp -implicitDefEqProofs (disch:=omega) [kW]
 | succ d ih=>
   intro i out c hd ho hgo hc hc1 hk hn;have n1:=hv.nth i;have n2:=hgo.nth (j + i);rw[c9 (l:=xj) rfl]
   have step:=ih (i + 1) (out.set (j + i) ((c + (nth out (j + i) + nth vs i)) % 4294967296)) ((c + (nth out (j + i) + nth vs i)) / 4294967296) (by omega) (by simp[ho]) (V7 hgo _ (by omega)) (by omega) (by omega) (by
    intro k hk';rw[U9 (by omega),if_neg (by omega)]
    exact hk k (by omega)) (by
    rw[D2,Zt (by omega),hn];have s1:=jg (j + i) (c + (nth out (j + i) + nth vs i))
    have s3:pw j * (nv (vs.take i) + pw i * nth vs i)=pw j * nv (vs.take i) + pw (j + i) * nth vs i:=by
     rw[Nat.add_comm j i,Zo j i,Int.mul_add];simp only[Int.mul_assoc,Int.mul_left_comm]
    rw[s3,← Nat.add_assoc];generalize (c + (nth out (j + i) + nth vs i)) % 4294967296=m at *;generalize (c + (nth out (j + i) + nth vs i)) / 4294967296=q at *;simp only[Int.mul_sub,Int.mul_add,Int.mul_neg] at s1 ⊢
    omega)
   obtain ⟨out',c',h1,h2⟩:=step;refine ⟨out',c',?_,h2⟩;rw[← h1];simp -implicitDefEqProofs (disch:=omega) [kW]
theorem qxs {a b q:Int} (hb:0 < b) (h0:q * b≤a) (h1:a < (q + 1) * b):a / b=q:=by
 have h2:=Int.le_ediv_of_mul_le hb h0;have h3:=Int.ediv_lt_of_lt_mul hb h1;omega
theorem qrv {vs us:List Int} {j:Nat} {g:Int} (hs:us.length≤1099511627776) (hj:j + vs.length < us.length) (hv:n8 vs) (hu:n8 us) (hg:0≤g∧g < 4294967296)
 (hz:∀ i,j + vs.length + 1≤i→nth us i=0) (hp:0 < nv vs) (h1:(g - 1) * nv vs≤nv (us.drop j)) (h2:nv (us.drop j) < (g + 1) * nv vs) :
 ∃ out,d5 T0 X0 qij [.ref (.b 0) ⟨1,4⟩ j (vs.length + 1),.ref (.b 1) ⟨1,4⟩ 0 vs.length,.d (.int .u64 g)] [.arr (LV us) ⟨1,4⟩,.arr (LV vs) ⟨1,4⟩]=some (.ret [.d (.int .u32 (nv (us.drop j) / nv vs))] [.arr (LV out) ⟨1,4⟩,.arr (LV vs) ⟨1,4⟩]) ∧
   out.length=us.length∧n8 out∧nv out=nv us - pw j * ((nv (us.drop j) / nv vs) * nv vs):=by
 obtain ⟨o1,c,b,l1,ho1,hg1,hc0,hc1,hb0,hb1,hk1,hn1⟩:=qrw vs us j g hs hj hv hg vs.length 0 us 0 0 (by omega) rfl hu (by omega) (by omega) (by omega) (by omega) (fun _ _=>rfl) (by simp[nv]);rw[a8 (af:=wu) rfl rfl rfl];simp only[Int.cast_ofNat_Int] at l1;have n1:=hg1.nth (j + vs.length);have hd:=S6 (xs:=us) (j:=j) (by omega);have hlo:=d7 (hu.take j);rw[List.length_take,Nat.min_eq_left (by omega)] at hlo;have pp:=V4 j;have ps:=vM (j + vs.length);generalize hW:nv (us.drop j)=W at *;generalize hV:nv vs=Vv at *;generalize hx:nth o1 (j + vs.length) - c - b=x
 have fin:∀ {o:List Int},n8 o→o.length=us.length→(∀ k,j + vs.length + 1≤k→nth o k=0)→0≤nv o∧nv o < pw (j + vs.length + 1):=fun h _ hk=>⟨(d7 h).1,qcp h hk⟩
 by_cases hneg:x < 0
 ·have hx1:x % 18446744073709551616 % 4294967296=x + 4294967296:=by omega
  have hx2:x % 18446744073709551616 / 9223372036854775808=1:=by omega
  have go2:n8 (o1.set (j + vs.length) (x + 4294967296)):=V7 hg1 _ (by omega)
  have v2:nv (o1.set (j + vs.length) (x + 4294967296))=nv us - pw j * (g * Vv) + pw (j + vs.length + 1):=by
   rw[Zt (by omega),hn1,ps]
   have:x + 4294967296 - nth o1 (j + vs.length)=4294967296 - (c + b):=by omega
   rw[this,Int.mul_sub,Int.mul_comm (pw (j + vs.length)) 4294967296];omega
  have z2:∀ k,j + vs.length + 1≤k→nth (o1.set (j + vs.length) (x + 4294967296)) k=0:=fun k hk=>by
   rw[U9 (by omega),if_neg (by omega),hk1 k (by omega)];exact hz k hk
  have f2:=fin go2 (by simp[ho1]) z2
  have hlt:W < g * Vv:=by
   have:pw j * W < pw j * (g * Vv):=by omega
   exact Int.lt_of_mul_lt_mul_left this (by omega)
  obtain ⟨o3,c3,l3,ho3,hg3,hc30,hc31,hk3,hn3⟩:=qtn vs (o1.set (j + vs.length) (x + 4294967296)) j g (by simpa [ho1] using hs) (by simpa [ho1] using hj) hv vs.length 0 _ 0 (by omega) rfl go2 (by omega) (by omega) (fun _ _=>rfl) (by simp[nv]);simp only[Int.cast_ofNat_Int] at l3;have n3:=hg3.nth (j + vs.length)
  have ho3':o3.length=us.length:=by simpa [ho1] using ho3
  have e3:nth o3 (j + vs.length)=x + 4294967296:=by rw[hk3 _ (Nat.le_refl _),U9 (by omega),if_pos rfl]
  have hq:W / Vv=g - 1:=qxs hp h1 (by rw[Int.sub_add_cancel]; exact hlt)
  have g1:1≤g:=by
   by_cases h:1≤g
   ·exact h
   ·have:g=0:=by omega
    subst this;have:=(d7 (hu.drop j)).1;omega
  have gm:(g - 1) % 18446744073709551616 % 4294967296=g - 1:=by omega
  have go4:n8 (o3.set (j + vs.length) ((nth o3 (j + vs.length) + c3) % 4294967296)):=V7 hg3 _ (by omega)
  have z4:∀ k,j + vs.length + 1≤k→nth (o3.set (j + vs.length) ((nth o3 (j + vs.length) + c3) % 4294967296)) k=0:=fun k hk=>by
   rw[U9 (by omega),if_neg (by omega),hk3 k (by omega)];exact z2 k hk
  have f4:=fin go4 (by simp[ho3']) z4
  have v4:nv (o3.set (j + vs.length) ((nth o3 (j + vs.length) + c3) % 4294967296))=nv us - pw j * ((g - 1) * Vv):=by
   rw[Zt (by omega)] at f4 ⊢;rw[hn3,v2,hV] at f4 ⊢;have s1:=jg (j + vs.length) (nth o3 (j + vs.length) + c3)
   have e5:pw j * ((g - 1) * Vv)=pw j * (g * Vv) - pw j * Vv:=by rw[Int.sub_mul,Int.one_mul,Int.mul_sub]
   have e6:pw j * ((g - 1) * Vv)≤pw j * W:=Int.mul_le_mul_of_nonneg_left h1 (by omega)
   have ht:(nth o3 (j + vs.length) + c3) / 4294967296=0∨(nth o3 (j + vs.length) + c3) / 4294967296=1:=by omega
   generalize (nth o3 (j + vs.length) + c3) % 4294967296=m at *;generalize (nth o3 (j + vs.length) + c3) / 4294967296=q at *;simp only[Int.mul_sub,Int.mul_add] at s1 f4 ⊢;rcases ht with ht | ht
   ·subst ht
    exfalso
    omega
   ·subst ht;omega
  refine ⟨_,?_,by simp[ho3'],go4,by rw[hq]; exact v4⟩;rw[hq];have hxx:nth o1 (j + vs.length) - c - b=x:=hx;simp -implicitDefEqProofs (disch:=omega) [wu,l1,l3,hxx,hx1,hx2,ja,gm]
 ·have hx1:x % 18446744073709551616 % 4294967296=x:=by omega
  have hx2:x % 18446744073709551616 / 9223372036854775808=0:=by omega
  have go2:n8 (o1.set (j + vs.length) x):=V7 hg1 _ (by omega)
  have v2:nv (o1.set (j + vs.length) x)=nv us - pw j * (g * Vv):=by
   rw[Zt (by omega),hn1]
   have:x - nth o1 (j + vs.length) = - (c + b):=by omega
   rw[this,Int.mul_neg];omega
  have hge:g * Vv≤W:=by
   have h0:=(d7 go2).1
   have:pw j * (g * Vv) < pw j * (W + 1):=by rw[Int.mul_add]; omega
   have:=Int.lt_of_mul_lt_mul_left this (by omega);omega
  have hq:W / Vv=g:=qxs hp hge h2;refine ⟨_,?_,by simp[ho1],go2,by rw[hq]; exact v2⟩;rw[hq]
  have hgm:g % 4294967296=g:=by omega
  have hxx:nth o1 (j + vs.length) - c - b=x:=hx;simp -implicitDefEqProofs (disch:=omega) [wu,l1,hxx,hx1,hx2,ja,hgm]
end Go.Rf

namespace Go.Rf
structure Bg where
 name:List UInt8
 any:Bool
 n:Int
def Bg.cs (b:Bg):List D:=[.str b.name,.bool b.any,.bool (decide (b.n < 0)),.sl (L (d6 b.n.natAbs))]
def Rd.push (r:Rd) (s:List UInt8):Rd:={ r with vs:=r.vs++[s],ly:=none }
def Rd.heapN (r:Rd) (f:Bool):List Obj:=match f with
 | true=>[.arr [.agg [.d (.sl (LT r.ts)),.d (.int .i64 r.i),.ref (.b 2) ⟨1,16⟩ 0 r.vs.length,.d (.int .i64 r.op),.map (.b 1)]] ⟨5,0⟩,.map (ME r.ms),.arr (SV r.vs) ⟨1,16⟩]
 | false=>[.arr [.agg [.d (.sl (LT r.ts)),.d (.int .i64 r.i),.ref (.b 3) ⟨1,16⟩ 0 r.vs.length,.d (.int .i64 r.op),.map (.b 2)]] ⟨5,0⟩,.dead,.map (ME r.ms),.arr (SV r.vs) ⟨1,16⟩]
def Rd.newName (r:Rd):Option Int:=
 if r.isName=false then some 80 else if wP r.tok.text=false then some 42 else if 0≤r.var r.tok.text then some 82 else if r.vs.length < 8 then none else some 2
def Rd.num (r:Rd) (p:Bool) (s:List UInt8):Rz Bg:=
 if r.tok.kind=2 then .ok ⟨s,false,sg p (jO r.tok.text)⟩ r.next else .bad 80 r.tok.pos r
def Rd.value (r:Rd) (s:List UInt8):Rz Bg:=
 if r.isT [61]=true then (if r.next.isT [45]=true then r.next.next.num true s else r.next.num false s) else .ok ⟨s,true,0⟩ r
theorem qa6 {r:Rd} (h:r.ok) (hl:r.vs.length < 8) {s:List UInt8} (hs:s.length≤1100000):(r.push s).ok:=
 ⟨h.i,h.n,h.mid,h.fin,by show (r.vs++[s]).length≤16; simp; omega,h.op,h.tx,fun k=>by
  show (tx (r.vs++[s]) k).length≤1100000;unfold tx;rw[List.getD_eq_getElem?_getD,List.getElem?_append];split
  ·have:=h.tv k;unfold tx at this
   rwa [List.getD_eq_getElem?_getD] at this
  ·cases k - r.vs.length <;> simp[hs],fun x e=>by cases e⟩
def Rd.own (r:Rd) (f:Bool):Prop:=if f then r.ly=some .nils∧r.vs=[] else r.ly=none
theorem qxv {r:Rd} (h:r.ok) {e:Int} (hn:r.newName=some e):d5 T0 X0 R0 [.ptr (.b 0) 0 0] r.heap=some (.pan (.d (i7 e r.tok.pos)) r.heap):=by
 rw[a8 (af:=v6) rfl rfl rfl];have s0:=w7 h;have htx:=X8 h;have s1:=B7 h;have s2:=XP _ htx;have s3:=KT h _ htx;have n1:=C7 r 80;have n2:=C7 r 42;have n3:=C7 r 82;have hv:=h.vs;have hx:=h.ly;unfold Rd.newName at hn
 by_cases c1:r.isName=false
 ·rw[if_pos c1] at hn;cases hn;have n4:=H4 h 80;rw[c1] at s1;cases hly:r.ly
  all_goals
   simp only[Rd.heap,hly,i7] at s1 n4 ⊢;simp -implicitDefEqProofs (disch:=omega) [v6,s1,n4]
 rw[if_neg c1] at hn;rw[show r.isName=true by simpa using c1] at s1
 by_cases c2:wP r.tok.text=false
 ·rw[if_pos c2] at hn;cases hn;have n4:=H4 h 42;rw[c2] at s2;cases hly:r.ly
  all_goals
   simp only[Rd.heap,hly,i7,Tok.cs] at s0 s1 n1 n4 ⊢;generalize r.tok=t at *;simp -implicitDefEqProofs (disch:=omega) [v6,s0,s1,s2,n1,n4]
 rw[if_neg c2] at hn;rw[show wP r.tok.text=true by simpa using c2] at s2
 by_cases c3:0≤r.var r.tok.text
 ·rw[if_pos c3] at hn;cases hn;have n4:=H4 h 82;cases hly:r.ly
  all_goals
   simp only[Rd.heap,hly,i7,Tok.cs] at s0 s1 s3 n1 n2 n4 ⊢;generalize r.tok=t at *;simp -implicitDefEqProofs (disch:=omega) [v6,s0,s1,s2,s3,n1,n2,n4]
 rw[if_neg c3] at hn
 by_cases c4:r.vs.length < 8
 ·rw[if_pos c4] at hn; cases hn
 rw[if_neg c4] at hn;cases hn;have n4:=H4 h 2;cases hly:r.ly
 case' some=>rcases hx _ hly with rfl | ⟨rfl,hvs⟩; rotate_left; rw[hvs] at c4; exact absurd (Nat.zero_lt_succ 7) c4
 all_goals
  simp only[Rd.heap,hly,i7,Tok.cs] at s0 s1 s3 n1 n2 n3 n4 ⊢;generalize r.tok=t at *;simp -implicitDefEqProofs (disch:=omega) [v6,s0,s1,s2,s3,n1,n2,n3,n4]
def outN (f:Bool):Rz Bg→Option CRes
 | .ok b r=>some (.ret [.d (.agg b.cs)] (r.heapN f))
 | .bad e p r=>some (.pan (.d (i7 e p)) (r.heapN f))
theorem qse (r:Rd) (s):(r.push s).heap=[.arr [.agg [.d (.sl (LT r.ts)),.d (.int .i64 r.i),.ref (.b 1) ⟨1,16⟩ 0 (r.vs.length + 1),.d (.int .i64 r.op),.map (.b 2)]] ⟨5,0⟩,.arr (SV (r.vs++[s])) ⟨1,16⟩,.map (ME r.ms)]:=by
 unfold Rd.heap Rd.push;simp
set_option maxHeartbeats 4000000 in
theorem q1d {r:Rd} {f:Bool} (h:r.ok) (hn:r.newName=none) (hf:r.own f) (hnum:∀ t∈r.ts,t.kind=2→qJ t.text) :
 d5 T0 X0 R0 [.ptr (.b 0) 0 0] r.heap=outN f ((r.next.push r.tok.text).value r.tok.text):=by
 rw[a8 (af:=v6) rfl rfl rfl];have s0:=w7 h;have htx:=X8 h;have s1:=B7 h;have s2:=XP _ htx;have s3:=KT h _ htx;have n1:=C7 r 80;have n2:=C7 r 42;have n3:=C7 r 82;have n4:=C7 r 2;unfold Rd.newName at hn
 by_cases c1:r.isName=false
 ·rw[if_pos c1] at hn; cases hn
 rw[if_neg c1] at hn;rw[show r.isName=true by simpa using c1] at s1
 by_cases c2:wP r.tok.text=false
 ·rw[if_pos c2] at hn; cases hn
 rw[if_neg c2] at hn;rw[show wP r.tok.text=true by simpa using c2] at s2
 by_cases c3:0≤r.var r.tok.text
 ·rw[if_pos c3] at hn; cases hn
 rw[if_neg c3] at hn
 by_cases c4:r.vs.length < 8
 case neg=>rw[if_neg c4] at hn; cases hn
 have s4:=Y1 h;have hno:=r.next_op;have hms:=(Kept.next h).ms;have l1:=(lys r).1;have h2:(r.next.push r.tok.text).ok:=qa6 (Rd.next_ok h) (by rw[hno.2.2]; exact c4) htx;have a1:=m9 h2 [61] (by simp);have hp:=qse r.next r.tok.text;have hts:(r.next.push r.tok.text).ts=r.ts:=hno.2.1
 have hl:r.ly=none∧f=false∨r.ly=some .nils∧r.vs=[]∧f=true:=by
  unfold Rd.own at hf;cases f
  ·exact .inl ⟨by simpa using hf,rfl⟩
  ·exact .inr ⟨(by simpa using hf.1),(by simpa using hf.2),rfl⟩
 have hvs:r.next.vs=r.vs:=hno.2.2;have hpl:(r.next.push r.tok.text).ly=none:=rfl
 have hpv:(r.next.push r.tok.text).vs=r.vs++[r.tok.text]:=by show r.next.vs++_=_; rw[hvs]
 have hpm:(r.next.push r.tok.text).ms=r.next.ms:=rfl;have hpi:(r.next.push r.tok.text).i=r.next.i:=rfl;have hpo:(r.next.push r.tok.text).op=r.next.op:=rfl;have hpt:(r.next.push r.tok.text).ts=r.next.ts:=rfl;unfold Rd.value;generalize r.next.push r.tok.text=q at *
 by_cases c5:q.isT [61]=true
 case neg=>
  rw[if_neg c5];rw[show q.isT [61]=false by simpa using c5,if_neg (by simp)] at a1;rcases hl with ⟨hly,rfl⟩ | ⟨hly,hv0,rfl⟩
  case' inr=>rw[hv0] at hvs hpv
  all_goals
   simp only[Rd.heap,Rd.heapN,hly,l1,outN,Bg.cs,Tok.cs,hpl,hpm,hpi,hpo,hpt,hpv,List.length_append,List.length_cons,List.length_nil,Nat.zero_add,List.nil_append,JR,qjc] at s0 s1 s3 s4 n1 n2 n3 n4 a1 ⊢;generalize r.tok=t at *;simp -implicitDefEqProofs (disch:=omega) [v6,s0,s1,s2,s3,s4,n1,n2,n3,n4,a1,hvs,JR]
 rw[if_pos c5];rw[c5,if_pos rfl] at a1;have h3:=Rd.next_ok h2;have l3:=(lys q).1.trans hpl;have v3:=q.next_op.2.2.trans hpv;have a2:=m9 h3 [45] (by simp)
 have num3:∀ t∈q.next.ts,t.kind=2→qJ t.text:=by rw[q.next_op.2.1,hts]; exact hnum
 obtain ⟨p,w,hw,lw,vw,tw,a3,hv⟩:∃ (p:Bool) (w:Rd),w.ok∧w.ly=none∧w.vs=r.vs++[r.tok.text]∧w.ts=r.ts∧d5 T0 X0 kf [.ptr (.b 0) 0 0,.d (.str [45])] q.next.heap=some (.ret [.d (.bool p)] w.heap) ∧
  (if q.next.isT [45]=true then q.next.next.num true r.tok.text else q.next.num false r.tok.text)=w.num p r.tok.text:=by
  by_cases c6:q.next.isT [45]=true
  ·rw[if_pos c6];rw[c6,if_pos rfl] at a2;exact ⟨true,_,Rd.next_ok h3,(lys _).1.trans l3,(Rd.next_op _).2.2.trans v3,(Rd.next_op _).2.1.trans (q.next_op.2.1.trans hts),a2,rfl⟩
  ·rw[if_neg c6];rw[show q.next.isT [45]=false by simpa using c6,if_neg (by simp)] at a2;exact ⟨false,_,h3,l3,v3,q.next_op.2.1.trans hts,a2,rfl⟩
 rw[hv];clear hv a2;have s5:=w7 hw;have l5:=(lys w).1.trans lw;have v5:=w.next_op.2.2.trans vw;unfold Rd.num
 by_cases c7:w.tok.kind=2
 case neg=>
  rw[if_neg c7];have n5:=H4 hw 80;rcases hl with ⟨hly,rfl⟩ | ⟨hly,hv0,rfl⟩
  case' inr=>rw[hv0] at hvs hpv v3 vw v5
  all_goals
   simp only[Rd.heap,Rd.heapN,hly,l1,l3,lw,outN,Tok.cs,i7,hpl,hpm,hpi,hpo,hpt,hpv,v3,vw,List.length_append,List.length_cons,List.length_nil,Nat.zero_add,List.nil_append,JR,qjc] at s0 s1 s3 s4 n1 n2 n3 n4 n5 s5 a1 a3 ⊢;generalize r.tok=t at *;generalize w.tok=t2 at *;simp -implicitDefEqProofs (disch:=omega) [v6,s0,s1,s2,s3,s4,n1,n2,n3,n4,n5,s5,a1,a3,hvs,JR]
 rw[if_pos c7];have n5:=C7 w 80;have s6:=Y1 hw;have tl:=X8 hw;obtain ⟨e,s7⟩:=WX (hnum w.tok (tw ▸ Ze hw) c7)
 have hk:(d6 ((jO w.tok.text).natAbs:Int)).length≤456:=by
  obtain ⟨hl,_⟩:=hnum w.tok (tw ▸ Ze hw) c7;have hn:=Jy hl;rw[Int.natAbs_of_nonneg hn.1];exact o6 hn.1 (by have:=(wj 456).2; omega)
 have s8:=qnj (m:=jO w.tok.text) (by unfold nl; omega);rcases hl with ⟨hly,rfl⟩ | ⟨hly,hv0,rfl⟩
 case' inr=>rw[hv0] at hvs hpv v3 vw v5
 all_goals
  cases p
  all_goals
   simp only[Rd.heap,Rd.heapN,hly,l1,l3,l5,lw,outN,Bg.cs,sg,Tok.cs,Wd,hpl,hpm,hpi,hpo,hpt,hpv,v3,vw,v5,List.length_append,List.length_cons,List.length_nil,Nat.zero_add,List.nil_append,JR,qjc] at s0 s1 s3 s4 n1 n2 n3 n4 n5 s5 s6 s7 s8 a1 a3 ⊢;generalize r.tok=t at *;generalize w.tok=t2 at *;simp -implicitDefEqProofs (disch:=omega) [v6,s0,s1,s2,s3,s4,n1,n2,n3,n4,n5,s5,s6,s7,s8,a1,a3,hvs,JR]
end Go.Rf

namespace Go.Rf
def qu9 (p:Int→Bool):Nat→List UInt8→Bool
 | _,[]=>true
 | 0,_=>false
 | f + 1,w=>!kg w (dec w 0).1 && p (cls (dec w 0).1) && qu9 p f (w.drop (dec w 0).2)
end Go.Rf

namespace Go.Rf
theorem qd1:∀ f k (n:Int),n < kU k→(qU f n).length≤9 * k
 | 0,k,n,_=>by simp[qU]
 | f + 1,0,n,h=>by
   unfold qU;rw[if_pos (by simp only[kU] at h; omega)];simp
 | f + 1,k + 1,n,h=>by
   unfold qU;split
   ·simp
   ·have h1:=qbd 9 (n % 1000000000) (decide (0 < n / 1000000000));have h2:=qd1 f k (n / 1000000000) (by simp only[kU] at h; omega);simp only[List.length_append]; omega
theorem q97 (r:Int):48≤(dig r).toNat∧(dig r).toNat≤57:=by
 unfold dig
 have:(r % 10).toNat < 10:=by omega
 rw[UInt8.toNat_ofNat',Nat.mod_eq_of_lt (by omega)];omega
theorem qqr:∀ f r b,∀ c∈inF f r b,48≤c.toNat∧c.toNat≤57
 | 0,_,_,c,h=>by cases h
 | f + 1,r,b,c,h=>by
   unfold inF at h;split at h
   ·rcases List.mem_cons.1 h with rfl | h
    ·exact q97 r
    ·exact qqr f _ _ c h
   ·cases h
theorem qg4:∀ f n,∀ c∈qU f n,48≤c.toNat∧c.toNat≤57
 | 0,_,c,h=>by cases h
 | f + 1,n,c,h=>by
   unfold qU at h;split at h
   ·cases h
   ·rcases List.mem_append.1 h with h | h
    ·exact qqr _ _ _ c h
    ·exact qg4 f _ c h
theorem qff (f n):∀ c∈L0 f n,48≤c.toNat∧c.toNat≤57:=by
 intro c h;unfold L0 at h;split at h
 ·rw[List.mem_singleton] at h; subst h; decide
 ·exact qg4 f n c (List.mem_reverse.1 h)
theorem zh0:pw 32≤kU 35:=by decide +kernel
theorem qov {v:Int} (h0:0≤v) (h:(d6 v).length≤32):qJ (L0 456 v):=by
 have hv:v < kU 35:=by
  have h1:=(d7 (g9 v)).2;rw[q9 h0] at h1;exact Int.lt_of_lt_of_le (Int.lt_of_lt_of_le h1 (QJ h)) zh0
 have hd:=qff 456 v;refine ⟨?_,?_⟩
 ·unfold L0;split
  ·simp
  ·rw[List.length_reverse];exact Nat.le_trans (qd1 456 35 v hv) (by omega)
 ·cases ht:L0 456 v with
  | nil=>decide
  | cons c s=>
    rw[ht] at hd;have:=hd c (List.mem_cons_self ..);rw[qgr (by omega)];simp only[];omega
theorem qrs {s:Sc} (h:s.ok) (hc:s.token.2.code=0) (hk:s.token.1.kind=2):qJ s.token.1.text:=by
 unfold Sc.token at *;split at hk
 ·cases hk
 rename_i c2;rw[if_neg c2] at hc ⊢;split at hk
 ·rename_i c3;rw[if_pos c3] at hc ⊢;have hl:=h.1
  have h3:(s.ran J9).length≤4096:=by unfold Sc.ran; rw[List.length_take]; omega
  have hn:=Jy h3
  by_cases h32:32 < (d6 (jO (s.ran J9))).length
  ·simp only[if_pos h32] at hc;cases hc
  ·exact qov hn.1 (by omega)
 split at hk
 ·cases hk
 split at hk
 ·cases hk
 ·cases hk
structure Pre (out:List Tok):Prop where
 k:∀ t∈out,t.kind≠0
 tx:∀ t∈out,t.text.length≤1100000
 nm:∀ t∈out,t.kind=2→qJ t.text
theorem qj4:∀ f (s:Sc) (out l:List Tok) e p,s.ok→s.rest.length < f→Pre out→jd f s out=(some l,e,p)→
 ∃ o t,l=o++[t]∧Pre o∧t.kind=0∧t.text.length≤1100000∧e=0
 | 0,s,out,l,e,p,_,hf,_,_=>by omega
 | f + 1,s,out,l,e,p,hs,hf,hp,h=>by
   have hb:=xL (s.rest.length + 1) hs;change s.blanks.ok∧s.blanks.rest.length≤s.rest.length at hb;have ht:=Xn hb.1;unfold jd at h;split at h
   ·cases h
   ·rename_i hc;have hc:s.blanks.token.2.code=0:=Classical.not_not.1 hc;split at h
    ·rename_i hk;cases h;exact ⟨out,_,rfl,hp,hk,ht.2.2,rfl⟩
    ·rename_i hk;have hlt:=ht.2.1 hk;refine qj4 f _ _ l e p ht.1 (by omega) ⟨fun t hm=>?_,fun t hm=>?_,fun t hm=>?_⟩ h
     ·rcases List.mem_append.1 hm with hm | hm
      ·exact hp.k t hm
      ·rw[List.mem_singleton] at hm; subst hm; exact hk
     ·rcases List.mem_append.1 hm with hm | hm
      ·exact hp.tx t hm
      ·rw[List.mem_singleton] at hm; subst hm; exact ht.2.2
     ·rcases List.mem_append.1 hm with hm | hm
      ·exact hp.nm t hm
      ·rw[List.mem_singleton] at hm; subst hm; exact qrs hb.1 hc
end Go.Rf

namespace Go.Rf
end Go.Rf

namespace Go.Rf
def znf (w:List UInt8):Prop:=∀ c∈w,48≤c.toNat∧c.toNat≤57
def qdr:Int→List UInt8→Int
 | v,[]=>v
 | v,c :: r=>qdr (10 * v + ((c.toNat:Int) - 48)) r
def Wx:List UInt8→Int
 | []=>0
 | c :: r=>((c.toNat:Int) - 48) + 10 * Wx r
theorem qgp:∀ (a b:List UInt8) (v:Int),qdr v (a++b)=qdr (qdr v a) b
 | [],_,_=>rfl
 | _ :: a,b,v=>qgp a b _
theorem qgo:∀ l:List UInt8,qdr 0 l.reverse=Wx l
 | []=>rfl
 | c :: r=>by
   rw[List.reverse_cons,qgp,qgo r];show 10 * Wx r + _=_ + 10 * Wx r;omega
theorem q98 {s:List UInt8} {i:Nat} (h:i < s.length) (hb:(s.getD i 0).toNat < 128):dec s i=((s.getD i 0).toNat,1):=by
 unfold dec Utf8.decode
 have e:((ByteArray.mk s.toArray).get! (i + 0))=s.getD i 0:=by
  simp only[ByteArray.get!,Nat.add_zero];simp[h]
 simp only[e];rw[if_pos hb]
theorem qgs {s:List UInt8} (hs:znf s):∀ (f i:Nat) (v:Int),s.length - i < f→i≤s.length→qds s f i v=some (qdr v (s.drop i))
 | 0,i,v,h,_=>by omega
 | f + 1,i,v,h,hi=>by
   unfold qds
   by_cases c:i < s.length
   ·have hg:s.getD i 0=s[i]:=by simp[c]
    have hd:=hs s[i] (List.getElem_mem c);rw[if_pos c,q98 c (by rw[hg]; omega),hg,if_neg (by omega),List.drop_eq_getElem_cons c];exact qgs hs f (i + 1) _ (by omega) (by omega)
   ·rw[if_neg c,List.drop_eq_nil_of_le (by omega)];rfl
theorem qk0:∀ a b:List UInt8,Wx (a++b)=Wx a + 10 ^ a.length * Wx b
 | [],b=>by simp[Wx]
 | c :: a,b=>by
   show _ + 10 * Wx (a++b)=_;rw[qk0 a b,List.length_cons,Int.pow_succ];show _=_ + 10 * Wx a + _;rw[Int.mul_add,Int.mul_comm (10 ^ a.length) 10,Int.mul_assoc];omega
theorem qqq:∀ (f:Nat) (r:Int) (more:Bool),0≤r→r < 10 ^ f→Wx (inF f r more)=r∧(more=true→(inF f r more).length=f)
 | 0,r,more,h0,h=>by
   simp at h;exact ⟨by show (0:Int)=r; omega,fun _=>rfl⟩
 | f + 1,r,more,h0,h=>by
   unfold inF;have hd:=qxt h0;have ih:=qqq f (r / 10) more (by omega) (by rw[Int.pow_succ] at h; omega);split
   ·refine ⟨?_,fun hm=>by rw[List.length_cons,ih.2 hm]⟩;show ((dig r).toNat:Int) - 48 + 10 * Wx (inF f (r / 10) more)=r;rw[ih.1]; omega
   ·rename_i c;exact ⟨by show (0:Int)=r; omega,fun hm=>absurd (.inr hm) c⟩
theorem WS:∀ (f:Nat) (n:Int),0≤n→n < kU f→Wx (qU f n)=n
 | 0,n,h0,h=>by
   have:n < 1:=h;show (0:Int)=n;omega
 | f + 1,n,h0,h=>by
   unfold qU;split
   ·show (0:Int)=n; omega
   ·rw[kU] at h
    have hm:n % 1000000000 < 10 ^ 9:=by omega
    have i1:=qqq 9 (n % 1000000000) (decide (0 < n / 1000000000)) (by omega) hm;have i2:=WS f (n / 1000000000) (by omega) (by omega);rw[qk0,i1.1,i2]
    by_cases c:0 < n / 1000000000
    ·rw[i1.2 (by simp[c])]
     have:(10:Int) ^ 9=1000000000:=by decide
     rw[this]; omega
    ·have:n / 1000000000=0:=by omega
     rw[this]; omega
theorem qnu {f:Nat} {n:Int}:znf (L0 f n):=fun c hc=>qff f n c hc
theorem Wv {v:Int} (h0:0≤v) (h:v < kU 456):L0 456 v≠[]∧jO (L0 456 v)=v:=by
 have hd:qdr 0 (L0 456 v)=v:=by
  unfold L0;split
  ·rename_i e; rw[e]; rfl
  ·rw[qgo,WS _ _ h0 h]
 have hne:L0 456 v≠[]:=by
  unfold L0;split
  ·simp
  ·rename_i e;intro hc
   have:qU 456 v=[]:=by simpa using hc
   have h2:=WS 456 v h0 h;rw[this] at h2;exact e h2.symm
 refine ⟨hne,?_⟩;unfold jO XE;rw[if_neg hne,qgs qnu _ _ _ (by omega) (by omega),List.drop_zero,hd];rfl
theorem Yq {v:Int} (h0:0≤v) (h:(d6 v).length≤32):v < kU 456:=by
 have h1:=(d7 (g9 v)).2;rw[q9 h0] at h1;have h2:=QJ h;have h3:=zh0
 have h4:kU 35≤kU 456:=by
  rw[KY,KY];exact qvy (by decide)
 omega
structure NameOk (w:List UInt8):Prop where
 ne:w≠[]
 c:cls (dec w 0).1=2
 r:∃ f,qu9 F2 f w=true
 n:rc w≤16
 l:w.length≤4096
end Go.Rf
