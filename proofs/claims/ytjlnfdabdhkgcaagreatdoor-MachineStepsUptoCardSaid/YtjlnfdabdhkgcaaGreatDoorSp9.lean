/- Parts of the proof: SpM4, SpM5, SpM6, SpM7. -/
import Derived.Test.YtjlnfdabdhkgcaaGreatDoorRb2
import Derived.Test.YtjlnfdabdhkgcaaGreatDoorSp6
import Derived.Test.YtjlnfdabdhkgcaaGreatDoorSp8

set_option linter.unusedSimpArgs false
set_option linter.unusedVariables false
set_option linter.unnecessarySimpa false
set_option linter.unusedSectionVars false
set_option linter.all false
namespace Go.Rf
mutual
inductive Sm where
 | set (p:Pl) (v:Int) (s:List UInt8) (e:Option Nd)
 | skip (p:Pl)
 | stop (p:Pl)
 | mark (p:Pl) (s:List UInt8)
 | choose (p:Pl) (bs:List Bl)
 | loop (p:Pl) (b:List Sm)
 | ifs (p:Pl) (x y:Nd) (q:Bool) (b:List Sm)
 | ife (p:Pl) (x y:Nd) (q:Bool) (b:List Sm) (pe:Pl) (e:List Sm)
 | while (p:Pl) (x y:Nd) (q:Bool) (b:List Sm)
inductive Bl where
 | mk (p:Pl) (b:List Sm)
end
mutual
def Sm.d:Sm→D
 | .set p v s e=>.iface ZV (.agg [.int .i64 p.b,.int .i64 p.g,.int .i64 p.l,.int .i64 p.c,.int .i64 v,.str s,oD e])
 | .skip p=>.iface Qt (.agg [.int .i64 p.b,.int .i64 p.g,.int .i64 p.l,.int .i64 p.c])
 | .stop p=>.iface Qs (.agg [.int .i64 p.b,.int .i64 p.g,.int .i64 p.l,.int .i64 p.c])
 | .mark p s=>.iface Qv (.agg [.int .i64 p.b,.int .i64 p.g,.int .i64 p.l,.int .i64 p.c,.str s])
 | .choose p bs=>.iface I5 (.agg [.int .i64 p.b,.int .i64 p.g,.int .i64 p.l,.int .i64 p.c,.sl (Bls.d bs)])
 | .loop p b=>.iface kZ (.agg [.int .i64 p.b,.int .i64 p.g,.int .i64 p.l,.int .i64 p.c,.sl (Sms.d b)])
 | .ifs p x y q b=>.iface kC (.agg [.int .i64 p.b,.int .i64 p.g,.int .i64 p.l,.int .i64 p.c,x.d,y.d,.bool q,.sl (Sms.d b),.nilp])
 | .ife p x y q b pe e=>.iface kC (.agg [.int .i64 p.b,.int .i64 p.g,.int .i64 p.l,.int .i64 p.c,x.d,y.d,.bool q,.sl (Sms.d b),.box (.agg [.int .i64 pe.b,.int .i64 pe.g,.int .i64 pe.l,.int .i64 pe.c,.sl (Sms.d e)])])
 | .while p x y q b=>.iface wX (.agg [.int .i64 p.b,.int .i64 p.g,.int .i64 p.l,.int .i64 p.c,x.d,y.d,.bool q,.sl (Sms.d b)])
def Bl.d:Bl→D
 | .mk p b=>.agg [.int .i64 p.b,.int .i64 p.g,.int .i64 p.l,.int .i64 p.c,.sl (Sms.d b)]
def Sms.d:List Sm→List D
 | []=>[]
 | s :: l=>s.d :: Sms.d l
def Bls.d:List Bl→List D
 | []=>[]
 | s :: l=>s.d :: Bls.d l
end
theorem Sms.d_map:∀ l,Sms.d l=l.map Sm.d
 | []=>by simp[Sms.d]
 | s :: l=>by simp[Sms.d,Sms.d_map l]
theorem Bls.d_map:∀ l,Bls.d l=l.map Bl.d
 | []=>by simp[Bls.d]
 | s :: l=>by simp[Bls.d,Bls.d_map l]
theorem Sm.wt (s:Sm):wt s.d=16:=by cases s <;> simp only[Sm.d,Rf.wt]
theorem Sm.cells (s:Sm):s.d.cells=[s.d]:=by cases s <;> simp only[Sm.d,D.cells]
theorem Bl.wt (s:Bl):wt s.d=56:=by cases s; simp[Bl.d,Rf.wt,Rf.wts,IntKind.bits]
theorem Sm.vcells (s:Sm):V.cells (.d s.d)=[.d s.d]:=by cases s <;> simp only[Sm.d,V.cells]
theorem Bl.vcells (s:Bl):(V.cells (.d s.d)).length=5:=by cases s; simp[Bl.d,V.cells]
attribute [simp] Sm.vcells Bl.vcells
structure Lst (α:Type) where
 d:α→D
 w:W
 wt:∀ x,wt (d x)≤w.w
 cells:∀ x,(V.cells (.d (d x))).length=w.c
 pos:1≤w.w
def smL:Lst Sm:=⟨Sm.d,⟨1,16⟩,fun x=>by rw[Sm.wt]; exact Nat.le_refl _,fun x=>by simp,by decide⟩
def blL:Lst Bl:=⟨Bl.d,⟨5,56⟩,fun x=>by rw[Bl.wt]; exact Nat.le_refl _,fun x=>by simp,by decide⟩
def LD {α:Type} (k:Lst α) (l:List α):List D:=l.map k.d
def LW {α:Type} (k:Lst α) (l:List α):List V:=l.map fun x=>.d (k.d x)
section
variable {α:Type} (k:Lst α) (l:List α)
@[simp] theorem LW_len:(LW k l).length=l.length:=by simp[LW]
@[simp] theorem LD_len:(LD k l).length=l.length:=by simp[LD]
@[simp] theorem q0h:(LD k l).map V.d=LW k l:=by simp[LD,LW,Function.comp_def]
@[simp] theorem qfr:LW k []=[]:=rfl
@[simp] theorem qrr:LD k []=[]:=rfl
@[simp] theorem LW_take (n):(LW k l).take n=LW k (l.take n):=by simp[LW,List.map_take]
theorem vz (x:α):LW k l++[.d (k.d x)]=LW k (l++[x]):=by simp[LW]
@[simp] theorem rens_LW (al:Loc→Bool) (m:List Loc):ze al (LW k l) m=(LW k l,m):=by rw[← q0h]; exact vJ ..
@[simp] theorem zin (f:Loc→Loc):zi f (LW k l)=LW k l:=by
  induction l with
  | nil=>rfl
  | cons x xs ih=>
    show V.mapL f (.d _) :: zi f (LW k xs)=_;rw[ih];rfl
@[simp] theorem frzL_LW (h:Loc→Option Obj) (n:Nat):kv (frz h (n + 1)) (LW k l)=some (LD k l,[]):=by rw[← q0h]; exact qnn ..
@[simp] theorem q0g:(∀ x∈LW k l,x.cells.length=k.w.c)=True:=eq_true (by
  intro x hx;obtain ⟨n,_,rfl⟩:=List.mem_map.1 hx
  exact k.cells n)
theorem qv0:wl (LD k l)≤k.w.w:=by
 induction l with
 | nil=>exact k.pos
 | cons x xs ih=>
   show max (Rf.wt (k.d x)) (wl (LD k xs))≤_;have:=k.wt x;omega
@[simp] theorem Yg:(wl (LD k l)≤k.w.w)=True:=eq_true (qv0 k l)
@[simp] theorem qj7 {n:Nat} (hw:k.w.w≤64) (h:n≤1099511627776):(n * wl (LD k l)≤D2)=True:=eq_true (Nat.le_trans (Nat.mul_le_mul h (qv0 k l)) (by unfold D2; have:=Nat.mul_le_mul (Nat.le_refl 1099511627776) hw; omega))
theorem Zl {i:Nat} (h:i < l.length):(LD k l)[i]? = some (k.d (l[i])):=by simp[LD,h]
end
theorem Sms.d_LD (l:List Sm):Sms.d l=LD smL l:=Sms.d_map l
theorem Bls.d_LD (l:List Bl):Bls.d l=LD blL l:=Bls.d_map l
@[simp] theorem wl_sm (l):(wl (LD smL l)≤16)=True:=Yg smL l
@[simp] theorem wl_bl (l):(wl (LD blL l)≤56)=True:=Yg blL l
@[simp] theorem fit_sm {n:Nat} (l) (h:n≤1099511627776):(n * wl (LD smL l)≤D2)=True:=qj7 smL l (by decide) h
@[simp] theorem fit_bl {n:Nat} (l) (h:n≤1099511627776):(n * wl (LD blL l)≤D2)=True:=qj7 blL l (by decide) h
@[simp] theorem zfw (l s):LW smL l++[.d (Sm.d s)]=LW smL (l++[s]):=vz smL l s
end Go.Rf

namespace Go.Rf
structure KeptS (r r':Rd):Prop where
 ok:r'.ok
 ts:r'.ts=r.ts
 vs:r'.vs=r.vs
 op:r'.op=r.op
 i:r.i≤r'.i
 ly:r'.ly=r.ly
theorem Kept.s {r r':Rd} (h:Kept r r'):KeptS r r':=⟨h.ok,h.ts,h.vs,h.op,h.i,h.ly⟩
theorem KeptS.refl {r:Rd} (h:r.ok):KeptS r r:=(Kept.refl h).s
theorem KeptS.trans {a b c:Rd} (h:KeptS a b) (k:KeptS b c):KeptS a c:=⟨k.ok,k.ts.trans h.ts,k.vs.trans h.vs,k.op.trans h.op,Nat.le_trans h.i k.i,k.ly.trans h.ly⟩
def Rz.fineS {α:Type} (r:Rd) (d:Nat):Rz α→Prop
 | .ok _ r'=>KeptS r r'∧r.i + d≤r'.i
 | .bad _ _ r'=>r'.ly=r.ly
theorem Rz.fineS_ly {α:Type} {r:Rd} {d:Nat} {b:Rz α} (h:b.fineS r d):b.st.ly=r.ly:=by
 cases b with
 | ok x r'=>exact h.1.ly
 | bad e p r'=>exact h
theorem Rz.fineS_kept {α:Type} {r r':Rd} {d d':Nat} {b:Rz α} (h:b.fineS r' d') (k:KeptS r r') (l:r.i + d≤r'.i + d'):b.fineS r d:=by
 cases b with
 | bad e p r2=>exact Eq.trans h k.ly
 | ok x r2=>exact ⟨k.trans h.1,by have:=h.2; omega⟩
theorem Rz.fine.s {α:Type} {r:Rd} {d:Nat} {b:Rz α} (h:b.fine r d):b.fineS r d:=by
 cases b with
 | ok x r'=>exact ⟨h.1.s,h.2⟩
 | bad e p r'=>exact h
def Rd.semi {α:Type} (r:Rd) (x:α):Rz α:=if r.isT [59]=true then .ok x r.next else .bad 80 r.tok.pos r
theorem Kr {α:Type} {r:Rd} (h:r.ok) (x:α):(r.semi x).fineS r 1:=by
 unfold Rd.semi;split
 ·rename_i c;exact ⟨(Kept.next h).s,by rw[L8 (B4 c)]; omega⟩
 ·rfl
def Rd.expr (r:Rd):Rz (Option Nd):=if r.isT [97,110,121]=true then .ok none r.next else r.sum.bind fun x r=>.ok (some x) r
def Rd.assign (r:Rd) (p:Pl):Rz Sm:=
 if r.var r.tok.text < 0 then .bad 81 r.tok.pos r
 else if r.next.isT [58,61]=true then r.next.next.expr.bind fun e r3=>r3.semi (.set p (r.var r.tok.text) r.tok.text e)
 else .bad 80 r.next.tok.pos r.next
def smO (s:Sm):List V:=[.d s.d]
set_option maxHeartbeats 4000000 in
theorem qou {r:Rd} (h:r.ok) (hk:r.tok.kind≠0) (hnum:∀ t∈r.ts,t.kind=2→qZ t.text) (p:Pl) :
 d5 T0 X0 wo [.ptr (.b 0) 0 0,.d (.agg p.cs)] r.heap=(r.assign p).out smO∧(r.assign p).fineS r 1:=by
 have s0:=w7 h;have htx:=Z5 h;have s3:=YN h _ htx;have hno:=r.next_op;have l1:=(lys r).1;have hr:=qca r.vs r.tok.text r.vs.length 0 (by omega);have hv:=h.vs
 have hr1:-1≤r.var r.tok.text∧r.var r.tok.text≤16:=by unfold Rd.var; omega
 rw[c8 (af:=z8) rfl rfl rfl];unfold Rd.assign
 by_cases c1:r.var r.tok.text < 0
 ·rw[if_pos c1];refine ⟨?_,rfl⟩;have n1:=I6 h 81;cases hly:r.ly
  all_goals
   simp only[Rd.heap,hly,Rz.out,Tok.cs,Pl.cs,i7] at s0 s3 n1 ⊢;generalize r.tok=t at *;simp -implicitDefEqProofs (disch:=omega) [z8,s0,s3,n1]
 rw[if_neg c1];have n1:=E4 r 81;have s4:=Z6 h;have h1:=Rd.next_ok h;have i1:=L8 hk
 by_cases c2:r.next.isT [58,61]=true
 case neg=>
  rw[if_neg c2];refine ⟨?_,l1⟩;have n2:=V8 h1 (s:=[58,61]) (by simp) (by simpa using c2);cases hly:r.ly
  all_goals
   simp only[Rd.heap,hly,l1,Rz.out,Tok.cs,Pl.cs,i7] at s0 s3 s4 n1 n2 ⊢;generalize r.next.tok=t2 at *;generalize r.tok=t at *;simp -implicitDefEqProofs (disch:=omega) [z8,s0,s3,s4,n1,n2]
 rw[if_pos c2];have n2:=qB h1 (by simp) c2;have h2:=Rd.next_ok h1;have k2:=(Kept.next h).trans (Kept.next h1);have i2:=L8 (B4 c2);have l2:=k2.ly;have a1:=n8 h2 [97,110,121] (by simp)
 have k3:∀ e (r3:Rd),KeptS r.next.next r3→(r3.semi (Sm.set p (r.var r.tok.text) r.tok.text e)).fineS r 1:=fun e r3 k=>
  Rz.fineS_kept (Kr k.ok _) (k2.s.trans k) (by have:=k.i; omega)
 generalize hq:r.next.next=q at *;unfold Rd.expr
 by_cases c3:q.isT [97,110,121]=true
 ·rw[if_pos c3];rw[c3,if_pos rfl] at a1;have h3:=Rd.next_ok h2;refine ⟨?_,k3 _ _ (Kept.next h2).s⟩;have l3:=(lys q).1.trans l2;simp only[Rz.bind];unfold Rd.semi
  by_cases c4:q.next.isT [59]=true
  ·rw[if_pos c4];have n3:=qB h3 (by simp) c4;have l4:=(lys q.next).1.trans l3;cases hly:r.ly
   all_goals
    simp only[Rd.heap,hly,l1,l2,l3,l4,Rz.out,smO,Sm.d,oD,Tok.cs,Pl.cs] at s0 s3 s4 n1 n2 n3 a1 ⊢;generalize r.tok=t at *;simp -implicitDefEqProofs (disch:=omega) [z8,s0,s3,s4,n1,n2,n3,a1]
  ·rw[if_neg c4];have n3:=V8 h3 (s:=[59]) (by simp) (by simpa using c4);cases hly:r.ly
   all_goals
    simp only[Rd.heap,hly,l1,l2,l3,Rz.out,Tok.cs,Pl.cs,i7] at s0 s3 s4 n1 n2 n3 a1 ⊢;generalize q.next.tok=t2 at *;generalize r.tok=t at *;simp -implicitDefEqProofs (disch:=omega) [z8,s0,s3,s4,n1,n2,n3,a1]
 rw[if_neg c3];rw[show q.isT [97,110,121]=false by simpa using c3,if_neg (by simp)] at a1;obtain ⟨s5,f5⟩:=qag h2 (by rw[k2.ts]; exact hnum);have e5:=(Rz.fine_ly f5).trans l2
 have f6:((q.sum.bind fun x r=>(.ok (some x) r:Rz (Option Nd))).bind fun e r3=>r3.semi (Sm.set p (r.var r.tok.text) r.tok.text e)).fineS r 1:=by
  rcases hb:q.sum with ⟨x,r3⟩ | ⟨e,p',r3⟩ <;> rw[hb] at f5
  ·exact k3 _ _ f5.1.s
  ·exact Eq.trans f5 l2
 refine ⟨?_,f6⟩;clear f6 k3;rcases hb:q.sum with ⟨x,r3⟩ | ⟨e,p',r3⟩
 all_goals
  rw[hb] at s5 e5 f5;have e5:r3.ly=r.ly:=e5
 case bad=>
  cases hly:r.ly
  all_goals
   simp only[Rd.heap,hly,l1,l2,e5,Rz.bind,Rz.out,Tok.cs,Pl.cs,i7] at s0 s3 s4 s5 n1 n2 a1 ⊢;generalize r.tok=t at *;simp -implicitDefEqProofs (disch:=omega) [z8,s0,s3,s4,s5,n1,n2,a1]
 simp only[Rz.bind];unfold Rd.semi
 by_cases c4:r3.isT [59]=true
 ·rw[if_pos c4];have n3:=qB f5.1.ok (by simp) c4;have l4:=(lys r3).1.trans e5;cases hly:r.ly
  all_goals
   simp only[Rd.heap,hly,l1,l2,l4,e5,Rz.out,smO,Sm.d,oD,Tok.cs,Pl.cs] at s0 s3 s4 s5 n1 n2 n3 a1 ⊢;generalize r.tok=t at *;simp -implicitDefEqProofs (disch:=omega) [z8,s0,s3,s4,s5,n1,n2,n3,a1]
 ·rw[if_neg c4];have n3:=V8 f5.1.ok (s:=[59]) (by simp) (by simpa using c4);cases hly:r.ly
  all_goals
   simp only[Rd.heap,hly,l1,l2,e5,Rz.out,Tok.cs,Pl.cs,i7] at s0 s3 s4 s5 n1 n2 n3 a1 ⊢;generalize r3.tok=t2 at *;generalize r.tok=t at *;simp -implicitDefEqProofs (disch:=omega) [z8,s0,s3,s4,s5,n1,n2,n3,a1]
end Go.Rf

namespace Go.Rf
def Rd.named (r:Rd) (s:List UInt8):Rd:={ r with ms:=r.ms++[s] }
theorem qmv {r:Rd} (h:r.ok) (s):(r.named s).ok:=⟨h.i,h.n,h.mid,h.fin,h.vs,h.op,h.tx,h.tv,h.ly⟩
def Rd.mark (r:Rd) (p:Pl):Rz Sm:=
 if r.isName=false then .bad 80 r.tok.pos r else if vH r.tok.text=false then .bad 42 r.tok.pos r else if r.tok.text∈r.ms then .bad 82 r.tok.pos r
 else (r.named r.tok.text).next.semi (.mark p r.tok.text)
set_option maxHeartbeats 4000000 in
theorem que {r:Rd} (h:r.ok) (p:Pl) :
 d5 T0 X0 vU [.ptr (.b 0) 0 0,.d (.agg p.cs)] r.heap=(r.mark p).out smO∧(r.mark p).fineS r 1:=by
 have s0:=w7 h;have htx:=Z5 h;have s1:=C5 h;have s2:=JH _ htx;have n1:=E4 r 80;have n2:=E4 r 42;have n3:=E4 r 82;rw[c8 (af:=F8) rfl rfl rfl];unfold Rd.mark
 by_cases c1:r.isName=false
 ·rw[if_pos c1];refine ⟨?_,rfl⟩;have n4:=I6 h 80;rw[c1] at s1;cases hly:r.ly
  all_goals
   simp only[Rd.heap,hly,i7,Rz.out,Pl.cs] at s1 n4 ⊢;simp -implicitDefEqProofs (disch:=omega) [F8,s1,n4]
 rw[if_neg c1]
 have c1':r.isName=true:=by simpa using c1
 rw[c1'] at s1
 by_cases c2:vH r.tok.text=false
 ·rw[if_pos c2];refine ⟨?_,rfl⟩;have n4:=I6 h 42;rw[c2] at s2;cases hly:r.ly
  all_goals
   simp only[Rd.heap,hly,i7,Tok.cs,Rz.out,Pl.cs] at s0 s1 n1 n4 ⊢;generalize r.tok=t at *;simp -implicitDefEqProofs (disch:=omega) [F8,s0,s1,s2,n1,n4]
 rw[if_neg c2];rw[show vH r.tok.text=true by simpa using c2] at s2
 by_cases c3:r.tok.text∈r.ms
 ·rw[if_pos c3];refine ⟨?_,rfl⟩;have n4:=I6 h 82;cases hly:r.ly
  all_goals
   simp only[Rd.heap,hly,i7,Tok.cs,Rz.out,Pl.cs] at s0 s1 n1 n2 n4 ⊢;generalize r.tok=t at *;simp -implicitDefEqProofs (disch:=omega) [F8,s0,s1,s2,n1,n2,n4,c3]
 rw[if_neg c3];have hN:=qmv h r.tok.text;have s4:=Z6 hN;have htk:(r.named r.tok.text).tok=r.tok:=rfl;have h1:=Rd.next_ok hN;have i1:(r.named r.tok.text).next.i=r.i + 1:=L8 (r:=r.named r.tok.text) (by rw[htk]; unfold Rd.isName at c1'; simp at c1'; omega);have k1:KeptS r (r.named r.tok.text).next:=⟨h1,(Rd.next_op _).2.1,(Rd.next_op _).2.2,(Rd.next_op _).1,by omega,(lys _).1⟩;refine ⟨?_,Rz.fineS_kept (Kr h1 _) k1 (by omega)⟩;have hp:=q1o c3;have l0:(r.named r.tok.text).ly=r.ly:=rfl;have l1:=k1.ly;rw[htk] at s4;have hm:(r.named r.tok.text).ms=r.ms++[r.tok.text]:=rfl;have hm2:(r.named r.tok.text).ts=r.ts∧(r.named r.tok.text).i=r.i∧(r.named r.tok.text).vs=r.vs∧(r.named r.tok.text).op=r.op:=⟨rfl,rfl,rfl,rfl⟩;generalize r.named r.tok.text=q at *;unfold Rd.semi
 by_cases c4:q.next.isT [59]=true
 ·rw[if_pos c4];have n4:=qB h1 (by simp) c4;have l4:=(lys q.next).1.trans l1;cases hly:r.ly
  all_goals
   simp only[Rd.heap,hly,l0,l1,l4,hm,hm2,Rz.out,smO,Sm.d,Tok.cs,Pl.cs] at s0 s1 s4 n1 n2 n3 n4 ⊢;generalize r.tok=t at *;simp -implicitDefEqProofs (disch:=omega) [F8,s0,s1,s2,s4,n1,n2,n3,n4,c3,hp]
 ·rw[if_neg c4];have n4:=V8 h1 (s:=[59]) (by simp) (by simpa using c4);cases hly:r.ly
  all_goals
   simp only[Rd.heap,hly,l0,l1,hm,hm2,Rz.out,i7,Tok.cs,Pl.cs] at s0 s1 s4 n1 n2 n3 n4 ⊢;generalize q.next.tok=t2 at *;generalize r.tok=t at *;simp -implicitDefEqProofs (disch:=omega) [F8,s0,s1,s2,s4,n1,n2,n3,n4,c3,hp]
end Go.Rf

namespace Go.Rf
mutual
def Zs:Nat→Rd→Rz (List Sm)
 | 0,r=>.bad 80 o9 r
 | n + 1,r=>if r.tok.kind=1 then (qft n r).bind fun o r1=>(match o with
   | none=>.ok [] r1
   | some s=>(Zs n r1).bind fun l r2=>.ok (s :: l) r2) else .ok [] r
def Qr:Nat→Rd→Rz (List Sm)
 | 0,r=>.bad 80 o9 r
 | n + 1,r=>match r.into [123] with
   | some e=>.bad e r.tok.pos r
   | none=>(Zs n r.opened.next).bind fun l r1=>if r1.isT [125]=true then .ok l r1.next.closed else .bad 80 r1.tok.pos r1
def KQ:Nat→Rd→Rz (List Bl)
 | 0,r=>.bad 80 o9 r
 | n + 1,r=>if r.isT [111,114]=true then (Qr n r.next).bind fun l r1=>(KQ n r1).bind fun bs r2=>.ok (.mk r.tok.pos l :: bs) r2 else .ok [] r
def qft:Nat→Rd→Rz (Option Sm)
 | 0,r=>.bad 80 o9 r
 | n + 1,r=>
   if r.isName=true then (r.assign r.tok.pos).bind fun s r1=>.ok (some s) r1
   else if r.isT [115,107,105,112]=true then r.next.semi (some (.skip r.tok.pos))
   else if r.isT [115,116,111,112]=true then r.next.semi (some (.stop r.tok.pos))
   else if r.isT [109,97,114,107]=true then (r.next.mark r.tok.pos).bind fun s r1=>.ok (some s) r1
   else if r.isT [99,104,111,111,115,101]=true then (Qr n r.next).bind fun l r1=>(KQ n r1).bind fun bs r2=>.ok (some (.choose r.tok.pos (.mk r.tok.pos l :: bs))) r2
   else if r.isT [108,111,111,112]=true then (Qr n r.next).bind fun l r1=>.ok (some (.loop r.tok.pos l)) r1
   else if r.isT [105,102]=true then r.next.cond.bind fun c r1=>(Qr n r1).bind fun l r2=>
    if r2.isT [101,108,115,101]=true then (Qr n r2.next).bind fun e r3=>.ok (some (.ife r.tok.pos c.1 c.2.1 c.2.2 l r2.tok.pos e)) r3 else .ok (some (.ifs r.tok.pos c.1 c.2.1 c.2.2 l)) r2
   else if r.isT [119,104,105,108,101]=true then r.next.cond.bind fun c r1=>(Qr n r1).bind fun l r2=>.ok (some (.while r.tok.pos c.1 c.2.1 c.2.2 l)) r2
   else .ok none r
end
def lsO (l:List Sm):List V:=[.d (.sl (LD smL l))]
def osO:Option Sm→List V
 | some s=>[.d s.d,.d (.bool true)]
 | none=>[.d .nili,.d (.bool false)]
def Jq (k:Nat) (acc:List Sm):Rz (List Sm)→Option (Ex × St)
 | .ok l r=>some (.exit 0,⟨[(3,.ref (.b k) ⟨1,16⟩ 0 (acc++l).length)],r.heap++[.arr (LW smL (acc++l)) ⟨1,16⟩]⟩)
 | .bad e p r=>some (.pan (.d (i7 e p)),⟨[],r.heap⟩)
def ROk (n:Nat) (ts:List Tok):Prop:=∀ r:Rd,r.ok→r.ts=ts→4 * (ts.length - r.i) + 2≤n→
 (∀ acc:List Sm,acc.length≤r.i→i9 T0 X0 r.heap.length G8 (some (.nrm,⟨[(0,.ptr (.b 0) 0 0),(3,.ref (.b r.heap.length) ⟨1,16⟩ 0 acc.length)],r.heap++[.arr (LW smL acc) ⟨1,16⟩]⟩))=Jq r.heap.length acc (Zs n r))∧(Zs n r).fineS r 0
def SOk (n:Nat) (ts:List Tok):Prop:=∀ r:Rd,r.ok→r.ts=ts→4 * (ts.length - r.i) + 1≤n→
 d5 T0 X0 o7 [.ptr (.b 0) 0 0] r.heap=(qft n r).out osO∧(qft n r).fineS r 0 ∧ ∀ s r',qft n r = .ok (some s) r'→r.i + 1≤r'.i
set_option maxHeartbeats 4000000 in
theorem qw5 {n:Nat} {ts:List Tok} (ihS:SOk n ts) (ihR:ROk n ts):ROk (n + 1) ts:=by
 intro r h ht hn;have hi:r.i < ts.length:=ht ▸ h.i;have hl:=h.n;have s0:=w7 h;unfold Zs
 by_cases c1:r.tok.kind=1
 case neg=>
  rw[if_neg c1];refine ⟨fun acc ha=>?_,KeptS.refl h,Nat.le_refl _⟩;rw[c9 (l:=G8) rfl];cases hly:r.ly
  all_goals
   simp only[Rd.heap,hly,Jq,Tok.cs,List.append_nil,List.length_cons,List.length_nil,List.cons_append,List.nil_append,Nat.reduceAdd] at s0 ⊢;generalize r.tok=t at *;simp -implicitDefEqProofs (disch:=omega) [N7,s0]
 rw[if_pos c1];obtain ⟨s1,f1,g1⟩:=ihS r h ht (by omega);have e1:=Rz.fineS_ly f1;rcases hb:qft n r with ⟨o,r1⟩ | ⟨e,p,r1⟩
 all_goals
  rw[hb] at s1 f1 e1;have e0:r1.ly=r.ly:=e1;clear e1
 case bad=>
  refine ⟨fun acc ha=>?_,f1⟩;rw[c9 (l:=G8) rfl];cases hly:r.ly
  all_goals
   simp only[Rd.heap,hly,e0,Rz.bind,Rz.out,Jq,i7,Tok.cs,List.append_nil,List.length_cons,List.length_nil,List.cons_append,List.nil_append,Nat.reduceAdd] at s0 s1 ⊢;generalize r.tok=t at *;simp -implicitDefEqProofs (disch:=omega) [N7,s0,s1]
 cases o with
 | none=>
   refine ⟨fun acc ha=>?_,f1⟩;rw[c9 (l:=G8) rfl];cases hly:r.ly
   all_goals
    simp only[Rd.heap,hly,e0,Rz.bind,Rz.out,osO,Jq,Tok.cs,List.append_nil,List.length_cons,List.length_nil,List.cons_append,List.nil_append,Nat.reduceAdd] at s0 s1 ⊢;generalize r.tok=t at *;simp -implicitDefEqProofs (disch:=omega) [N7,s0,s1]
 | some s=>
   have gi:=g1 s r1 hb;obtain ⟨lp,f2⟩:=ihR r1 f1.1.ok (f1.1.ts.trans ht) (by omega)
   have f3:((Zs n r1).bind fun l r2=>(.ok (s :: l) r2:Rz (List Sm))).fineS r 0:=by
    have f4:=Rz.fineS_kept f2 f1.1 (d:=0) (by omega)
    rcases hq:Zs n r1 with ⟨l,r2⟩ | ⟨e,p,r2⟩ <;> rw[hq] at f4 <;> exact f4
   refine ⟨fun acc ha=>?_,f3⟩;clear f3;have lp:=lp (acc++[s]) (by simp; omega);have e2:=(Rz.fineS_ly f2).trans e0
   have hre:Jq r1.heap.length (acc++[s]) (Zs n r1)=Jq r1.heap.length acc ((Zs n r1).bind fun l r2=>(.ok (s :: l) r2:Rz (List Sm))):=by
    rcases Zs n r1 with ⟨l,r2⟩ | ⟨e,p,r2⟩
    ·simp[Jq,Rz.bind]
    ·rfl
   rw[hre] at lp
   have hlen:r1.heap.length=r.heap.length:=by unfold Rd.heap; rw[e0]; cases r.ly <;> rfl
   rw[hlen] at lp;refine Eq.trans ?_ lp;clear lp hre
   have ha2:acc.length≤5000:=by rw[ht] at hl; omega
   rw[c9 (l:=G8) rfl];cases hly:r.ly
   all_goals
    simp only[Rd.heap,hly,e0,Rz.out,osO,Tok.cs,List.length_append,List.length_cons,List.length_nil,List.cons_append,List.nil_append,Nat.reduceAdd] at s0 s1 ⊢;generalize r.tok=t at *;simp -implicitDefEqProofs (disch:=omega) [N7,s0,s1]
theorem qmb {n:Nat} {ts:List Tok} (ih:ROk n ts) {r:Rd} (h:r.ok) (ht:r.ts=ts) (hn:4 * (ts.length - r.i) + 2≤n) :
 d5 T0 X0 WD [.ptr (.b 0) 0 0] r.heap=(Zs n r).out lsO:=by
 obtain ⟨lp,f1⟩:=ih r h ht hn;have lp:=lp [] (by simp);have e1:=Rz.fineS_ly f1;have hl:=h.n;rw[c8 (af:=kf) rfl rfl rfl];rcases hb:Zs n r with ⟨l,r1⟩ | ⟨e,p,r1⟩
 all_goals
  rw[hb] at lp e1;have e0:r1.ly=r.ly:=e1;clear e1;cases hly:r.ly
  all_goals
   simp only[Rd.heap,hly,e0,Jq,Rz.out,lsO,i7,List.append_nil,List.length_cons,List.length_nil,List.cons_append,List.nil_append,Nat.reduceAdd,qfr] at lp ⊢;simp -implicitDefEqProofs (disch:=omega) [kf,lp]
def BOk (n:Nat) (ts:List Tok):Prop:=∀ r:Rd,r.ok→r.ts=ts→4 * (ts.length - r.i) + 1≤n→
 d5 T0 X0 D7 [.ptr (.b 0) 0 0] r.heap=(Qr n r).out lsO∧(Qr n r).fineS r 1
theorem qnd {r:Rd} {s} (hin:r.into s=none):r.tok.kind=3∧r.op < 16:=by
 unfold Rd.into at hin;split at hin
 ·rename_i hk;split at hin
  ·rename_i ho; exact ⟨hk.1,ho⟩
  ·cases hin
 ·cases hin
set_option maxHeartbeats 4000000 in
theorem qz1 {n:Nat} {ts:List Tok} (ih:ROk n ts):BOk (n + 1) ts:=by
 intro r h ht hn;have hi:r.i < ts.length:=ht ▸ h.i;have hl:=h.n;rw[c8 (af:=K2) rfl rfl rfl];unfold Qr
 cases hin:r.into [123] with
 | some e=>
   have s1:=qhm h (by simp) hin;refine ⟨?_,rfl⟩;cases hly:r.ly
   all_goals
    simp only[Rd.heap,hly,Rz.out,i7] at s1 ⊢;simp -implicitDefEqProofs (disch:=omega) [K2,s1]
 | none=>
   have s1:=qhn h (by simp) hin;obtain ⟨hk,ho⟩:=qnd hin;have hop:=Rd.opened_ok h ho;have hni:r.opened.next.i=r.i + 1:=L8 (r:=r.opened) (by rw[show r.opened.tok=r.tok from rfl]; omega);have hno:=r.opened.next_op;have l1:r.opened.next.ly=r.ly:=(lys r.opened).1;have h1:=Rd.next_ok hop;have ht1:r.opened.next.ts=ts:=hno.2.1.trans ht;have s2:=qmb ih h1 ht1 (by omega);have f2:=(ih _ h1 ht1 (by omega)).2;have e2:=(Rz.fineS_ly f2).trans l1;simp only[];generalize r.opened.next=q at *;rcases hb:Zs n q with ⟨l,r1⟩ | ⟨e,p,r1⟩
   all_goals
    rw[hb] at s2 f2 e2;have e0:r1.ly=r.ly:=e2;clear e2
   case bad=>
    refine ⟨?_,e0⟩;cases hly:r.ly
    all_goals
     simp only[Rd.heap,hly,l1,e0,Rz.bind,Rz.out,i7] at s1 s2 ⊢;simp -implicitDefEqProofs (disch:=omega) [K2,s1,s2]
   obtain ⟨k2,k3⟩:=f2;simp only[Rz.bind]
   by_cases c:r1.isT [125]=true
   ·rw[if_pos c];have s3:=qmk k2.ok (by simp) c;have hni':=L8 (B4 c);have hno':=r1.next_op;have hop':r1.next.op=r.op + 1:=hno'.1.trans (k2.op.trans hno.1);have h16:=h.op;have l3:r1.next.closed.ly=r.ly:=(lys r1.next).2.2.trans ((lys r1).1.trans e0);refine ⟨?_,⟨Rd.closed_ok (Rd.next_ok k2.ok) (by omega),hno'.2.1.trans (k2.ts.trans (ht1.trans ht.symm)),hno'.2.2.trans (k2.vs.trans hno.2.2),by show r1.next.op - 1=r.op; omega,?_,l3⟩,?_⟩
    ·cases hly:r.ly
     all_goals
      simp only[Rd.heap,hly,l1,l3,e0,Rz.out,lsO] at s1 s2 s3 ⊢;simp -implicitDefEqProofs (disch:=omega) [K2,s1,s2,s3]
    ·show r.i≤r1.next.i;omega
    ·show r.i + 1≤r1.next.i;omega
   ·rw[if_neg c];have s3:=qg4 k2.ok (s:=[125]) (by simp) (by simpa using c);refine ⟨?_,e0⟩;cases hly:r.ly
    all_goals
     simp only[Rd.heap,hly,l1,e0,Rz.out,lsO,i7] at s1 s2 s3 ⊢;generalize r1.tok=t at *;simp -implicitDefEqProofs (disch:=omega) [K2,s1,s2,s3]
end Go.Rf
