/- Parts of the proof: SpM6, SpM7. -/
import Derived.Test.YtjlnfdabdhkgcaaGreatDoorRb2
import Derived.Test.YtjlnfdabdhkgcaaGreatDoorSp8

set_option linter.unusedSimpArgs false
set_option linter.unusedVariables false
set_option linter.unnecessarySimpa false
set_option linter.unusedSectionVars false
set_option linter.all false
namespace Go.Rf
def Rd.named (r:Rd) (s:List UInt8):Rd:={ r with ms:=r.ms++[s] }
theorem qkv {r:Rd} (h:r.ok) (s):(r.named s).ok:=⟨h.i,h.n,h.mid,h.fin,h.vs,h.op,h.tx,h.tv,h.ly⟩
def Rd.mark (r:Rd) (p:Pl):Rz Sm:=
 if r.isName=false then .bad 80 r.tok.pos r else if wP r.tok.text=false then .bad 42 r.tok.pos r else if r.tok.text∈r.ms then .bad 82 r.tok.pos r
 else (r.named r.tok.text).next.semi (.mark p r.tok.text)
set_option maxHeartbeats 4000000 in
theorem qsl {r:Rd} (h:r.ok) (p:Pl) :
 d5 T0 X0 vf [.ptr (.b 0) 0 0,.d (.agg p.cs)] r.heap=(r.mark p).out smO∧(r.mark p).fineS r 1:=by
 have s0:=w7 h;have htx:=X8 h;have s1:=B7 h;have s2:=XP _ htx;have n1:=C7 r 80;have n2:=C7 r 42;have n3:=C7 r 82;rw[a8 (af:=F4) rfl rfl rfl];unfold Rd.mark
 by_cases c1:r.isName=false
 ·rw[if_pos c1];refine ⟨?_,rfl⟩;have n4:=H4 h 80;rw[c1] at s1;cases hly:r.ly
  all_goals
   simp only[Rd.heap,hly,i7,Rz.out,Pl.cs] at s1 n4 ⊢;simp -implicitDefEqProofs (disch:=omega) [F4,s1,n4]
 rw[if_neg c1]
 have c1':r.isName=true:=by simpa using c1
 rw[c1'] at s1
 by_cases c2:wP r.tok.text=false
 ·rw[if_pos c2];refine ⟨?_,rfl⟩;have n4:=H4 h 42;rw[c2] at s2;cases hly:r.ly
  all_goals
   simp only[Rd.heap,hly,i7,Tok.cs,Rz.out,Pl.cs] at s0 s1 n1 n4 ⊢;generalize r.tok=t at *;simp -implicitDefEqProofs (disch:=omega) [F4,s0,s1,s2,n1,n4]
 rw[if_neg c2];rw[show wP r.tok.text=true by simpa using c2] at s2
 by_cases c3:r.tok.text∈r.ms
 ·rw[if_pos c3];refine ⟨?_,rfl⟩;have n4:=H4 h 82;cases hly:r.ly
  all_goals
   simp only[Rd.heap,hly,i7,Tok.cs,Rz.out,Pl.cs] at s0 s1 n1 n2 n4 ⊢;generalize r.tok=t at *;simp -implicitDefEqProofs (disch:=omega) [F4,s0,s1,s2,n1,n2,n4,c3]
 rw[if_neg c3];have hN:=qkv h r.tok.text;have s4:=Y1 hN;have htk:(r.named r.tok.text).tok=r.tok:=rfl;have h1:=Rd.next_ok hN;have i1:(r.named r.tok.text).next.i=r.i + 1:=K6 (r:=r.named r.tok.text) (by rw[htk]; unfold Rd.isName at c1'; simp at c1'; omega);have k1:KeptS r (r.named r.tok.text).next:=⟨h1,(Rd.next_op _).2.1,(Rd.next_op _).2.2,(Rd.next_op _).1,by omega,(lys _).1⟩;refine ⟨?_,Rz.fineS_kept (Jv h1 _) k1 (by omega)⟩;have hp:=qz5 c3;have l0:(r.named r.tok.text).ly=r.ly:=rfl;have l1:=k1.ly;rw[htk] at s4;have hm:(r.named r.tok.text).ms=r.ms++[r.tok.text]:=rfl;have hm2:(r.named r.tok.text).ts=r.ts∧(r.named r.tok.text).i=r.i∧(r.named r.tok.text).vs=r.vs∧(r.named r.tok.text).op=r.op:=⟨rfl,rfl,rfl,rfl⟩;generalize r.named r.tok.text=q at *;unfold Rd.semi
 by_cases c4:q.next.isT [59]=true
 ·rw[if_pos c4];have n4:=qd h1 (by simp) c4;have l4:=(lys q.next).1.trans l1;cases hly:r.ly
  all_goals
   simp only[Rd.heap,hly,l0,l1,l4,hm,hm2,Rz.out,smO,Sm.d,Tok.cs,Pl.cs] at s0 s1 s4 n1 n2 n3 n4 ⊢;generalize r.tok=t at *;simp -implicitDefEqProofs (disch:=omega) [F4,s0,s1,s2,s4,n1,n2,n3,n4,c3,hp]
 ·rw[if_neg c4];have n4:=U4 h1 (s:=[59]) (by simp) (by simpa using c4);cases hly:r.ly
  all_goals
   simp only[Rd.heap,hly,l0,l1,hm,hm2,Rz.out,i7,Tok.cs,Pl.cs] at s0 s1 s4 n1 n2 n3 n4 ⊢;generalize q.next.tok=t2 at *;generalize r.tok=t at *;simp -implicitDefEqProofs (disch:=omega) [F4,s0,s1,s2,s4,n1,n2,n3,n4,c3,hp]
end Go.Rf

namespace Go.Rf
mutual
def QH:Nat→Rd→Rz (List Sm)
 | 0,r=>.bad 80 n0 r
 | n + 1,r=>if r.tok.kind=1 then (qei n r).bind fun o r1=>(match o with
   | none=>.ok [] r1
   | some s=>(QH n r1).bind fun l r2=>.ok (s :: l) r2) else .ok [] r
def vK:Nat→Rd→Rz (List Sm)
 | 0,r=>.bad 80 n0 r
 | n + 1,r=>match r.into [123] with
   | some e=>.bad e r.tok.pos r
   | none=>(QH n r.opened.next).bind fun l r1=>if r1.isT [125]=true then .ok l r1.next.closed else .bad 80 r1.tok.pos r1
def JU:Nat→Rd→Rz (List Bl)
 | 0,r=>.bad 80 n0 r
 | n + 1,r=>if r.isT [111,114]=true then (vK n r.next).bind fun l r1=>(JU n r1).bind fun bs r2=>.ok (.mk r.tok.pos l :: bs) r2 else .ok [] r
def qei:Nat→Rd→Rz (Option Sm)
 | 0,r=>.bad 80 n0 r
 | n + 1,r=>
   if r.isName=true then (r.assign r.tok.pos).bind fun s r1=>.ok (some s) r1
   else if r.isT [115,107,105,112]=true then r.next.semi (some (.skip r.tok.pos))
   else if r.isT [115,116,111,112]=true then r.next.semi (some (.stop r.tok.pos))
   else if r.isT [109,97,114,107]=true then (r.next.mark r.tok.pos).bind fun s r1=>.ok (some s) r1
   else if r.isT [99,104,111,111,115,101]=true then (vK n r.next).bind fun l r1=>(JU n r1).bind fun bs r2=>.ok (some (.choose r.tok.pos (.mk r.tok.pos l :: bs))) r2
   else if r.isT [108,111,111,112]=true then (vK n r.next).bind fun l r1=>.ok (some (.loop r.tok.pos l)) r1
   else if r.isT [105,102]=true then r.next.cond.bind fun c r1=>(vK n r1).bind fun l r2=>
    if r2.isT [101,108,115,101]=true then (vK n r2.next).bind fun e r3=>.ok (some (.ife r.tok.pos c.1 c.2.1 c.2.2 l r2.tok.pos e)) r3 else .ok (some (.ifs r.tok.pos c.1 c.2.1 c.2.2 l)) r2
   else if r.isT [119,104,105,108,101]=true then r.next.cond.bind fun c r1=>(vK n r1).bind fun l r2=>.ok (some (.while r.tok.pos c.1 c.2.1 c.2.2 l)) r2
   else .ok none r
end
def lsO (l:List Sm):List V:=[.d (.sl (LD smL l))]
def osO:Option Sm→List V
 | some s=>[.d s.d,.d (.bool true)]
 | none=>[.d .nili,.d (.bool false)]
def Xy (k:Nat) (acc:List Sm):Rz (List Sm)→Option (Ex × St)
 | .ok l r=>some (.exit 0,⟨[(3,.ref (.b k) ⟨1,16⟩ 0 (acc++l).length)],r.heap++[.arr (LW smL (acc++l)) ⟨1,16⟩]⟩)
 | .bad e p r=>some (.pan (.d (i7 e p)),⟨[],r.heap⟩)
def ROk (n:Nat) (ts:List Tok):Prop:=∀ r:Rd,r.ok→r.ts=ts→4 * (ts.length - r.i) + 2≤n→
 (∀ acc:List Sm,acc.length≤r.i→j0 T0 X0 r.heap.length G4 (some (.nrm,⟨[(0,.ptr (.b 0) 0 0),(3,.ref (.b r.heap.length) ⟨1,16⟩ 0 acc.length)],r.heap++[.arr (LW smL acc) ⟨1,16⟩]⟩))=Xy r.heap.length acc (QH n r))∧(QH n r).fineS r 0
def SOk (n:Nat) (ts:List Tok):Prop:=∀ r:Rd,r.ok→r.ts=ts→4 * (ts.length - r.i) + 1≤n→
 d5 T0 X0 o7 [.ptr (.b 0) 0 0] r.heap=(qei n r).out osO∧(qei n r).fineS r 0 ∧ ∀ s r',qei n r = .ok (some s) r'→r.i + 1≤r'.i
set_option maxHeartbeats 4000000 in
theorem qve {n:Nat} {ts:List Tok} (ihS:SOk n ts) (ihR:ROk n ts):ROk (n + 1) ts:=by
 intro r h ht hn;have hi:r.i < ts.length:=ht ▸ h.i;have hl:=h.n;have s0:=w7 h;unfold QH
 by_cases c1:r.tok.kind=1
 case neg=>
  rw[if_neg c1];refine ⟨fun acc ha=>?_,KeptS.refl h,Nat.le_refl _⟩;rw[c9 (l:=G4) rfl];cases hly:r.ly
  all_goals
   simp only[Rd.heap,hly,Xy,Tok.cs,List.append_nil,List.length_cons,List.length_nil,List.cons_append,List.nil_append,Nat.reduceAdd] at s0 ⊢;generalize r.tok=t at *;simp -implicitDefEqProofs (disch:=omega) [M0,s0]
 rw[if_pos c1];obtain ⟨s1,f1,g1⟩:=ihS r h ht (by omega);have e1:=Rz.fineS_ly f1;rcases hb:qei n r with ⟨o,r1⟩ | ⟨e,p,r1⟩
 all_goals
  rw[hb] at s1 f1 e1;have e0:r1.ly=r.ly:=e1;clear e1
 case bad=>
  refine ⟨fun acc ha=>?_,f1⟩;rw[c9 (l:=G4) rfl];cases hly:r.ly
  all_goals
   simp only[Rd.heap,hly,e0,Rz.bind,Rz.out,Xy,i7,Tok.cs,List.append_nil,List.length_cons,List.length_nil,List.cons_append,List.nil_append,Nat.reduceAdd] at s0 s1 ⊢;generalize r.tok=t at *;simp -implicitDefEqProofs (disch:=omega) [M0,s0,s1]
 cases o with
 | none=>
   refine ⟨fun acc ha=>?_,f1⟩;rw[c9 (l:=G4) rfl];cases hly:r.ly
   all_goals
    simp only[Rd.heap,hly,e0,Rz.bind,Rz.out,osO,Xy,Tok.cs,List.append_nil,List.length_cons,List.length_nil,List.cons_append,List.nil_append,Nat.reduceAdd] at s0 s1 ⊢;generalize r.tok=t at *;simp -implicitDefEqProofs (disch:=omega) [M0,s0,s1]
 | some s=>
   have gi:=g1 s r1 hb;obtain ⟨lp,f2⟩:=ihR r1 f1.1.ok (f1.1.ts.trans ht) (by omega)
   have f3:((QH n r1).bind fun l r2=>(.ok (s :: l) r2:Rz (List Sm))).fineS r 0:=by
    have f4:=Rz.fineS_kept f2 f1.1 (d:=0) (by omega)
    rcases hq:QH n r1 with ⟨l,r2⟩ | ⟨e,p,r2⟩ <;> rw[hq] at f4 <;> exact f4
   refine ⟨fun acc ha=>?_,f3⟩;clear f3;have lp:=lp (acc++[s]) (by simp; omega);have e2:=(Rz.fineS_ly f2).trans e0
   have hre:Xy r1.heap.length (acc++[s]) (QH n r1)=Xy r1.heap.length acc ((QH n r1).bind fun l r2=>(.ok (s :: l) r2:Rz (List Sm))):=by
    rcases QH n r1 with ⟨l,r2⟩ | ⟨e,p,r2⟩
    ·simp[Xy,Rz.bind]
    ·rfl
   rw[hre] at lp
   have hlen:r1.heap.length=r.heap.length:=by unfold Rd.heap; rw[e0]; cases r.ly <;> rfl
   rw[hlen] at lp;refine Eq.trans ?_ lp;clear lp hre
   have ha2:acc.length≤5000:=by rw[ht] at hl; omega
   rw[c9 (l:=G4) rfl];cases hly:r.ly
   all_goals
    simp only[Rd.heap,hly,e0,Rz.out,osO,Tok.cs,List.length_append,List.length_cons,List.length_nil,List.cons_append,List.nil_append,Nat.reduceAdd] at s0 s1 ⊢;generalize r.tok=t at *;simp -implicitDefEqProofs (disch:=omega) [M0,s0,s1]
theorem qkc {n:Nat} {ts:List Tok} (ih:ROk n ts) {r:Rd} (h:r.ok) (ht:r.ts=ts) (hn:4 * (ts.length - r.i) + 2≤n) :
 d5 T0 X0 YL [.ptr (.b 0) 0 0] r.heap=(QH n r).out lsO:=by
 obtain ⟨lp,f1⟩:=ih r h ht hn;have lp:=lp [] (by simp);have e1:=Rz.fineS_ly f1;have hl:=h.n;rw[a8 (af:=jE) rfl rfl rfl];rcases hb:QH n r with ⟨l,r1⟩ | ⟨e,p,r1⟩
 all_goals
  rw[hb] at lp e1;have e0:r1.ly=r.ly:=e1;clear e1;cases hly:r.ly
  all_goals
   simp only[Rd.heap,hly,e0,Xy,Rz.out,lsO,i7,List.append_nil,List.length_cons,List.length_nil,List.cons_append,List.nil_append,Nat.reduceAdd,qeg] at lp ⊢;simp -implicitDefEqProofs (disch:=omega) [jE,lp]
def BOk (n:Nat) (ts:List Tok):Prop:=∀ r:Rd,r.ok→r.ts=ts→4 * (ts.length - r.i) + 1≤n→
 d5 T0 X0 C4 [.ptr (.b 0) 0 0] r.heap=(vK n r).out lsO∧(vK n r).fineS r 1
theorem qli {r:Rd} {s} (hin:r.into s=none):r.tok.kind=3∧r.op < 16:=by
 unfold Rd.into at hin;split at hin
 ·rename_i hk;split at hin
  ·rename_i ho; exact ⟨hk.1,ho⟩
  ·cases hin
 ·cases hin
set_option maxHeartbeats 4000000 in
theorem qyd {n:Nat} {ts:List Tok} (ih:ROk n ts):BOk (n + 1) ts:=by
 intro r h ht hn;have hi:r.i < ts.length:=ht ▸ h.i;have hl:=h.n;rw[a8 (af:=J0) rfl rfl rfl];unfold vK
 cases hin:r.into [123] with
 | some e=>
   have s1:=qga h (by simp) hin;refine ⟨?_,rfl⟩;cases hly:r.ly
   all_goals
    simp only[Rd.heap,hly,Rz.out,i7] at s1 ⊢;simp -implicitDefEqProofs (disch:=omega) [J0,s1]
 | none=>
   have s1:=qgb h (by simp) hin;obtain ⟨hk,ho⟩:=qli hin;have hop:=Rd.opened_ok h ho;have hni:r.opened.next.i=r.i + 1:=K6 (r:=r.opened) (by rw[show r.opened.tok=r.tok from rfl]; omega);have hno:=r.opened.next_op;have l1:r.opened.next.ly=r.ly:=(lys r.opened).1;have h1:=Rd.next_ok hop;have ht1:r.opened.next.ts=ts:=hno.2.1.trans ht;have s2:=qkc ih h1 ht1 (by omega);have f2:=(ih _ h1 ht1 (by omega)).2;have e2:=(Rz.fineS_ly f2).trans l1;simp only[];generalize r.opened.next=q at *;rcases hb:QH n q with ⟨l,r1⟩ | ⟨e,p,r1⟩
   all_goals
    rw[hb] at s2 f2 e2;have e0:r1.ly=r.ly:=e2;clear e2
   case bad=>
    refine ⟨?_,e0⟩;cases hly:r.ly
    all_goals
     simp only[Rd.heap,hly,l1,e0,Rz.bind,Rz.out,i7] at s1 s2 ⊢;simp -implicitDefEqProofs (disch:=omega) [J0,s1,s2]
   obtain ⟨k2,k3⟩:=f2;simp only[Rz.bind]
   by_cases c:r1.isT [125]=true
   ·rw[if_pos c];have s3:=qkk k2.ok (by simp) c;have hni':=K6 (A8 c);have hno':=r1.next_op;have hop':r1.next.op=r.op + 1:=hno'.1.trans (k2.op.trans hno.1);have h16:=h.op;have l3:r1.next.closed.ly=r.ly:=(lys r1.next).2.2.trans ((lys r1).1.trans e0);refine ⟨?_,⟨Rd.closed_ok (Rd.next_ok k2.ok) (by omega),hno'.2.1.trans (k2.ts.trans (ht1.trans ht.symm)),hno'.2.2.trans (k2.vs.trans hno.2.2),by show r1.next.op - 1=r.op; omega,?_,l3⟩,?_⟩
    ·cases hly:r.ly
     all_goals
      simp only[Rd.heap,hly,l1,l3,e0,Rz.out,lsO] at s1 s2 s3 ⊢;simp -implicitDefEqProofs (disch:=omega) [J0,s1,s2,s3]
    ·show r.i≤r1.next.i;omega
    ·show r.i + 1≤r1.next.i;omega
   ·rw[if_neg c];have s3:=qfv k2.ok (s:=[125]) (by simp) (by simpa using c);refine ⟨?_,e0⟩;cases hly:r.ly
    all_goals
     simp only[Rd.heap,hly,l1,e0,Rz.out,lsO,i7] at s1 s2 s3 ⊢;generalize r1.tok=t at *;simp -implicitDefEqProofs (disch:=omega) [J0,s1,s2,s3]
end Go.Rf
