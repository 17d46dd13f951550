/- Parts of the proof. -/
import Derived.Test.YtpaeaccmddffjaaGreatDoorRb2
import Derived.Test.YtpaeaccmddffjaaGreatDoorSp14
set_option linter.all false
namespace Go.Rf
set_option maxHeartbeats 8000000
section
variable {g:Gb} {n N:Nat} (h:Gok g n N) (hN:N≤900000) {a:Int} (ha:0≤a∧a < g.out.length)
include h hN ha
theorem qws (hn:n≤16) {vs:List (List UInt8)} (hv:vs.length=n) (p:Pl) (v:Int) (s:List UInt8) (e:Option Nd) (hx:oX vs e):d6 T0 X0 I0 [.ptr (.b 0) 0 0,.d (Sm.set p v s e).d,.d (.int .i64 a)] (GH g false false false)=some (.ret [.d (.int .i64 ((Sm.set p v s e).bld n g a).2)] (GH ((Sm.set p v s e).bld n g a).1 true true false)):=by
 have ho:=h.ol;have s1:=B0 g (by omega) h.il
 have hb:0≤a∧a < g.point.out.length:=by rw[qia h hN ha]; omega
 have hb2:0≤(g.out.length:Int)∧(g.out.length:Int) < g.point.out.length:=by rw[qia h hN ha]; omega
 have hvs:=h.vs;rw[c9 (af:=M4) rfl rfl rfl]
 cases e with
 | none=>
   have s2:=Jz h.point (by omega) { f:=a,t:=g.out.length,k:=3,v,at_:=p } hb hb2;simp only[Sm.bld,Ed.cs,WL,List.map_nil,oD,Sm.d] at s2 ⊢;generalize (g.point.edge { f:=a,t:=g.out.length,k:=3,v,at_:=p })=g' at *;generalize g.point=g1 at *;simp only[GH,j3,j7,List.cons_append,List.nil_append,List.append_nil] at s1 s2 ⊢;simp (maxSteps:=4000000) -implicitDefEqProofs (disch:=omega) [M4,s1,s2]
 | some x=>
   have hx:Xok vs x:=hx;have s3:=QI n hn x (hv ▸ hx.fine) (by have:=hx.w; omega)
   have hF:(q8 n x).1.length≤n + 1 ∧ ∀ y∈(q8 n x).1,nl y < 134217728:=by
    rcases jR n x (hv ▸ hx.fine) with ⟨e,_⟩ | sh
    ·rw[e]; exact ⟨by simp,fun y hy=>by cases hy⟩
    ·have hl:=sh.l;refine ⟨by omega,fun y hy=>?_⟩;obtain ⟨i,hi⟩:=List.getElem?_of_mem hy;have hlt:=(List.getElem?_eq_some_iff.1 hi).1;have:=sh.b i (by omega)
     have e:nth (q8 n x).1 i=y:=by simp[nth,List.getD_eq_getElem?_getD,hi]
     rw[e] at this;have:=hx.w;omega
   have hv1:g.point.vs.length=n:=h.vs;have s4:=qnz (F:=(q8 n x).1) (by omega) hF.2;have hF1:=hF.1;clear hF;simp only[Sm.bld]
   by_cases hf:(q8 n x).2=true
   ·rw[if_pos hf];rw[hf] at s3;have hg2:Gok { g.point with long:=g.long || zp (q8 n x).1 } n (N + 1):=⟨h.point.vs,h.point.ol,h.point.il,h.point.el,h.point.os,h.point.is,h.point.ml,h.point.dl⟩;have s2:=Jz hg2 (by omega) { f:=a,t:=g.out.length,k:=2,v,row:=(q8 n x).1,at_:=p,x:=some x } hb hb2;simp only[Ed.cs,oD,Sm.d] at s2 ⊢;have hgl:g.point.long=g.long:=rfl;generalize { g.point with long:=g.long || zp (q8 n x).1 }.edge { f:=a,t:=g.out.length,k:=2,v,row:=(q8 n x).1,at_:=p,x:=some x } = g' at *;generalize (q8 n x).1=F at *;generalize g.point=g1 at *
    cases hlo:g.long <;> cases hlv:zp F
    all_goals
     rw[hlv] at s4;simp only[GH,j3,j7,List.cons_append,List.nil_append,List.append_nil,hlo,hlv,hgl,Bool.or_true,Bool.or_false,Bool.true_or,Bool.false_or] at s1 s2 ⊢;simp (maxSteps:=4000000) -implicitDefEqProofs (disch:=omega) [M4,s1,s2,s3,s4,hv1,hlo]
   ·rw[if_neg hf]
    have hf:(q8 n x).2=false:=by simpa using hf
    rw[hf] at s3;have s2:=Jz h.point (by omega) { f:=a,t:=g.out.length,k:=4,v,at_:=p,x:=some x } hb hb2;simp only[Ed.cs,oD,Sm.d,WL,List.map_nil] at s2 ⊢;generalize (g.point.edge { f:=a,t:=g.out.length,k:=4,v,at_:=p,x:=some x })=g' at *;generalize (q8 n x).1=F at *;generalize g.point=g1 at *;simp only[GH,j3,j7,List.cons_append,List.nil_append,List.append_nil] at s1 s2 ⊢;simp (maxSteps:=4000000) -implicitDefEqProofs (disch:=omega) [M4,s1,s2,s3,hv1]
end
end Go.Rf
