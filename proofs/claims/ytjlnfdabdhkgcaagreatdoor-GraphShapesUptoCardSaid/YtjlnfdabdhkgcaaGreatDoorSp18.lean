/- Parts of the proof: SpQ6. -/
import Derived.Test.YtjlnfdabdhkgcaaGreatDoorRb2
import Derived.Test.YtjlnfdabdhkgcaaGreatDoorSp15

set_option linter.unusedSimpArgs false
set_option linter.unusedVariables false
set_option linter.unnecessarySimpa false
set_option linter.unusedSectionVars false
set_option linter.all false
namespace Go.Rf
set_option maxHeartbeats 32000000
theorem qlo {n:Nat} (hn:n≤16) {vs:List (List UInt8)} (hv:vs.length=n) {b:List Sm} (ih:qe9 n b) (p:Pl) {x y:Nd} (hx:Xok vs x) (hy:Xok vs y) (q:Bool):StS n (.while p x y q b):=fun g a N h hN h0 h1=>by
 simp only[Sm.sz] at hN;have ho:=h.ol;have s1:=B3 g (by omega) h.il;have hh:Gok (g.point.head p.b g.out.length) n (N + 1):=h.point.head _ _;have hpo:(g.point.head p.b g.out.length).out.length=g.out.length + 1:=po g;have s2:=U2 hh (by omega) (f:=a) (t:=g.out.length) (by rw[hpo]; omega) (by rw[hpo]; omega) 1 (.while p x y q b);have k1:=hh.edge { f:=a,t:=g.out.length,k:=1,at_:=p }
 have q1:(((g.point.head p.b g.out.length).edge { f:=a,t:=g.out.length,k:=1,at_:=p }).out.length:Int)=g.out.length + 1:=by rw[eo,hpo]; omega
 have s3:=B3 ((g.point.head p.b g.out.length).edge { f:=a,t:=g.out.length,k:=1,at_:=p }) (by rw[eo,hpo]; omega) k1.il;rw[q1] at s3;have s4:=wF k1.point (by omega) (f:=g.out.length) (t:=g.out.length + 1) (by rw[po,eo,hpo]; omega) (by rw[po,eo,hpo]; omega) hn hv hx hy q true (.while p x y q b);have k2:=k1.point.edge (tEd n g.out.length (g.out.length + 1) x y q true p);obtain ⟨p1,e1,m1,hc,s5⟩:=ih _ (g.out.length + 1) _ k2 (by omega) (by omega) (by rw[eo,po,eo,hpo]; omega);have k3:=U0 n b k2 (a:=g.out.length + 1) (by omega) (by rw[eo,po,eo,hpo]; omega);have le:=k3.le;rw[eo,po,eo,hpo] at le;have s6:=U2 k3.ok (by omega) (f:=_) (t:=g.out.length) ⟨k3.a0,k3.a1⟩ (by omega) 1 (.while p x y q b);simp only[Sm.at_,Sm.bld] at s2 s4 s6 ⊢;generalize hgh:g.point.head p.b g.out.length=gh at *;generalize gh.edge { f:=a,t:=g.out.length,k:=1,at_:=p } = g1 at *;generalize g1.point.edge (tEd n g.out.length (g.out.length + 1) x y q true p)=g2 at *;generalize Sms.bld n b g2 (g.out.length + 1)=r at *;have k4:=k3.ok.edge { f:=r.2,t:=g.out.length,k:=1,at_:=p };have s7:=B3 (r.1.edge { f:=r.2,t:=g.out.length,k:=1,at_:=p }) (by have:=k4.ol; omega) k4.il
 have le2:g.out.length + 1 < (r.1.edge { f:=r.2,t:=g.out.length,k:=1,at_:=p }).out.length:=by rw[eo]; omega
 generalize r.1.edge { f:=r.2,t:=g.out.length,k:=1,at_:=p } = g3 at *;have s8:=wF k4.point (by omega) (f:=g.out.length) (t:=g3.out.length) (by rw[po]; omega) (by rw[po]; omega) hn hv hx hy q false (.while p x y q b);simp only[Sm.at_] at s8;generalize g3.point.edge (tEd n g.out.length g3.out.length x y q false p)=g4 at *;generalize g1.point=g1p at *;generalize g3.point=g3p at *;refine ⟨true,true,m1,.inl ⟨rfl,.inl rfl⟩,?_⟩;show d5 T0 X0 C8 _ _=_;rw[a8 (af:=qp) rfl rfl rfl]
 have hd:(Sm.while p x y q b).d = .iface j8 (.agg [.int .i64 p.b,.int .i64 p.g,.int .i64 p.l,.int .i64 p.c,x.d,y.d,.bool q,.sl (LD smL b)]):=by simp only[Sm.d,Sms.d_LD]
 have hlb:=A9 b;simp only[hd,cD] at s2 s4 s6 s8 ⊢;have hpt:g.point.hd=g.hd:=rfl;have hgp:gh = { g.point with hd:=qkg g.point.hd p.b g.out.length }:=hgh.symm;generalize g.point=gp at *;clear k1 k2 k3 k4 ih hh hpo hpt hgh;subst hgp
 cases p1 <;> cases e1 <;> (try (exfalso; simp at hc; done)) <;> cases m1
 all_goals
  simp only[GH,j6,k8,List.cons_append,List.nil_append,List.append_nil] at s1 s2 s3 s4 s5 s6 s7 s8 ⊢;simp (maxSteps:=4000000) -implicitDefEqProofs (disch:=omega) [qp,s1,s2,s3,s4,s5,s6,s7,s8]
theorem qxd {n:Nat} (hn:n≤16) {vs:List (List UInt8)} (hv:vs.length=n) {b:List Sm} (ih:qe9 n b) (p:Pl) {x y:Nd} (hx:Xok vs x) (hy:Xok vs y) (q:Bool):StS n (.ifs p x y q b):=fun g a N h hN h0 h1=>by
 simp only[Sm.sz] at hN;have ho:=h.ol;have s1:=B3 g (by omega) h.il;have s2:=wF h.point (by omega) (f:=a) (t:=g.out.length) (by rw[po]; omega) (by rw[po]; omega) hn hv hx hy q true (.ifs p x y q b);have k1:=h.point.edge (tEd n a g.out.length x y q true p);obtain ⟨p1,e1,m1,hc,s3⟩:=ih _ (g.out.length) _ k1 (by omega) (by omega) (by rw[eo,po]; omega);have k3:=U0 n b k1 (a:=g.out.length) (by omega) (by rw[eo,po]; omega);have le:=k3.le;rw[eo,po] at le;simp only[Sm.at_,Sm.bld] at s2 ⊢;generalize g.point.edge (tEd n a g.out.length x y q true p)=g1 at *;generalize Sms.bld n b g1 g.out.length=r at *;have lr:=k3.ok.ol;have ra0:=k3.a0;have ra1:=k3.a1;have s4:=B3 r.1 (by omega) k3.ok.il;have s5:=wF k3.ok.point (by omega) (f:=a) (t:=r.1.out.length) (by rw[po]; omega) (by rw[po]; omega) hn hv hx hy q false (.ifs p x y q b);have k5:=k3.ok.point.edge (tEd n a r.1.out.length x y q false p)
 have l5:(r.1.point.edge (tEd n a r.1.out.length x y q false p)).out.length=r.1.out.length + 1:=by rw[eo,po]
 simp only[Sm.at_] at s5;generalize r.1.point.edge (tEd n a r.1.out.length x y q false p)=g2 at *;have s6:=B3 g2 (by have:=k5.ol; omega) k5.il;have s7:=U2 k5.point (by omega) (f:=r.2) (t:=g2.out.length) (by rw[po]; omega) (by rw[po]; omega) 1 (.ifs p x y q b);have k7:=k5.point.edge { f:=r.2,t:=g2.out.length,k:=1,at_:=p }
 have l7:(g2.point.edge { f:=r.2,t:=g2.out.length,k:=1,at_:=p }).out.length=g2.out.length + 1:=by rw[eo,po]
 simp only[Sm.at_] at s7;generalize g2.point.edge { f:=r.2,t:=g2.out.length,k:=1,at_:=p } = g3 at *;have s8:=U2 k7 (by omega) (f:=r.1.out.length) (t:=g2.out.length) (by omega) (by omega) 1 (.ifs p x y q b);simp only[Sm.at_] at s8;generalize g3.edge { f:=r.1.out.length,t:=g2.out.length,k:=1,at_:=p } = g4 at *;generalize g.point=gp at *;generalize r.1.point=rp at *;generalize g2.point=g2p at *;refine ⟨true,true,m1,.inl ⟨rfl,.inl rfl⟩,?_⟩;show d5 T0 X0 x7 _ _=_;rw[a8 (af:=j5) rfl rfl rfl]
 have hd:(Sm.ifs p x y q b).d = .iface n7 (.agg [.int .i64 p.b,.int .i64 p.g,.int .i64 p.l,.int .i64 p.c,x.d,y.d,.bool q,.sl (LD smL b),.nilp]):=by simp only[Sm.d,Sms.d_LD]
 have hlb:=A9 b;simp only[hd,cD] at s2 s5 s7 s8 ⊢;clear k1 k3 k5 k7 ih
 cases p1 <;> cases e1 <;> (try (exfalso; simp at hc; done)) <;> cases m1
 all_goals
  simp only[GH,j6,k8,List.cons_append,List.nil_append,List.append_nil] at s1 s2 s3 s4 s5 s6 s7 s8 ⊢;simp (maxSteps:=4000000) -implicitDefEqProofs (disch:=omega) [j5,s1,s2,s3,s4,s5,s6,s7,s8]
end Go.Rf
