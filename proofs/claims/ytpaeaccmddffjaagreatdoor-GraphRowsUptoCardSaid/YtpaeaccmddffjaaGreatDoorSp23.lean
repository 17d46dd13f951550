/- Parts of the proof. -/
import Derived.Test.YtpaeaccmddffjaaGreatDoorRb2
import Derived.Test.YtpaeaccmddffjaaGreatDoorSp20
import Derived.Test.YtpaeaccmddffjaaGreatDoorSp21
import Derived.Test.YtpaeaccmddffjaaGreatDoorSp22
set_option linter.all false
namespace Go.Rf
set_option maxHeartbeats 32000000
theorem qul {n:Nat} (hn:n≤16) {vs:List (List UInt8)} (hv:vs.length=n) {b e:List Sm} (ih:qff n b) (ih2:qff n e) (p pe:Pl) {x y:Nd} (hx:Xok vs x) (hy:Xok vs y) (q:Bool):StS n (.ife p x y q b pe e):=fun g a N h hN h0 h1=>by
 simp only[Sm.sz] at hN;have ho:=h.ol;have s1:=B0 g (by omega) h.il;have s2:=wv h.point (by omega) (f:=a) (t:=g.out.length) (by rw[po]; omega) (by rw[po]; omega) hn hv hx hy q true (.ife p x y q b pe e);have k1:=h.point.edge (tEd n a g.out.length x y q true p);obtain ⟨P,E,M,hc,s3⟩:=ih _ (g.out.length) _ k1 (by omega) (by omega) (by rw[eo,po]; omega);have k3:=M5 n b k1 (a:=g.out.length) (by omega) (by rw[eo,po]; omega);have le:=k3.le;rw[eo,po] at le;simp only[Sm.at_,Sm.bld] at s2 ⊢;generalize g.point.edge (tEd n a g.out.length x y q true p)=g1 at *;generalize Sms.bld n b g1 g.out.length=r at *;have lr:=k3.ok.ol;have ra0:=k3.a0;have ra1:=k3.a1;have s4:=B0 r.1 (by omega) k3.ok.il;have s5:=wv k3.ok.point (by omega) (f:=a) (t:=r.1.out.length) (by rw[po]; omega) (by rw[po]; omega) hn hv hx hy q false (.ife p x y q b pe e);have k5:=k3.ok.point.edge (tEd n a r.1.out.length x y q false p)
 have l5:(r.1.point.edge (tEd n a r.1.out.length x y q false p)).out.length=r.1.out.length + 1:=by rw[eo,po]
 simp only[Sm.at_] at s5;generalize r.1.point.edge (tEd n a r.1.out.length x y q false p)=g2 at *;obtain ⟨P2,E2,M2,hc2,s9⟩:=ih2 _ (r.1.out.length) _ k5 (by omega) (by omega) (by omega);have k9:=M5 n e k5 (a:=r.1.out.length) (by omega) (by omega);have le9:=k9.le;generalize Sms.bld n e g2 r.1.out.length=r2 at *;have lr2:=k9.ok.ol;have rb0:=k9.a0;have rb1:=k9.a1;have s6:=B0 r2.1 (by omega) k9.ok.il;have s7:=R8 k9.ok.point (by omega) (f:=r.2) (t:=r2.1.out.length) (by rw[po]; omega) (by rw[po]; omega) 1 (.ife p x y q b pe e);have k7:=k9.ok.point.edge { f:=r.2,t:=r2.1.out.length,k:=1,at_:=p }
 have l7:(r2.1.point.edge { f:=r.2,t:=r2.1.out.length,k:=1,at_:=p }).out.length=r2.1.out.length + 1:=by rw[eo,po]
 simp only[Sm.at_] at s7;generalize r2.1.point.edge { f:=r.2,t:=r2.1.out.length,k:=1,at_:=p } = g3 at *;have s8:=R8 k7 (by omega) (f:=r2.2) (t:=r2.1.out.length) (by omega) (by omega) 1 (.ife p x y q b pe e);simp only[Sm.at_] at s8;refine ⟨true,true,M || M2,.inl ⟨rfl,.inl rfl⟩,?_⟩;have hlb:=xE b;have hle:=xE e
 have K:IfC n p pe x y q b e P E M P2 E2 M2:=by
  cases P <;> cases E <;> (try (exfalso; simp at hc; done)) <;> cases M
  ·exact q2e n p pe x y q b e _ _ _ hc2
  ·exact q2d n p pe x y q b e _ _ _ hc2
  ·exact q2c n p pe x y q b e _ _ _ hc2
  ·exact q2b n p pe x y q b e _ _ _ hc2
  ·exact q2a n p pe x y q b e _ _ _ hc2
  ·exact q19 n p pe x y q b e _ _ _ hc2
 exact K g _ g1 _ g2 _ g3 _ r r2 a (by omega) (by omega) (by omega) (by omega) (by omega) s1 s2 s3 s4 s5 s9 s6 s7 s8
end Go.Rf
