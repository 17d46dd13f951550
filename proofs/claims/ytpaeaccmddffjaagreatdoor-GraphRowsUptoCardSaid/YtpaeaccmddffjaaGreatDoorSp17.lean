/- Parts of the proof. -/
import Derived.Test.YtpaeaccmddffjaaGreatDoorRb2
import Derived.Test.YtpaeaccmddffjaaGreatDoorSp16
set_option linter.all false
namespace Go.Rf
set_option maxHeartbeats 32000000
theorem qhd {n:Nat}:∀ (rest pre:List Sm) (g:Gb) (a:Int) (N:Nat),(∀ s∈rest,StS n s)→Gok g n N→N + 10 * Sms.sz rest≤900000→0≤a→a < g.out.length→(pre++rest).length≤1000000→∀ (p0 e0 m0:Bool),(e0=true→p0=true)→∀ (e:List (Nat × V)),
 ∃ p e' m,(e'=true→p=true)∧j6 T0 X0 9 N3 (some (.nrm,⟨(0,.ptr (.b 0) 0 0) :: (2,.d (.int .i64 a)) :: (9,.d (.sl (LD smL (pre++rest)))) :: (10,.d (.int .i64 (pre++rest).length)) :: (11,.d (.int .i64 pre.length)) :: e,GH g p0 e0 m0⟩)) =
   some (.exit 0,⟨[(2,.d (.int .i64 (Sms.bld n rest g a).2))],GH (Sms.bld n rest g a).1 p e' m⟩)
 | [],pre,g,a,N,_,h,hN,h0,h1,hl,p0,e0,m0,hc,e=>by
   refine ⟨p0,e0,m0,hc,?_⟩;rw[d5 (l:=N3) rfl];simp only[Sms.bld,List.append_nil] at *
   cases p0 <;> cases e0 <;> cases m0
   all_goals first
    | (exfalso; simp at hc; done)
    | (simp only[GH,j3,j7,List.cons_append,List.nil_append,List.append_nil]
       simp -implicitDefEqProofs (disch:=omega) [N4]
       done)
 | s :: rest,pre,g,a,N,hs,h,hN,h0,h1,hl,p0,e0,m0,hc,e=>by
   simp only[Sms.sz,Sms.bld] at *;obtain ⟨p1,e1,m1,hc1,one⟩:=qy6 (hs s (List.mem_cons_self ..)) pre rest g a h (by omega) h0 h1 hl p0 e0 m0 hc [];have k:=qwq n s (h.start s.at_.b a) h0 h1;obtain ⟨p2,e2,m2,hc2,two⟩:=qhd rest (pre++[s]) (s.bld n (g.start s.at_.b a) a).1 (s.bld n (g.start s.at_.b a) a).2 _ (fun x hx=>hs x (List.mem_cons_of_mem _ hx)) k.ok (by omega) k.a0 k.a1 (by simpa using hl) p1 e1 m1 hc1 [];refine ⟨p2,e2,m2,hc2,?_⟩
   have el:pre++[s]++rest=pre++s :: rest:=by simp
   have e3:(pre++[s]).length=pre.length + 1:=by simp
   rw[el,e3] at two;simp only[Int.natCast_add,Int.cast_ofNat_Int] at two;rw[d5 (l:=N3) rfl,← two];generalize s.bld n (g.start s.at_.b a) a=r at *;generalize (pre++s :: rest).length=M at *;clear two hs k
   cases p0 <;> cases e0 <;> cases m0 <;> (try (exfalso; simp at hc; done)) <;> cases p1 <;> cases e1 <;> cases m1 <;> (try (exfalso; simp at hc1; done))
   all_goals
    simp only[GH,j3,j7,List.cons_append,List.nil_append,List.append_nil] at one ⊢;simp (maxSteps:=4000000) -implicitDefEqProofs (disch:=omega) [one]
theorem ZK {n:Nat} {l:List Sm} (hs:∀ s∈l,StS n s):qff n l:=fun g a N h hN h0 h1=>by
 have hl:=xE l;obtain ⟨p,e,m,hc,lp⟩:=qhd l [] g a N hs h hN h0 h1 (by simp; omega) false false false (by simp) [];refine ⟨p,e,m,hc,?_⟩;rw[c9 (af:=zB) rfl rfl rfl];simp only[List.nil_append,List.length_nil] at lp;generalize Sms.bld n l g a=r at *
 cases p <;> cases e <;> cases m
 all_goals first
  | (exfalso; simp at hc; done)
  | (simp only[GH,j3,j7,List.cons_append,List.nil_append,List.append_nil,Int.cast_ofNat_Int] at lp ⊢
     simp (maxSteps:=4000000) -implicitDefEqProofs (disch:=omega) [zB,lp]
     done)
theorem qpz {n:Nat} {b:List Sm} (ih:qff n b) (p:Pl):StS n (.loop p b):=fun g a N h hN h0 h1=>by
 simp only[Sm.sz] at hN;have ho:=h.ol;have s1:=B0 g (by omega) h.il;have s2:=R8 h.point (by omega) (f:=a) (t:=g.out.length) (by rw[po]; omega) (by rw[po]; omega) 1 (.loop p b);have k1:=h.point.edge { f:=a,t:=g.out.length,k:=1,at_:=p }
 have q1:((g.point.edge { f:=a,t:=g.out.length,k:=1,at_:=p }).out.length:Int)=g.out.length + 1:=by rw[eo,po]; omega
 have s3:=B0 (g.point.edge { f:=a,t:=g.out.length,k:=1,at_:=p }) (by rw[eo,po]; omega) k1.il;rw[q1] at s3;have s4:=YV k1.point (by omega) (f:=g.out.length) (t:=g.out.length + 1) (by rw[po,eo,po]; omega) (by rw[po,eo,po]; omega) 1 2 (.loop p b);have k2:=k1.point.edge { f:=g.out.length,t:=g.out.length + 1,k:=5,tk:=1,mn:=2,at_:=p };obtain ⟨p1,e1,m1,hc,s5⟩:=ih _ (g.out.length + 1) _ k2 (by omega) (by omega) (by rw[eo,po,eo,po]; omega);have k3:=M5 n b k2 (a:=g.out.length + 1) (by omega) (by rw[eo,po,eo,po]; omega);have le:=k3.le;rw[eo,po,eo,po] at le;have s6:=R8 k3.ok (by omega) (f:=_) (t:=g.out.length) ⟨k3.a0,k3.a1⟩ (by omega) 1 (.loop p b);simp only[Sm.at_,Sm.bld] at s2 s4 s6 ⊢;generalize g.point.edge { f:=a,t:=g.out.length,k:=1,at_:=p } = g1 at *;generalize g1.point.edge { f:=g.out.length,t:=g.out.length + 1,k:=5,tk:=1,mn:=2,at_:=p } = g2 at *;generalize Sms.bld n b g2 (g.out.length + 1)=r at *;have k4:=k3.ok.edge { f:=r.2,t:=g.out.length,k:=1,at_:=p };have s7:=B0 (r.1.edge { f:=r.2,t:=g.out.length,k:=1,at_:=p }) (by have:=k4.ol; omega) k4.il
 have le2:g.out.length + 1 < (r.1.edge { f:=r.2,t:=g.out.length,k:=1,at_:=p }).out.length:=by rw[eo]; omega
 generalize r.1.edge { f:=r.2,t:=g.out.length,k:=1,at_:=p } = g3 at *;have s8:=YV k4.point (by omega) (f:=g.out.length) (t:=g3.out.length) (by rw[po]; omega) (by rw[po]; omega) 0 2 (.loop p b);simp only[Sm.at_] at s8;generalize g3.point.edge { f:=g.out.length,t:=g3.out.length,k:=5,tk:=0,mn:=2,at_:=p } = g4 at *;generalize g.point=gp at *;generalize g1.point=g1p at *;generalize g3.point=g3p at *;refine ⟨true,true,m1,.inl ⟨rfl,.inl rfl⟩,?_⟩;show d6 T0 X0 E8 _ _=_;rw[c9 (af:=qQ) rfl rfl rfl]
 have hd:(Sm.loop p b).d = .iface Q5 (.agg [.int .i64 p.b,.int .i64 p.g,.int .i64 p.l,.int .i64 p.c,.sl (LD smL b)]):=by simp only[Sm.d,Sms.d_LD]
 have hlb:=xE b;simp only[hd] at s2 s4 s6 s8 ⊢;clear k1 k2 k3 k4 ih
 cases p1 <;> cases e1 <;> (try (exfalso; simp at hc; done)) <;> cases m1
 all_goals
  simp only[GH,j3,j7,List.cons_append,List.nil_append,List.append_nil] at s1 s2 s3 s4 s5 s6 s7 s8 ⊢;simp (maxSteps:=4000000) -implicitDefEqProofs (disch:=omega) [qQ,s1,s2,s3,s4,s5,s6,s7,s8]
end Go.Rf
