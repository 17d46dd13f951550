/- Parts of the proof. -/
import Derived.Test.YtpaeaccmddffjaaGreatDoorRb2
import Derived.Test.YtpaeaccmddffjaaGreatDoorSp15
set_option linter.all false
namespace Go.Rf
set_option maxHeartbeats 32000000
@[simp] theorem fnId_B (f:FuncId):vo (f + fB)=f:=by unfold vo; rw[if_neg (Nat.not_lt.2 (Nat.le_add_left ..))]; exact Nat.add_sub_cancel ..
@[simp] theorem zjl {α:Type} (f:FuncId) (vs cs:List α):M6 (f + fB) vs cs=cs++vs:=if_neg (Nat.not_lt.2 (Nat.le_add_left ..))
@[simp] theorem zi0 (l):((Zo l).all fun e=>jw false e.1)=true:=by simp[jw,Zo]
theorem eo (g:Gb) (e:Ed):(g.edge e).out.length=g.out.length:=by simp[Gb.edge]
theorem po (g:Gb):g.point.out.length=g.out.length + 1:=by simp[Gb.point]
structure Bk (n:Nat) (g:Gb) (r:Gb × Int) (M:Nat):Prop where
 ok:Gok r.1 n M
 le:g.out.length≤r.1.out.length
 a0:0≤r.2
 a1:r.2 < r.1.out.length
theorem ql4 {n:Nat} (p:Pl) (j:Int):∀ (l:List Int) {g:Gb} {N:Nat},Gok g n N→Gok (kD p j l g) n (N + l.length)∧(kD p j l g).out.length=g.out.length
 | [],g,N,h=>⟨h,rfl⟩
 | e :: l,g,N,h=>by
   obtain ⟨h1,h2⟩:=ql4 p j l (h.edge { f:=e,t:=j,k:=1,at_:=p });exact ⟨h1.to (by simp; omega),h2.trans (eo ..)⟩
theorem Gok.upd {g g':Gb} {n N:Nat} (h:Gok g n N) (e1:g'.vs=g.vs) (e2:g'.out=g.out) (e3:g'.inn=g.inn) (e4:g'.edges=g.edges) (e5:g'.marks=g.marks) (e6:g'.md=g.md):Gok g' n N:=
 ⟨by rw[e1]; exact h.vs,by rw[e2]; exact h.ol,by rw[e2,e3]; exact h.il,by rw[e4]; exact h.el,by rw[e2]; exact h.os,by rw[e3]; exact h.is,by rw[e5]; exact h.ml,by rw[e5,e6]; exact h.dl⟩
theorem Gok.start {g:Gb} {n N:Nat} (h:Gok g n N) (b a:Int):Gok (g.start b a) n N:=h.upd rfl rfl rfl rfl rfl rfl
theorem Gok.head {g:Gb} {n N:Nat} (h:Gok g n N) (b a:Int):Gok (g.head b a) n N:=h.upd rfl rfl rfl rfl rfl rfl
mutual
theorem qwq (n:Nat):∀ (s:Sm) {g:Gb} {a:Int} {N:Nat},Gok g n N→0≤a→a < g.out.length→Bk n g (s.bld n g a) (N + 10 * s.sz)
 | .set p v t e,g,a,N,h,h0,h1=>by
   have k:∀ e,Bk n g (g.point.edge e,g.out.length) (N + 10 * 1):=fun e=>⟨(h.point.edge e).to (by omega),by simp only[eo,po]; omega,by omega,by simp only[eo,po]; omega⟩
   simp only[Sm.sz]
   cases e with
   | none=>exact k _
   | some x=>
     simp only[Sm.bld];split
     ·exact ⟨((h.point.upd (g':={ g.point with long:=g.long || zp (q8 n x).1 }) rfl rfl rfl rfl rfl rfl).edge _).to (by omega),by simp only[eo,po]; omega,by simp,by simp only[eo,po]; omega⟩
     ·exact k _
 | .skip p,g,a,N,h,h0,h1=>⟨(h.point.edge _).to (by simp only[Sm.sz]; omega),by simp only[Sm.bld]; simp only[eo,po]; omega,by simp[Sm.bld],by simp only[Sm.bld]; simp only[eo,po]; omega⟩
 | .stop p,g,a,N,h,h0,h1=>⟨h.point.to (by simp only[Sm.sz]; omega),by simp only[Sm.bld]; simp only[eo,po]; omega,by simp[Sm.bld],by simp only[Sm.bld]; simp only[eo,po]; omega⟩
 | .mark p s,g,a,N,h,h0,h1=>by
   refine ⟨⟨h.vs,by have:=h.ol; show g.out.length≤_; omega,h.il,by have:=h.el; show g.edges.length≤_; omega,fun i=>by have:=h.os i; show (g.out.getD i []).length≤_; omega,fun i=>by have:=h.is i; show (g.inn.getD i []).length≤_; omega,?_,?_⟩,Nat.le_refl _,h0,h1⟩
   ·have:=h.ml; simp only[Sm.bld,Gb.mark,Sm.sz,List.length_append,List.length_cons,List.length_nil]; omega
   ·have:=h.dl; simp only[Sm.bld,Gb.mark,List.length_append,List.length_cons,List.length_nil]; omega
 | .choose p bs,g,a,N,h,h0,h1=>by
   obtain ⟨k1,k2,k3,k4⟩:=qjv n p bs.length bs 0 h h0 h1;obtain ⟨j1,j2⟩:=ql4 p (Bls.bld n p a bs.length 0 bs g).1.out.length (Bls.bld n p a bs.length 0 bs g).2 k1.point;have hl:=JC bs;simp only[Sm.sz,Sm.bld];exact ⟨j1.to (by rw[k3]; omega),by simp only[]; rw[j2]; simp only[po]; omega,by simp,by simp only[]; rw[j2]; simp only[po]; omega⟩
 | .loop p b,g,a,N,h,h0,h1=>by
   have g1:=((h.point.edge { f:=a,t:=g.out.length,k:=1,at_:=p }).point).edge { f:=g.out.length,t:=g.out.length + 1,k:=5,tk:=1,mn:=2,at_:=p };have k:=M5 n b g1 (a:=g.out.length + 1) (by omega) (by simp only[eo,po]; omega);have le:=k.le;simp only[eo,po] at le;simp only[Sm.sz,Sm.bld];exact ⟨((k.ok.edge _).point.edge _).to (by omega),by simp only[]; simp only[eo,po]; omega,by simp,by simp only[]; simp only[eo,po]; omega⟩
 | .ifs p x y q b,g,a,N,h,h0,h1=>by
   have k:=M5 n b (h.point.edge (tEd n a g.out.length x y q true p)) (a:=g.out.length) (by omega) (by simp only[eo,po]; omega);have le:=k.le;simp only[eo,po] at le;simp only[Sm.sz,Sm.bld];exact ⟨((((k.ok.point.edge _).point).edge _).edge _).to (by omega),by simp only[]; simp only[eo,po]; omega,by simp,by simp only[]; simp only[eo,po]; omega⟩
 | .ife p x y q b pe e,g,a,N,h,h0,h1=>by
   have k:=M5 n b (h.point.edge (tEd n a g.out.length x y q true p)) (a:=g.out.length) (by omega) (by simp only[eo,po]; omega);have le:=k.le;simp only[eo,po] at le;have k2:=M5 n e (k.ok.point.edge (tEd n a (Sms.bld n b (g.point.edge (tEd n a g.out.length x y q true p)) g.out.length).1.out.length x y q false p)) (a:=(Sms.bld n b (g.point.edge (tEd n a g.out.length x y q true p)) g.out.length).1.out.length) (by omega) (by simp only[eo,po]; omega);have le2:=k2.le;simp only[eo,po] at le2;simp only[Sm.sz,Sm.bld];exact ⟨((k2.ok.point.edge _).edge _).to (by omega),by simp only[]; simp only[eo,po]; omega,by simp,by simp only[]; simp only[eo,po]; omega⟩
 | .while p x y q b,g,a,N,h,h0,h1=>by
   have g1:=((((h.point).head p.b g.out.length).edge { f:=a,t:=g.out.length,k:=1,at_:=p }).point).edge (tEd n g.out.length (g.out.length + 1) x y q true p);have k:=M5 n b g1 (a:=g.out.length + 1) (by omega) (by simp only[eo,po]; show _ < ((g.point.out.length + 1:Nat):Int); simp only[eo,po]; omega);have le:=k.le;simp only[eo,po] at le;have le:g.point.out.length + 1≤_:=le;simp only[eo,po] at le;simp only[Sm.sz,Sm.bld];exact ⟨((k.ok.edge _).point.edge _).to (by omega),by simp only[]; simp only[eo,po]; omega,by simp,by simp only[]; simp only[eo,po]; omega⟩
theorem M5 (n:Nat):∀ (l:List Sm) {g:Gb} {a:Int} {N:Nat},Gok g n N→0≤a→a < g.out.length→Bk n g (Sms.bld n l g a) (N + 10 * Sms.sz l)
 | [],g,a,N,h,h0,h1=>⟨h,Nat.le_refl _,h0,h1⟩
 | s :: l,g,a,N,h,h0,h1=>by
   have k:=qwq n s (h.start s.at_.b a) h0 h1;have k2:=M5 n l k.ok k.a0 k.a1;have le:=k.le;have le:g.out.length≤_:=le;exact ⟨k2.ok.to (by simp only[Sms.sz]; omega),Nat.le_trans le k2.le,k2.a0,k2.a1⟩
theorem qjv (n:Nat) (p:Pl) (mn:Int):∀ (l:List Bl) (i:Int) {g:Gb} {a:Int} {N:Nat},Gok g n N→0≤a→a < g.out.length→
 Gok (Bls.bld n p a mn i l g).1 n (N + (10 * Bls.sz l - l.length))∧g.out.length≤(Bls.bld n p a mn i l g).1.out.length∧(Bls.bld n p a mn i l g).2.length=l.length ∧ ∀ x∈(Bls.bld n p a mn i l g).2,0≤x∧x < (Bls.bld n p a mn i l g).1.out.length
 | [],i,g,a,N,h,h0,h1=>⟨h.to (by omega),Nat.le_refl _,rfl,fun x hx=>by cases hx⟩
 | .mk q b :: l,i,g,a,N,h,h0,h1=>by
   have k:=M5 n b (h.point.edge { f:=a,t:=g.out.length,k:=5,tk:=i,mn,at_:=p }) (a:=g.out.length) (by omega) (by simp only[eo,po]; omega);have le:=k.le;simp only[eo,po] at le;obtain ⟨k1,k2,k3,k4⟩:=qjv n p mn l (i + 1) k.ok (a:=a) h0 (by omega);have hl:=JC l;simp only[Bls.bld,Bls.sz,Bl.sz,List.length_cons];refine ⟨k1.to (by omega),by omega,by simp[k3],fun x hx=>?_⟩;rcases List.mem_cons.1 hx with rfl | hx
   ·have:=k.a0; have:=k.a1; omega
   ·exact k4 x hx
end
def StS (n:Nat) (s:Sm):Prop:=∀ (g:Gb) (a:Int) (N:Nat),Gok g n N→N + 10 * s.sz≤900000→0≤a→a < g.out.length→
 ∃ p e m,(p=true∧(e=true∨m=false)∨p=false∧e=false∧m=true)∧d6 T0 X0 s.fn [.ptr (.b 0) 0 0,.d s.d,.d (.int .i64 a)] (GH g false false false)=some (.ret [.d (.int .i64 (s.bld n g a).2)] (GH (s.bld n g a).1 p e m))
def qff (n:Nat) (l:List Sm):Prop:=∀ (g:Gb) (a:Int) (N:Nat),Gok g n N→N + 10 * Sms.sz l≤900000→0≤a→a < g.out.length→
 ∃ p e m,(e=true→p=true)∧d6 T0 X0 zu [.ptr (.b 0) 0 0,.d (.sl (LD smL l)),.d (.int .i64 a)] (GH g false false false)=some (.ret [.d (.int .i64 (Sms.bld n l g a).2)] (GH (Sms.bld n l g a).1 p e m))
theorem qy6 {n:Nat} {s:Sm} (ih:StS n s) (pre rest:List Sm) (g:Gb) (a:Int) {N:Nat} (h:Gok g n N) (hN:N + 10 * s.sz≤900000) (h0:0≤a) (h1:a < g.out.length) (hl:(pre++s :: rest).length≤1000000) (p0 e0 m0:Bool) (hc0:e0=true→p0=true) (e:List (Nat × V)) :
 ∃ p e' m,(e'=true→p=true)∧j6 T0 X0 9 N4 (some (.nrm,⟨(0,.ptr (.b 0) 0 0) :: (2,.d (.int .i64 a)) :: (9,.d (.sl (LD smL (pre++s :: rest)))) :: (10,.d (.int .i64 (pre++s :: rest).length)) :: (11,.d (.int .i64 pre.length)) :: e,GH g p0 e0 m0⟩)) =
   some (.nrm,⟨[(0,.ptr (.b 0) 0 0),(2,.d (.int .i64 (s.bld n (g.start s.at_.b a) a).2)),(9,.d (.sl (LD smL (pre++s :: rest)))),(10,.d (.int .i64 (pre++s :: rest).length)),(11,.d (.int .i64 (pre.length + 1)))],GH (s.bld n (g.start s.at_.b a) a).1 p e' m⟩):=by
 obtain ⟨p,e',m,hc,s2⟩:=ih (g.start s.at_.b a) a N (h.start _ _) hN h0 h1;have s1:=qv0 (g.start s.at_.b a) s;have s3:=Zh s.at_
 have hget:(LD smL (pre++s :: rest))[pre.length]? = some s.d:=by rw[jM smL _ (by simp)]; simp[smL]
 have hlt:pre.length < (pre++s :: rest).length:=by simp
 refine ⟨p0 || p,e0 || e',m0 || m,?_,?_⟩
 ·cases p0 <;> cases e0 <;> cases p <;> cases e' <;> simp_all
 simp only[Gb.start] at s1 s2 ⊢;generalize s.bld n { g with st:=qk9 g.st s.at_.b a } a=r at *;generalize (pre++s :: rest).length=M at *
 cases p0 <;> cases e0 <;> cases m0 <;> cases p <;> cases e' <;> cases m
 all_goals first
  | (exfalso; simp at hc hc0; done)
  | (simp only[GH,j3,j7,List.cons_append,List.nil_append,List.append_nil,Pl.cs,Bool.or_true,Bool.true_or,Bool.or_false,Bool.false_or] at s1 s2 s3 ⊢
     simp (maxSteps:=4000000) -implicitDefEqProofs (disch:=omega) [N4,s1,s2,s3,hget,Pl.cs]
     done)
end Go.Rf
