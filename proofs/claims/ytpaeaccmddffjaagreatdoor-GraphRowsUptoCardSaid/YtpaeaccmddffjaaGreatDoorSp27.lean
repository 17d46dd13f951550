/- Parts of the proof. -/
import Derived.Test.YtpaeaccmddffjaaGreatDoorRb2
import Derived.Test.YtpaeaccmddffjaaGreatDoorSp17
import Derived.Test.YtpaeaccmddffjaaGreatDoorSp18
import Derived.Test.YtpaeaccmddffjaaGreatDoorSp23
import Derived.Test.YtpaeaccmddffjaaGreatDoorSp25
import Derived.Test.YtpaeaccmddffjaaGreatDoorSp26
set_option linter.all false
namespace Go.Rf
set_option maxHeartbeats 32000000
mutual
theorem q6v {vs:List (List UInt8)} (hn:vs.length≤16):∀ s:Sm,s.fit vs→StS vs.length s
 | .set p v t e,h=>fun g a N hk hN h0 h1=>⟨true,true,false,.inl ⟨rfl,.inl rfl⟩,qws hk (by omega) ⟨h0,h1⟩ hn rfl p v t e h.2.2.2.2⟩
 | .skip p,h=>fun g a N hk hN h0 h1=>⟨true,true,false,.inl ⟨rfl,.inl rfl⟩,qtn hk (by omega) ⟨h0,h1⟩ p⟩
 | .stop p,h=>fun g a N hk hN h0 h1=>⟨true,false,false,.inl ⟨rfl,.inr rfl⟩,qtj hk (by omega) ⟨h0,h1⟩ p⟩
 | .mark p s,h=>fun g a N hk hN h0 h1=>⟨false,false,true,.inr ⟨rfl,rfl,rfl⟩,qpq hk (by omega) ⟨h0,h1⟩ p s⟩
 | .choose p bs,h=>qiz (qsp hn bs h.2) h.1 p
 | .loop p b,h=>qpz (ZK (vz hn b h)) p
 | .ifs p x y q b,h=>qzb hn rfl (ZK (vz hn b h.2.2)) p h.1 h.2.1 q
 | .ife p x y q b pe e,h=>qul hn rfl (ZK (vz hn b h.2.2.1)) (ZK (vz hn e h.2.2.2)) p pe h.1 h.2.1 q
 | .while p x y q b,h=>ql7 hn rfl (ZK (vz hn b h.2.2)) p h.1 h.2.1 q
theorem qsp {vs:List (List UInt8)} (hn:vs.length≤16):∀ l:List Bl,Bls.fit vs l→∀ q b,.mk q b∈l→qff vs.length b
 | [],_,q,b,hs=>by cases hs
 | .mk q' b' :: l,h,q,b,hs=>by
   simp only[Bls.fit,Bl.fit] at h;rcases List.mem_cons.1 hs with e | hs
   ·cases e; exact ZK (vz hn b' h.1)
   ·exact qsp hn l h.2 q b hs
theorem vz {vs:List (List UInt8)} (hn:vs.length≤16):∀ l:List Sm,Sms.fit vs l→∀ s∈l,StS vs.length s
 | [],_,s,hs=>by cases hs
 | x :: l,h,s,hs=>by
   simp only[Sms.fit] at h;rcases List.mem_cons.1 hs with e | hs
   ·rw[e]; exact q6v hn x h.1
   ·exact vz hn l h.2 s hs
end
def Pg.bld (g:Pg):Gb:=let r:=Sms.bld g.vs.length g.body (gb0 g.vs g.bs).point 0
 { r.1 with ex:=r.2 }
def Gb.big (g:Gb):Bool:=g.long || decide (64 < g.out.length)
theorem qc9 {vs:List (List UInt8)} {bs:List Bg}:Gok (gb0 vs bs).point vs.length 1:=
 ⟨rfl,by simp[Gb.point,gb0],by simp[Gb.point,gb0],by simp[Gb.point,gb0],fun i=>by cases i <;> simp[Gb.point,gb0],fun i=>by cases i <;> simp[Gb.point,gb0],by simp[Gb.point,gb0],by simp[Gb.point,gb0]⟩
theorem qaz {g:Pg} (h:Pok g):d6 T0 X0 qdm [g.d] []=some (.ret [.d (if g.bld.big=true then .nilp else g.bld.d),.d (.int .i64 (if g.bld.big=true then 2 else 0))] []):=by
 have hn8:=h.n
 have hvl:g.vs.length=g.bs.length:=by simp[Pg.vs]
 have s1:=qs8 g (by omega)
 have s2:=qnn g (by omega) fun b hb=>(h.bs b hb).val
 have hbl:=xE g.body;have hsz:=h.sz;have s3:=qu7 g (by omega);have s4:=qlb g.vs g.bs;have k0:=qc9 (vs:=g.vs) (bs:=g.bs);obtain ⟨p,e,m,hc,s5⟩:=ZK (vz (vs:=g.vs) (by omega) g.body h.fit) (gb0 g.vs g.bs).point 0 1 k0 (by omega) (by omega) (by simp[Gb.point,gb0]);have k:=M5 g.vs.length g.body k0 (a:=0) (by omega) (by simp[Gb.point,gb0]);have hol:=k.ok.ol;have hil:=k.ok.il;have hel:=k.ok.el;have hml:=k.ok.ml;have hdl:=k.ok.dl;have hvs:=k.ok.vs;unfold Gb.big Pg.bld;rw[c9 (af:=vh) rfl rfl rfl];have s6:=qxp { (Sms.bld g.vs.length g.body (gb0 g.vs g.bs).point 0).1 with ex:=(Sms.bld g.vs.length g.body (gb0 g.vs g.bs).point 0).2 } (by show (Sms.bld g.vs.length g.body (gb0 g.vs g.bs).point 0).1.out.length≤_; omega);generalize Sms.bld g.vs.length g.body (gb0 g.vs g.bs).point 0=r at *;have hg:∃ D,g.d = .d (.box D):=⟨_,rfl⟩;obtain ⟨D,hD⟩:=hg;generalize (gb0 g.vs g.bs).point=g0 at *;rw[hD] at s1 s2 s3 ⊢
 have hbs:(LD bgL g.bs).length≤1000:=by simp; omega
 have hml2:r.1.marks.length≤1000000:=by omega
 have hs5:s5=s5:=rfl;clear k k0 h hD hs5
 by_cases hb:64 < r.1.out.length
 all_goals cases hlo:r.1.long
 all_goals cases p <;> cases e <;> (try (exfalso; simp at hc; done)) <;> cases m
 all_goals
  simp only[GH,GG,G0,Gb.d,j3,j7,List.cons_append,List.nil_append,List.append_nil,hlo,hb,decide_true,decide_false,Bool.or_true,Bool.or_false,Bool.true_or,Bool.false_or,if_true,Bool.false_eq_true,if_false] at s4 s5 s6 ⊢;simp (maxSteps:=4000000) -implicitDefEqProofs (disch:=omega) [vh,s1,s2,s3,s4,s5,s6,hb,kZ,O2]
end Go.Rf
