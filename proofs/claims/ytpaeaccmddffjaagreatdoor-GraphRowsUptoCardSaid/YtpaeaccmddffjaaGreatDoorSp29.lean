/- Parts of the proof. -/
import Derived.Test.YtpaeaccmddffjaaGreatDoorRb2
import Derived.Test.YtpaeaccmddffjaaGreatDoorSp13
import Derived.Test.YtpaeaccmddffjaaGreatDoorSp28
set_option linter.all false
namespace Go.Rf
set_option maxHeartbeats 16000000
theorem qwu {p q:Pg} (hv:q.vs=p.vs) (hb:Sms.er q.body=Sms.er p.body):Gq q.bld p.bld∧q.bld.ex=p.bld.ex:=by
 have h0:Gq (gb0 q.vs q.bs).point (gb0 p.vs p.bs).point:=⟨hv,rfl,rfl,rfl,rfl,rfl⟩;have k:=qz1 (n:=p.vs.length) hb h0 0;unfold Pg.bld;rw[hv] at k ⊢;exact ⟨⟨k.g.vs,k.g.ed,k.g.out,k.g.inn,k.g.mks,k.g.lg⟩,k.a⟩
theorem qvg (s:List UInt8) (hs:s.length≤1100000):d6 T0 X0 Qf [.d (.str s)] []=some (.ret [.d (.bool true)] []):=by
 have s0:=WS;have s1:=xL s (by omega);rw[c9 (af:=A6) rfl rfl rfl]
 have hp:=fun g=>qf1 (s:=s) (g:=g)
 generalize P5 s=q at *;obtain ⟨o,e,pl⟩:=q
 cases o with
 | none=>
   have s2:=qpk;simp only[oG,Pl.cs] at s1;simp (maxSteps:=4000000) -implicitDefEqProofs (disch:=omega) [A6,s0,s1,s2]
 | some p=>
   have hk:=hp p rfl;have s2:=qaz hk.ok;have s3:=qb3 hk;unfold Pg.d at s2 s3;simp only[oG,Pl.cs] at s1
   by_cases hb:p.bld.big=true
   ·simp only[if_pos hb] at s2;clear s3;simp (maxSteps:=4000000) -implicitDefEqProofs (disch:=omega) [A6,s0,s1,s2]
   have hbf:p.bld.big=false:=by simpa using hb
   simp only[if_neg hb] at s2
   have htl:p.txt.length≤100000000:=by
    have:=jO p.body [] hk.ok.fit (by have:=hk.dep; simp; omega);have:=Yz p.bs true hk.ok.bs;have:=hk.ok.n;have:=hk.tz;unfold Pg.txt Pg.first;simp;omega
   have hD:∃ D,p.bld.d = .box D:=⟨_,rfl⟩
   by_cases hl:4096 < p.txt.length
   ·obtain ⟨D,hD⟩:=hD;rw[hD] at s2;generalize p.txt=t at *;simp (maxSteps:=4000000) -implicitDefEqProofs (disch:=omega) [A6,s0,s1,s2,s3,hl]
   obtain ⟨q,hq,hqv,hqb⟩:=qld hk (by omega);obtain ⟨G,hex⟩:=qwu hqv hqb
   have hqg:q.bld.big=false:=by unfold Gb.big at hbf ⊢; rw[G.lg,G.out]; exact hbf
   have hbv:Jf p.txt=some q.bld:=by
    unfold Jf;rw[hq];simp only[];rw[hqg,if_neg (by simp)]
   have s4:=WR p.txt (by omega);rw[hbv] at s4;have gp:=Ym hk.ok hbf;have gq:=Ym (Xs (s:=p.txt) (by rw[hq])) hqg;have hpt:=gp.pt;have hel:=gp.el;have hql:=G.len;have hqo:=congrArg List.length G.out;have s5:=Xt p.bld (by omega);have s6:=Xt q.bld (by omega);have s7:=qjm p.bld;have s8:=qjm q.bld;have s9:=Yw p.bld (by omega) (fun e he=>⟨by have:=(gp.row e he).1; omega,fun n hn=>by have:=(gp.row e he).2 n hn; omega⟩);have sa:=Yw q.bld (by omega) (fun e he=>⟨by have:=(gq.row e he).1; omega,fun n hn=>by have:=(gq.row e he).2 n hn; omega⟩);have sb:=qbn G.ed (by omega) (fun e he=>⟨by have:=(gq.row e he).1; omega,fun n hn=>by have:=(gq.row e he).2 n hn; omega⟩)
   have hml:p.bld.marks.length≤1000000:=by
    have k:=M5 p.vs.length p.body (qc9 (vs:=p.vs) (bs:=p.bs)) (a:=0) (by omega) (by simp[Gb.point,gb0]);have h1:=k.ok.ml;have h2:=hk.ok.sz;show (Sms.bld p.vs.length p.body (gb0 p.vs p.bs).point 0).1.marks.length≤_;omega
   have sc:=qa3 p.bld hml;have sd:=qa3 q.bld (by rw[G.mks]; exact hml);have se:=qbm p.bld.marks hml;rw[G.mks] at sd;rw[G.out] at s6;rw[hex] at s8;obtain ⟨D,hD⟩:=hD;have hE:∃ E,q.bld.d = .box E:=⟨_,rfl⟩;obtain ⟨E,hE⟩:=hE;rw[hE] at s6 s8 sa sd;rw[hD] at s2 s5 s7 s9 sc;simp only[oGb,hE] at s4;generalize p.txt=t at *;generalize p.bld=g at *;generalize q.bld=h at *;clear gp gq hk hp hbv hq hqg hbf hb G hD hE;simp (maxSteps:=4000000) -implicitDefEqProofs (disch:=omega) [A6,s0,s1,s2,s3,s4,s5,s6,s7,s8,s9,sa,sb,sc,sd,se,hl]
end Go.Rf
