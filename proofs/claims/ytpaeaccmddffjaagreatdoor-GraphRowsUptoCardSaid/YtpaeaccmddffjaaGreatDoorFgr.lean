/- GraphRows, at most 1048576 values and letters: the law's card, out of what its abstract call comes to. -/
import Derived.Test.YtpaeaccmddffjaaGreatDoorRg11
import Derived.Test.YtpaeaccmddffjaaGreatDoorSp29
import Derived.Test.YtpaeaccmddffjaaGreatDoorRg10
import Derived.Test.YtpaeaccmddffjaaGreatDoorCk
import Derived.Test.YtpaeaccmddffjaaGreatDoorChecked
import Derived.Test.YtpaeaccmddffjaaGreatDoorCards
import Derived.Test.YtpaeaccmddffjaaGreatDoorTie
import Derived.Deep.DeepHandedRow
import Derived.Lib.LaidU8T
import Derived.PinnedBridge
import Derived.Lay

set_option linter.all false
namespace Go.Rf
set_option maxHeartbeats 16000000
theorem qsz {α:Type} (k:Lst α) (l:List α) (n:Nat):(LD k l).take n=LD k (l.take n):=by simp[LD,List.map_take]
theorem qtv (m:List UInt8) (D:D) (w t:List UInt8) (hw:∀ c∈w,c≠10) (hl:w.length≤100000000):∀ d i (e:List (Nat × V)),d + i=w.length→
 j6 T0 X0 0 G4 (some (.nrm,⟨(1,.d (.str m)) :: (8,.d (.box D)) :: (10,.d (.str (w++10 :: t))) :: (11,.d (.int .i64 i)) :: e,[]⟩)) =
  some (.exit 0,⟨[(1,.d (.str m)),(8,.d (.box D)),(10,.d (.str (w++10 :: t))),(11,.d (.int .i64 w.length))],[]⟩):=by
 have hz:w.length < (w++10 :: t).length:=by simp
 have hzc:(((w++10 :: t)[w.length]'hz).toNat:Int)=10:=by simp
 have hc:∀ i (h:i < w.length),∃ h2:i < (w++10 :: t).length,¬ (((w++10 :: t)[i]'h2).toNat:Int)=10:=fun i h=>by
  refine ⟨by simp; omega,?_⟩;rw[List.getElem_append_left h];have:=hw _ (List.getElem_mem h);intro e;exact this (by rw[← UInt8.toNat_inj]; show _=10; omega)
 generalize w++10 :: t=u at *;intro d
 induction d with
 | zero=>
   intro i e hi
   have:i=w.length:=by omega
   subst this;rw[d5 (l:=G4) rfl];generalize w.length=n at *;simp -implicitDefEqProofs (disch:=omega) [O4,hzc]
 | succ d ih=>
   intro i e hi;obtain ⟨h2,h3⟩:=hc i (by omega);rw[← ih (i + 1) [] (by omega)];rw[d5 (l:=G4) rfl];generalize w.length=n at *;simp -implicitDefEqProofs (disch:=omega) [O4,h3]
theorem q5n:∀ (l:List Bg) (f:Bool),(∀ b∈l,BgOk b)→∀ c∈ZG f l,c≠10
 | [],_,_,c,hc=>by simp[ZG] at hc
 | b :: l,f,h,c,hc=>by
   have ih:=q5n l false (fun x hx=>h x (List.mem_cons_of_mem _ hx)) c;have n1:=(h b (List.mem_cons_self ..)).name.no10 c
   have dg:∀ v,c∈B2 456 v→c≠10:=fun v hv e=>by
    have:=YI 456 v c hv;rw[e] at this;exact absurd this (by decide)
   have n2:c∈b.val→c≠10:=fun hv=>by
    unfold Bg.val at hv
    cases ha:b.any with
    | true=>simp[ha] at hv
    | false=>
      simp only[ha,Bool.false_eq_true,if_false] at hv;rcases List.mem_append.1 hv with hv | hv
      ·simp at hv; rcases hv with rfl | rfl | rfl <;> decide
      ·unfold WB at hv;split at hv
       ·rcases List.mem_cons.1 hv with rfl | hv
        ·decide
        ·exact dg _ hv
       ·exact dg _ hv
   simp only[ZG,List.mem_append,List.mem_cons] at hc;rcases hc with hc | (rfl | hc) | hc | hc
   ·split at hc
    ·cases hc
    ·rw[List.mem_singleton.1 hc]; decide
   ·decide
   ·exact n1 hc
   ·exact n2 hc
   ·exact ih hc
structure On (p q:Gb):Prop where
 out:p.out.length≤q.out.length
 le:p.edges.length≤q.edges.length
 ed:(q.edges.take p.edges.length).map Ed.er=p.edges.map Ed.er
 mks:q.marks.take p.marks.length=p.marks
 fs:q.edges.length=p.edges.length ∨ ∃ e,q.edges[p.edges.length]? = some e∧(e.f=p.ex∨(p.out.length:Int)≤e.f)
theorem q7z {p q:Pg} (hv:q.vs=p.vs) {l' l2:List Sm} (hb:q.body=l'++l2) (he:Sms.er l'=Sms.er p.body):On p.bld q.bld:=by
 have h0:Gq (gb0 q.vs q.bs).point (gb0 p.vs p.bs).point:=⟨hv,rfl,rfl,rfl,rfl,rfl⟩;have k:=qz1 (n:=p.vs.length) he h0 0;have f:=kX p.vs.length l2 (Sms.bld p.vs.length l' (gb0 q.vs q.bs).point 0).1 (Sms.bld p.vs.length l' (gb0 q.vs q.bs).point 0).2;unfold Pg.bld;rw[hv] at k f ⊢;rw[hb,qsr];generalize Sms.bld p.vs.length l' (gb0 p.vs q.bs).point 0=x at *;generalize Sms.bld p.vs.length p.body (gb0 p.vs p.bs).point 0=y at *;generalize Sms.bld p.vs.length l2 x.1 x.2=z at *;have hlen:=k.g.len;have ho:=k.g.out;have hm:=k.g.mks;obtain ⟨t,ht⟩:=f.le.ed;obtain ⟨u,hu⟩:=f.le.mks;refine ⟨?_,?_,?_,?_,?_⟩
 ·show y.1.out.length≤z.1.out.length;rw[← ho]; exact f.le.out
 ·show y.1.edges.length≤z.1.edges.length;rw[← hlen,← ht]; simp
 ·show (z.1.edges.take y.1.edges.length).map Ed.er=_;rw[← hlen,← ht,List.take_left];exact k.g.ed
 ·show z.1.marks.take y.1.marks.length=y.1.marks;rw[← hm,← hu,List.take_left]
 ·show z.1.edges.length=y.1.edges.length ∨ ∃ e,z.1.edges[y.1.edges.length]? = some e∧(e.f=y.2∨(y.1.out.length:Int)≤e.f);rw[← hlen,← k.a,← ho];rcases f.fs with ⟨h1,_⟩ | ⟨e,h1,h2⟩
  ·exact .inl (by rw[h1])
  ·exact .inr ⟨e,h1,h2⟩
theorem qdz (l:List Ed):(∀ x∈LD eaL l,x.cells.length=11)=True:=eq_true fun x hx=>by
 obtain ⟨e,_,rfl⟩:=List.mem_map.1 hx;rfl
theorem qdy (l:List (List UInt8)):(∀ x∈LD txL l,x.cells.length=1)=True:=eq_true fun x hx=>by
 obtain ⟨e,_,rfl⟩:=List.mem_map.1 hx;rfl
theorem q6g {p:Pg} (hk:Pok2 p):p.txt.length≤50000000:=by
 have:=jO p.body [] hk.ok.fit (by have:=hk.dep; simp; omega);have:=Yz p.bs true hk.ok.bs;have:=hk.ok.n;have:=hk.tz;unfold Pg.txt Pg.first;simp;omega
theorem qw5 (s more:List UInt8) (hs:s.length≤1100000) (hm:more.length≤1100000):d6 T0 X0 QK [.d (.str s),.d (.str more)] []=some (.ret [.d (.bool true)] []):=by
 have s0:=WS;have s1:=xL s (by omega);have sn:=qpk;rw[c9 (af:=n8) rfl rfl rfl]
 have hp:=fun g=>qf1 (s:=s) (g:=g)
 generalize P5 s=q at *;obtain ⟨o,e,pl⟩:=q
 cases o with
 | none=>
   simp only[oG,Pl.cs] at s1;simp (maxSteps:=4000000) -implicitDefEqProofs (disch:=omega) [n8,s0,s1,sn]
 | some p=>
   have hk:=hp p rfl;have s2:=qaz hk.ok;have s3:=qb3 hk;unfold Pg.d at s2 s3;simp only[oG,Pl.cs] at s1
   by_cases hb:p.bld.big=true
   ·simp only[if_pos hb] at s2;clear s3;simp (maxSteps:=4000000) -implicitDefEqProofs (disch:=omega) [n8,s0,s1,s2]
   have hbf:p.bld.big=false:=by simpa using hb
   simp only[if_neg hb] at s2;have htl:=q6g hk
   have hw:∀ c∈p.first++[59],c≠10:=fun c hc=>by
    rcases List.mem_append.1 hc with h | h
    ·unfold Pg.first at h;rcases List.mem_append.1 h with h | h
     ·simp at h; rcases h with rfl | rfl | rfl | rfl <;> decide
     ·exact q5n p.bs true hk.ok.bs c h
    ·rw[List.mem_singleton.1 h]; decide
   have htx:p.txt=(p.first++[59])++10 :: Sms.txt [] p.body:=by unfold Pg.txt; simp
   have hfl:(p.first++[59]).length≤50000000:=by
    have:=congrArg List.length htx;simp at this ⊢;omega
   have ha:=fun h (q:Pg)=>qo5 hk (more:=more) h (q:=q)
   have hfm:p.first++59 :: more=(p.first++[59])++more:=by simp
   rw[hfm] at ha;have s4:=xL ((p.first++[59])++more) (by rw[List.length_append]; omega);have s5:=xL (p.txt++more) (by rw[List.length_append]; omega)
   have hq:=fun g=>Xs (s:=p.txt++more) (g:=g)
   have hqn:=qb2 (s:=p.txt++more);have gp:=Ym hk.ok hbf
   have hon:=fun (q:Pg) (h:(P5 ((p.first++[59])++more)).2.1=0) (h2:(P5 (p.txt++more)).1=some q)=>(show On p.bld q.bld from by
    obtain ⟨a,l',l2,b,c⟩:=ha h q h2
    exact q7z a b c)
   have hml:p.bld.marks.length≤1000000:=by
    have k:=M5 p.vs.length p.body (qc9 (vs:=p.vs) (bs:=p.bs)) (a:=0) (by omega) (by simp[Gb.point,gb0]);have h1:=k.ok.ml;have h2:=hk.ok.sz;show (Sms.bld p.vs.length p.body (gb0 p.vs p.bs).point 0).1.marks.length≤_;omega
   have hml2:∀ q,Pok q→q.bld.marks.length≤1000000:=fun q hq=>by
    have k:=M5 q.vs.length q.body (qc9 (vs:=q.vs) (bs:=q.bs)) (a:=0) (by omega) (by simp[Gb.point,gb0]);have h1:=k.ok.ml;have h2:=hq.sz;show (Sms.bld q.vs.length q.body (gb0 q.vs q.bs).point 0).1.marks.length≤_;omega
   clear ha hp;rw[htx] at s3 s5 hq hqn hon htl;have hD:∃ D,p.bld.d = .box D:=⟨_,rfl⟩;obtain ⟨D,hD⟩:=hD;have lp:=qtv more D (p.first++[59]) (Sms.txt [] p.body) hw (by omega) (p.first++[59]).length 0 [] rfl;have htk:((p.first++[59])++10 :: Sms.txt [] p.body).take (p.first++[59]).length=p.first++[59]:=List.take_left
   have hwl:(p.first++[59]).length≤((p.first++[59])++10 :: Sms.txt [] p.body).length:=by simp
   clear hw htx hfm hk;generalize (p.first++[59])++10 :: Sms.txt [] p.body=u at *;generalize p.first++[59]=w at *;generalize P5 (w++more)=z at *;obtain ⟨o2,e2,pl2⟩:=z;simp only[Pl.cs,Int.cast_ofNat_Int] at s4 lp;simp only[hD] at s2
   by_cases he:e2=0
   case neg=>
    clear s5 hq hqn hon;simp (maxSteps:=4000000) -implicitDefEqProofs (disch:=omega) [n8,s0,s1,s2,s3,s4,lp,htk,he]
   subst he;simp only[true_implies,forall_const] at hon;generalize P5 (u++more)=z at *;obtain ⟨o3,e3,pl3⟩:=z;simp only[Pl.cs] at s5
   by_cases he:e3=0
   case neg=>
    have ho:=hqn he;simp only[] at ho;subst ho;simp only[oG] at s5;clear hq hqn hon;simp (maxSteps:=4000000) -implicitDefEqProofs (disch:=omega) [n8,s0,s1,s2,s3,s4,s5,sn,lp,htk,he]
   subst he
   cases o3 with
   | none=>
     simp only[oG] at s5;clear hq hqn hon;simp (maxSteps:=4000000) -implicitDefEqProofs (disch:=omega) [n8,s0,s1,s2,s3,s4,s5,sn,lp,htk]
   | some q=>
     have hqk:=hq q rfl;have s6:=qaz hqk;unfold Pg.d at s6;simp only[oG] at s5
     by_cases hb2:q.bld.big=true
     ·simp only[if_pos hb2] at s6;clear hq hqn hon;simp (maxSteps:=4000000) -implicitDefEqProofs (disch:=omega) [n8,s0,s1,s2,s3,s4,s5,s6,lp,htk]
     have hbf2:q.bld.big=false:=by simpa using hb2
     simp only[if_neg hb2] at s6;have O:=hon q rfl;have gq:=Ym hqk hbf2;have hpt:=gp.pt;have hel:=gp.el;have hpt2:=gq.pt;have hel2:=gq.el;have hml3:=hml2 q hqk;have t1:=Xt p.bld (by omega);have t2:=Xt q.bld (by omega);have t3:=qjm p.bld;have t4:=Yw p.bld (by omega) (fun e he=>⟨by have:=(gp.row e he).1; omega,fun n hn=>by have:=(gp.row e he).2 n hn; omega⟩);have t5:=Yw q.bld (by omega) (fun e he=>⟨by have:=(gq.row e he).1; omega,fun n hn=>by have:=(gq.row e he).2 n hn; omega⟩)
     have t6:=qbn O.ed (by simp; omega) (fun e he=>by
      have he:=List.mem_of_mem_take he
      exact ⟨by have:=(gq.row e he).1; omega,fun n hn=>by have:=(gq.row e he).2 n hn; omega⟩)
     have t7:=qa3 p.bld hml;have t8:=qa3 q.bld hml3;have t9:=qbm p.bld.marks hml;have tk1:=qsz eaL q.bld.edges p.bld.edges.length;have tk2:=qsz txL q.bld.marks p.bld.marks.length;rw[O.mks] at tk2
     have hmk:p.bld.marks.length≤q.bld.marks.length:=by
      have:=congrArg List.length O.mks;rw[List.length_take] at this;omega
     have hol:=O.out;have hle:=O.le;have hfs:=O.fs
     have hes:(q.bld.edges.take p.bld.edges.length).length≤1000000:=by rw[List.length_take]; omega
     have hE:∃ E,q.bld.d = .box E:=⟨_,rfl⟩;obtain ⟨E,hE⟩:=hE;simp only[hE] at s6 t2 t5 t8;simp only[hD] at t1 t3 t4 t7;clear hq hqn hon hml2 gp gq hb hb2 hbf hbf2 O hD hE hqk;generalize p.bld=g at *;generalize q.bld=h at *;generalize h.edges.take g.edges.length=es at *;rcases hfs with hfs | ⟨ed,hfs,hf⟩
     ·simp (maxSteps:=4000000) -implicitDefEqProofs (disch:=omega) [n8,s0,s1,s2,s3,s4,s5,s6,lp,htk,t1,t2,t3,t4,t5,t6,t7,t8,t9,tk1,tk2,qdz,qdy,hfs]
     ·have hlt:g.edges.length < h.edges.length:=(List.getElem?_eq_some_iff.1 hfs).1
      have hne:¬ (h.edges.length:Int)=g.edges.length:=by omega
      have hget:(LD eaL h.edges)[g.edges.length]? = some (.agg ed.a):=by
       rw[jM eaL _ hlt];have:=(List.getElem?_eq_some_iff.1 hfs).2;rw[this];rfl
      simp only[Ed.a] at hget;clear hfs
      by_cases hx:ed.f=g.ex
      ·simp (maxSteps:=4000000) -implicitDefEqProofs (disch:=omega) [n8,s0,s1,s2,s3,s4,s5,s6,lp,htk,t1,t2,t3,t4,t5,t6,t7,t8,t9,tk1,tk2,qdz,qdy,hne,hget,hx]
      ·have hy:(g.out.length:Int)≤ed.f:=by omega
       simp (maxSteps:=4000000) -implicitDefEqProofs (disch:=omega) [n8,s0,s1,s2,s3,s4,s5,s6,lp,htk,t1,t2,t3,t4,t5,t6,t7,t8,t9,tk1,tk2,qdz,qdy,hne,hget,hx,hy]
open Go.ChangeShapes Go.RowKit
noncomputable instance prg_gr:Prg:=⟨Go.Proofs.Tryz.prog⟩
theorem q2h {H:Type} {enc:TypeId × Value→H} {W:World} {args:List Value} {ds:List (DataW H)} {ps:List MemPlace} (h:DataW.TrodAll enc Go.Proofs.Tryz.prog W 0 (fun _=>true) true [9,9] args ds ps) (hb:X6 ds≤1048576) :
 ∃ n,call T0 X0 n 4 (ds.map fun d=>.d (toD d)) []=some (.ret [.d (.bool true)] []):=by
 obtain ⟨v0,vs0,d0,ds0,p0,q0,_,rfl,_,⟨f0,h0⟩,r0⟩:=trodAll_cons h;obtain ⟨v1,vs1,d1,ds1,p1,q1,_,rfl,_,⟨f1,h1⟩,r1⟩:=trodAll_cons r0;obtain ⟨_,rfl,_⟩:=trodAll_nil r1;simp only[X6] at hb;obtain ⟨s,e0,l0⟩:=Ka Go.Proofs.Tryz.underlying9 h0;obtain ⟨more,e1,l1⟩:=Ka Go.Proofs.Tryz.underlying9 h1;simp only[] at l0 l1 e0 e1;have g:=qw5 s more (by omega) (by omega)
 have e:([d0,d1].map fun d=>V.d (toD d))=[.d (.str s),.d (.str more)]:=by
  simp only[List.map_cons,List.map_nil,e0,e1]
 rw[e];exact jG g
end Go.Rf

namespace Go.Proofs.YtpaeaccmddffjaaGreatDoor.gr
open Go.ChangeShapes Go.WideShapes Go.ChangeAt Go.RowKit Go.Shelf Go.Lib Go.Rf
theorem own:ownKnob Tryz.prog.godebug=none:=by kernel_rfl
theorem laidOut:laidOutB Tryz.prog=true:=by kernel_rfl
def ren260:Shelf.Ren where
 f n:=match n with | 240=>50 | 169=>32 | 276=>76 | _=>125
 t n:=match n with | 37=>77 | 46=>185 | 70=>76 | 72=>79 | 119=>216 | 127=>121 | 138=>218 | 139=>219 | 164=>153 | n=>n
 g n:=match n with | 3=>0 | _=>1
theorem lays260:Go.Proofs.Lays.n260 Tryz.prog ren260 where
 mixed:=by kernel_rfl
 f260:=by kernel_rfl
 t0:=by kernel_rfl
 a0:=Tryz.isAgg0
 z0:=Tryz.sizeOf0
 v0:=Tryz.zeroValue0
 t3:=by kernel_rfl
 a3:=Tryz.isAgg3
 z3:=Tryz.sizeOf3
 v3:=Tryz.zeroValue3
 t4:=by kernel_rfl
 a4:=Tryz.isAgg4
 z4:=Tryz.sizeOf4
 v4:=Tryz.zeroValue4
 t5:=by kernel_rfl
 a5:=Tryz.isAgg5
 z5:=Tryz.sizeOf5
 v5:=Tryz.zeroValue5
 t9:=by kernel_rfl
 a9:=Tryz.isAgg9
 z9:=Tryz.sizeOf9
 v9:=Tryz.zeroValue9
 t21:=by kernel_rfl
 a21:=Tryz.isAgg21
 z21:=Tryz.sizeOf21
 v21:=Tryz.zeroValue21
 t46:=by kernel_rfl
 a46:=Tryz.isAgg185
 z46:=Tryz.sizeOf185
 v46:=Tryz.zeroValue185
 t119:=by kernel_rfl
 a119:=Tryz.isAgg216
 z119:=Tryz.sizeOf216
 t138:=by kernel_rfl
 a138:=Tryz.isAgg218
 z138:=Tryz.sizeOf218
 v138:=Tryz.zeroValue218
 t139:=by kernel_rfl
 a139:=Tryz.isAgg219
 z139:=Tryz.sizeOf219
 v139:=Tryz.zeroValue219
 g3:=by kernel_rfl
 g4:=by kernel_rfl
theorem lays240:Go.Proofs.Lays.n240 Tryz.prog ren260 where
 mixed:=by kernel_rfl
 f240:=by kernel_rfl
 f276:=by kernel_rfl
 t0:=by kernel_rfl
 a0:=Tryz.isAgg0
 z0:=Tryz.sizeOf0
 v0:=Tryz.zeroValue0
 t4:=by kernel_rfl
 a4:=Tryz.isAgg4
 z4:=Tryz.sizeOf4
 v4:=Tryz.zeroValue4
 t9:=by kernel_rfl
 a9:=Tryz.isAgg9
 z9:=Tryz.sizeOf9
 v9:=Tryz.zeroValue9
 t20:=by kernel_rfl
 a20:=Tryz.isAgg20
 z20:=Tryz.sizeOf20
 v20:=Tryz.zeroValue20
 t70:=by kernel_rfl
 a70:=Tryz.isAgg76
 z70:=Tryz.sizeOf76
 v70:=Tryz.zeroValue76
 t72:=by kernel_rfl
 a72:=Tryz.isAgg79
 z72:=Tryz.sizeOf79
 v72:=Tryz.zeroValue79
 t164:=by kernel_rfl
 a164:=Tryz.isAgg153
 z164:=Tryz.sizeOf153
 v164:=Tryz.zeroValue153
theorem lays169:Go.Proofs.Lays.n169 Tryz.prog ren260 where
 mixed:=by kernel_rfl
 f169:=by kernel_rfl
 t0:=by kernel_rfl
 a0:=Tryz.isAgg0
 z0:=Tryz.sizeOf0
 v0:=Tryz.zeroValue0
 t3:=by kernel_rfl
 a3:=Tryz.isAgg3
 z3:=Tryz.sizeOf3
 v3:=Tryz.zeroValue3
 t9:=by kernel_rfl
 a9:=Tryz.isAgg9
 z9:=Tryz.sizeOf9
 v9:=Tryz.zeroValue9
 t37:=by kernel_rfl
 a37:=Tryz.isAgg77
 z37:=Tryz.sizeOf77
 v37:=Tryz.zeroValue77
 t70:=by kernel_rfl
 a70:=Tryz.isAgg76
 z70:=Tryz.sizeOf76
 v70:=Tryz.zeroValue76
 t72:=by kernel_rfl
 a72:=Tryz.isAgg79
 z72:=Tryz.sizeOf79
 v72:=Tryz.zeroValue79
 t127:=by kernel_rfl
 a127:=Tryz.isAgg121
 z127:=Tryz.sizeOf121
 v127:=Tryz.zeroValue121
theorem x72:Builder.X72 Tryz.prog ren260 where
 sizeBuilder:=by kernel_rfl
 liesBuilder:=by kernel_rfl
theorem bextra:Builder.Extra Tryz.prog ren260 where
 toX72:=x72
 t5:=by kernel_rfl
 a5:=Tryz.isAgg5
 z5:=Tryz.sizeOf5
 v5:=Tryz.zeroValue5
 infoByte:=by kernel_rfl
 cellsByte:=by kernel_rfl
 sizeByte:=by kernel_rfl
 neB5:=by decide
theorem extra:U8Extra Tryz.prog ren260:=by constructor <;> kernel_rfl
theorem tabs {W:World} (h:laidMetH Tryz.prog Rows.graphRowsUptoRow.laid W):qjz (Yk W) 0 1:=by
 rw[MakeChecks.laidMetH_plain _ _ _ (by kernel_rfl)] at h;have hT:Lib.Utf8Tabs (ren260.g 3) (ren260.g 4) W:=utf8Tabs_of_readsT (U8Types.of260 lays260) extra (Pinned.utf8First_eq ▸ Lib.laidMet.reads h (.tail _ (.head _))) (Lib.laidMet.reads h (.head _));exact ⟨hT.1,hT.2⟩
mutual
theorem bulk_eq {H:Type}:∀ d:DataW H,Rows.uptoBulk d=qj d
 | .lit l=>by cases l <;> rfl
 | .nil=>rfl
 | .ptr d=>by simp only[Rows.uptoBulk,qj,bulk_eq d]
 | .slice a b=>by simp only[Rows.uptoBulk,qj,bulks_eq a,bulks_eq b]
 | .agg a=>by simp only[Rows.uptoBulk,qj,bulks_eq a]
 | .iface _ d=>by simp only[Rows.uptoBulk,qj,bulk_eq d]
 | .map es=>by simp only[Rows.uptoBulk,qj,bulkEs_eq es]
 | .held _=>rfl
theorem bulks_eq {H:Type}:∀ d:List (DataW H),Rows.uptoBulkAll d=X6 d
 | []=>rfl
 | d :: r=>by simp only[Rows.uptoBulkAll,X6,bulk_eq d,bulks_eq r]
theorem bulkEs_eq {H:Type}:∀ d:List (Lit × DataW H),Rows.uptoBulkEntries d=Wq d
 | []=>rfl
 | x :: r=>by simp only[Rows.uptoBulkEntries,Wq,bulkE_eq x,bulkEs_eq r]
theorem bulkE_eq {H:Type}:∀ d:Lit × DataW H,Rows.uptoBulkEntry d=qnd d
 | (l,d)=>by cases l <;> simp only[Rows.uptoBulkEntry,qnd,bulk_eq d]
end
set_option maxRecDepth 100000 in
theorem contract (H:Type) (enc:TypeId × Value→H) (W:World) (base:Nat) (args:Array Value) (ds gs:List (DataW H)) (before:List MemPlace)
 (hval:∀ (j:Nat) t v,Tryz.f4.params[j]? = some t→args[j]? = some v→Value.okWide Tryz.prog W .any base t v)
 (hW:DataW.Whole enc Tryz.prog Tryz.f4.params.toList Rows.graphRowsSpec.vars false W args.toList ds gs before) (hL:laidMetH Tryz.prog Rows.graphRowsUptoRow.laid W) (hb:Rows.uptoBulkAll (ds++gs)≤1048576) :
 Calls Tryz.prog 4 args W fun e W'=>∃ v,e = .returned v∧Rows.graphRowsSpec.post enc Tryz.prog Tryz.f4 false true false false W args v W':=by
 have hW':=hW;obtain ⟨p,q,hA0,hV,rfl,hfz,hnd⟩:=hW
 have hA:DataW.TrodAll enc Tryz.prog W 0 (fun _=>true) true [9,9] args.toList ds p:=by rw[Tryz.params4] at hA0; exact hA0
 rw[Tryz.params4] at hval;obtain ⟨rfl,rfl⟩:=trodVars_none hV;rw[List.append_nil,bulks_eq] at hb;have hr:=QU (f:=8) (ρ:=fun _=>.none) (r:=.any) (base:=base) _ _ _ _ hA (by intro t ht; simp only[List.mem_cons,List.not_mem_nil,or_false] at ht; rcases ht with rfl | rfl <;> kernel_rfl) (fun j t v h1 h2=>hval j t v (by simpa using h1) (by simpa using h2)) hb;obtain ⟨n,hn⟩:=q2h (enc:=enc) hA hb
 refine (qgh rfl zhk zhl (fun f e he=>?_) hr hn).mono fun e W' ⟨he,hw⟩=>?_
 ·unfold X0 at he;simp only at he;split at he
  ·cases he;rename_i hf;subst hf;exact qsd lays260 (by kernel_rfl) (tabs hL)
  ·split at he
   ·cases he;rename_i hf;subst hf;exact qzw lays240 x72 (by kernel_rfl)
   ·split at he
    ·cases he;rename_i hf;subst hf;exact qzz lays169 bextra (by kernel_rfl)
    ·cases he
 ·subst he
  have hlt:∀ x∈p,x.block < W.heap.size:=fun x hx=>by simpa using hW'.lt x (List.mem_append_left _ hx)
  have hback:=vW laidOut hw [9,9] _ _ _ (by intro t ht; simp only[List.mem_cons,List.not_mem_nil,or_false] at ht; rcases ht with rfl | rfl <;> exact ⟨by kernel_rfl,of_decide_eq_true (by kernel_rfl)⟩) hA hlt
  obtain ⟨d0,d1,rfl⟩:∃ d0 d1,ds=[d0,d1]:=by
   obtain ⟨v0,vs0,d0,ds0,p0,q0,_,rfl,_,_,r0⟩:=trodAll_cons hA;obtain ⟨v1,vs1,d1,ds1,p1,q1,_,rfl,_,_,r1⟩:=trodAll_cons r0;obtain ⟨_,rfl,_⟩:=trodAll_nil r1;exact ⟨d0,d1,rfl⟩
  refine ⟨_,rfl,[d0,d1],[],p++[],[],p,[],hW',trodAll_mk1 (shut_bool Tryz.underlying4 _),?_,rfl,hw.frame _,fun h=>by cases h⟩;rw[Tryz.params4];exact hback
theorem laid_met (os:Os):laidMet Tryz.prog Rows.graphRowsUptoRow.laid ((World.laidAll Tryz.prog os Rows.graphRowsUptoRow.laid).forCall (fun _ _=>0) ⟨#[],#[.string ⟨#[]⟩,.string ⟨#[]⟩],[]⟩).memory:=
 laidMet_laidAll _ (by kernel_rfl) (by kernel_rfl)
theorem reads (os:Os) {H:Type} (enc:TypeId × Value→H):∃ places,DataW.whole enc Tryz.prog ((World.laidAll Tryz.prog os Rows.graphRowsUptoRow.laid).forCall (fun _ _=>0) ⟨#[],#[.string ⟨#[]⟩,.string ⟨#[]⟩],[]⟩).memory Tryz.f4.params.toList Rows.graphRowsSpec.vars false #[(.string ⟨#[]⟩:Value),.string ⟨#[]⟩].toList 8=some ([.lit (.string []),.lit (.string [])],[],places):=
 ⟨[],by kernel_rfl⟩
set_option maxRecDepth 100000 in
theorem liftedUpto (os:Os) (started:os.Started) (H:Type) (enc:TypeId × Value→H) (F:Stop.Interp) :
 ReturnsInHanded {} Tryz.checked os 4 .any ((Rows.OpenSpec.upto Rows.graphRowsSpec).preRow enc Tryz.prog Tryz.f4 Rows.graphRowsUptoRow.domain false Rows.graphRowsUptoRow.laid) (((Rows.OpenSpec.upto Rows.graphRowsSpec).at F).post enc Tryz.prog Tryz.f4 false true false false):=by
 obtain ⟨places,hx⟩:=reads os enc
 refine returnsInHanded_of_row (C:=Tryz.checked) (s:=Rows.OpenSpec.upto Rows.graphRowsSpec) own started (by kernel_rfl) Tryz.func4
  (witness_row_at (enc:=enc) (C:=Tryz.checked) false (World.laidAll Tryz.prog os Rows.graphRowsUptoRow.laid) #[.string ⟨#[]⟩,.string ⟨#[]⟩] (World.laidAll_os _ _ _) (by kernel_rfl) (by kernel_rfl) (by kernel_rfl)
   (OpenSpec.preRow_of_cond 8 hx (by kernel_rfl) (fun k hk=>by cases hk; kernel_rfl) (by kernel_rfl) (laid_met os))) ?_
 intro W base args ds gs before hval hW _ hcond _ hL _ _
 exact contract H enc W base args ds gs before hval hW hL (by
  have:=hcond _ rfl
  simpa only [Rows.uptoSmall,decide_eq_true_eq] using this)
theorem ai {a b:Bool} (h:a=true) (g:b=true):(a && b)=true:=by rw[h,g]; rfl
set_option maxHeartbeats 0 in
set_option maxRecDepth 100000 in
theorem closedUpto:joinedFacts Tryz.pinned.checked.prog 4 Tryz.f4 (Rows.OpenSpec.upto Rows.graphRowsSpec).bare Rows.graphRowsUptoRow=true:=by
 unfold joinedFacts
 repeat' with_reducible refine ai ?_ ?_
 all_goals (as_aux_lemma=>kernel_rfl)
theorem saidUpto:Rows.GraphRowsUptoSaid:=
 OpenClaim.holds_of_cond 4 Tryz.f4 rfl rfl rfl rfl rfl rfl rfl ⟨rfl,rfl,rfl,rfl,rfl⟩ rfl rfl rfl rfl rfl (by kernel_rfl) Tryz.func4 closedUpto
  (of_decide_eq_true (by kernel_rfl)) (by unfold Func.isWrapper; first | (rw[if_pos (by decide +kernel)]; kernel_rfl) | (rw[if_neg (by decide +kernel)]; exact ⟨rfl,rfl⟩))
  (fun os started H enc _ F=>by rw[OpenClaim.pre_eq_preRow]; exact liftedUpto os started H enc F)
theorem plain (f : FuncId) (fn : Func) (hf : Tryz.pinned.checked.prog.funcNamed "rafter/rafterlaw10.GraphRows" = some f) (hfn : Tryz.pinned.checked.prog.funcs[f]? = some fn) :
 true=Tryz.pinned.checked.prog.looks [] ∧ ∀ (j:Nat) t,fn.params[j]? = some t→Tryz.pinned.checked.prog.wantsStandIn t=false:=by
 obtain rfl : f = 4 := Option.some.inj ((show Tryz.prog.funcNamed "rafter/rafterlaw10.GraphRows" = some 4 by kernel_rfl).symm.trans hf) |>.symm;obtain rfl : fn = Tryz.f4 := (Option.some.inj (Tryz.func4.symm.trans hfn)).symm;refine ⟨by kernel_rfl, fun j t ht => ?_⟩;rw [Tryz.params4] at ht
 have hm:t∈([9,9]:List Nat):=by simpa using Array.mem_of_getElem? ht
 have hall:(([9,9]:List Nat).all fun u=>!Tryz.prog.wantsStandIn u)=true:=by kernel_rfl
 exact (show Tryz.prog.wantsStandIn t=false by simpa using List.all_eq_true.1 hall t hm)
theorem cardUpto:Rows.GraphRowsUptoCardSaid:=
 Claim7.holds_tied_plain_at .later [] _ _ _ _ saidUpto (fun _ h=>by cases h) (by kernel_rfl) (fun _ h=>by cases h) graphRowsUpto_row_tie rfl ⟨rfl,rfl⟩ (by kernel_rfl) rfl plain (by kernel_rfl)
#print axioms cardUpto
end Go.Proofs.YtpaeaccmddffjaaGreatDoor.gr
