/- Parts of the proof. -/
import Derived.Test.YtpaeaccmddffjaaGreatDoorRb2
import Derived.Test.YtpaeaccmddffjaaGreatDoorSp16
set_option linter.all false
namespace Go.Rf
set_option maxHeartbeats 32000000
def GX (g:Gb) (p e m:Bool) (k:Nat) (xs:List Obj):List Obj:=
 [.arr [.agg [.ptr (.b 1) 0 0,.d (.bool g.long)]] ⟨2,0⟩,
  .arr [.agg [.d (.sl (SL g.vs)),.d (.sl (LD bgL g.bs)),.d (.int .i64 g.ex),.ref (.b (sel e (k + 9) 2)) ⟨15,160⟩ 0 g.edges.length,.ref (.b (sel p (sel e (k + 10) (k + 9)) 3)) ⟨1,24⟩ 0 g.out.length,.ref (.b (sel p (sel e (k + 11) (k + 10)) 4)) ⟨1,24⟩ 0 g.inn.length,
   .ref (.b (sel m (sel p (sel e (k + 12) (k + 11)) (sel e (k + 10) (k + 9))) 5)) ⟨1,16⟩ 0 g.marks.length,.ref (.b (sel m (sel p (sel e (k + 13) (k + 12)) (sel e (k + 11) (k + 10))) 6)) ⟨1,8⟩ 0 g.md.length,.map (.b 7),.map (.b 8)]] ⟨10,0⟩,
  sel e .dead (.arr (LW edL g.edges) ⟨15,160⟩),sel p .dead (.gl (jC g.out) ⟨1,24⟩),sel p .dead (.gl (jC g.inn) ⟨1,24⟩),sel m .dead (.arr (LW txL g.marks) ⟨1,16⟩),sel m .dead (.arr (LW inL g.md) ⟨1,8⟩),.map (Zo g.st),.map (Zo g.hd)]++(xs ++
 (sel e [.arr (LW edL g.edges) ⟨15,160⟩] []++(sel p [.gl (jC g.out) ⟨1,24⟩,.gl (jC g.inn) ⟨1,24⟩] []++sel m [.arr (LW txL g.marks) ⟨1,16⟩,.arr (LW inL g.md) ⟨1,8⟩] [])))
def chX (p:Pl) (bs:List Bl):Obj:=.arr [.d (.agg [.int .i64 p.b,.int .i64 p.g,.int .i64 p.l,.int .i64 p.c,.sl (LD blL bs)])] ⟨5,0⟩
theorem za2 {n:Nat} {q:Pl} {b:List Sm} (ih:qff n b) (p:Pl) (bs pre rest:List Bl) (hbs:bs=pre ++ .mk q b :: rest) (hl:bs.length≤1000000) (g:Gb) (a:Int) {N:Nat} (h:Gok g n N) (hN:N + 10 * (1 + Sms.sz b)≤900000) (h0:0≤a) (h1:a < g.out.length) (es:List Int) (hes:es.length≤1000000) (w m0:Bool) (hc0:w=false→m0=false) (ev:List (Nat × V)) :
 ∃ m,j6 T0 X0 9 J0 (some (.nrm,⟨(0,.ptr (.b 0) 0 0) :: (1,.d (Sm.choose p bs).d) :: (2,.d (.int .i64 a)) :: (7,.ptr (.b 9) 0 0) :: (8,.ref (.b 10) ⟨1,8⟩ 0 es.length) :: (18,.d (.sl (LD blL bs))) :: (19,.d (.int .i64 bs.length)) :: (20,.d (.int .i64 pre.length)) :: ev,GX g w w m0 2 [chX p bs,.arr (LW inL es) ⟨1,8⟩]⟩)) =
   some (.nrm,⟨[(0,.ptr (.b 0) 0 0),(1,.d (Sm.choose p bs).d),(2,.d (.int .i64 a)),(7,.ptr (.b 9) 0 0),(8,.ref (.b 10) ⟨1,8⟩ 0 (es.length + 1)),(18,.d (.sl (LD blL bs))),(19,.d (.int .i64 bs.length)),(20,.d (.int .i64 (pre.length + 1)))],
    GX (Sms.bld n b (g.point.edge { f:=a,t:=g.out.length,k:=5,tk:=pre.length,mn:=bs.length,at_:=p }) g.out.length).1 true true m 2 [chX p bs,.arr (LW inL (es++[(Sms.bld n b (g.point.edge { f:=a,t:=g.out.length,k:=5,tk:=pre.length,mn:=bs.length,at_:=p }) g.out.length).2])) ⟨1,8⟩]⟩):=by
 have ho:=h.ol;have s1:=B0 g (by omega) h.il;have s2:=YV h.point (by omega) (f:=a) (t:=g.out.length) (by rw[po]; omega) (by rw[po]; omega) pre.length bs.length (.choose p bs);have k1:=h.point.edge { f:=a,t:=g.out.length,k:=5,tk:=pre.length,mn:=bs.length,at_:=p };obtain ⟨p1,e1,m1,hc,s3⟩:=ih _ (g.out.length) _ k1 (by omega) (by omega) (by rw[eo,po]; omega)
 have hget:(LD blL bs)[pre.length]? = some (.agg [.int .i64 q.b,.int .i64 q.g,.int .i64 q.l,.int .i64 q.c,.sl (LD smL b)]):=by
  rw[jM blL _ (by rw[hbs]; simp)];simp[hbs,blL,Bl.d,Sms.d_LD]
 have hlt:pre.length < bs.length:=by rw[hbs]; simp
 simp only[Sm.at_] at s2;refine ⟨m0 || m1,?_⟩;generalize g.point.edge { f:=a,t:=g.out.length,k:=5,tk:=pre.length,mn:=bs.length,at_:=p } = g1 at *;generalize Sms.bld n b g1 g.out.length=r at *;generalize g.point=gp at *;generalize pre.length=i at *;have hlb:=xE b
 have hd:(Sm.choose p bs).d = .iface x8 (.agg [.int .i64 p.b,.int .i64 p.g,.int .i64 p.l,.int .i64 p.c,.sl (LD blL bs)]):=by simp only[Sm.d,Bls.d_LD]
 simp only[hd] at s2 ⊢;clear k1 ih hbs hd;have htk:(LW inL es).take es.length=LW inL es:=List.take_of_length_le (by simp)
 cases w <;> cases m0 <;> (try (exfalso; simp at hc0; done)) <;> cases p1 <;> cases e1 <;> (try (exfalso; simp at hc; done)) <;> cases m1
 all_goals
  simp only[GH,GX,chX,j3,j7,List.cons_append,List.nil_append,List.append_nil,Bool.or_true,Bool.or_false,Bool.true_or,Bool.false_or] at s1 s2 s3 ⊢;simp (maxSteps:=4000000) -implicitDefEqProofs (disch:=omega) [J0,s1,s2,s3,hget,htk]
end Go.Rf
