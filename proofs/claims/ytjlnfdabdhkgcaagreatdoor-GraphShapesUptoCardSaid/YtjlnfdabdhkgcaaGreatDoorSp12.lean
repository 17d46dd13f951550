/- Parts of the proof: SpE3, SpE4, SpU1, SpU2, SpU3, SpU4, SpU5, SpE5, SpK2, SpB1, SpH1. -/
import Derived.Test.YtjlnfdabdhkgcaaGreatDoorRb2
import Derived.Test.YtjlnfdabdhkgcaaGreatDoorSp11
import Derived.Test.YtjlnfdabdhkgcaaGreatDoorSp8
import Derived.Test.YtjlnfdabdhkgcaaGreatDoorSp6
import Derived.Test.YtjlnfdabdhkgcaaGreatDoorSp7

set_option linter.unusedSimpArgs false
set_option linter.unusedVariables false
set_option linter.unnecessarySimpa false
set_option linter.unusedSectionVars false
set_option linter.all false
namespace Go.Rf
theorem qrm {v:Int} (h0:0≤v) (h:(d6 v).length≤32):Wrote D9 [.d (Nd.num v).d] (L0 456 v):=by
 have s1:=qbg h0 h
 have hn:nl v < 1099511627776:=by
  have e:((v.natAbs:Nat):Int)=v:=by omega
  unfold nl; rw[e]; omega
 have hl:=QE (v:=v);refine ⟨fun hl2=>?_,fun s hl2=>?_⟩
 ·have s2:=ws0 (L0 456 v) (by omega);rw[a8 (af:=w5) rfl rfl rfl];simp only[Nd.d,KR,bld,xK,QA] at s2 ⊢;generalize L0 456 v=w at *;simp -implicitDefEqProofs (disch:=omega) [w5,s1,s2]
 ·have s2:=ws1 s (L0 456 v) (by omega);rw[a8 (af:=w5) rfl rfl rfl];simp only[Nd.d,bld,xK] at s2 ⊢;generalize L0 456 v=w at *;generalize s++w=w2 at *;simp -implicitDefEqProofs (disch:=omega) [w5,s1,s2]
theorem qni {v:Int} {t:List UInt8} (ht:t.length≤4096):Wrote D9 [.d (Nd.name v t).d] t:=by
 refine ⟨fun hl2=>?_,fun s hl2=>?_⟩
 ·have s2:=ws0 t (by omega);rw[a8 (af:=w5) rfl rfl rfl];simp only[Nd.d,KR,bld,xK,QA] at s2 ⊢;simp -implicitDefEqProofs (disch:=omega) [w5,s2]
 ·have s2:=ws1 s t (by omega);rw[a8 (af:=w5) rfl rfl rfl];simp only[Nd.d,bld,xK] at s2 ⊢;generalize s++t=w2 at *;simp -implicitDefEqProofs (disch:=omega) [w5,s2]
theorem qjo {x:Nd} {w:List UInt8} (h:Wrote D9 [.d x.d] w):Wrote D9 [.d (Nd.minus x).d] (45 :: wrB (!x.single) w):=by
 have p:=qhn h (!x.single);have s0:=Xu x;generalize wrB (!x.single) w=w1 at *;refine ⟨fun hl2=>?_,fun s hl2=>?_⟩
 ·rw[List.length_cons] at hl2;have s1:=wb0 45;have s2:=p.s [45] (by simp; omega);have e:[45]++w1=45 :: w1:=rfl;rw[e] at s2;rw[a8 (af:=w5) rfl rfl rfl];simp only[Nd.d,KR,bld,xK,QA] at s1 s2 ⊢;simp only[show (((45:UInt8).toNat:Nat):Int)=45 from rfl] at s1;generalize ([45]:List UInt8)=w0 at s1 s2;generalize 45 :: w1=w2 at *;simp -implicitDefEqProofs (disch:=omega) [w5,s0,s1,s2]
 ·rw[List.length_cons] at hl2;have s1:=wb1 s 45 (by omega);have s2:=p.s (s++[45]) (by simp; omega)
  have e:s++[45]++w1=s++45 :: w1:=by simp
  rw[e] at s2;rw[a8 (af:=w5) rfl rfl rfl];simp only[Nd.d,bld,xK] at s1 s2 ⊢;simp only[show (((45:UInt8).toNat:Nat):Int)=45 from rfl] at s1;generalize s++[45]=w0 at s1 s2;generalize s++45 :: w1=w2 at *;simp -implicitDefEqProofs (disch:=omega) [w5,s0,s1,s2]
theorem q9x {op:Int} (h:op=43∨op=45∨op=42∨op=47∨op=37):enc op=[opc op]∧0≤op∧op < 128:=by
 rcases h with rfl | rfl | rfl | rfl | rfl <;> decide
theorem zgk {op:Int} {x y:Nd} {so bx sy by_:Bool} {u1 q r1 r:List UInt8} (o0:0≤op) (o1:op < 128)
 (s0:d5 T0 X0 KE [.d (.int .u8 op)] []=some (.ret [.d (.bool so)] []))
 (s1:d5 T0 X0 kK [.d x.d] []=some (.ret [.d (.bool bx)] []))
 (s2:d5 T0 X0 kK [.d y.d] []=some (.ret [.d (.bool by_)] []))
 (s3:d5 T0 X0 Qq [.d y.d] []=some (.ret [.d (.bool sy)] []))
 (el:(enc op).length=1) (ql:q.length=3) (hq:(32 :: (enc op++[32]):List UInt8)=q)
 (t1:d5 T0 X0 kJ [.ptr (.b 0) 0 0,.d x.d,.d (.bool (!so && bx))] KR=some (.ret [] (xK u1)))
 (t2:d5 T0 X0 C6 [.ptr (.b 0) 0 0,.d (.str q)] (bld u1)=some (.ret [.d (.int .i64 q.length),.d .nili] (xK r1)))
 (t3:d5 T0 X0 kJ [.ptr (.b 0) 0 0,.d y.d,.d (.bool (so && by_ || !so && !sy))] (bld r1)=some (.ret [] (xK r))) :
 d5 T0 X0 D9 [.ptr (.b 0) 0 0,.d (Nd.two op x y).d] KR=some (.ret [] (xK r)):=by
 rw[a8 (af:=w5) rfl rfl rfl];simp only[Nd.d,KR,bld,xK,QA] at t1 t2 t3 ⊢;cases so
 ·cases bx <;> cases sy <;> simp only[Bool.not_true,Bool.not_false,Bool.true_and,Bool.false_and,Bool.and_true,Bool.and_false,Bool.or_false,Bool.false_or,Bool.true_or,Bool.or_true] at t1 t3 <;> simp -implicitDefEqProofs (disch:=omega) [w5,s0,s1,s2,s3,t1,t2,t3,ZI,el,ql,hq]
 ·cases by_ <;> simp only[Bool.not_true,Bool.not_false,Bool.true_and,Bool.false_and,Bool.and_true,Bool.and_false,Bool.or_false,Bool.false_or,Bool.true_or,Bool.or_true] at t1 t3 <;> simp -implicitDefEqProofs (disch:=omega) [w5,s0,s1,s2,s3,t1,t2,t3,ZI,el,ql,hq]
end Go.Rf

namespace Go.Rf
theorem zgl {op:Int} {x y:Nd} {so bx sy by_:Bool} {u0 u1 q r1 r:List UInt8} (o0:0≤op) (o1:op < 128)
 (s0:d5 T0 X0 KE [.d (.int .u8 op)] []=some (.ret [.d (.bool so)] []))
 (s1:d5 T0 X0 kK [.d x.d] []=some (.ret [.d (.bool bx)] []))
 (s2:d5 T0 X0 kK [.d y.d] []=some (.ret [.d (.bool by_)] []))
 (s3:d5 T0 X0 Qq [.d y.d] []=some (.ret [.d (.bool sy)] []))
 (el:(enc op).length=1) (ql:q.length=3) (hq:(32 :: (enc op++[32]):List UInt8)=q)
 (t1:d5 T0 X0 kJ [.ptr (.b 0) 0 0,.d x.d,.d (.bool (!so && bx))] (bld u0)=some (.ret [] (xK u1)))
 (t2:d5 T0 X0 C6 [.ptr (.b 0) 0 0,.d (.str q)] (bld u1)=some (.ret [.d (.int .i64 q.length),.d .nili] (xK r1)))
 (t3:d5 T0 X0 kJ [.ptr (.b 0) 0 0,.d y.d,.d (.bool (so && by_ || !so && !sy))] (bld r1)=some (.ret [] (xK r))) :
 d5 T0 X0 D9 [.ptr (.b 0) 0 0,.d (Nd.two op x y).d] (bld u0)=some (.ret [] (xK r)):=by
 rw[a8 (af:=w5) rfl rfl rfl];simp only[Nd.d,bld,xK] at t1 t2 t3 ⊢;cases so
 ·cases bx <;> cases sy <;> simp only[Bool.not_true,Bool.not_false,Bool.true_and,Bool.false_and,Bool.and_true,Bool.and_false,Bool.or_false,Bool.false_or,Bool.true_or,Bool.or_true] at t1 t3 <;> simp -implicitDefEqProofs (disch:=omega) [w5,s0,s1,s2,s3,t1,t2,t3,ZI,el,ql,hq]
 ·cases by_ <;> simp only[Bool.not_true,Bool.not_false,Bool.true_and,Bool.false_and,Bool.and_true,Bool.and_false,Bool.or_false,Bool.false_or,Bool.true_or,Bool.or_true] at t1 t3 <;> simp -implicitDefEqProofs (disch:=omega) [w5,s0,s1,s2,s3,t1,t2,t3,ZI,el,ql,hq]
theorem q6x {op:Int} (h:op=43∨op=45∨op=42∨op=47∨op=37):0≤op∧op < 128∧enc op=[opc op]:=by
 obtain ⟨a,b,c⟩:=q9x h;exact ⟨b,c,a⟩
theorem qrl {op:Int} {x y:Nd} {w1 w2:List UInt8} (ho:op=43∨op=45∨op=42∨op=47∨op=37) (h1:Wrote D9 [.d x.d] w1) (h2:Wrote D9 [.d y.d] w2) :
 Wrote D9 [.d (Nd.two op x y).d] (wrB (!R9 op && x.adds) w1++32 :: opc op :: 32 :: wrB (R9 op && y.adds || !R9 op && !y.single) w2):=by
 have p1:=qhn h1 (!R9 op && x.adds);have p2:=qhn h2 (R9 op && y.adds || !R9 op && !y.single);obtain ⟨o0,o1,he⟩:=q6x ho
 have hq:(32 :: (enc op++[32]):List UInt8)=[32,opc op,32]:=by rw[he]; rfl
 have hl1:(enc op).length=1:=by rw[he]; rfl
 refine ⟨fun hl2=>?_,fun s hl2=>?_⟩
 ·rw[List.length_append,List.length_cons,List.length_cons,List.length_cons] at hl2;have t1:=p1.z (by omega);have t2:=ws1 (wrB (!R9 op && x.adds) w1) [32,opc op,32] (by simp only[List.length_cons,List.length_nil]; omega);have t3:=p2.s (wrB (!R9 op && x.adds) w1++[32,opc op,32]) (by simp only[List.length_append,List.length_cons,List.length_nil]; omega)
  have e:∀ a b:List UInt8,a++[32,opc op,32]++b=a++32 :: opc op :: 32 :: b:=fun a b=>by rw[List.append_assoc]; rfl
  rw[e] at t3;exact zgk o0 o1 (Wy op) (JQ x) (JQ y) (Xu y) hl1 rfl hq t1 t2 t3
 ·rw[List.length_append,List.length_cons,List.length_cons,List.length_cons] at hl2;have t1:=p1.s s (by omega);have t2:=ws1 (s++wrB (!R9 op && x.adds) w1) [32,opc op,32] (by simp only[List.length_append,List.length_cons,List.length_nil]; omega);have t3:=p2.s (s++wrB (!R9 op && x.adds) w1++[32,opc op,32]) (by simp only[List.length_append,List.length_cons,List.length_nil]; omega)
  have e:∀ a b:List UInt8,s++a++[32,opc op,32]++b=s++(a++32 :: opc op :: 32 :: b):=fun a b=>by rw[List.append_assoc,List.append_assoc]; rfl
  rw[e] at t3;exact zgl o0 o1 (Wy op) (JQ x) (JQ y) (Xu y) hl1 rfl hq t1 t2 t3
theorem qnh {vs:List (List UInt8)}:∀ x:Nd,x.pr vs→Wrote D9 [.d x.d] (wr x):=by
 intro x
 induction x with
 | num k=>intro h; exact qrm h.1 h.2
 | name v s=>intro h; exact qni h.1.l
 | minus x ih=>intro h; exact qjo (ih h)
 | two op x y ih1 ih2=>intro h; exact qrl h.1 (ih1 h.2.1) (ih2 h.2.2)
theorem qgy:∀ s:List UInt8,qi6 (B8 s)=some s
 | []=>rfl
 | c :: s=>by
   have e:B8 (c :: s) = .d (.int .u8 c.toNat) :: B8 s:=rfl;have hc:=c.toNat_lt;rw[e,qi6,qgy s,if_pos (by omega)];simp
theorem qtj {s:List UInt8} (h:s≠[]):d5 T0 X0 U5 [.ptr (.b 0) 0 0] (bld s)=some (.ret [.d (.str s)] [.arr [.agg [.ptr (.b 0) 0 0,.ref (.b 1) ⟨1,1000005⟩ 0 s.length]] ⟨2,wSB⟩,.dead]):=by
 refine jr (n:=1) ?_
 have hl:s.length=(B8 s).length:=by unfold B8; rw[List.length_map]
 have hp:0 < s.length:=List.length_pos_iff.2 h;have e:call T0 X0 1 U5 [.ptr (.b 0) 0 0] (bld s)=bsX wSB 1000005 (call T0 X0 0) [.ptr (.b 0) 0 0] (bld s):=rfl;rw[e];unfold bsX bld;simp only[];rw[if_pos ⟨trivial,trivial,trivial,hl,hp⟩,qgy];rfl
theorem zga {vs:List (List UInt8)} {x:Nd} (h:x.pr vs):wr x≠[]:=by
 cases x with
 | num k=>exact (Wv h.1 (Yq h.1 h.2)).1
 | name v s=>exact h.1.ne
 | minus x=>simp[wr]
 | two op x y=>simp[wr]
theorem qz9:kB 0 1 [(1,⟨1,1000005⟩)] (.d (.agg [.nilp,.sl []]))=(.agg [.d .nilp,.ref (.n 0 1) ⟨1,1000005⟩ 0 0],[(.n 0 1,some (.arr [] ⟨1,1000005⟩))]):=rfl
theorem XO {vs:List (List UInt8)} {x:Nd} (h:x.pr vs) (hl:(wr x).length≤100000000):d5 T0 X0 qiq [.d x.d] []=some (.ret [.d (.str (wr x))] []):=by
 have s1:=(qnh x h).z hl;have s2:=qtj (zga h);rw[a8 (af:=ZS) rfl rfl rfl];simp only[KR,bld,xK,QA] at s1 s2;simp -implicitDefEqProofs (disch:=omega) [ZS,qz9,s1,s2]
end Go.Rf

namespace Go.Rf
set_option maxHeartbeats 4000000
def Sm.kind:Sm→Int
 | .set _ _ _ none=>3
 | .set _ _ _ (some _)=>2
 | .skip _=>4
 | .stop _=>5
 | .mark _ _=>6
 | .choose _ _=>7
 | .loop _ _=>9
 | .ifs _ _ _ _ _=>10
 | .ife _ _ _ _ _ _ _=>10
 | .while _ _ _ _ _=>12
def Sm.at_:Sm→Pl
 | .set p _ _ _=>p
 | .skip p=>p
 | .stop p=>p
 | .mark p _=>p
 | .choose p _=>p
 | .loop p _=>p
 | .ifs p _ _ _ _=>p
 | .ife p _ _ _ _ _ _=>p
 | .while p _ _ _ _=>p
def eqs (q:Bool):List UInt8:=if q then [32,61,32] else [32,33,61,32]
def wi (x y:Nd) (q:Bool):List UInt8:=wr x++(eqs q++wr y)
def Sm.head:Sm→List UInt8
 | .set _ _ s none=>s++[32,58,61,32,97,110,121]
 | .set _ _ s (some x)=>s++([32,58,61,32]++wr x)
 | .skip _=>[115,107,105,112]
 | .stop _=>[115,116,111,112]
 | .mark _ s=>[109,97,114,107,32]++s
 | .choose _ _=>[99,104,111,111,115,101]
 | .loop _ _=>[108,111,111,112]
 | .ifs _ x y q _=>[105,102,32]++wi x y q
 | .ife _ x y q _ _ _=>[105,102,32]++wi x y q
 | .while _ x y q _=>[119,104,105,108,101,32]++wi x y q
@[simp] theorem fitC_nd (x:Nd):jQ x.d=true:=by cases x <;> rfl
@[simp] theorem zcs (x:Nd):ZX true (.d x.d)=some false:=by cases x <;> rfl
@[simp] theorem zi3 (x:Nd):(V.cells (.d x.d))=[.d x.d]:=qx3 x
theorem jZ (s:Sm):d5 T0 X0 qmb [.d s.d] []=some (.ret [.d (.int .i64 s.kind)] []):=by
 rw[a8 (af:=kQ) rfl rfl rfl]
 cases s with
 | set p v s e=>
   cases e with
   | none=>simp (maxSteps:=1000000) -implicitDefEqProofs (disch:=omega) [kQ,f7,n7,l8,p9,v8,p7,o9,j8,Sm.d,Sm.kind,oD]
   | some x=>simp (maxSteps:=1000000) -implicitDefEqProofs (disch:=omega) [kQ,f7,n7,l8,p9,v8,p7,o9,j8,Sm.d,Sm.kind,oD]
 | _=>simp (maxSteps:=1000000) -implicitDefEqProofs (disch:=omega) [kQ,f7,n7,l8,p9,v8,p7,o9,j8,Sm.d,Sm.kind,kB,L6]
theorem KN {vs:List (List UInt8)} {x y:Nd} {q:Bool} (hx:Xok vs x) (hy:Xok vs y):d5 T0 X0 WI [.d (.agg [x.d,y.d,.bool q])] []=some (.ret [.d (.str (wi x y q))] []):=by
 rw[a8 (af:=kj) rfl rfl rfl];have l1:=Qh x hx.pr;have l2:=Qh y hy.pr;have z1:=hx.sz;have z2:=hy.sz;have s1:=XO hx.pr (by omega);have s2:=XO hy.pr (by omega);unfold wi;generalize wr x=a at *;generalize wr y=b at *;cases q
 all_goals
  simp -implicitDefEqProofs (disch:=omega) [kj,s1,s2,eqs]
theorem wK {vs:List (List UInt8)} {s:Sm} (h:s.fit vs):d5 T0 X0 qmc [.d s.d] []=some (.ret [.d (.str s.head)] []):=by
 have s0:=jZ s;rw[a8 (af:=T2) rfl rfl rfl]
 cases s with
 | set p v s e=>
   simp only[Sm.fit] at h;have hl:=h.1.l
   cases e with
   | none=>
     simp only[Sm.d,Sm.kind,Sm.head,oD] at s0 ⊢;simp (maxSteps:=1000000) -implicitDefEqProofs (disch:=omega) [T2,s0]
   | some x=>
     have hx:Xok vs x:=h.2.2.2.2;have l1:=Qh x hx.pr;have z1:=hx.sz;have s1:=XO hx.pr (by omega);simp only[Sm.d,Sm.kind,Sm.head,oD] at s0 ⊢;generalize wr x=a at *;simp (maxSteps:=1000000) -implicitDefEqProofs (disch:=omega) [T2,s0,s1]
 | mark p s=>
   simp only[Sm.fit] at h;have hl:=h.1.l;simp only[Sm.d,Sm.kind,Sm.head] at s0 ⊢;simp (maxSteps:=1000000) -implicitDefEqProofs (disch:=omega) [T2,s0]
 | ifs p x y q b=>
   simp only[Sm.fit] at h;have l1:=Qh x h.1.pr;have l2:=Qh y h.2.1.pr;have z1:=h.1.sz;have z2:=h.2.1.sz;have s1:=KN (q:=q) h.1 h.2.1
   have s2:(wi x y q).length≤100000000:=by unfold wi eqs; cases q <;> simp <;> omega
   simp only[Sm.d,Sm.kind,Sm.head] at s0 ⊢;generalize wi x y q=a at *;simp (maxSteps:=1000000) -implicitDefEqProofs (disch:=omega) [T2,s0,s1]
 | ife p x y q b pe e=>
   simp only[Sm.fit] at h;have l1:=Qh x h.1.pr;have l2:=Qh y h.2.1.pr;have z1:=h.1.sz;have z2:=h.2.1.sz;have s1:=KN (q:=q) h.1 h.2.1
   have s2:(wi x y q).length≤100000000:=by unfold wi eqs; cases q <;> simp <;> omega
   simp only[Sm.d,Sm.kind,Sm.head] at s0 ⊢;generalize wi x y q=a at *;simp (maxSteps:=1000000) -implicitDefEqProofs (disch:=omega) [T2,s0,s1]
 | «while» p x y q b=>
   simp only[Sm.fit] at h;have l1:=Qh x h.1.pr;have l2:=Qh y h.2.1.pr;have z1:=h.1.sz;have z2:=h.2.1.sz;have s1:=KN (q:=q) h.1 h.2.1
   have s2:(wi x y q).length≤100000000:=by unfold wi eqs; cases q <;> simp <;> omega
   simp only[Sm.d,Sm.kind,Sm.head] at s0 ⊢;generalize wi x y q=a at *;simp (maxSteps:=1000000) -implicitDefEqProofs (disch:=omega) [T2,s0,s1]
 | _=>
   simp only[Sm.d,Sm.kind,Sm.head] at s0 ⊢;simp (maxSteps:=1000000) -implicitDefEqProofs (disch:=omega) [T2,s0]
theorem Q0 (p:Pl):d5 T0 X0 c8 [.d (.agg p.cs)] []=some (.ret [.d (.agg p.cs)] []):=by
 rw[a8 (af:=jG) rfl rfl rfl];simp only[Pl.cs];simp -implicitDefEqProofs (disch:=omega) [jG]
end Go.Rf

namespace Go.Rf
set_option maxHeartbeats 4000000
def Sm.simple (n:Nat):Sm→Bool
 | .set _ _ _ (some x)=>(r9 n x).2
 | .ifs _ _ _ _ _=>false
 | .ife _ _ _ _ _ _ _=>false
 | .while _ _ _ _ _=>false
 | _=>true
theorem qj1 {vs:List (List UInt8)} {s:Sm} (h:s.fit vs) (hn:vs.length≤16):d5 T0 X0 qdj [.d s.d,.d (.int .i64 vs.length)] []=some (.ret [.d (.bool (s.simple vs.length))] []):=by
 rw[a8 (af:=ze) rfl rfl rfl]
 cases s with
 | set p v s e=>
   simp only[Sm.fit] at h
   cases e with
   | none=>
     simp (maxSteps:=1000000) -implicitDefEqProofs (disch:=omega) [ze,f7,n7,l8,p9,v8,p7,o9,j8,Sm.d,Sm.simple,oD]
   | some x=>
     have hx:Xok vs x:=h.2.2.2.2;have s1:=wM vs.length hn x hx.fine (by have:=hx.w; omega);simp only[Sm.d,Sm.simple,oD];generalize r9 vs.length x=f at *;simp (maxSteps:=1000000) -implicitDefEqProofs (disch:=omega) [ze,s1]
 | _=>simp (maxSteps:=1000000) -implicitDefEqProofs (disch:=omega) [ze,f7,n7,l8,p9,v8,p7,o9,j8,Sm.d,Sm.simple]
structure Wk where
 line:Int
 hard:List Int
 bad:Pl
def Wk.nl (w:Wk):Wk:={ w with line:=w.line + 1 }
def Wk.see (w:Wk) (ok:Bool) (p:Pl):Wk:=if ok then w else { w with bad:=if w.hard.length=0 then p else w.bad,hard:=w.hard++[w.line] }
mutual
def Sm.within (n:Nat):Sm→Wk→Wk
 | .choose _ bs,w=>Bls.walk n true bs w
 | .loop _ b,w=>Sms.walk n b w
 | .ifs _ _ _ _ b,w=>Sms.walk n b w
 | .ife _ _ _ _ b _ e,w=>Sms.walk n e (Sms.walk n b w).nl
 | .while _ _ _ _ b,w=>Sms.walk n b w
 | _,w=>w
def Sms.walk (n:Nat):List Sm→Wk→Wk
 | [],w=>w
 | s :: l,w=>Sms.walk n l (Sm.within n s (w.nl.see (s.simple n) s.at_))
def Bls.walk (n:Nat) (first:Bool):List Bl→Wk→Wk
 | [],w=>w
 | b :: l,w=>Bls.walk n false l (Bl.walk n b (if first then w else w.nl))
def Bl.walk (n:Nat):Bl→Wk→Wk
 | .mk _ b,w=>Sms.walk n b w
end
structure Wk.le (w w':Wk) (k:Nat):Prop where
 l0:w.line≤w'.line
 l1:w'.line≤w.line + k
 h0:w.hard.length≤w'.hard.length
 h1:w'.hard.length≤w.hard.length + k
theorem Wk.le.refl (w:Wk) (k:Nat):w.le w k:=⟨Int.le_refl _,by omega,Nat.le_refl _,by omega⟩
theorem Wk.le.trans {a b c:Wk} {j k:Nat} (h:a.le b j) (g:b.le c k):a.le c (j + k):=⟨Int.le_trans h.l0 g.l0,by have:=h.l1; have:=g.l1; omega,Nat.le_trans h.h0 g.h0,by have:=h.h1; have:=g.h1; omega⟩
theorem Wk.le.to {a b:Wk} {j k:Nat} (h:a.le b j) (hk:j≤k):a.le b k:=⟨h.l0,by have:=h.l1; omega,h.h0,by have:=h.h1; omega⟩
theorem Wk.nl_le (w:Wk):w.le w.nl 1:=⟨by show w.line≤w.line + 1; omega,by show w.line + 1≤w.line + 1; omega,Nat.le_refl _,Nat.le_succ _⟩
theorem Wk.see_le (w:Wk) (b p):w.le (w.nl.see b p) 1:=by
 unfold Wk.see;split
 ·exact w.nl_le
 ·exact ⟨by show w.line≤w.line + 1; omega,by show w.line + 1≤w.line + 1; omega,by show _≤(w.hard++[w.line + 1]).length; simp,by show (w.hard++[w.line + 1]).length≤_; simp⟩
mutual
theorem Js (n:Nat):∀ (s:Sm) (w:Wk),w.le (s.within n w) (s.sz - 1)
 | .choose _ bs,w=>by simp only[Sm.within,Sm.sz]; exact (qpv n true bs w).to (by omega)
 | .loop _ b,w=>by simp only[Sm.within,Sm.sz]; exact (xE n b w).to (by omega)
 | .ifs _ _ _ _ b,w=>by simp only[Sm.within,Sm.sz]; exact (xE n b w).to (by omega)
 | .ife _ _ _ _ b _ e,w=>by simp only[Sm.within,Sm.sz]; exact (((xE n b w).trans (Wk.nl_le _)).trans (xE n e _)).to (by omega)
 | .while _ _ _ _ b,w=>by simp only[Sm.within,Sm.sz]; exact (xE n b w).to (by omega)
 | .set ..,w=>by simp only[Sm.within]; exact Wk.le.refl _ _
 | .skip _,w=>by simp only[Sm.within]; exact Wk.le.refl _ _
 | .stop _,w=>by simp only[Sm.within]; exact Wk.le.refl _ _
 | .mark ..,w=>by simp only[Sm.within]; exact Wk.le.refl _ _
theorem xE (n:Nat):∀ (l:List Sm) (w:Wk),w.le (Sms.walk n l w) (Sms.sz l)
 | [],w=>by simp only[Sms.walk]; exact Wk.le.refl _ _
 | s :: l,w=>by
   simp only[Sms.walk,Sms.sz];have h:=((Wk.see_le w (s.simple n) s.at_).trans (Js n s _)).trans (xE n l _)
   have:1≤s.sz:=by cases s <;> simp only[Sm.sz] <;> omega
   exact h.to (by omega)
theorem qpv (n:Nat) (f:Bool):∀ (l:List Bl) (w:Wk),w.le (Bls.walk n f l w) (Bls.sz l)
 | [],w=>by simp only[Bls.walk]; exact Wk.le.refl _ _
 | .mk p b :: l,w=>by
   simp only[Bls.walk,Bl.walk,Bls.sz,Bl.sz];cases f
   ·exact (((Wk.nl_le w).trans (xE n b _)).trans (qpv n false l _)).to (by omega)
   ·exact ((xE n b w).trans (qpv n false l _)).to (by omega)
end
end Go.Rf

namespace Go.Rf
set_option maxHeartbeats 16000000
@[simp] theorem qws (h n) (s:Sm):S7 h n false (.d (.box s.d))=val (.d s.d):=by cases s <;> simp only[Sm.d] <;> rfl
@[simp] theorem zl1 (s:Sm):D.cells s.d=[s.d]:=s.cells
@[simp] theorem fitV_sm (s:Sm):N6 (.d s.d)=true:=by cases s <;> simp only[Sm.d] <;> rfl
@[simp] theorem JH (s:Sm):jQ s.d=true:=by cases s <;> simp only[Sm.d] <;> rfl
@[simp] theorem wI (T cf i h) (s:Sm):qc5 T cf [(qL,c8,none),(f7,c8,some (0,4,true)),(Y0,c8,some (0,4,true)),(l8,c8,some (0,4,true)),(j8,c8,some (0,4,true)),(n7,c8,some (0,4,true)),(p7,c8,some (0,4,true)),(o9,c8,some (0,4,true)),(v8,c8,some (0,4,true)),(p9,c8,some (0,4,true))] i h [] (Q9 (.d s.d))=vn cf c8 i h (A7 h [(.d (.agg s.at_.cs),true)]):=by
  cases s <;> simp only[Sm.d,Sm.at_] <;> rfl
def inL:Lst Int:=⟨fun n=>.int .i64 n,⟨1,8⟩,fun n=>by simp[wt,IntKind.bits],fun n=>rfl,by decide⟩
@[simp] theorem q4r (l):(∀ x∈LW inL l,x.cells.length=1)=True:=kT inL l
@[simp] theorem wl_in (l):(wl (LD inL l)≤8)=True:=Xk inL l
@[simp] theorem fit_in {n:Nat} (l) (h:n≤1099511627776):(n * wl (LD inL l)≤A5)=True:=WG inL l (by decide) h
@[simp] theorem zf8 (l n):LW inL l++[.d (.int .i64 n)]=LW inL (l++[n]):=kA inL l n
def wH (n:Nat) (w:Wk) (c:Bool):List Obj:=match c with
 | false=>[.arr [.agg [.d (.int .i64 n),.d (.int .i64 w.line),.ref (.b 1) ⟨1,8⟩ 0 w.hard.length,.d (.int .i64 w.bad.b),.d (.int .i64 w.bad.g),.d (.int .i64 w.bad.l),.d (.int .i64 w.bad.c)]] ⟨7,0⟩,.arr (LW inL w.hard) ⟨1,8⟩]
 | true=>[.arr [.agg [.d (.int .i64 n),.d (.int .i64 w.line),.ref (.b 2) ⟨1,8⟩ 0 w.hard.length,.d (.int .i64 w.bad.b),.d (.int .i64 w.bad.g),.d (.int .i64 w.bad.l),.d (.int .i64 w.bad.c)]] ⟨7,0⟩,.dead,.arr (LW inL w.hard) ⟨1,8⟩]
theorem zgg (n w):wH n w false=[.arr [.agg [.d (.int .i64 n),.d (.int .i64 w.line),.ref (.b 1) ⟨1,8⟩ 0 w.hard.length,.d (.int .i64 w.bad.b),.d (.int .i64 w.bad.g),.d (.int .i64 w.bad.l),.d (.int .i64 w.bad.c)]] ⟨7,0⟩,.arr (LW inL w.hard) ⟨1,8⟩]:=rfl
theorem zgf (n w):wH n w true=[.arr [.agg [.d (.int .i64 n),.d (.int .i64 w.line),.ref (.b 2) ⟨1,8⟩ 0 w.hard.length,.d (.int .i64 w.bad.b),.d (.int .i64 w.bad.g),.d (.int .i64 w.bad.l),.d (.int .i64 w.bad.c)]] ⟨7,0⟩,.dead,.arr (LW inL w.hard) ⟨1,8⟩]:=rfl
def chd (w w':Wk):Bool:=decide (w.hard.length < w'.hard.length)
theorem QY {a b c:Wk} {j k:Nat} (h:a.le b j) (g:b.le c k):chd a c=(chd a b || chd b c):=by
 have:=h.h0;have:=g.h0;unfold chd
 by_cases h1:a.hard.length < b.hard.length
 ·simp[h1]; omega
 ·by_cases h2:b.hard.length < c.hard.length
  ·simp[h2]; omega
  ·simp[h1,h2]; omega
theorem qx2 (a b:Wk):chd a b.nl=chd a b:=rfl
def qyk (n:Nat) (s:Sm):Prop:=∀ w:Wk,0≤w.line→w.line + s.sz≤1000000→w.hard.length + s.sz≤1000000→
 d5 T0 X0 Xe [.ptr (.b 0) 0 0,.d s.d] (wH n w false)=some (.ret [] (wH n (s.within n w) (chd w (s.within n w))))
theorem qn0 (s:Sm):1≤s.sz:=by cases s <;> simp only[Sm.sz] <;> omega
theorem qzw {vs:List (List UInt8)} {s:Sm} (hs:s.fit vs) (hn:vs.length≤16) (ih:qyk vs.length s) (pre rest:List Sm) (w0 w:Wk) (e:List (Nat × V)) {j:Nat} (h0:w0.le w j) (hl:0≤w.line) (h1:w.line + s.sz < 1000000) (h2:w.hard.length + s.sz < 1000000) (h3:(pre++s :: rest).length≤1000000) :
 j0 T0 X0 2 D0 (some (.nrm,⟨(0,.ptr (.b 0) 0 0) :: (6,.d (.sl (LD smL (pre++s :: rest)))) :: (7,.d (.int .i64 (pre++s :: rest).length)) :: (8,.d (.int .i64 pre.length)) :: e,wH vs.length w (chd w0 w)⟩)) =
  some (.nrm,⟨[(0,.ptr (.b 0) 0 0),(6,.d (.sl (LD smL (pre++s :: rest)))),(7,.d (.int .i64 (pre++s :: rest).length)),(8,.d (.int .i64 (pre.length + 1)))],wH vs.length (s.within vs.length (w.nl.see (s.simple vs.length) s.at_)) (chd w0 (s.within vs.length (w.nl.see (s.simple vs.length) s.at_)))⟩):=by
 have s1:=qj1 hs hn;have hpos:=qn0 s;have g1:=Wk.see_le w (s.simple vs.length) s.at_;have g2:=Js vs.length s (w.nl.see (s.simple vs.length) s.at_);have s2:=ih (w.nl.see (s.simple vs.length) s.at_) (by have:=g1.l0; omega) (by have:=g1.l1; omega) (by have:=g1.h1; omega)
 have hget:(LD smL (pre++s :: rest))[pre.length]? = some s.d:=by rw[zU smL _ (by simp)]; simp[smL]
 have hlt:pre.length < (pre++s :: rest).length:=by simp
 have hc:=QY (h0.trans g1) g2
 have hplace:∃ t x,s.d = .iface t x:=by cases s <;> simp only[Sm.d] <;> exact ⟨_,_,rfl⟩
 have s3:=Q0 s.at_;rw[hc];clear hc;generalize s.within vs.length (w.nl.see (s.simple vs.length) s.at_)=w3 at *;generalize hw2:w.nl.see (s.simple vs.length) s.at_=w2 at *;clear ih hplace g2;have b1:=h0.h0;have b2:=h0.l0;have b3:=g1.h1;generalize hc3:chd w2 w3=c3 at *;generalize hc0:chd w0 w=c0 at *
 have hch:chd w0 w2=(c0 || chd w w2):=by rw[QY h0 g1,hc0]
 rw[hch];cases hsi:s.simple vs.length
 ·rw[hsi] at s1 hw2;have e2:w2 = { line:=w.line + 1,bad:=if w.hard.length=0 then s.at_ else w.bad,hard:=w.hard++[w.line + 1] }:=hw2.symm
  have hcw:chd w w2=true:=by rw[e2]; simp[chd]
  rw[hcw];subst e2
  by_cases hz:w.hard.length=0
  ·simp only[if_pos hz] at s2 ⊢
   cases c0 <;> cases c3
   all_goals
    simp only[wH,Pl.cs,List.length_append,List.length_cons,List.length_nil,Nat.zero_add] at s2 s3 ⊢;simp (maxSteps:=4000000) -implicitDefEqProofs (disch:=omega) [D0,s1,s2,s3,hget,-List.length_eq_zero_iff,Pl.cs]
  ·simp only[if_neg hz] at s2 ⊢
   cases c0 <;> cases c3
   all_goals
    simp only[wH,Pl.cs,List.length_append,List.length_cons,List.length_nil,Nat.zero_add] at s2 s3 ⊢;simp (maxSteps:=4000000) -implicitDefEqProofs (disch:=omega) [D0,s1,s2,s3,hget,-List.length_eq_zero_iff,Pl.cs]
 ·rw[hsi] at s1 hw2;have e2:w2=w.nl:=hw2.symm
  have hcw:chd w w2=false:=by rw[e2]; simp[chd,Wk.nl]
  rw[hcw];subst e2
  cases c0 <;> cases c3
  all_goals
   simp only[wH,Pl.cs,Wk.nl] at s2 s3 ⊢;simp (maxSteps:=4000000) -implicitDefEqProofs (disch:=omega) [D0,s1,s2,hget]
end Go.Rf

namespace Go.Rf
set_option maxHeartbeats 16000000
theorem qfo {vs:List (List UInt8)} (hn:vs.length≤16):∀ (rest pre:List Sm) (w0 w:Wk) (e:List (Nat × V)) (j:Nat),Sms.fit vs rest→(∀ s∈rest,qyk vs.length s)→w0.le w j→0≤w.line→w.line + Sms.sz rest < 1000000→w.hard.length + Sms.sz rest < 1000000→(pre++rest).length≤1000000→
 j0 T0 X0 2 R6 (some (.nrm,⟨(0,.ptr (.b 0) 0 0) :: (6,.d (.sl (LD smL (pre++rest)))) :: (7,.d (.int .i64 (pre++rest).length)) :: (8,.d (.int .i64 pre.length)) :: e,wH vs.length w (chd w0 w)⟩)) =
  some (.exit 0,⟨[],wH vs.length (Sms.walk vs.length rest w) (chd w0 (Sms.walk vs.length rest w))⟩)
 | [],pre,w0,w,e,j,_,_,_,_,_,_,hl=>by
   rw[c9 (l:=R6) rfl];simp only[Sms.walk,List.append_nil] at *;generalize chd w0 w=c;cases c
   all_goals
    simp only[wH];simp -implicitDefEqProofs (disch:=omega) [D0]
 | s :: rest,pre,w0,w,e,j,hf,hw,h0,h1,h2,h3,hl=>by
   simp only[Sms.fit,Sms.sz,Sms.walk] at *;have hp:=qn0 s;have hs:=hw s (List.mem_cons_self ..);have one:=qzw hf.1 hn hs pre rest w0 w [] h0 h1 (by omega) (by omega) hl;have g1:=(Wk.see_le w (s.simple vs.length) s.at_).trans (Js vs.length s (w.nl.see (s.simple vs.length) s.at_));have ih:=qfo hn rest (pre++[s]) w0 (s.within vs.length (w.nl.see (s.simple vs.length) s.at_)) [] _ hf.2 (fun x hx=>hw x (List.mem_cons_of_mem _ hx)) (h0.trans g1) (by have:=g1.l0; omega) (by have:=g1.l1; omega) (by have:=g1.h1; omega) (by simpa using hl)
   have el:pre++[s]++rest=pre++s :: rest:=by simp
   have e2:(pre++[s]).length=pre.length + 1:=by simp
   rw[el,e2] at ih;simp only[Int.natCast_add,Int.cast_ofNat_Int] at ih;rw[c9 (l:=R6) rfl];generalize s.within vs.length (w.nl.see (s.simple vs.length) s.at_)=w3 at *;generalize wH vs.length (Sms.walk vs.length rest w3) (chd w0 (Sms.walk vs.length rest w3))=hx at *;generalize wH vs.length w3 (chd w0 w3)=hy at *;rw[← ih];generalize (pre++s :: rest).length=N at *;generalize chd w0 w=c at *;cases c
   all_goals
    simp only[zgg,zgf] at one ⊢;simp -implicitDefEqProofs (disch:=omega) [one]
theorem Ko {vs:List (List UInt8)} (hn:vs.length≤16) {l:List Sm} (hf:Sms.fit vs l) (hw:∀ s∈l,qyk vs.length s) (hl:l.length≤1000000):∀ w:Wk,0≤w.line→w.line + Sms.sz l < 1000000→w.hard.length + Sms.sz l < 1000000→
 d5 T0 X0 Y7 [.ptr (.b 0) 0 0,.d (.sl (LD smL l))] (wH vs.length w false)=some (.ret [] (wH vs.length (Sms.walk vs.length l w) (chd w (Sms.walk vs.length l w)))):=by
 intro w h1 h2 h3;have lp:=qfo hn l [] w w [] 0 hf hw (Wk.le.refl _ _) h1 h2 h3 (by simpa using hl);rw[a8 (af:=xN) rfl rfl rfl]
 have hc:chd w w=false:=by simp[chd]
 rw[hc] at lp;generalize Sms.walk vs.length l w=w' at *;generalize chd w w'=c at *;simp only[List.nil_append,List.length_nil] at lp;cases c
 all_goals
  simp only[wH,Int.cast_ofNat_Int] at lp ⊢;simp -implicitDefEqProofs (disch:=omega) [xN,lp]
theorem A9:∀ l:List Sm,l.length≤Sms.sz l
 | []=>Nat.zero_le _
 | s :: l=>by
   have:=A9 l;have:=qn0 s;simp only[Sms.sz,List.length_cons];omega
theorem JM:∀ l:List Bl,l.length≤Bls.sz l
 | []=>Nat.zero_le _
 | .mk p b :: l=>by
   have:=JM l;simp only[Bls.sz,Bl.sz,List.length_cons];omega
theorem za5 {vs:List (List UInt8)} {p:Pl} {b:List Sm} (ih:∀ w:Wk,0≤w.line→w.line + Sms.sz b < 1000000→w.hard.length + Sms.sz b < 1000000→
 d5 T0 X0 Y7 [.ptr (.b 0) 0 0,.d (.sl (LD smL b))] (wH vs.length w false)=some (.ret [] (wH vs.length (Sms.walk vs.length b w) (chd w (Sms.walk vs.length b w)))))
 (pre rest:List Bl) (w0 w:Wk) {j:Nat} (h0:w0.le w j) (hl:0≤w.line) (h1:w.line + Sms.sz b + 1 < 1000000) (h2:w.hard.length + Sms.sz b < 1000000) (h3:(pre ++ .mk p b :: rest).length≤1000000) :
 j0 T0 X0 2 D5 (some (.nrm,⟨[(0,.ptr (.b 0) 0 0),(15,.d (.sl (LD blL (pre ++ .mk p b :: rest)))),(16,.d (.int .i64 (pre ++ .mk p b :: rest).length)),(17,.d (.int .i64 pre.length))],wH vs.length w (chd w0 w)⟩)) =
  some (.nrm,⟨[(0,.ptr (.b 0) 0 0),(15,.d (.sl (LD blL (pre ++ .mk p b :: rest)))),(16,.d (.int .i64 (pre ++ .mk p b :: rest).length)),(17,.d (.int .i64 (pre.length + 1)))],
   wH vs.length (Sms.walk vs.length b (if pre.length=0 then w else w.nl)) (chd w0 (Sms.walk vs.length b (if pre.length=0 then w else w.nl)))⟩):=by
 have hget:(LD blL (pre ++ .mk p b :: rest))[pre.length]? = some (.agg [.int .i64 p.b,.int .i64 p.g,.int .i64 p.l,.int .i64 p.c,.sl (LD smL b)]):=by
  rw[zU blL _ (by simp)];simp[blL,Bl.d,Sms.d_LD]
 have hlt:pre.length < (pre ++ .mk p b :: rest).length:=by simp
 have hb5:=A9 b
 by_cases hz:pre.length=0
 ·rw[if_pos hz];have g2:=xE vs.length b w;have s2:=ih w hl (by omega) (by omega);rw[QY h0 g2];generalize Sms.walk vs.length b w=w3 at *;generalize (pre ++ .mk p b :: rest).length=N at *;generalize chd w w3=c3 at *;generalize chd w0 w=c0 at *
  cases c0 <;> cases c3
  all_goals
   simp only[wH] at s2 ⊢;simp (maxSteps:=4000000) -implicitDefEqProofs (disch:=omega) [D5,s2,hget,-List.length_eq_zero_iff]
 ·rw[if_neg hz];have g1:=Wk.nl_le w;have g2:=xE vs.length b w.nl;have s2:=ih w.nl (by have:=g1.l0; omega) (by have:=g1.l1; omega) (by have:=g1.h1; have:w.nl.hard=w.hard:=rfl; rw[this]; omega);rw[QY (h0.trans g1) g2,qx2];generalize Sms.walk vs.length b w.nl=w3 at *;generalize (pre ++ .mk p b :: rest).length=N at *;generalize chd w.nl w3=c3 at *;generalize chd w0 w=c0 at *
  cases c0 <;> cases c3
  all_goals
   simp only[wH,Wk.nl] at s2 ⊢;simp (maxSteps:=4000000) -implicitDefEqProofs (disch:=omega) [D5,s2,hget,-List.length_eq_zero_iff]
theorem qmz {vs:List (List UInt8)}:∀ (rest pre:List Bl) (w0 w:Wk) (j:Nat),(∀ p b,.mk p b∈rest→∀ w:Wk,0≤w.line→w.line + Sms.sz b < 1000000→w.hard.length + Sms.sz b < 1000000→
 d5 T0 X0 Y7 [.ptr (.b 0) 0 0,.d (.sl (LD smL b))] (wH vs.length w false)=some (.ret [] (wH vs.length (Sms.walk vs.length b w) (chd w (Sms.walk vs.length b w)))))→
 w0.le w j→0≤w.line→w.line + Bls.sz rest < 1000000→w.hard.length + Bls.sz rest < 1000000→(pre++rest).length≤1000000→
 j0 T0 X0 2 L3 (some (.nrm,⟨[(0,.ptr (.b 0) 0 0),(15,.d (.sl (LD blL (pre++rest)))),(16,.d (.int .i64 (pre++rest).length)),(17,.d (.int .i64 pre.length))],wH vs.length w (chd w0 w)⟩)) =
  some (.exit 1,⟨[],wH vs.length (Bls.walk vs.length (decide (pre.length=0)) rest w) (chd w0 (Bls.walk vs.length (decide (pre.length=0)) rest w))⟩)
 | [],pre,w0,w,j,_,_,_,_,_,hl=>by
   rw[c9 (l:=L3) rfl];simp only[Bls.walk,List.append_nil] at *;generalize chd w0 w=c;cases c
   all_goals
    simp only[wH];simp -implicitDefEqProofs (disch:=omega) [D5]
 | .mk p b :: rest,pre,w0,w,j,hw,h0,h1,h2,h3,hl=>by
   simp only[Bls.sz,Bl.sz,Bls.walk,Bl.walk] at *;have one:=za5 (hw p b (List.mem_cons_self ..)) pre rest w0 w h0 h1 (by omega) (by omega) hl
   have hif:(if decide (pre.length=0)=true then w else w.nl)=(if pre.length=0 then w else w.nl):=by by_cases h:pre.length=0 <;> simp[h]
   rw[hif]
   have g1:w.le (Sms.walk vs.length b (if pre.length=0 then w else w.nl)) (1 + Sms.sz b):=by
    split
    ·exact (xE vs.length b w).to (by omega)
    ·exact (Wk.nl_le w).trans (xE vs.length b w.nl)
   generalize Sms.walk vs.length b (if pre.length=0 then w else w.nl)=w3 at *;have ih:=qmz rest (pre++[.mk p b]) w0 w3 _ (fun p' b' hx=>hw p' b' (List.mem_cons_of_mem _ hx)) (h0.trans g1) (by have:=g1.l0; omega) (by have:=g1.l1; omega) (by have:=g1.h1; omega) (by simpa using hl)
   have el:pre++[.mk p b]++rest=pre ++ .mk p b :: rest:=by simp
   have e2:(pre++[Bl.mk p b]).length=pre.length + 1:=by simp
   have e3:decide (pre.length + 1=0)=false:=by simp
   rw[el,e2,e3] at ih;simp only[Int.natCast_add,Int.cast_ofNat_Int] at ih;rw[c9 (l:=L3) rfl];generalize wH vs.length (Bls.walk vs.length false rest w3) (chd w0 (Bls.walk vs.length false rest w3))=hx at *;generalize wH vs.length w3 (chd w0 w3)=hy at *;rw[← ih];generalize (pre ++ .mk p b :: rest).length=N at *;generalize chd w0 w=c at *;cases c
   all_goals
    simp only[zgg,zgf] at one ⊢;simp -implicitDefEqProofs (disch:=omega) [one]
mutual
theorem qjq {vs:List (List UInt8)} (hn:vs.length≤16):∀ s:Sm,s.fit vs→qyk vs.length s
 | .set ..,h=>fun w h1 h2 h3=>by
   rw[a8 (af:=g8) rfl rfl rfl]
   have hc:chd w w=false:=by simp[chd]
   simp only[Sm.within,hc,wH,Sm.d];simp (maxSteps:=4000000) -implicitDefEqProofs (disch:=omega) [g8,f7,n7,l8,p9,v8,p7,o9,j8]
 | .skip _,h=>fun w h1 h2 h3=>by
   rw[a8 (af:=g8) rfl rfl rfl]
   have hc:chd w w=false:=by simp[chd]
   simp only[Sm.within,hc,wH,Sm.d];simp (maxSteps:=4000000) -implicitDefEqProofs (disch:=omega) [g8,f7,n7,l8,p9,v8,p7,o9,j8]
 | .stop _,h=>fun w h1 h2 h3=>by
   rw[a8 (af:=g8) rfl rfl rfl]
   have hc:chd w w=false:=by simp[chd]
   simp only[Sm.within,hc,wH,Sm.d];simp (maxSteps:=4000000) -implicitDefEqProofs (disch:=omega) [g8,f7,n7,l8,p9,v8,p7,o9,j8]
 | .mark ..,h=>fun w h1 h2 h3=>by
   rw[a8 (af:=g8) rfl rfl rfl]
   have hc:chd w w=false:=by simp[chd]
   simp only[Sm.within,hc,wH,Sm.d];simp (maxSteps:=4000000) -implicitDefEqProofs (disch:=omega) [g8,f7,n7,l8,p9,v8,p7,o9,j8]
 | .loop p b,h=>fun w h1 h2 h3=>by
   simp only[Sm.fit,Sm.sz] at h h2 h3;have s1:=Ko hn h (xP hn b h) (by have:=A9 b; omega) w h1 (by omega) (by omega);have hb5:=A9 b;rw[a8 (af:=g8) rfl rfl rfl];simp only[Sm.within];generalize Sms.walk vs.length b w=w' at *;generalize chd w w'=c at *;cases c
   all_goals
    simp only[wH,Sm.d,Sms.d_LD] at s1 ⊢;simp (maxSteps:=4000000) -implicitDefEqProofs (disch:=omega) [g8,s1,f7,n7,l8,p9,v8,p7,o9,j8]
 | .ifs p x y q b,h=>fun w h1 h2 h3=>by
   simp only[Sm.fit,Sm.sz] at h h2 h3;have s1:=Ko hn h.2.2 (xP hn b h.2.2) (by have:=A9 b; omega) w h1 (by omega) (by omega);have hb5:=A9 b;rw[a8 (af:=g8) rfl rfl rfl];simp only[Sm.within];generalize Sms.walk vs.length b w=w' at *;generalize chd w w'=c at *;cases c
   all_goals
    simp only[wH,Sm.d,Sms.d_LD] at s1 ⊢;simp (maxSteps:=4000000) -implicitDefEqProofs (disch:=omega) [g8,s1,f7,n7,l8,p9,v8,p7,o9,j8]
 | .ife p x y q b pe e,h=>fun w h1 h2 h3=>by
   simp only[Sm.fit,Sm.sz] at h h2 h3;have s1:=Ko hn h.2.2.1 (xP hn b h.2.2.1) (by have:=A9 b; omega) w h1 (by omega) (by omega);have hb5:=A9 b;have hb6:=A9 e;have g1:=xE vs.length b w;have g2:=Wk.nl_le (Sms.walk vs.length b w);have g3:=xE vs.length e (Sms.walk vs.length b w).nl;have s2:=Ko hn h.2.2.2 (xP hn e h.2.2.2) (by omega) (Sms.walk vs.length b w).nl (by have:=g1.l0; have:=g2.l0; omega) (by have:=g1.l1; have:=g2.l1; omega) (by have:=g1.h1; have:=g2.h1; omega);have hln:=g1.l1;have hl0:=g1.l0;rw[a8 (af:=g8) rfl rfl rfl];simp only[Sm.within];rw[QY (g1.trans g2) g3,qx2];generalize Sms.walk vs.length e (Sms.walk vs.length b w).nl=w3 at *;generalize Sms.walk vs.length b w=w' at *;clear g1 g2 g3;generalize chd w w'=c at *;generalize chd w'.nl w3=c3 at *
   cases c <;> cases c3
   all_goals
    simp only[wH,Wk.nl,Sm.d,Sms.d_LD] at s1 s2 ⊢;simp (maxSteps:=4000000) -implicitDefEqProofs (disch:=omega) [g8,s1,s2,f7,n7,l8,p9,v8,p7,o9,j8]
 | .while p x y q b,h=>fun w h1 h2 h3=>by
   simp only[Sm.fit,Sm.sz] at h h2 h3;have s1:=Ko hn h.2.2 (xP hn b h.2.2) (by have:=A9 b; omega) w h1 (by omega) (by omega);have hb5:=A9 b;rw[a8 (af:=g8) rfl rfl rfl];simp only[Sm.within];generalize Sms.walk vs.length b w=w' at *;generalize chd w w'=c at *;cases c
   all_goals
    simp only[wH,Sm.d,Sms.d_LD] at s1 ⊢;simp (maxSteps:=4000000) -implicitDefEqProofs (disch:=omega) [g8,s1,f7,n7,l8,p9,v8,p7,o9,j8]
 | .choose p bs,h=>fun w h1 h2 h3=>by
   simp only[Sm.fit,Sm.sz] at h h2 h3;have hb5:=JM bs;have lp:=qmz bs [] w w 0 (qaw hn bs h.2) (Wk.le.refl _ _) h1 (by omega) (by omega) (by simp; omega)
   have hc:chd w w=false:=by simp[chd]
   rw[hc] at lp;rw[a8 (af:=g8) rfl rfl rfl];simp only[Sm.within];simp only[List.nil_append,List.length_nil,decide_true] at lp;generalize Bls.walk vs.length true bs w=w' at *;generalize chd w w'=c at *;cases c
   all_goals
    simp only[wH,Sm.d,Bls.d_LD,Int.cast_ofNat_Int] at lp ⊢;simp (maxSteps:=4000000) -implicitDefEqProofs (disch:=omega) [g8,lp,kB,L6,f7,n7,l8,p9,v8,p7,o9,j8]
theorem qaw {vs:List (List UInt8)} (hn:vs.length≤16):∀ l:List Bl,Bls.fit vs l→∀ p b,.mk p b∈l→∀ w:Wk,0≤w.line→w.line + Sms.sz b < 1000000→w.hard.length + Sms.sz b < 1000000→
 d5 T0 X0 Y7 [.ptr (.b 0) 0 0,.d (.sl (LD smL b))] (wH vs.length w false)=some (.ret [] (wH vs.length (Sms.walk vs.length b w) (chd w (Sms.walk vs.length b w))))
 | [],_,p,b,hs=>by cases hs
 | .mk p' b' :: l,h,p,b,hs=>by
   simp only[Bls.fit,Bl.fit] at h;rcases List.mem_cons.1 hs with e | hs
   ·cases e;intro w h1 h2 h3;exact Ko hn h.1 (xP hn b' h.1) (by have:=A9 b'; omega) w h1 h2 h3
   ·exact qaw hn l h.2 p b hs
theorem xP {vs:List (List UInt8)} (hn:vs.length≤16):∀ l:List Sm,Sms.fit vs l→∀ s∈l,qyk vs.length s
 | [],_,s,hs=>by cases hs
 | x :: l,h,s,hs=>by
   simp only[Sms.fit] at h;rcases List.mem_cons.1 hs with e | hs
   ·rw[e]; exact qjq hn x h.1
   ·exact xP hn l h.2 s hs
end
end Go.Rf

namespace Go.Rf
set_option maxHeartbeats 8000000
def Pg.d (g:Pg):V:=.d (.box (.agg g.cs))
def Pg.vs (g:Pg):List (List UInt8):=g.bs.map Bg.name
def Pg.w (g:Pg):Wk:=Sms.walk g.vs.length g.body ⟨0,[],n0⟩
theorem qpw {bs:List Bg} {i:Nat} (h:i < bs.length):(LD bgL bs)[i]? = some (.agg (bs[i]).cs):=zU bgL bs h
theorem qro (bs:List Bg) (hb:bs.length≤1000):∀ d i (out:List (List UInt8)) (e:List (Nat × V)),d + i=bs.length→out=(bs.map Bg.name).take i→
 j0 T0 X0 0 O9 (some (.nrm,⟨(3,.ref (.b 0) ⟨1,16⟩ 0 out.length) :: (9,.d (.sl (LD bgL bs))) :: (10,.d (.int .i64 bs.length)) :: (11,.d (.int .i64 i)) :: e,[.arr (SV out) ⟨1,16⟩]⟩)) =
  some (.exit 0,⟨[(3,.ref (.b 0) ⟨1,16⟩ 0 bs.length)],[.arr (SV (bs.map Bg.name)) ⟨1,16⟩]⟩):=by
 intro d
 induction d with
 | zero=>
   intro i out e hi ho
   have:i=bs.length:=by omega
   subst this
   have ho:out=bs.map Bg.name:=by rw[ho,List.take_of_length_le (by simp)]
   subst ho;rw[c9 (l:=O9) rfl];simp -implicitDefEqProofs (disch:=omega) [Z2]
 | succ d ih=>
   intro i out e hi ho
   have hlt:i < bs.length:=by omega
   have hget:=qpw hlt
   have hlen:out.length=i:=by rw[ho]; simp; omega
   have htk:out.take i=out:=List.take_of_length_le (by omega)
   have hnx:out++[(bs[i]).name]=(bs.map Bg.name).take (i + 1):=by rw[ho,List.take_succ_eq_append_getElem (by simpa using hlt)]; simp
   rw[← ih (i + 1) (out++[(bs[i]).name]) [] (by omega) hnx];rw[c9 (l:=O9) rfl];generalize bs[i]=b at *;simp only[Bg.cs] at hget;simp -implicitDefEqProofs (disch:=omega) [Z2,hget,hlen,htk]
theorem qfb (g:Pg) (hb:g.bs.length≤1000):d5 T0 X0 JX [g.d] []=some (.ret [.d (.sl (SL g.vs))] []):=by
 have s1:=qro g.bs hb g.bs.length 0 [] [] rfl (by simp);rw[a8 (af:=zO) rfl rfl rfl];unfold Pg.d Pg.vs Pg.cs;simp only[Int.cast_ofNat_Int,List.length_nil,qjc] at s1;generalize hm:g.bs.map Bg.name=m at *
 have hml:g.bs.length=m.length:=by rw[← hm]; simp
 simp only[hml] at s1;simp -implicitDefEqProofs (disch:=omega) [zO,s1,hml]
theorem qg1 (g:Pg) (hb:g.body.length≤1000000):d5 T0 X0 JY [g.d] []=some (.ret [.d (.sl (LD smL g.body))] []):=by
 rw[a8 (af:=zP) rfl rfl rfl];unfold Pg.d Pg.cs;simp -implicitDefEqProofs (disch:=omega) [zP]
theorem qub {g:Pg} (h:Pok g):(⟨0,[],n0⟩:Wk).le g.w 5000:=(xE g.vs.length g.body ⟨0,[],n0⟩).to h.sz
theorem qjs {g:Pg} (h:Pok g):d5 T0 X0 qdi [g.d] []=some (.ret [.d (.box (.agg [.int .i64 g.vs.length,.int .i64 g.w.line,.sl (LD inL g.w.hard),.int .i64 g.w.bad.b,.int .i64 g.w.bad.g,.int .i64 g.w.bad.l,.int .i64 g.w.bad.c]))] []):=by
 have hn:=h.n
 have hv:g.vs.length≤16:=by unfold Pg.vs; simp; omega
 have s1:=qfb g (by omega);have hl:=A9 g.body;have hz:=h.sz;have s2:=qg1 g (by omega);have s3:=Ko hv h.fit (xP hv g.body h.fit) (by omega) ⟨0,[],n0⟩ (Int.le_refl _) (by show (0:Int) + _ < _; omega) (by show 0 + _ < _; omega);have hw:=(qub h).h1;change d5 _ _ _ _ _=some (.ret [] (wH g.vs.length g.w (chd _ g.w))) at s3;rw[a8 (af:=vD) rfl rfl rfl]
 have hw0:g.w.hard.length≤5000:=by simpa using hw
 unfold Pg.d at *;generalize g.w=w at *;generalize chd (⟨0,[],n0⟩:Wk) w=c at *;cases c
 all_goals
  simp only[wH,n0,qeg,List.length_nil] at s3;simp (maxSteps:=4000000) -implicitDefEqProofs (disch:=omega) [vD,s1,s2,s3,kB,L6]
theorem qsf {g:Pg} (h:Pok g):d5 T0 X0 qit [g.d] []=some (.ret [.d (.bool (decide (g.w.hard.length=0))),.d (.agg g.w.bad.cs)] []):=by
 have s1:=qjs h
 have hw:g.w.hard.length≤5000:=by simpa using (qub h).h1
 rw[a8 (af:=ZT) rfl rfl rfl];unfold Pg.d at *;simp only[Pl.cs];simp (maxSteps:=4000000) -implicitDefEqProofs (disch:=omega) [ZT,s1,-List.length_eq_zero_iff]
end Go.Rf

namespace Go.Rf
end Go.Rf

namespace Go.Rf
def c0:D:=.agg [.nili,.nili,.bool false]
@[simp 10000] theorem zb6 (x y:Nd) (b:Bool):B6 (.d (.agg [.nili,.nili,.bool false])) 0 (.d (.agg [x.d,y.d,.bool b]))=some (.d (.agg [x.d,y.d,.bool b])):=by
  have e:∀ x:Nd,x.d.cells=[x.d]:=fun x=>by cases x <;> rfl
  cases x <;> cases y <;> rfl
@[simp 10000] theorem q5x (x y:Nd) (b:Bool):B6 (.d (.agg [x.d,y.d,.bool b])) 0 (.d (.agg [x.d,y.d,.bool b]))=some (.d (.agg [x.d,y.d,.bool b])):=by
  cases x <;> cases y <;> rfl
end Go.Rf

namespace Go.Rf
theorem jY {u:Int} (h:0 < u):d6 u=(u % 4294967296) :: d6 (u / 4294967296):=by
 have q0:0≤u / 4294967296:=by omega
 have hv:nv ((u % 4294967296) :: d6 (u / 4294967296))=u:=by simp only[nv,q9 q0]; omega
 have hc:Can ((u % 4294967296) :: d6 (u / 4294967296)):=by
  right;rw[hv];rcases S4 (u / 4294967296) with e | e
  ·rw[e]; simp[pw]; omega
  ·by_cases hl:(d6 (u / 4294967296)).length=0
   ·simp[hl,pw]; omega
   ·have:=vM ((d6 (u / 4294967296)).length - 1);rw[show (d6 (u / 4294967296)).length - 1 + 1=(d6 (u / 4294967296)).length by omega] at this;rw[q9 q0] at e;simp only[List.length_cons,Nat.add_sub_cancel];omega
 have:=Yv (V8.2 ⟨by omega,g9 _⟩) hc;rw[hv] at this;exact this.symm
def IL (l:List Int):List D:=l.map fun n=>.int .i64 n
@[simp] theorem IL_len (l):(IL l).length=l.length:=by simp[IL]
theorem zbl {l:List Int} {i:Nat} (h:i < l.length):(IL l)[i]? = some (.int .i64 (nth l i)):=by simp[IL,nth,h]
attribute [simp] zbl
theorem zgc (l):wl (IL l)≤8:=by
 induction l with
 | nil=>simp[IL,wl]
 | cons x xs ih=>
   show max 8 (wl (IL xs))≤8;omega
@[simp] theorem fit_IL {n:Nat} {l:List Int} (h:n≤1099511627):(n * wl (IL l)≤A5)=True:=eq_true (Nat.le_trans (Nat.mul_le_mul h (zgc l)) (by unfold A5; omega))
@[simp] theorem znd (l):(∀ x∈IL l,x.cells.length=1)=True:=eq_true (by
  intro x hx;obtain ⟨n,_,rfl⟩:=List.mem_map.1 hx
  rfl)
theorem qn4 (a7 bs:List Int) (hl:a7.length=bs.length) (hs:a7.length≤1099511627):∀ d i (e:List (Nat × V)),d + i=a7.length→
 j0 T0 X0 0 H8 (some (.nrm,⟨(0,.d (.sl (L a7))) :: (1,.d (.sl (L bs))) :: (5,.d (.int .i64 i)) :: e,[]⟩)) =
  some (if a7.drop i=bs.drop i then (.exit 0,⟨[],[]⟩) else (.ret,⟨[(4,.d (.bool false))],[]⟩)):=by
 intro d
 induction d with
 | zero=>
   intro i e hd;rw[c9 (l:=H8) rfl];have h1:a7.drop i=[]:=List.drop_eq_nil_of_le (by omega);have h2:bs.drop i=[]:=List.drop_eq_nil_of_le (by omega);rw[h1,h2];simp -implicitDefEqProofs (disch:=omega) [H9]
 | succ d ih=>
   intro i e hd;rw[c9 (l:=H8) rfl]
   have s1:=fun e=>ih (i + 1) e (by omega)
   rw[N7 (xs:=a7) (i:=i) (by omega),N7 (xs:=bs) (i:=i) (by omega)];simp only[Int.natCast_add,Int.cast_ofNat_Int,List.cons.injEq] at s1 ⊢
   by_cases hc:nth a7 i=nth bs i
   ·simp only[hc,true_and];simp -implicitDefEqProofs (disch:=omega) [H9,s1,hc]
   ·simp only[hc,false_and,if_false];simp -implicitDefEqProofs (disch:=omega) [H9,hc]
theorem qn3 {a7 bs:List Int} (ha:a7.length≤1099511627) (hb:bs.length≤1099511627):d5 T0 X0 QV [.d (.sl (L a7)),.d (.sl (L bs))] []=some (.ret [.d (.bool (decide (a7=bs)))] []):=by
 rw[a8 (af:=G2) rfl rfl rfl]
 by_cases hl:a7.length=bs.length
 ·have lp:=fun e=>qn4 a7 bs hl ha a7.length 0 e rfl
  simp only[Int.cast_ofNat_Int,List.drop_zero] at lp
  by_cases hc:a7=bs
  ·subst hc;simp only[if_true] at lp;simp -implicitDefEqProofs (disch:=omega) [G2,lp]
  ·simp only[if_neg hc] at lp;simp -implicitDefEqProofs (disch:=omega) [G2,lp,hl,hc]
 ·have hc:¬ a7=bs:=fun h=>hl (by rw[h])
  simp -implicitDefEqProofs (disch:=omega) [G2,hl,hc]
theorem qr9 {p q:Bool} {a7 bs:List Int} (ha:a7.length≤1099511627) (hb:bs.length≤1099511627):d5 T0 X0 xT [.d (.agg [.bool p,.sl (L a7)]),.d (.agg [.bool q,.sl (L bs)])] []=some (.ret [.d (.bool (p == q && decide (a7=bs)))] []):=by
 have s1:=qn3 ha hb;rw[a8 (af:=W1) rfl rfl rfl]
 cases p <;> cases q <;> simp -implicitDefEqProofs (disch:=omega) [W1,s1]
theorem qzg {m n:Int} (hm:nl m≤1073741824) (hn:nl n≤1073741824):d5 T0 X0 xT [.d (Wd m),.d (Wd n)] []=some (.ret [.d (.bool (decide (m=n)))] []):=by
 have s1:=qr9 (p:=decide (m < 0)) (q:=decide (n < 0)) (a7:=d6 m.natAbs) (bs:=d6 n.natAbs) (by unfold nl at hm; omega) (by unfold nl at hn; omega)
 have e:(decide (m < 0) == decide (n < 0) && decide (d6 m.natAbs=d6 n.natAbs))=decide (m=n):=by
  by_cases h:m=n
  ·subst h; simp
  ·have:decide (m=n)=false:=decide_eq_false h;rw[this]
   by_cases h1:d6 m.natAbs=d6 n.natAbs
   ·have h2:=congrArg nv h1;rw[jh,jh] at h2
    by_cases h3:m < 0 <;> by_cases h4:n < 0 <;> simp[h1,h3,h4] <;> omega
   ·simp[h1]
 rw[e] at s1;exact s1
theorem qj6 (f g:List Int) (hl:f.length=g.length) (hs:f.length≤1000) (hf:∀ i,nl (nth f i)≤1073741824) (hg:∀ i,nl (nth g i)≤1073741824):∀ d i (e:List (Nat × V)),d + i=f.length→
 j0 T0 X0 0 G6 (some (.nrm,⟨(0,.d (.sl (WL f))) :: (1,.d (.sl (WL g))) :: (5,.d (.int .i64 i)) :: e,[]⟩)) =
  some (if f.drop i=g.drop i then (.exit 0,⟨[],[]⟩) else (.ret,⟨[(4,.d (.bool false))],[]⟩)):=by
 intro d
 induction d with
 | zero=>
   intro i e hd;rw[c9 (l:=G6) rfl];have h1:f.drop i=[]:=List.drop_eq_nil_of_le (by omega);have h2:g.drop i=[]:=List.drop_eq_nil_of_le (by omega);rw[h1,h2];simp -implicitDefEqProofs (disch:=omega) [G7]
 | succ d ih=>
   intro i e hd;rw[c9 (l:=G6) rfl]
   have s1:=fun e=>ih (i + 1) e (by omega)
   have hfi:=hf i;have hgi:=hg i;have s2:=qzg hfi hgi;rw[N7 (xs:=f) (i:=i) (by omega),N7 (xs:=g) (i:=i) (by omega)];simp only[Int.natCast_add,Int.cast_ofNat_Int,List.cons.injEq] at s1 ⊢
   by_cases hc:nth f i=nth g i
   ·rw[decide_eq_true hc] at s2;simp only[hc,true_and];rw[hc] at s2;simp -implicitDefEqProofs (disch:=omega) [G7,s1,s2,hc]
   ·rw[decide_eq_false hc] at s2;simp only[hc,false_and,if_false];simp -implicitDefEqProofs (disch:=omega) [G7,s2,hc]
theorem qj5 {f g:List Int} (h1:f.length≤1000) (h2:g.length≤1000) (hf:∀ i,nl (nth f i)≤1073741824) (hg:∀ i,nl (nth g i)≤1073741824):d5 T0 X0 Qp [.d (.sl (WL f)),.d (.sl (WL g))] []=some (.ret [.d (.bool (decide (f=g)))] []):=by
 rw[a8 (af:=D3) rfl rfl rfl]
 by_cases hl:f.length=g.length
 ·have lp:=fun e=>qj6 f g hl h1 hf hg f.length 0 e rfl
  simp only[Int.cast_ofNat_Int,List.drop_zero] at lp
  by_cases hc:f=g
  ·subst hc;simp only[if_true] at lp;simp -implicitDefEqProofs (disch:=omega) [D3,lp]
  ·simp only[if_neg hc] at lp;simp -implicitDefEqProofs (disch:=omega) [D3,lp,hl,hc]
 ·have hc:¬ f=g:=fun h=>hl (by rw[h])
  simp -implicitDefEqProofs (disch:=omega) [D3,hl,hc]
end Go.Rf

namespace Go.Rf
theorem qfc {X:Int} (h0:0≤X) (hs:(d6 X).length≤1099511627776) :
 d5 T0 X0 qil [.d (.sl (L (d6 X)))] []=some (.ret [.d (.int .u64 (if X < 18446744073709551616 then X else 0)),.d (.bool (decide (X < 18446744073709551616)))] []):=by
 have s1:=m8 (g9 X) hs;rw[q9 h0] at s1;rw[a8 (af:=zy) rfl rfl rfl]
 by_cases h1:X=0
 ·subst h1;simp only[wX,kS] at s1 ⊢;simp -implicitDefEqProofs (disch:=omega) [zy,s1]
 by_cases h2:X < 4294967296
 ·have e:d6 X=[X]:=by
   rw[jY (by omega),show X / 4294967296=0 by omega,wX,show X % 4294967296=X by omega]
  rw[e] at s1 ⊢;have w:=JT [X];simp only[zT,kS] at s1 w ⊢
  have hb:X < 18446744073709551616:=by omega
  simp -implicitDefEqProofs (disch:=omega) [zy,s1,w,hb]
 by_cases h3:X < 18446744073709551616
 ·have e:d6 X=[X % 4294967296,X / 4294967296]:=by
   rw[jY (by omega),jY (u:=X / 4294967296) (by omega),show X / 4294967296 / 4294967296=0 by omega,wX,show X / 4294967296 % 4294967296=X / 4294967296 by omega]
  rw[e] at s1 ⊢;have w:=JT [X % 4294967296,X / 4294967296];simp only[zT,kS] at s1 w ⊢;simp -implicitDefEqProofs (disch:=omega) [zy,s1,w,h3];rw[qv2 (by omega) (by omega) (by omega)];omega
 ·have hl:3≤(d6 X).length:=by
   rw[jY (by omega),jY (u:=X / 4294967296) (by omega),jY (u:=X / 4294967296 / 4294967296) (by omega)];simp
  have hne:¬ d6 X=[]:=fun h=>by rw[h] at hl; simp at hl
  simp -implicitDefEqProofs (disch:=omega) [zy,s1,h3,hne]
theorem wY {m n:Int} (h0:0≤m) (h:m≤n):(d6 m).length≤(d6 n).length:=by
 have:=(d7 (g9 n)).2;rw[q9 (by omega)] at this;exact o6 h0 (by omega)
theorem qc8 (x y:Nat):Nat.gcd y (x % y)=Nat.gcd x y:=by
 rw[Nat.gcd_comm,← Nat.gcd_rec,Nat.gcd_comm]
theorem q85:∀ (y x:Nat),x < 18446744073709551616→y < 18446744073709551616→
 j0 T0 X0 0 qV (some (.nrm,⟨[(5,.d (.int .u64 x)),(7,.d (.int .u64 y))],[]⟩))=some (.exit 2,⟨[(5,.d (.int .u64 (Nat.gcd x y:Nat)))],[]⟩):=by
 intro y
 induction y using Nat.strongRecOn with
 | ind y ih=>
   intro x hx hy;rw[c9 (l:=qV) rfl]
   by_cases h:y=0
   ·subst h;simp -implicitDefEqProofs (disch:=omega) [qX]
   ·have hlt:=Nat.mod_lt x (Nat.pos_of_ne_zero h);have s1:=ih (x % y) hlt y hy (by omega);rw[qc8,Int.natCast_emod] at s1;have hp:0 < y:=Nat.pos_of_ne_zero h;simp -implicitDefEqProofs (disch:=omega) [qX,h,hp,s1]
theorem q0z (a b c:V) (y x:Nat) (hx:x < 18446744073709551616) (hy:y < 18446744073709551616) :
 j0 T0 X0 0 qV (some (.nrm,⟨[(0,a),(1,b),(5,.d (.int .u64 x)),(7,.d (.int .u64 y)),(32,c)],[]⟩))=some (.exit 2,⟨[(5,.d (.int .u64 (Nat.gcd x y:Nat)))],[]⟩):=by
 rw[c9 (l:=qV) rfl]
 by_cases h:y=0
 ·subst h;simp -implicitDefEqProofs (disch:=omega) [qX]
 ·have hlt:=Nat.mod_lt x (Nat.pos_of_ne_zero h);have s1:=q85 (x % y) y hy (by omega);rw[qc8,Int.natCast_emod] at s1;have hp:0 < y:=Nat.pos_of_ne_zero h;simp -implicitDefEqProofs (disch:=omega) [qX,h,hp,s1]
theorem q0y:∀ (B A:Nat),(d6 (A:Int)).length < 268435456→(d6 (B:Int)).length < 268435456→
 ∃ r,j0 T0 X0 0 vA (some (.nrm,⟨[(0,.d (.sl (L (d6 A)))),(1,.d (.sl (L (d6 B))))],[]⟩))=some r ∧
   (r=(.exit 0,⟨[(0,.d (.sl (L (d6 (Nat.gcd A B:Nat)))))],[]⟩)∨r=(.ret,⟨[(4,.d (.sl (L (d6 (Nat.gcd A B:Nat)))))],[]⟩)):=by
 intro B
 induction B using Nat.strongRecOn with
 | ind B ih=>
   intro A hA hB;rw[c9 (l:=vA) rfl]
   by_cases h:B=0
   ·subst h;refine ⟨_,?_,.inl rfl⟩;have e0:d6 ((0:Nat):Int)=[]:=rfl;rw[e0,Nat.gcd_zero_right];simp -implicitDefEqProofs (disch:=omega) [qW]
   ·have hp:0 < B:=Nat.pos_of_ne_zero h
    have hne:¬ d6 (B:Int)=[]:=fun e=>by have:=(xR (by omega)).1 e; omega
    have hlp:0 < (d6 (B:Int)).length:=List.length_pos_iff.2 hne;have s1:=qfc (X:=(A:Int)) (by omega) (by omega);have s2:=qfc (X:=(B:Int)) (by omega) (by omega)
    have d1:d5 T0 X0 va [.d (.sl (L (d6 (A:Int)))),.d (.sl (L (d6 (B:Int))))] []=some (.ret [.d (.sl (L (d6 ((A:Int) / B)))),.d (.sl (L (d6 ((A % B:Nat):Int)))),.d (.bool true)] []):=by
     have s3:=qap (g9 (A:Int)) (g9 (B:Int)) (by omega);rw[q9 (by omega),q9 (by omega),if_neg (by omega)] at s3;exact s3
    have hlt:=Nat.mod_lt A hp;have hl2:(d6 ((A % B:Nat):Int)).length≤(d6 (B:Int)).length:=wY (by omega) (by omega);obtain ⟨r,hr,hr2⟩:=ih (A % B) hlt B hB (by omega);rw[qc8] at hr2
    by_cases c1:(A:Int) < 18446744073709551616
    ·by_cases c2:(B:Int) < 18446744073709551616
     ·refine ⟨_,?_,.inr rfl⟩
      have s4:=fun a b c=>q0z a b c B A (by omega) (by omega)
      have hg:Nat.gcd A B < 18446744073709551616:=Nat.lt_of_le_of_lt (Nat.gcd_le_right A hp) (by omega);have s5:=Zi (n:=(Nat.gcd A B:Nat)) (by omega);rw[if_pos c1,decide_eq_true c1] at s1;rw[if_pos c2,decide_eq_true c2] at s2;generalize d6 (A:Int)=xa at *;generalize d6 (B:Int)=xb at *;generalize d6 ((Nat.gcd A B:Nat):Int)=xg at *;simp -implicitDefEqProofs (disch:=omega) [qW,s1,s2,s4,s5,hlp]
     ·refine ⟨r,?_,hr2⟩;rw[if_pos c1,decide_eq_true c1] at s1;rw[if_neg c2,decide_eq_false c2] at s2;generalize d6 (A:Int)=xa at *;generalize d6 (B:Int)=xb at *;generalize d6 ((A % B:Nat):Int)=xm at *;generalize d6 ((A:Int) / B)=xq at *;simp -implicitDefEqProofs (disch:=omega) [qW,s1,s2,d1,hr,hlp]
    ·refine ⟨r,?_,hr2⟩;rw[if_neg c1,decide_eq_false c1] at s1;generalize d6 (A:Int)=xa at *;generalize d6 (B:Int)=xb at *;generalize d6 ((A % B:Nat):Int)=xm at *;generalize d6 ((A:Int) / B)=xq at *;simp -implicitDefEqProofs (disch:=omega) [qW,s1,s2,d1,hr,hlp]
theorem qlt {A B:Nat} (hA:(d6 (A:Int)).length < 268435456) (hB:(d6 (B:Int)).length < 268435456) :
 d5 T0 X0 ql6 [.d (.sl (L (d6 A))),.d (.sl (L (d6 B)))] []=some (.ret [.d (.sl (L (d6 (Nat.gcd A B:Nat))))] []):=by
 have s1:=m8 (g9 (A:Int)) (by omega);have s2:=m8 (g9 (B:Int)) (by omega);rw[q9 (by omega)] at s1 s2
 have hg:(d6 (Nat.gcd A B:Nat)).length < 268435456:=by
  by_cases h:A=0
  ·subst h; rw[Nat.gcd_zero_left]; exact hB
  ·have:=wY (m:=(Nat.gcd A B:Nat)) (n:=(A:Int)) (by omega) (by have:=Nat.gcd_le_left B (Nat.pos_of_ne_zero h); omega);omega
 have s3:=QD (g9 (Nat.gcd A B:Nat)) (by omega);rw[q9 (by omega)] at s3;obtain ⟨r,hr,hr2⟩:=q0y B A hA hB;rw[a8 (af:=Qf) rfl rfl rfl];generalize d6 (A:Int)=xa at *;generalize d6 (B:Int)=xb at *;generalize d6 ((Nat.gcd A B:Nat):Int)=xg at *;rcases hr2 with rfl | rfl
 ·simp -implicitDefEqProofs (disch:=omega) [Qf,s1,s2,hr,s3]
 ·simp -implicitDefEqProofs (disch:=omega) [Qf,s1,s2,hr]
theorem qt9 {m n:Int} (hm:nl m < 268435456) (hn:nl n < 268435456):d5 T0 X0 ql1 [.d (Wd m),.d (Wd n)] []=some (.ret [.d (Wd (Nat.gcd m.natAbs n.natAbs:Nat))] []):=by
 have s1:=qlt (A:=m.natAbs) (B:=n.natAbs) hm hn
 have hg:(d6 (Nat.gcd m.natAbs n.natAbs:Nat)).length < 268435456:=by
  by_cases h:m.natAbs=0
  ·rw[h,Nat.gcd_zero_left]; exact hn
  ·have:=wY (m:=(Nat.gcd m.natAbs n.natAbs:Nat)) (n:=(m.natAbs:Int)) (by omega) (by have:=Nat.gcd_le_left n.natAbs (Nat.pos_of_ne_zero h); omega);unfold nl at hm;omega
 have s2:=S3 false (n:=(Nat.gcd m.natAbs n.natAbs:Nat)) (by omega) (by omega)
 have e:sg false ((Nat.gcd m.natAbs n.natAbs:Nat):Int)=(Nat.gcd m.natAbs n.natAbs:Nat):=by simp[sg]
 rw[e] at s2;unfold nl at hm hn;rw[a8 (af:=Jo) rfl rfl rfl];have d1:Wd m = .agg [.bool (decide (m < 0)),.sl (L (d6 m.natAbs))]:=rfl;have d2:Wd n = .agg [.bool (decide (n < 0)),.sl (L (d6 n.natAbs))]:=rfl;rw[d1,d2];generalize d6 ((m.natAbs:Nat):Int)=xa at *;generalize d6 ((n.natAbs:Nat):Int)=xb at *;generalize d6 ((Nat.gcd m.natAbs n.natAbs:Nat):Int)=xg at *;generalize ((Nat.gcd m.natAbs n.natAbs:Nat):Int)=g at *;simp -implicitDefEqProofs (disch:=omega) [Jo,s1,s2]
def Rt (n:Int):D:=.agg [.bool (decide (n < 0)),.sl (L (d6 n.natAbs)),.sl (L [1])]
theorem qkn:d5 T0 X0 ql2 [] []=some (.ret [.d (.sl (L [1]))] []):=by
 rw[a8 (af:=Jp) rfl rfl rfl];have w:=JT [1];simp only[zT,kS] at w ⊢;simp -implicitDefEqProofs (disch:=omega) [Jp,w]
theorem qsq:d6 1=[1]:=rfl
theorem YC:n8 [1]:=g9 1
theorem qm3:d5 T0 X0 YK [.d (.sl (L [1]))] []=some (.ret [.d (.int .i64 1)] []):=by
 have s:=WQ YC (by simp);rw[show (if nv [1]=0 then (0:Int) else 32 * (qwc (nv [1]) - 1) + xZ (nth (d6 (nv [1])) ((d6 (nv [1])).length - 1)))=1 by decide] at s;exact s
theorem Wo {n:Int} (h:nl n < 268435456):d5 T0 X0 qdg [.d (Wd n),.d (.sl (L [1]))] []=some (.ret [.d (Rt n)] []):=by
 have s1:=Zb (m:=n) (by omega);have s2:=QD YC (by simp);rw[show d6 (nv [1])=[1] by rfl] at s2;have s3:=qkn;have s4:=qlt (A:=n.natAbs) (B:=1) h (by decide);rw[Nat.gcd_one_right,show ((1:Nat):Int)=1 from rfl,qsq] at s4;have s5:=qm3;rw[a8 (af:=jv) rfl rfl rfl];have w:=JT [1];simp only[zT,kS] at s2 s3 s4 s5 w ⊢
 by_cases h0:n=0
 ·subst h0;unfold Rt;rw[Wd_0] at s1 ⊢;simp only[zT,kS];simp -implicitDefEqProofs (disch:=omega) [jv,s1,s2,s3,w,-qre]
 ·have hne:¬ d6 (n.natAbs:Int)=[]:=fun e=>by have:=(xR (by omega)).1 e; omega
  unfold nl at h;have d1:Wd n = .agg [.bool (decide (n < 0)),.sl (L (d6 n.natAbs))]:=rfl;unfold Rt;rw[d1] at s1 ⊢;simp only[zT,kS];have lp:=c9 (T:=T0) (X:=X0) (pin:=0) (l:=Qc) rfl;generalize d6 ((n.natAbs:Nat):Int)=xa at *;simp -implicitDefEqProofs (disch:=omega) [jv,Qd,lp,s1,s2,s4,s5,w,hne,-qre]
end Go.Rf
