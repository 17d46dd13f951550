/- Parts of the proof. -/
import Derived.Test.YtpaeaccmddffjaaGreatDoorRb2
import Derived.Test.YtpaeaccmddffjaaGreatDoorSp11
import Derived.Test.YtpaeaccmddffjaaGreatDoorSp8
set_option linter.all false
namespace Go.Rf
theorem qs5 {v:Int} (h0:0≤v) (h:(d7 v).length≤32):Wrote D7 [.d (Nd.num v).d] (B2 456 v):=by
 have s1:=qba h0 h
 have hn:nl v < 1099511627776:=by
  have e:((v.natAbs:Nat):Int)=v:=by omega
  unfold nl; rw[e]; omega
 have hl:=Qt (v:=v);refine ⟨fun hl2=>?_,fun s hl2=>?_⟩
 ·have s2:=ws0 (B2 456 v) (by omega);rw[c9 (af:=q9) rfl rfl rfl];simp only[Nd.d,JQ,bld,M7,vn] at s2 ⊢;generalize B2 456 v=w at *;simp -implicitDefEqProofs (disch:=omega) [q9,s1,s2]
 ·have s2:=ws1 s (B2 456 v) (by omega);rw[c9 (af:=q9) rfl rfl rfl];simp only[Nd.d,bld,M7] at s2 ⊢;generalize B2 456 v=w at *;generalize s++w=w2 at *;simp -implicitDefEqProofs (disch:=omega) [q9,s1,s2]
theorem qn1 {v:Int} {t:List UInt8} (ht:t.length≤4096):Wrote D7 [.d (Nd.name v t).d] t:=by
 refine ⟨fun hl2=>?_,fun s hl2=>?_⟩
 ·have s2:=ws0 t (by omega);rw[c9 (af:=q9) rfl rfl rfl];simp only[Nd.d,JQ,bld,M7,vn] at s2 ⊢;simp -implicitDefEqProofs (disch:=omega) [q9,s2]
 ·have s2:=ws1 s t (by omega);rw[c9 (af:=q9) rfl rfl rfl];simp only[Nd.d,bld,M7] at s2 ⊢;generalize s++t=w2 at *;simp -implicitDefEqProofs (disch:=omega) [q9,s2]
theorem qka {x:Nd} {w:List UInt8} (h:Wrote D7 [.d x.d] w):Wrote D7 [.d (Nd.minus x).d] (45 :: wrB (!x.single) w):=by
 have p:=qic h (!x.single);have s0:=Xk x;generalize wrB (!x.single) w=w1 at *;refine ⟨fun hl2=>?_,fun s hl2=>?_⟩
 ·rw[List.length_cons] at hl2;have s1:=wb0 45;have s2:=p.s [45] (by simp; omega);have e:[45]++w1=45 :: w1:=rfl;rw[e] at s2;rw[c9 (af:=q9) rfl rfl rfl];simp only[Nd.d,JQ,bld,M7,vn] at s1 s2 ⊢;simp only[show (((45:UInt8).toNat:Nat):Int)=45 from rfl] at s1;generalize ([45]:List UInt8)=w0 at s1 s2;generalize 45 :: w1=w2 at *;simp -implicitDefEqProofs (disch:=omega) [q9,s0,s1,s2]
 ·rw[List.length_cons] at hl2;have s1:=wb1 s 45 (by omega);have s2:=p.s (s++[45]) (by simp; omega)
  have e:s++[45]++w1=s++45 :: w1:=by simp
  rw[e] at s2;rw[c9 (af:=q9) rfl rfl rfl];simp only[Nd.d,bld,M7] at s1 s2 ⊢;simp only[show (((45:UInt8).toNat:Nat):Int)=45 from rfl] at s1;generalize s++[45]=w0 at s1 s2;generalize s++45 :: w1=w2 at *;simp -implicitDefEqProofs (disch:=omega) [q9,s0,s1,s2]
theorem zae {op:Int} (h:op=43∨op=45∨op=42∨op=47∨op=37):enc op=[opc op]∧0≤op∧op < 128:=by
 rcases h with rfl | rfl | rfl | rfl | rfl <;> decide
theorem zfy {op:Int} {x y:Nd} {so bx sy by_:Bool} {u1 q r1 r:List UInt8} (o0:0≤op) (o1:op < 128)
 (s0:d6 T0 X0 Ks [.d (.int .u8 op)] []=some (.ret [.d (.bool so)] []))
 (s1:d6 T0 X0 ko [.d x.d] []=some (.ret [.d (.bool bx)] []))
 (s2:d6 T0 X0 ko [.d y.d] []=some (.ret [.d (.bool by_)] []))
 (s3:d6 T0 X0 Qh [.d y.d] []=some (.ret [.d (.bool sy)] []))
 (el:(enc op).length=1) (ql:q.length=3) (hq:(32 :: (enc op++[32]):List UInt8)=q)
 (t1:d6 T0 X0 km [.ptr (.b 0) 0 0,.d x.d,.d (.bool (!so && bx))] JQ=some (.ret [] (M7 u1)))
 (t2:d6 T0 X0 A0 [.ptr (.b 0) 0 0,.d (.str q)] (bld u1)=some (.ret [.d (.int .i64 q.length),.d .nili] (M7 r1)))
 (t3:d6 T0 X0 km [.ptr (.b 0) 0 0,.d y.d,.d (.bool (so && by_ || !so && !sy))] (bld r1)=some (.ret [] (M7 r))) :
 d6 T0 X0 D7 [.ptr (.b 0) 0 0,.d (Nd.two op x y).d] JQ=some (.ret [] (M7 r)):=by
 rw[c9 (af:=q9) rfl rfl rfl];simp only[Nd.d,JQ,bld,M7,vn] at t1 t2 t3 ⊢;cases so
 ·cases bx <;> cases sy <;> simp only[Bool.not_true,Bool.not_false,Bool.true_and,Bool.false_and,Bool.and_true,Bool.and_false,Bool.or_false,Bool.false_or,Bool.true_or,Bool.or_true] at t1 t3 <;> simp -implicitDefEqProofs (disch:=omega) [q9,s0,s1,s2,s3,t1,t2,t3,ZE,el,ql,hq]
 ·cases by_ <;> simp only[Bool.not_true,Bool.not_false,Bool.true_and,Bool.false_and,Bool.and_true,Bool.and_false,Bool.or_false,Bool.false_or,Bool.true_or,Bool.or_true] at t1 t3 <;> simp -implicitDefEqProofs (disch:=omega) [q9,s0,s1,s2,s3,t1,t2,t3,ZE,el,ql,hq]
theorem zfz {op:Int} {x y:Nd} {so bx sy by_:Bool} {u0 u1 q r1 r:List UInt8} (o0:0≤op) (o1:op < 128)
 (s0:d6 T0 X0 Ks [.d (.int .u8 op)] []=some (.ret [.d (.bool so)] []))
 (s1:d6 T0 X0 ko [.d x.d] []=some (.ret [.d (.bool bx)] []))
 (s2:d6 T0 X0 ko [.d y.d] []=some (.ret [.d (.bool by_)] []))
 (s3:d6 T0 X0 Qh [.d y.d] []=some (.ret [.d (.bool sy)] []))
 (el:(enc op).length=1) (ql:q.length=3) (hq:(32 :: (enc op++[32]):List UInt8)=q)
 (t1:d6 T0 X0 km [.ptr (.b 0) 0 0,.d x.d,.d (.bool (!so && bx))] (bld u0)=some (.ret [] (M7 u1)))
 (t2:d6 T0 X0 A0 [.ptr (.b 0) 0 0,.d (.str q)] (bld u1)=some (.ret [.d (.int .i64 q.length),.d .nili] (M7 r1)))
 (t3:d6 T0 X0 km [.ptr (.b 0) 0 0,.d y.d,.d (.bool (so && by_ || !so && !sy))] (bld r1)=some (.ret [] (M7 r))) :
 d6 T0 X0 D7 [.ptr (.b 0) 0 0,.d (Nd.two op x y).d] (bld u0)=some (.ret [] (M7 r)):=by
 rw[c9 (af:=q9) rfl rfl rfl];simp only[Nd.d,bld,M7] at t1 t2 t3 ⊢;cases so
 ·cases bx <;> cases sy <;> simp only[Bool.not_true,Bool.not_false,Bool.true_and,Bool.false_and,Bool.and_true,Bool.and_false,Bool.or_false,Bool.false_or,Bool.true_or,Bool.or_true] at t1 t3 <;> simp -implicitDefEqProofs (disch:=omega) [q9,s0,s1,s2,s3,t1,t2,t3,ZE,el,ql,hq]
 ·cases by_ <;> simp only[Bool.not_true,Bool.not_false,Bool.true_and,Bool.false_and,Bool.and_true,Bool.and_false,Bool.or_false,Bool.false_or,Bool.true_or,Bool.or_true] at t1 t3 <;> simp -implicitDefEqProofs (disch:=omega) [q9,s0,s1,s2,s3,t1,t2,t3,ZE,el,ql,hq]
theorem q7y {op:Int} (h:op=43∨op=45∨op=42∨op=47∨op=37):0≤op∧op < 128∧enc op=[opc op]:=by
 obtain ⟨a,b,c⟩:=zae h;exact ⟨b,c,a⟩
theorem qs4 {op:Int} {x y:Nd} {w1 w2:List UInt8} (ho:op=43∨op=45∨op=42∨op=47∨op=37) (h1:Wrote D7 [.d x.d] w1) (h2:Wrote D7 [.d y.d] w2) :
 Wrote D7 [.d (Nd.two op x y).d] (wrB (!C2 op && x.adds) w1++32 :: opc op :: 32 :: wrB (C2 op && y.adds || !C2 op && !y.single) w2):=by
 have p1:=qic h1 (!C2 op && x.adds);have p2:=qic h2 (C2 op && y.adds || !C2 op && !y.single);obtain ⟨o0,o1,he⟩:=q7y ho
 have hq:(32 :: (enc op++[32]):List UInt8)=[32,opc op,32]:=by rw[he]; rfl
 have hl1:(enc op).length=1:=by rw[he]; rfl
 refine ⟨fun hl2=>?_,fun s hl2=>?_⟩
 ·rw[List.length_append,List.length_cons,List.length_cons,List.length_cons] at hl2;have t1:=p1.z (by omega);have t2:=ws1 (wrB (!C2 op && x.adds) w1) [32,opc op,32] (by simp only[List.length_cons,List.length_nil]; omega);have t3:=p2.s (wrB (!C2 op && x.adds) w1++[32,opc op,32]) (by simp only[List.length_append,List.length_cons,List.length_nil]; omega)
  have e:∀ a b:List UInt8,a++[32,opc op,32]++b=a++32 :: opc op :: 32 :: b:=fun a b=>by rw[List.append_assoc]; rfl
  rw[e] at t3;exact zfy o0 o1 (Wb op) (JF x) (JF y) (Xk y) hl1 rfl hq t1 t2 t3
 ·rw[List.length_append,List.length_cons,List.length_cons,List.length_cons] at hl2;have t1:=p1.s s (by omega);have t2:=ws1 (s++wrB (!C2 op && x.adds) w1) [32,opc op,32] (by simp only[List.length_append,List.length_cons,List.length_nil]; omega);have t3:=p2.s (s++wrB (!C2 op && x.adds) w1++[32,opc op,32]) (by simp only[List.length_append,List.length_cons,List.length_nil]; omega)
  have e:∀ a b:List UInt8,s++a++[32,opc op,32]++b=s++(a++32 :: opc op :: 32 :: b):=fun a b=>by rw[List.append_assoc,List.append_assoc]; rfl
  rw[e] at t3;exact zfz o0 o1 (Wb op) (JF x) (JF y) (Xk y) hl1 rfl hq t1 t2 t3
theorem qn0 {vs:List (List UInt8)}:∀ x:Nd,x.pr vs→Wrote D7 [.d x.d] (wr x):=by
 intro x
 induction x with
 | num k=>intro h; exact qs5 h.1 h.2
 | name v s=>intro h; exact qn1 h.1.l
 | minus x ih=>intro h; exact qka (ih h)
 | two op x y ih1 ih2=>intro h; exact qs4 h.1 (ih1 h.2.1) (ih2 h.2.2)
theorem qhb:∀ s:List UInt8,Wp (B8 s)=some s
 | []=>rfl
 | c :: s=>by
   have e:B8 (c :: s) = .d (.int .u8 c.toNat) :: B8 s:=rfl;have hc:=c.toNat_lt;rw[e,Wp,qhb s,if_pos (by omega)];simp
theorem qhc {s:List UInt8} (h:s≠[]):d6 T0 X0 D2 [.ptr (.b 0) 0 0] (bld s)=some (.ret [.d (.str s)] [.arr [.agg [.ptr (.b 0) 0 0,.ref (.b 1) ⟨1,1000005⟩ 0 s.length]] ⟨2,wSB⟩,.dead]):=by
 refine xU (n:=1) ?_
 have hl:s.length=(B8 s).length:=by unfold B8; rw[List.length_map]
 have hp:0 < s.length:=List.length_pos_iff.2 h;have e:call T0 X0 1 D2 [.ptr (.b 0) 0 0] (bld s)=bsX wSB 1000005 (call T0 X0 0) [.ptr (.b 0) 0 0] (bld s):=rfl;rw[e];unfold bsX bld;simp only[];rw[if_pos ⟨trivial,trivial,trivial,hl,hp⟩,qhb];rfl
theorem zfp {vs:List (List UInt8)} {x:Nd} (h:x.pr vs):wr x≠[]:=by
 cases x with
 | num k=>exact (QE h.1 (Zp h.1 h.2)).1
 | name v s=>exact h.1.ne
 | minus x=>simp[wr]
 | two op x y=>simp[wr]
theorem qrg:kZ 0 1 [(1,⟨1,1000005⟩)] (.d (.agg [.nilp,.sl []]))=(.agg [.d .nilp,.ref (.n 0 1) ⟨1,1000005⟩ 0 0],[(.n 0 1,some (.arr [] ⟨1,1000005⟩))]):=rfl
theorem XH {vs:List (List UInt8)} {x:Nd} (h:x.pr vs) (hl:(wr x).length≤100000000):d6 T0 X0 qjf [.d x.d] []=some (.ret [.d (.str (wr x))] []):=by
 have s1:=(qn0 x h).z hl;have s2:=qhc (zfp h);rw[c9 (af:=ZT) rfl rfl rfl];simp only[JQ,bld,M7,vn] at s1 s2;simp -implicitDefEqProofs (disch:=omega) [ZT,qrg,s1,s2]
set_option maxHeartbeats 4000000
def Sm.kind:Sm→Int
 | .set _ _ _ none=>3
 | .set _ _ _ (some _)=>2
 | .skip _=>4
 | .stop _=>5
 | .mark _ _=>6
 | .choose _ _=>7
 | .loop _ _=>9
 | .ifs _ _ _ _ _=>10
 | .ife _ _ _ _ _ _ _=>10
 | .while _ _ _ _ _=>12
def Sm.at_:Sm→Pl
 | .set p _ _ _=>p
 | .skip p=>p
 | .stop p=>p
 | .mark p _=>p
 | .choose p _=>p
 | .loop p _=>p
 | .ifs p _ _ _ _=>p
 | .ife p _ _ _ _ _ _=>p
 | .while p _ _ _ _=>p
def eqs (q:Bool):List UInt8:=if q then [32,61,32] else [32,33,61,32]
def xT (x y:Nd) (q:Bool):List UInt8:=wr x++(eqs q++wr y)
def Sm.head:Sm→List UInt8
 | .set _ _ s none=>s++[32,58,61,32,97,110,121]
 | .set _ _ s (some x)=>s++([32,58,61,32]++wr x)
 | .skip _=>[115,107,105,112]
 | .stop _=>[115,116,111,112]
 | .mark _ s=>[109,97,114,107,32]++s
 | .choose _ _=>[99,104,111,111,115,101]
 | .loop _ _=>[108,111,111,112]
 | .ifs _ x y q _=>[105,102,32]++xT x y q
 | .ife _ x y q _ _ _=>[105,102,32]++xT x y q
 | .while _ x y q _=>[119,104,105,108,101,32]++xT x y q
@[simp] theorem fitC_nd (x:Nd):XS x.d=true:=by cases x <;> rfl
@[simp] theorem zcq (x:Nd):JS true (.d x.d)=some false:=by cases x <;> rfl
theorem qug (s:Sm):d6 T0 X0 qms [.d s.d] []=some (.ret [.d (.int .i64 s.kind)] []):=by
 rw[c9 (af:=kv) rfl rfl rfl]
 cases s with
 | set p v s e=>
   cases e with
   | none=>simp (maxSteps:=1000000) -implicitDefEqProofs (disch:=omega) [kv,x8,T3,Q5,V0,qk,U9,U8,Q4,Sm.d,Sm.kind,oD]
   | some x=>simp (maxSteps:=1000000) -implicitDefEqProofs (disch:=omega) [kv,x8,T3,Q5,V0,qk,U9,U8,Q4,Sm.d,Sm.kind,oD]
 | _=>simp (maxSteps:=1000000) -implicitDefEqProofs (disch:=omega) [kv,x8,T3,Q5,V0,qk,U9,U8,Q4,Sm.d,Sm.kind,kZ,O2]
theorem KA {vs:List (List UInt8)} {x y:Nd} {q:Bool} (hx:Xok vs x) (hy:Xok vs y):d6 T0 X0 Wl [.d (.agg [x.d,y.d,.bool q])] []=some (.ret [.d (.str (xT x y q))] []):=by
 rw[c9 (af:=jK) rfl rfl rfl];have l1:=kA x hx.pr;have l2:=kA y hy.pr;have z1:=hx.sz;have z2:=hy.sz;have s1:=XH hx.pr (by omega);have s2:=XH hy.pr (by omega);unfold xT;generalize wr x=a at *;generalize wr y=b at *;cases q
 all_goals
  simp -implicitDefEqProofs (disch:=omega) [jK,s1,s2,eqs]
theorem quh {vs:List (List UInt8)} {s:Sm} (h:s.fit vs):d6 T0 X0 qmt [.d s.d] []=some (.ret [.d (.str s.head)] []):=by
 have s0:=qug s;rw[c9 (af:=R4) rfl rfl rfl]
 cases s with
 | set p v s e=>
   simp only[Sm.fit] at h;have hl:=h.1.l
   cases e with
   | none=>
     simp only[Sm.d,Sm.kind,Sm.head,oD] at s0 ⊢;simp (maxSteps:=1000000) -implicitDefEqProofs (disch:=omega) [R4,s0]
   | some x=>
     have hx:Xok vs x:=h.2.2.2.2;have l1:=kA x hx.pr;have z1:=hx.sz;have s1:=XH hx.pr (by omega);simp only[Sm.d,Sm.kind,Sm.head,oD] at s0 ⊢;generalize wr x=a at *;simp (maxSteps:=1000000) -implicitDefEqProofs (disch:=omega) [R4,s0,s1]
 | mark p s=>
   simp only[Sm.fit] at h;have hl:=h.1.l;simp only[Sm.d,Sm.kind,Sm.head] at s0 ⊢;simp (maxSteps:=1000000) -implicitDefEqProofs (disch:=omega) [R4,s0]
 | ifs p x y q b=>
   simp only[Sm.fit] at h;have l1:=kA x h.1.pr;have l2:=kA y h.2.1.pr;have z1:=h.1.sz;have z2:=h.2.1.sz;have s1:=KA (q:=q) h.1 h.2.1
   have s2:(xT x y q).length≤100000000:=by unfold xT eqs; cases q <;> simp <;> omega
   simp only[Sm.d,Sm.kind,Sm.head] at s0 ⊢;generalize xT x y q=a at *;simp (maxSteps:=1000000) -implicitDefEqProofs (disch:=omega) [R4,s0,s1]
 | ife p x y q b pe e=>
   simp only[Sm.fit] at h;have l1:=kA x h.1.pr;have l2:=kA y h.2.1.pr;have z1:=h.1.sz;have z2:=h.2.1.sz;have s1:=KA (q:=q) h.1 h.2.1
   have s2:(xT x y q).length≤100000000:=by unfold xT eqs; cases q <;> simp <;> omega
   simp only[Sm.d,Sm.kind,Sm.head] at s0 ⊢;generalize xT x y q=a at *;simp (maxSteps:=1000000) -implicitDefEqProofs (disch:=omega) [R4,s0,s1]
 | «while» p x y q b=>
   simp only[Sm.fit] at h;have l1:=kA x h.1.pr;have l2:=kA y h.2.1.pr;have z1:=h.1.sz;have z2:=h.2.1.sz;have s1:=KA (q:=q) h.1 h.2.1
   have s2:(xT x y q).length≤100000000:=by unfold xT eqs; cases q <;> simp <;> omega
   simp only[Sm.d,Sm.kind,Sm.head] at s0 ⊢;generalize xT x y q=a at *;simp (maxSteps:=1000000) -implicitDefEqProofs (disch:=omega) [R4,s0,s1]
 | _=>
   simp only[Sm.d,Sm.kind,Sm.head] at s0 ⊢;simp (maxSteps:=1000000) -implicitDefEqProofs (disch:=omega) [R4,s0]
theorem Zh (p:Pl):d6 T0 X0 u7 [.d (.agg p.cs)] []=some (.ret [.d (.agg p.cs)] []):=by
 rw[c9 (af:=jl) rfl rfl rfl];simp only[Pl.cs];simp -implicitDefEqProofs (disch:=omega) [jl]
def Sm.simple (n:Nat):Sm→Bool
 | .set _ _ _ (some x)=>(q8 n x).2
 | .ifs _ _ _ _ _=>false
 | .ife _ _ _ _ _ _ _=>false
 | .while _ _ _ _ _=>false
 | _=>true
structure Wk where
 line:Int
 hard:List Int
 bad:Pl
def Wk.nl (w:Wk):Wk:={ w with line:=w.line + 1 }
def Wk.see (w:Wk) (ok:Bool) (p:Pl):Wk:=if ok then w else { w with bad:=if w.hard.length=0 then p else w.bad,hard:=w.hard++[w.line] }
mutual
def Sm.within (n:Nat):Sm→Wk→Wk
 | .choose _ bs,w=>Bls.walk n true bs w
 | .loop _ b,w=>Sms.walk n b w
 | .ifs _ _ _ _ b,w=>Sms.walk n b w
 | .ife _ _ _ _ b _ e,w=>Sms.walk n e (Sms.walk n b w).nl
 | .while _ _ _ _ b,w=>Sms.walk n b w
 | _,w=>w
def Sms.walk (n:Nat):List Sm→Wk→Wk
 | [],w=>w
 | s :: l,w=>Sms.walk n l (Sm.within n s (w.nl.see (s.simple n) s.at_))
def Bls.walk (n:Nat) (first:Bool):List Bl→Wk→Wk
 | [],w=>w
 | b :: l,w=>Bls.walk n false l (Bl.walk n b (if first then w else w.nl))
def Bl.walk (n:Nat):Bl→Wk→Wk
 | .mk _ b,w=>Sms.walk n b w
end
structure Wk.le (w w':Wk) (k:Nat):Prop where
 l0:w.line≤w'.line
 l1:w'.line≤w.line + k
 h0:w.hard.length≤w'.hard.length
 h1:w'.hard.length≤w.hard.length + k
theorem Wk.le.refl (w:Wk) (k:Nat):w.le w k:=⟨Int.le_refl _,by omega,Nat.le_refl _,by omega⟩
theorem Wk.le.trans {a b c:Wk} {j k:Nat} (h:a.le b j) (g:b.le c k):a.le c (j + k):=⟨Int.le_trans h.l0 g.l0,by have:=h.l1; have:=g.l1; omega,Nat.le_trans h.h0 g.h0,by have:=h.h1; have:=g.h1; omega⟩
theorem Wk.le.to {a b:Wk} {j k:Nat} (h:a.le b j) (hk:j≤k):a.le b k:=⟨h.l0,by have:=h.l1; omega,h.h0,by have:=h.h1; omega⟩
set_option maxHeartbeats 16000000
@[simp] theorem zio (h n) (s:Sm):qw h n false (.d (.box s.d))=val (.d s.d):=by cases s <;> simp only[Sm.d] <;> rfl
@[simp] theorem zkw (s:Sm):D.cells s.d=[s.d]:=s.cells
@[simp] theorem fitV_sm (s:Sm):S1 (.d s.d)=true:=by cases s <;> simp only[Sm.d] <;> rfl
@[simp] theorem q2w (s:Sm):XS s.d=true:=by cases s <;> simp only[Sm.d] <;> rfl
@[simp] theorem zdi (T cf i h) (s:Sm):q16 T cf [(qki,u7,none),(x8,u7,some (0,4,true)),(qhs,u7,some (0,4,true)),(Q5,u7,some (0,4,true)),(Q4,u7,some (0,4,true)),(T3,u7,some (0,4,true)),(U9,u7,some (0,4,true)),(U8,u7,some (0,4,true)),(qk,u7,some (0,4,true)),(V0,u7,some (0,4,true))] i h [] (S8 (.d s.d))=qae cf u7 i h (F2 h [(.d (.agg s.at_.cs),true)]):=by
  cases s <;> simp only[Sm.d,Sm.at_] <;> rfl
def inL:Lst Int:=⟨fun n=>.int .i64 n,⟨1,8⟩,fun n=>by simp[wt,IntKind.bits],fun n=>rfl,by decide⟩
@[simp] theorem wl_in (l):(wl (LD inL l)≤8)=True:=QT inL l
@[simp] theorem zfn (l n):LW inL l++[.d (.int .i64 n)]=LW inL (l++[n]):=wq inL l n
theorem q6x (s:Sm):1≤s.sz:=by cases s <;> simp only[Sm.sz] <;> omega
theorem xE:∀ l:List Sm,l.length≤Sms.sz l
 | []=>Nat.zero_le _
 | s :: l=>by
   have:=xE l;have:=q6x s;simp only[Sms.sz,List.length_cons];omega
theorem JC:∀ l:List Bl,l.length≤Bls.sz l
 | []=>Nat.zero_le _
 | .mk p b :: l=>by
   have:=JC l;simp only[Bls.sz,Bl.sz,List.length_cons];omega
def Pg.d (g:Pg):V:=.d (.box (.agg g.cs))
def Pg.vs (g:Pg):List (List UInt8):=g.bs.map Bg.name
def Pg.w (g:Pg):Wk:=Sms.walk g.vs.length g.body ⟨0,[],g9⟩
theorem qqs {bs:List Bg} {i:Nat} (h:i < bs.length):(LD bgL bs)[i]? = some (.agg (bs[i]).cs):=jM bgL bs h
theorem qs9 (bs:List Bg) (hb:bs.length≤1000):∀ d i (out:List (List UInt8)) (e:List (Nat × V)),d + i=bs.length→out=(bs.map Bg.name).take i→
 j6 T0 X0 0 N2 (some (.nrm,⟨(3,.ref (.b 0) ⟨1,16⟩ 0 out.length) :: (9,.d (.sl (LD bgL bs))) :: (10,.d (.int .i64 bs.length)) :: (11,.d (.int .i64 i)) :: e,[.arr (SV out) ⟨1,16⟩]⟩)) =
  some (.exit 0,⟨[(3,.ref (.b 0) ⟨1,16⟩ 0 bs.length)],[.arr (SV (bs.map Bg.name)) ⟨1,16⟩]⟩):=by
 intro d
 induction d with
 | zero=>
   intro i out e hi ho
   have:i=bs.length:=by omega
   subst this
   have ho:out=bs.map Bg.name:=by rw[ho,List.take_of_length_le (by simp)]
   subst ho;rw[d5 (l:=N2) rfl];simp -implicitDefEqProofs (disch:=omega) [W6]
 | succ d ih=>
   intro i out e hi ho
   have hlt:i < bs.length:=by omega
   have hget:=qqs hlt
   have hlen:out.length=i:=by rw[ho]; simp; omega
   have htk:out.take i=out:=List.take_of_length_le (by omega)
   have hnx:out++[(bs[i]).name]=(bs.map Bg.name).take (i + 1):=by rw[ho,List.take_succ_eq_append_getElem (by simpa using hlt)]; simp
   rw[← ih (i + 1) (out++[(bs[i]).name]) [] (by omega) hnx];rw[d5 (l:=N2) rfl];generalize bs[i]=b at *;simp only[Bg.cs] at hget;simp -implicitDefEqProofs (disch:=omega) [W6,hget,hlen,htk]
theorem qs8 (g:Pg) (hb:g.bs.length≤1000):d6 T0 X0 JK [g.d] []=some (.ret [.d (.sl (SL g.vs))] []):=by
 have s1:=qs9 g.bs hb g.bs.length 0 [] [] rfl (by simp);rw[c9 (af:=zx) rfl rfl rfl];unfold Pg.d Pg.vs Pg.cs;simp only[Int.cast_ofNat_Int,List.length_nil,qjx] at s1;generalize hm:g.bs.map Bg.name=m at *
 have hml:g.bs.length=m.length:=by rw[← hm]; simp
 simp only[hml] at s1;simp -implicitDefEqProofs (disch:=omega) [zx,s1,hml]
theorem qu7 (g:Pg) (hb:g.body.length≤1000000):d6 T0 X0 JL [g.d] []=some (.ret [.d (.sl (LD smL g.body))] []):=by
 rw[c9 (af:=zy) rfl rfl rfl];unfold Pg.d Pg.cs;simp -implicitDefEqProofs (disch:=omega) [zy]
def WB (v:Int):List UInt8:=if v < 0 then 45 :: B2 456 v.natAbs else B2 456 v
theorem qoe {v:Int} (h:nl v≤32):d6 T0 X0 Yr [.d (Wd v)] []=some (.ret [.d (.str (WB v))] []):=by
 unfold WB
 by_cases h0:v < 0
 ·rw[if_pos h0];have hl:(d7 (v.natAbs:Int)).length≤32:=h;have s1:=YG (g8 (v.natAbs:Int)) 456 (by omega) (by omega) (by rw[o9 (by omega)]; exact Zp (by omega) hl);rw[o9 (by omega)] at s1;have s2:=KC (m:=v) (by omega);have hs:v.sign = -1:=Int.sign_eq_neg_one_of_neg h0;have ht:=Qt (v:=(v.natAbs:Int));rw[c9 (af:=xW) rfl rfl rfl];have hd:decide (v < 0)=true:=decide_eq_true h0;simp only[Wd,hd,hs] at s2 ⊢;simp -implicitDefEqProofs (disch:=omega) [xW,s1,s2]
 ·rw[if_neg h0];exact qba (by omega) (by unfold nl at h; rwa [Int.natAbs_of_nonneg (by omega)] at h)
def Bg.val (b:Bg):List UInt8:=if b.any then [] else [32,61,32]++WB b.n
def ZG:Bool→List Bg→List UInt8
 | _,[]=>[]
 | f,b :: l=>(if f then [] else [44])++((32 :: b.name)++(b.val++ZG false l))
theorem YH (v:Int):(WB v).length≤4105:=by
 unfold WB;split
 ·have:=Qt (v:=(v.natAbs:Int)); simp; omega
 ·have:=Qt (v:=v); omega
theorem qzo {b:Bg} (hb:BgOk b) (pre rest:List Bg) (out:List UInt8) (ho:out.length≤100000000) (hl:(pre++b :: rest).length≤1000) :
 j6 T0 X0 0 H3 (some (.nrm,⟨[(3,.d (.str out)),(9,.d (.sl (LD bgL (pre++b :: rest)))),(10,.d (.int .i64 (pre++b :: rest).length)),(11,.d (.int .i64 pre.length))],[]⟩)) =
  some (.nrm,⟨[(3,.d (.str (out++((if pre.length=0 then [] else [44])++((32 :: b.name)++b.val))))),(9,.d (.sl (LD bgL (pre++b :: rest)))),(10,.d (.int .i64 (pre++b :: rest).length)),(11,.d (.int .i64 (pre.length + 1)))],[]⟩):=by
 have hget:(LD bgL (pre++b :: rest))[pre.length]? = some (.agg b.cs):=by rw[qqs (by simp)]; simp
 have hlt:pre.length < (pre++b :: rest).length:=by simp
 have s1:=qoe hb.val;have t1:=YH b.n;have n1:=hb.name.l;have hk:(d7 (b.n.natAbs:Int)).length≤32:=hb.val;unfold Bg.val;generalize (pre++b :: rest).length=N at *;generalize WB b.n=tw at *;simp only[Wd] at s1;simp only[Bg.cs] at hget
 by_cases hz:pre.length=0
 case' pos=>rw[if_pos hz]
 case' neg=>rw[if_neg hz]
 all_goals
  cases ha:b.any
  all_goals
   rw[ha] at hget;simp -implicitDefEqProofs (disch:=omega) [H3,hget,s1,-List.length_eq_zero_iff]
theorem Yz:∀ (l:List Bg) (f:Bool),(∀ b∈l,BgOk b)→(ZG f l).length≤10000 * l.length
 | [],_,_=>by simp[ZG]
 | b :: l,f,h=>by
   have ih:=Yz l false (fun x hx=>h x (List.mem_cons_of_mem _ hx));have t1:=YH b.n;have n1:=(h b (List.mem_cons_self ..)).name.l;unfold ZG Bg.val
   cases f <;> cases b.any <;> simp <;> omega
theorem WY:∀ (rest pre:List Bg) (out:List UInt8) (e:List (Nat × V)),(∀ b∈rest,BgOk b)→out.length≤10 + 10000 * pre.length→(pre++rest).length≤1000→
 j6 T0 X0 0 G9 (some (.nrm,⟨(3,.d (.str out)) :: (9,.d (.sl (LD bgL (pre++rest)))) :: (10,.d (.int .i64 (pre++rest).length)) :: (11,.d (.int .i64 pre.length)) :: e,[]⟩)) =
  some (.exit 0,⟨[(3,.d (.str (out++ZG (decide (pre.length=0)) rest)))],[]⟩)
 | [],pre,out,e,_,ho,hl=>by
   rw[d5 (l:=G9) rfl];simp only[ZG,List.append_nil] at *;simp -implicitDefEqProofs (disch:=omega) [H3]
 | b :: rest,pre,out,e,hb,ho,hl=>by
   have hlb:pre.length≤1000:=by simp at hl; omega
   have one:=qzo (hb b (List.mem_cons_self ..)) pre rest out (by omega) hl;have t1:=YH b.n;have n1:=(hb b (List.mem_cons_self ..)).name.l
   have ih:=WY rest (pre++[b]) (out++((if pre.length=0 then [] else [44])++((32 :: b.name)++b.val))) [] (fun x hx=>hb x (List.mem_cons_of_mem _ hx)) (by
    unfold Bg.val
    split <;> cases b.any <;> simp <;> omega) (by simpa using hl)
   have el:pre++[b]++rest=pre++b :: rest:=by simp
   have e2:(pre++[b]).length=pre.length + 1:=by simp
   have e3:decide (pre.length + 1=0)=false:=by simp
   rw[el,e2,e3] at ih
   have e4:out++ZG (decide (pre.length=0)) (b :: rest)=out++((if pre.length=0 then [] else [44])++((32 :: b.name)++b.val))++ZG false rest:=by
    rw[ZG]
    by_cases hz:pre.length=0 <;> simp[hz]
   rw[e4];simp only[Int.natCast_add,Int.cast_ofNat_Int] at ih;generalize out++((if pre.length=0 then [] else [44])++((32 :: b.name)++b.val))=out2 at *;rw[← ih,d5 (l:=G9) rfl];generalize (pre++b :: rest).length=N at *;simp -implicitDefEqProofs (disch:=omega) [one]
def Pg.first (g:Pg):List UInt8:=[118,97,114,115]++ZG true g.bs
theorem qfd {g:Pg} (h:Pok g):d6 T0 X0 xu [g.d] []=some (.ret [.d (.str g.first)] []):=by
 have hn:=h.n;have lp:=WY g.bs [] [118,97,114,115] [] h.bs (by simp) (by simp; omega);rw[c9 (af:=U4) rfl rfl rfl];unfold Pg.d Pg.cs Pg.first;simp only[List.nil_append,List.length_nil,Int.cast_ofNat_Int,decide_true] at lp;generalize ([118,97,114,115]++ZG true g.bs:List UInt8)=o at *;simp -implicitDefEqProofs (disch:=omega) [U4,lp]
def orT:List UInt8:=[111,114]
def kT:List UInt8:=[101,108,115,101]
def ssL:Lst (List Sm):=⟨fun b=>.sl (LD smL b),⟨1,24⟩,fun x=>by simp[wt],fun x=>rfl,by decide⟩
@[simp] theorem wl_ss (l):(wl (LD ssL l)≤24)=True:=QT ssL l
@[simp] theorem fit_ss {n:Nat} (l) (h:n≤1099511627776):(n * wl (LD ssL l)≤w8)=True:=qdf ssL l (by decide) h
@[simp] theorem zfl (l b):LW ssL l++[.d (.sl (LD smL b))]=LW ssL (l++[b]):=wq ssL l b
theorem qvk (b):LD ssL [b]=[D.sl (LD smL b)]:=rfl
theorem qvj (b c):LD ssL [b,c]=[D.sl (LD smL b),D.sl (LD smL c)]:=rfl
theorem wl_1 (x:List D):(wl [D.sl x]≤24)=True:=eq_true (by simp[wl,wt])
theorem wl_2 (x y:List D):(wl [D.sl x,D.sl y]≤24)=True:=eq_true (by simp[wl,wt])
def Bl.body:Bl→List Sm
 | .mk _ b=>b
def Sm.parts:Sm→List (List Sm) × List UInt8
 | .choose _ bs=>(bs.map Bl.body,orT)
 | .loop _ b=>([b],[])
 | .ifs _ _ _ _ b=>([b],[])
 | .ife _ _ _ _ b _ e=>([b,e],kT)
 | .while _ _ _ _ b=>([b],[])
 | _=>([],[])
theorem qo4 (bs:List Bl) (hb:bs.length≤1000000):∀ d i (e:List (Nat × V)),d + i=bs.length→
 j6 T0 X0 0 zZ (some (.nrm,⟨(5,.ref (.b 0) ⟨1,24⟩ 0 i) :: (16,.d (.sl (LD blL bs))) :: (17,.d (.int .i64 bs.length)) :: (18,.d (.int .i64 i)) :: e,[.arr (LW ssL ((bs.map Bl.body).take i)) ⟨1,24⟩]⟩)) =
  some (.exit 1,⟨[(5,.ref (.b 0) ⟨1,24⟩ 0 bs.length)],[.arr (LW ssL (bs.map Bl.body)) ⟨1,24⟩]⟩):=by
 intro d
 induction d with
 | zero=>
   intro i e hi
   have:i=bs.length:=by omega
   subst this;rw[show (bs.map Bl.body).take bs.length=bs.map Bl.body from List.take_of_length_le (by simp),d5 (l:=zZ) rfl];simp -implicitDefEqProofs (disch:=omega) [kL]
 | succ d ih=>
   intro i e hi
   have hlt:i < bs.length:=by omega
   have hget:∃ (p:Pl) (b:List Sm),(LD blL bs)[i]? = some (.agg [.int .i64 p.b,.int .i64 p.g,.int .i64 p.l,.int .i64 p.c,.sl (LD smL b)])∧(bs[i]).body=b:=by
    rw[jM blL _ hlt]
    cases bs[i] with
    | mk p b=>exact ⟨p,b,by simp[blL,Bl.d,Sms.d_LD],rfl⟩
   obtain ⟨p,b,hget,hbd⟩:=hget
   have hnx:LW ssL ((bs.map Bl.body).take i++[b])=LW ssL ((bs.map Bl.body).take (i + 1)):=by
    rw[List.take_succ_eq_append_getElem (by simpa using hlt)];simp[hbd]
   have hlen:((bs.map Bl.body).take i).length=i:=by simp; omega
   rw[← ih (i + 1) [] (by omega)];rw[d5 (l:=zZ) rfl,← hnx];generalize (bs.map Bl.body).take i=ys at *;have htk:ys.take i=ys:=List.take_of_length_le (by omega);simp (maxSteps:=4000000) -implicitDefEqProofs (disch:=omega) [kL,hget,hlen,htk]
theorem qo3 (s:Sm) (hs:s.sz≤1000000):d6 T0 X0 qje [.d s.d] []=some (.ret [.d (.sl (LD ssL s.parts.1)),.d (.str s.parts.2)] []):=by
 rw[c9 (af:=wj) rfl rfl rfl]
 cases s with
 | choose p bs=>
   have hl:=JC bs;simp only[Sm.sz] at hs;have s1:=qo4 bs (by omega) bs.length 0 [] rfl;have htk:(bs.map Bl.body).take bs.length=bs.map Bl.body:=List.take_of_length_le (by simp);simp only[List.take_zero,qen,Int.cast_ofNat_Int] at s1;simp only[Sm.d,Sm.parts,orT,Bls.d_LD];simp (maxSteps:=4000000) -implicitDefEqProofs (disch:=omega) [wj,s1,kZ,O2,htk]
 | _=>
   simp only[Sm.d,Sm.parts,kT,qjy,Sms.d_LD,qvk,qvj];simp (maxSteps:=4000000) -implicitDefEqProofs (disch:=omega) [wj,x8,T3,Q5,V0,qk,U9,U8,Q4,wl_1,wl_2]
def vA:List UInt8:=[59,10]
def Z7:List UInt8:=[32,123,10]
def S2:List UInt8:=[125,10]
mutual
def Sm.ptl (a:List UInt8):Sm→List UInt8
 | .choose _ bs=>Bls.txt a true bs++(a++S2)
 | .loop _ b=>Z7++Sms.txt (a++[32,32]) b++(a++S2)
 | .ifs _ _ _ _ b=>Z7++Sms.txt (a++[32,32]) b++(a++S2)
 | .ife _ _ _ _ b _ e=>Z7++Sms.txt (a++[32,32]) b++((a++[125,32]++kT)++Z7++Sms.txt (a++[32,32]) e)++(a++S2)
 | .while _ _ _ _ b=>Z7++Sms.txt (a++[32,32]) b++(a++S2)
 | _=>vA
def Sms.txt (a:List UInt8):List Sm→List UInt8
 | []=>[]
 | s :: l=>(a++s.head)++Sm.ptl a s++Sms.txt a l
def Bls.txt (a:List UInt8) (f:Bool):List Bl→List UInt8
 | []=>[]
 | .mk _ b :: l=>((if f then [] else a++[125,32]++orT)++Z7++Sms.txt (a++[32,32]) b)++Bls.txt a false l
end
def bk (a w:List UInt8) (f:Bool) (b:List Sm):List UInt8:=(if f then [] else a++[125,32]++w)++Z7++Sms.txt (a++[32,32]) b
def bks (a w:List UInt8) (f:Bool):List (List Sm)→List UInt8
 | []=>[]
 | b :: l=>bk a w f b++bks a w false l
theorem qso (a:List UInt8):∀ (f:Bool) (bs:List Bl),Bls.txt a f bs=bks a orT f (bs.map Bl.body)
 | _,[]=>rfl
 | f,.mk _ b :: l=>by simp only[Bls.txt,bks,bk,List.map_cons,Bl.body,qso a false l]
theorem q0o {vs:List (List UInt8)} (a:List UInt8) {s:Sm} (h:s.fit vs):s.ptl a=if s.parts.1=[] then vA else bks a s.parts.2 true s.parts.1++(a++S2):=by
 cases s with
 | choose p bs=>
   simp only[Sm.fit] at h;simp only[Sm.ptl,Sm.parts,qso];exact (if_neg (by simpa using h.1)).symm
 | _=>simp[Sm.ptl,Sm.parts,bks,bk,kT]
def prR (b:List Sm) (u:List UInt8):List Obj:=match b with
 | []=>bld u
 | _=>M7 u
theorem qo2 (b:List Sm) (u:List UInt8):prR b u=bld u∨prR b u=M7 u:=by cases b <;> simp[prR]
def PS (b:List Sm):Prop:=∀ a u:List UInt8,a.length≤100000000→u.length + (Sms.txt a b).length≤100000000→
 d6 T0 X0 XU [.ptr (.b 0) 0 0,.d (.sl (LD smL b)),.d (.str a)] (bld u)=some (.ret [] (prR b (u++Sms.txt a b)))
def pSt (c:Bool) (a:List UInt8) (l:List Sm) (i:Nat) (u:List UInt8):St:=
 ⟨[(0,.ptr (.b 0) 0 0),(2,.d (.str a)),(12,.d (.sl (LD smL l))),(13,.d (.int .i64 l.length)),(14,.d (.int .i64 i))],if c then M7 u else bld u⟩
def kSt (a w:List UInt8) (l:List Sm) (i:Nat) (bs:List (List Sm)) (j:Nat) (u:List UInt8):St:=
 ⟨[(0,.ptr (.b 0) 0 0),(2,.d (.str a)),(9,.d (.str w)),(12,.d (.sl (LD smL l))),(13,.d (.int .i64 l.length)),(14,.d (.int .i64 i)),(34,.d (.sl (LD ssL bs))),(35,.d (.int .i64 bs.length)),(36,.d (.int .i64 j))],M7 u⟩
theorem q3i {b:List Sm} (hb:PS b) (a w:List UInt8) (l:List Sm) (i:Nat) (pre rest:List (List Sm)) (u:List UInt8) (ha:a.length + 2≤100000000) (hbl:b.length≤1000000) (hl:(pre++b :: rest).length≤1000000) (hu:u.length + (bk a w (decide (pre.length=0)) b).length≤100000000) :
 j6 T0 X0 2 R3 (some (.nrm,kSt a w l i (pre++b :: rest) pre.length u))=some (.nrm,kSt a w l i (pre++b :: rest) (pre.length + 1) (u++bk a w (decide (pre.length=0)) b)):=by
 have hget:(LD ssL (pre++b :: rest))[pre.length]? = some (.sl (LD smL b)):=by
  rw[jM ssL _ (by simp)];simp[ssL]
 have hlt:pre.length < (pre++b :: rest).length:=by simp
 generalize pre++b :: rest=bs at *;generalize hN:bs.length=N at *;generalize hM:l.length=M at *;have ho:Z7=[32,123,10]:=rfl
 by_cases hz:pre.length=0
 ·have e1:u++bk a w (decide (pre.length=0)) b=(u++Z7)++Sms.txt (a++[32,32]) b:=by simp[bk,hz]
  have e2:(bk a w (decide (pre.length=0)) b).length=3 + (Sms.txt (a++[32,32]) b).length:=by simp[bk,hz,ho]; omega
  rw[e1];rw[e2] at hu;clear e1 e2;have s1:=ws1 u Z7 (by simp[ho]; omega)
  have hl1:(u++Z7).length≤100000000:=by simp[ho]; omega
  have s2:=hb (a++[32,32]) (u++Z7) (by simp; omega) (by simp[ho]; omega);generalize u++Z7=u1 at *;generalize hu2:u1++Sms.txt (a++[32,32]) b=u2 at *
  rcases qo2 b u2 with hR | hR <;> rw[hR] at s2
  all_goals
   simp only[kSt,bld,M7,hN,hM,ho] at s1 s2 ⊢;simp (maxSteps:=4000000) -implicitDefEqProofs (disch:=omega) [R3,hget,s1,s2,-List.length_eq_zero_iff]
 ·have e1:u++bk a w (decide (pre.length=0)) b=((u++(a++[125,32]++w))++Z7)++Sms.txt (a++[32,32]) b:=by simp[bk,hz]
  have e2:(bk a w (decide (pre.length=0)) b).length=(a++[125,32]++w).length + 3 + (Sms.txt (a++[32,32]) b).length:=by simp[bk,hz,ho]; omega
  rw[e1];rw[e2] at hu;clear e1 e2;have s0:=ws1 u (a++[125,32]++w) (by omega)
  have h1:(u++(a++[125,32]++w)).length + 3 + (Sms.txt (a++[32,32]) b).length≤100000000:=by rw[List.length_append]; omega
  have hw:w.length≤100000000:=by simp at hu; omega
  generalize u++(a++[125,32]++w)=u0 at *;have s1:=ws1 u0 Z7 (by simp[ho]; omega);have s2:=hb (a++[32,32]) (u0++Z7) (by simp; omega) (by simp[ho]; omega);generalize u0++Z7=u1 at *;generalize hu2:u1++Sms.txt (a++[32,32]) b=u2 at *
  rcases qo2 b u2 with hR | hR <;> rw[hR] at s2
  all_goals
   simp only[kSt,bld,M7,hN,hM,ho] at s0 s1 s2 ⊢;simp only[List.append_assoc,List.cons_append,List.nil_append] at s0;simp (maxSteps:=4000000) -implicitDefEqProofs (disch:=omega) [R3,hget,s0,s1,s2,-List.length_eq_zero_iff]
theorem qnk (a w:List UInt8) (ha:a.length + 2≤100000000) (l:List Sm) (i:Nat):∀ (rest pre:List (List Sm)) (u:List UInt8),(∀ b∈rest,PS b∧b.length≤1000000)→(pre++rest).length≤1000000→u.length + (bks a w (decide (pre.length=0)) rest).length≤100000000→
 j6 T0 X0 2 qe (some (.nrm,kSt a w l i (pre++rest) pre.length u))=some (.exit 2,pSt true a l i (u++bks a w (decide (pre.length=0)) rest))
 | [],pre,u,_,h1,h2=>by
   rw[d5 (l:=qe) rfl];simp only[bks,List.append_nil] at *;simp only[kSt,pSt,M7,if_true];simp -implicitDefEqProofs (disch:=omega) [R3]
 | b :: rest,pre,u,hb,h1,h2=>by
   have e4:u++bks a w (decide (pre.length=0)) (b :: rest)=u++bk a w (decide (pre.length=0)) b++bks a w false rest:=by rw[bks]; simp
   have e5:u.length + (bks a w (decide (pre.length=0)) (b :: rest)).length=(u++bk a w (decide (pre.length=0)) b).length + (bks a w false rest).length:=by rw[bks]; simp; omega
   rw[e5] at h2;obtain ⟨hb0,hb1⟩:=hb b (List.mem_cons_self ..);have one:=q3i hb0 a w l i pre rest u ha hb1 h1 (by rw[List.length_append] at h2; omega)
   have ih:=qnk a w ha l i rest (pre++[b]) (u++bk a w (decide (pre.length=0)) b) (fun x hx=>hb x (List.mem_cons_of_mem _ hx)) (by simpa using h1) (by
    rw[show decide ((pre++[b]).length=0)=false by simp]; exact h2)
   have el:pre++[b]++rest=pre++b :: rest:=by simp
   have e2:(pre++[b]).length=pre.length + 1:=by simp
   have e3:decide (pre.length + 1=0)=false:=by simp
   rw[el,e2,e3] at ih;rw[e4,← ih];generalize kSt a w l i (pre++b :: rest) (pre.length + 1) (u++bk a w (decide (pre.length=0)) b)=st2 at *
   have hN:pre.length < (pre++b :: rest).length:=by simp
   clear ih e4 e5;rw[d5 (l:=qe) rfl];simp only[kSt,M7] at one ⊢;generalize (pre++b :: rest).length=N at *;simp -implicitDefEqProofs (disch:=omega) [one]
theorem qt3 (s:Sm) (h:s.sz≤1000000):s.parts.1.length≤1000000:=by
 cases s with
 | choose p bs=>have:=JC bs; simp only[Sm.sz] at h; simp only[Sm.parts,List.length_map]; omega
 | _=>simp[Sm.parts]
theorem xK {vs:List (List UInt8)} {s:Sm} (h:s.fit vs) (hb:∀ b∈s.parts.1,PS b∧b.length≤1000000) (hz:s.sz≤1000000) (c:Bool) (a:List UInt8) (pre rest:List Sm) (u:List UInt8)
 (hl:(pre++s :: rest).length≤1000000) (hu:u.length + ((a++s.head)++s.ptl a).length≤100000000) :
 j6 T0 X0 2 L4 (some (.nrm,pSt c a (pre++s :: rest) pre.length u))=some (.nrm,pSt true a (pre++s :: rest) (pre.length + 1) (u++((a++s.head)++s.ptl a))):=by
 have s1:=quh h;have s2:=qo3 s hz;have hpl:=qt3 s hz
 have hget:(LD smL (pre++s :: rest))[pre.length]? = some s.d:=by rw[jM smL _ (by simp)]; simp[smL]
 have hlt:pre.length < (pre++s :: rest).length:=by simp
 have hfc:XS s.d=true:=q2w _;have hcl:D.cells s.d=[s.d]:=Sm.cells _;have hvc:=Sm.vcells s
 have e0:u++((a++s.head)++s.ptl a)=u++(a++s.head)++s.ptl a:=by simp
 have e1:u.length + ((a++s.head)++s.ptl a).length=(u++(a++s.head)).length + (s.ptl a).length:=by simp; omega
 rw[e0];rw[e1] at hu;clear e0 e1;have s3:=ws1 u (a++s.head) (by rw[List.length_append] at hu; omega)
 have hal:a.length + s.head.length≤100000000:=by simp at hu; omega
 have ht:=q0o a h;rw[ht] at hu ⊢;generalize s.ptl a=tin at *;generalize s.head=hd at *;generalize u++(a++hd)=u1 at *;generalize s.parts=pw at *;obtain ⟨bs,w⟩:=pw;simp only at *
 have hsd:∃ ty x,s.d = .iface ty x:=by cases s <;> simp only[Sm.d] <;> exact ⟨_,_,rfl⟩
 obtain ⟨ty,x,hsd⟩:=hsd;rw[hsd] at hget s1 s2 hfc hcl hvc;clear hsd;generalize hL:pre++s :: rest=L at *;clear hL h
 by_cases hn:bs=[]
 ·rw[if_pos hn] at hu ⊢;subst hn;have s4:=ws1 u1 vA hu;generalize hu2:u1++vA=u2 at *;simp only[show vA=[59,10] from rfl] at s4;clear hu2;cases c
  all_goals
   simp only[pSt,bld,M7,if_true,Bool.false_eq_true,if_false,qjy] at s2 s3 s4 ⊢;simp (maxSteps:=4000000) -implicitDefEqProofs (disch:=omega) [L4,hget,s1,s2,s3,s4,hcl,hfc,hvc,-List.length_eq_zero_iff]
 ·rw[if_neg hn] at hu ⊢
  have hbn:bs.length≠0:=by simpa using hn
  have e2:u1++(bks a w true bs++(a++S2))=u1++bks a w true bs++(a++S2):=by simp
  have e3:u1.length + (bks a w true bs++(a++S2)).length=(u1++bks a w true bs).length + (a++S2).length:=by simp; omega
  rw[e2];rw[e3] at hu;clear e2 e3;have hcl2:S2=[125,10]:=rfl
  have s4:=qnk a w (by rw[hcl2] at hu; simp at hu; omega) L pre.length bs [] u1 hb (by simpa using hpl) (by
   show u1.length + (bks a w true bs).length≤_; rw[List.length_append] at hu; omega)
  have s5:=ws1 (u1++bks a w true bs) (a++S2) hu
  have hal2:a.length + 2≤100000000:=by rw[hcl2] at hu; simp at hu; omega
  simp only[List.nil_append,List.length_nil,Int.cast_ofNat_Int,decide_true] at s4;generalize u1++bks a w true bs=u2 at *;generalize hu3:u2++(a++S2)=u3 at *;simp only[hcl2] at s5;clear hu3 hb;cases c
  all_goals
   simp only[pSt,kSt,bld,M7,if_true,Bool.false_eq_true,if_false,List.length_nil,Int.cast_ofNat_Int] at s2 s3 s4 s5 ⊢;simp (maxSteps:=4000000) -implicitDefEqProofs (disch:=omega) [L4,hget,s1,s2,s3,s4,s5,hcl,hfc,hvc,hbn,-List.length_eq_zero_iff]
def qnv (s:Sm):Prop:=∀ (c:Bool) (a:List UInt8) (pre rest:List Sm) (u:List UInt8),(pre++s :: rest).length≤1000000→u.length + ((a++s.head)++s.ptl a).length≤100000000→
    j6 T0 X0 2 L4 (some (.nrm,pSt c a (pre++s :: rest) pre.length u))=some (.nrm,pSt true a (pre++s :: rest) (pre.length + 1) (u++((a++s.head)++s.ptl a)))
def pE (c:Bool) (a u:List UInt8) (l:List Sm):List Obj:=match l with
 | []=>if c then M7 u else bld u
 | _=>M7 (u++Sms.txt a l)
theorem q1t (a u:List UInt8) (l:List Sm):pE true a u l=M7 (u++Sms.txt a l):=by cases l <;> simp[pE,Sms.txt]
theorem KR (a:List UInt8):∀ (rest pre:List Sm) (c:Bool) (u:List UInt8),(∀ s∈rest,qnv s)→(pre++rest).length≤1000000→u.length + (Sms.txt a rest).length≤100000000→
 j6 T0 X0 2 qd (some (.nrm,pSt c a (pre++rest) pre.length u))=some (.exit 0,⟨[],pE c a u rest⟩)
 | [],pre,c,u,_,h1,h2=>by
   rw[d5 (l:=qd) rfl];simp only[List.append_nil] at *;cases c
   all_goals
    simp only[pSt,pE,bld,M7,if_true,Bool.false_eq_true,if_false];simp -implicitDefEqProofs (disch:=omega) [L4]
 | s :: rest,pre,c,u,hb,h1,h2=>by
   have e5:u.length + (Sms.txt a (s :: rest)).length=(u++((a++s.head)++s.ptl a)).length + (Sms.txt a rest).length:=by rw[Sms.txt]; simp; omega
   have e4:u++Sms.txt a (s :: rest)=u++((a++s.head)++s.ptl a)++Sms.txt a rest:=by rw[Sms.txt]; simp
   rw[e5] at h2;have one:=hb s (List.mem_cons_self ..) c a pre rest u h1 (by rw[List.length_append] at h2; omega);have ih:=KR a rest (pre++[s]) true (u++((a++s.head)++s.ptl a)) (fun x hx=>hb x (List.mem_cons_of_mem _ hx)) (by simpa using h1) h2
   have el:pre++[s]++rest=pre++s :: rest:=by simp
   have e2:(pre++[s]).length=pre.length + 1:=by simp
   rw[el,e2] at ih;rw[q1t,← e4] at ih;rw[show pE c a u (s :: rest)=M7 (u++Sms.txt a (s :: rest)) from rfl];rw[← ih];generalize pSt true a (pre++s :: rest) (pre.length + 1) (u++((a++s.head)++s.ptl a))=st2 at *
   have hN:pre.length < (pre++s :: rest).length:=by simp
   clear ih e4 e5;rw[d5 (l:=qd) rfl];generalize (pre++s :: rest)=L at *;cases c
   all_goals
    simp only[pSt,bld,M7,if_true,Bool.false_eq_true,if_false] at one ⊢;generalize L.length=N at *;simp -implicitDefEqProofs (disch:=omega) [one]
theorem zg6 {l:List Sm} (hs:∀ s∈l,qnv s) (hl:l.length≤1000000):PS l:=by
 intro a u ha hu;have lp:=KR a l [] false u hs hl hu;rw[c9 (af:=jj) rfl rfl rfl];simp only[List.nil_append,List.length_nil,Int.cast_ofNat_Int,pSt,Bool.false_eq_true,if_false] at lp
 cases l with
 | nil=>
   simp only[prR,pE,Sms.txt,List.append_nil,bld,qjy,List.length_nil,Int.cast_ofNat_Int,Bool.false_eq_true,if_false] at lp ⊢;simp -implicitDefEqProofs (disch:=omega) [jj,lp]
 | cons s l=>
   simp only[prR,pE,bld,M7] at lp ⊢;generalize u++Sms.txt a (s :: l)=u2 at *;generalize s :: l=L at *;simp -implicitDefEqProofs (disch:=omega) [jj,lp]
theorem psl {l:List Sm} (hs:∀ s∈l,qnv s) (hz:Sms.sz l≤1000000):PS l∧l.length≤1000000:=by
 have hl:=xE l;exact ⟨zg6 hs (by omega),by omega⟩
mutual
theorem q1p {vs:List (List UInt8)}:∀ (s:Sm),s.fit vs→s.sz≤1000000→qnv s
 | .set p v n e,h,hz=>fun c a pre rest u=>xK h (fun b hb=>by simp[Sm.parts] at hb) hz c a pre rest u
 | .skip p,h,hz=>fun c a pre rest u=>xK h (fun b hb=>by simp[Sm.parts] at hb) hz c a pre rest u
 | .stop p,h,hz=>fun c a pre rest u=>xK h (fun b hb=>by simp[Sm.parts] at hb) hz c a pre rest u
 | .mark p n,h,hz=>fun c a pre rest u=>xK h (fun b hb=>by simp[Sm.parts] at hb) hz c a pre rest u
 | .choose p bs,h,hz=>fun c a pre rest u=>xK h (qf0 bs h.2 (by simp only[Sm.sz] at hz; omega)) hz c a pre rest u
 | .loop p b,h,hz=>fun c a pre rest u=>by
   simp only[Sm.sz] at hz;have hb:=psl (Xr b h (by omega)) (by omega);exact xK h (fun x hx=>by simp only[Sm.parts,List.mem_singleton] at hx; rw[hx]; exact hb) (by simp only[Sm.sz]; omega) c a pre rest u
 | .ifs p x y q b,h,hz=>fun c a pre rest u=>by
   simp only[Sm.sz] at hz;have hb:=psl (Xr b h.2.2 (by omega)) (by omega);exact xK h (fun x hx=>by simp only[Sm.parts,List.mem_singleton] at hx; rw[hx]; exact hb) (by simp only[Sm.sz]; omega) c a pre rest u
 | .ife p x y q b pe e,h,hz=>fun c a pre rest u=>by
   simp only[Sm.sz] at hz;have hb:=psl (Xr b h.2.2.1 (by omega)) (by omega);have he:=psl (Xr e h.2.2.2 (by omega)) (by omega);exact xK h (fun x hx=>by simp only[Sm.parts,List.mem_cons,List.not_mem_nil,or_false] at hx; rcases hx with rfl | rfl; exact hb; exact he) (by simp only[Sm.sz]; omega) c a pre rest u
 | .while p x y q b,h,hz=>fun c a pre rest u=>by
   simp only[Sm.sz] at hz;have hb:=psl (Xr b h.2.2 (by omega)) (by omega);exact xK h (fun x hx=>by simp only[Sm.parts,List.mem_singleton] at hx; rw[hx]; exact hb) (by simp only[Sm.sz]; omega) c a pre rest u
theorem qf0 {vs:List (List UInt8)}:∀ (l:List Bl),Bls.fit vs l→Bls.sz l≤1000000→∀ b∈l.map Bl.body,PS b∧b.length≤1000000
 | [],_,_,b,hb=>by cases hb
 | .mk p x :: l,h,hz,b,hb=>by
   simp only[Bls.fit,Bl.fit] at h;simp only[Bls.sz,Bl.sz] at hz;simp only[List.map_cons,Bl.body,List.mem_cons] at hb;rcases hb with e | hb
   ·rw[e]; exact psl (Xr x h.1 (by omega)) (by omega)
   ·exact qf0 l h.2 (by omega) b hb
theorem Xr {vs:List (List UInt8)}:∀ (l:List Sm),Sms.fit vs l→Sms.sz l≤1000000→∀ s∈l,qnv s
 | [],_,_,s,hs=>by cases hs
 | x :: l,h,hz,s,hs=>by
   simp only[Sms.fit] at h;simp only[Sms.sz] at hz;rcases List.mem_cons.1 hs with e | hs
   ·rw[e]; exact q1p x h.1 (by omega)
   ·exact Xr l h.2 (by omega) s hs
end
def oSz:Option Nd→Nat
 | none=>0
 | some x=>x.sz
def oDp:Option Nd→Nat
 | none=>0
 | some x=>dp x
mutual
def Sm.tz:Sm→Nat
 | .set _ _ _ e=>1 + oSz e
 | .choose _ bs=>1 + Bls.tz bs
 | .loop _ b=>1 + Sms.tz b
 | .ifs _ x y _ b=>1 + x.sz + y.sz + Sms.tz b
 | .ife _ x y _ b _ e=>2 + x.sz + y.sz + Sms.tz b + Sms.tz e
 | .while _ x y _ b=>1 + x.sz + y.sz + Sms.tz b
 | _=>1
def Sms.tz:List Sm→Nat
 | []=>0
 | s :: l=>s.tz + Sms.tz l
def Bls.tz:List Bl→Nat
 | []=>0
 | .mk _ b :: l=>1 + Sms.tz b + Bls.tz l
end
mutual
def Sm.dep:Sm→Nat
 | .set _ _ _ e=>oDp e
 | .choose _ bs=>Bls.dep bs
 | .loop _ b=>1 + Sms.dep b
 | .ifs _ x y _ b=>max (max (dp x) (dp y)) (1 + Sms.dep b)
 | .ife _ x y _ b _ e=>max (max (max (dp x) (dp y)) (1 + Sms.dep b)) (1 + Sms.dep e)
 | .while _ x y _ b=>max (max (dp x) (dp y)) (1 + Sms.dep b)
 | _=>0
def Sms.dep:List Sm→Nat
 | []=>0
 | s :: l=>max s.dep (Sms.dep l)
def Bls.dep:List Bl→Nat
 | []=>0
 | .mk _ b :: l=>max (1 + Sms.dep b) (Bls.dep l)
end
mutual
def Sm.mks:Sm→List (List UInt8)
 | .mark _ s=>[s]
 | .choose _ bs=>Bls.mks bs
 | .loop _ b=>Sms.mks b
 | .ifs _ _ _ _ b=>Sms.mks b
 | .ife _ _ _ _ b _ e=>Sms.mks b++Sms.mks e
 | .while _ _ _ _ b=>Sms.mks b
 | _=>[]
def Sms.mks:List Sm→List (List UInt8)
 | []=>[]
 | s :: l=>s.mks++Sms.mks l
def Bls.mks:List Bl→List (List UInt8)
 | []=>[]
 | .mk _ b :: l=>Sms.mks b++Bls.mks l
end
structure Sq (r r':Rd) (z d:Nat) (m:List (List UInt8)):Prop where
 k:KeptS r r'
 d:(d:Int) + r.op≤16
 z:z + r.i≤r'.i
 m:r'.ms=r.ms++m
 n:r.ms.Nodup→r'.ms.Nodup
theorem Sq.trans {a b c:Rd} {z d z' d' m m'} (h:Sq a b z d m) (k:Sq b c z' d' m'):Sq a c (z + z') (max d d') (m++m'):=
 ⟨h.k.trans k.k,by have:=h.d; have:=k.d; rw[h.k.op] at this; omega,by have:=h.z; have:=k.z; omega,by rw[k.m,h.m,List.append_assoc],fun x=>k.n (h.n x)⟩
theorem Sq.le {a b:Rd} {z d z' d' m} (h:Sq a b z d m) (hz:z'≤z) (hd:d'≤d):Sq a b z' d' m:=⟨h.k,by have:=h.d; omega,by have:=h.z; omega,h.m,h.n⟩
theorem V5 {r:Rd} (h:r.ok) {s} (c:r.isT s=true):Sq r r.next 1 0 []:=
 have k:=Q8 h c
 ⟨k.1.s,by have:=h.op; omega,by have:=k.2; omega,by rw[k.1.ms]; simp,by rw[k.1.ms]; exact id⟩
theorem qhw {r:Rd} (h:r.ok):Sq r r.next 0 0 []:=
 have k:=Kept.next h
 ⟨k.s,by have:=h.op; omega,by have:=k.i; omega,by rw[k.ms]; simp,by rw[k.ms]; exact id⟩
theorem qon {r:Rd} (h:r.ok):Sq r r 0 0 []:=⟨KeptS.refl h,by have:=h.op; omega,by omega,by simp,id⟩
section
variable {r r':Rd} (h:r.ok) (ht:Tks r.ts) (hv:∀ w∈r.vs,NameOk w)
include h ht hv
theorem qof {x:Nd} (e:r.sum = .ok x r'):Sq r r' x.sz (dp x) []:=by
 obtain ⟨_,q2,q3⟩:=qau h ht hv e;refine ⟨q3.s,?_,q2,by rw[q3.ms]; simp,by rw[q3.ms]; exact id⟩;unfold Rd.sum at e
 cases hb:rd r.fuel .s r with
 | bad _ p r2=>rw[hb] at e; cases e
 | ok y r2=>
   rw[hb] at e;cases e;have c:=q4e r.fuel .s r h ht.num trivial trivial;rw[hb] at c;exact c
theorem qsg {c:Nd × Nd × Bool} (e:r.cond = .ok c r'):Sq r r' (c.1.sz + c.2.1.sz) (max (dp c.1) (dp c.2.1)) []:=by
 unfold Rd.cond at e;obtain ⟨x,r1,hx,e⟩:=m8 e;have a:=qof h ht hv hx;have a1:=a.trans (qhw a.k.ok)
 have go:∀ b,(r1.next.sum.bind fun y r3=>(.ok (x,y,b) r3:Rz (Nd × Nd × Bool))) = .ok c r'→Sq r r' (c.1.sz + c.2.1.sz) (max (dp c.1) (dp c.2.1)) []:=fun b e=>by
  obtain ⟨y,r3,hy,e⟩:=m8 e;cases e;exact (a1.trans (qof a1.k.ok (by rw[a1.k.ts]; exact ht) (by rw[a1.k.vs]; exact hv) hy)).le (by simp) (by simp)
 split at e
 ·exact go true e
 ·split at e
  ·exact go false e
  ·cases e
theorem qvb {p:Pl} {s:Sm} (hn:r.isName=true) (e:r.assign p = .ok s r'):Sq r r' s.tz s.dep s.mks:=by
 unfold Rd.assign at e;split at e
 ·cases e
 split at e
 case isFalse=>cases e
 rename_i c1;have a1:=(qhw h).trans (V5 (Kept.next h).ok c1);obtain ⟨o,r3,hx,e⟩:=m8 e;obtain ⟨rfl,c2,rfl⟩:=zH e
 have a2:Sq r.next.next r3 (oSz o) (oDp o) []:=by
  unfold Rd.expr at hx;split at hx
  ·cases hx; exact qhw a1.k.ok
  ·obtain ⟨x,r4,hs,e⟩:=m8 hx;cases e;exact qof a1.k.ok (by rw[a1.k.ts]; exact ht) (by rw[a1.k.vs]; exact hv) hs
 have a3:=a1.trans a2;exact (a3.trans (V5 a3.k.ok c2)).le (by simp[Sm.tz]) (by simp[Sm.dep])
end
theorem q1y {r r':Rd} (h:r.ok) {p:Pl} {s:Sm} (e:r.mark p = .ok s r'):Sq r r' s.tz s.dep s.mks:=by
 unfold Rd.mark at e;split at e
 ·cases e
 rename_i c0;split at e
 ·cases e
 split at e
 ·cases e
 rename_i c1;obtain ⟨rfl,c2,rfl⟩:=zH e
 have hk:(r.named r.tok.text).tok.kind≠0:=by
  have:=kh (r:=r) (by simpa using c0);show r.tok.kind≠0;omega
 have k1:=Kept.next (KY h r.tok.text);have k2:=V5 k1.ok c2;have i1:=F8 hk;have e1:(r.named r.tok.text).i=r.i:=rfl;refine ⟨⟨k2.k.ok,k2.k.ts.trans k1.ts,k2.k.vs.trans k1.vs,k2.k.op.trans k1.op,by have:=k2.k.i; omega,k2.k.ly.trans k1.ly⟩,by have:=h.op; simp[Sm.dep]; omega,by have:=k2.z; simp[Sm.tz]; omega,?_,fun hd=>?_⟩
 ·rw[k2.m,k1.ms]; simp[Sm.mks,Rd.named]
 ·rw[k2.m,k1.ms];simp only[Rd.named,List.append_nil];rw[List.nodup_append];exact ⟨hd,by simp,fun a ha b hb=>by rw[List.mem_singleton.1 hb]; exact fun hab=>c1 (hab ▸ ha)⟩
structure Goods2 (n:Nat) (ts:List Tok) (vs:List (List UInt8)):Prop where
 R:∀ r:Rd,r.ok→r.ts=ts→r.vs=vs→4 * (ts.length - r.i) + 2≤n→∀ l r',qT n r = .ok l r'→Sq r r' (Sms.tz l) (Sms.dep l) (Sms.mks l)
 B:∀ r:Rd,r.ok→r.ts=ts→r.vs=vs→4 * (ts.length - r.i) + 1≤n→∀ l r',jH n r = .ok l r'→Sq r r' (1 + Sms.tz l) (1 + Sms.dep l) (Sms.mks l)
 O:∀ r:Rd,r.ok→r.ts=ts→r.vs=vs→4 * (ts.length - r.i) + 1≤n→∀ l r',vY n r = .ok l r'→Sq r r' (Bls.tz l) (Bls.dep l) (Bls.mks l)
 S:∀ r:Rd,r.ok→r.ts=ts→r.vs=vs→4 * (ts.length - r.i) + 1≤n→∀ s r',kC n r = .ok (some s) r'→Sq r r' s.tz s.dep s.mks
theorem qep {n:Nat} {r r':Rd} (e:kC n r = .ok none r'):r'=r:=by
 cases n with
 | zero=>cases e
 | succ n=>
   unfold kC at e;split at e
   ·obtain ⟨_,_,_,e⟩:=m8 e; cases e
   split at e
   ·exact absurd (zH e).1 (by simp)
   split at e
   ·exact absurd (zH e).1 (by simp)
   split at e
   ·obtain ⟨_,_,_,e⟩:=m8 e; cases e
   split at e
   ·obtain ⟨_,_,_,e⟩:=m8 e; obtain ⟨_,_,_,e⟩:=m8 e; cases e
   split at e
   ·obtain ⟨_,_,_,e⟩:=m8 e; cases e
   split at e
   ·obtain ⟨_,_,_,e⟩:=m8 e; obtain ⟨_,_,_,e⟩:=m8 e;split at e
    ·obtain ⟨_,_,_,e⟩:=m8 e; cases e
    ·cases e
   split at e
   ·obtain ⟨_,_,_,e⟩:=m8 e; obtain ⟨_,_,_,e⟩:=m8 e; cases e
   cases e; rfl
theorem qy7 {ts:List Tok} {vs:List (List UInt8)} (ht:Tks ts) (hv:∀ w∈vs,NameOk w):∀ n,Goods2 n ts vs
 | 0=>⟨fun _ _ _ _ h=>by omega,fun _ _ _ _ h=>by omega,fun _ _ _ _ h=>by omega,fun _ _ _ _ h=>by omega⟩
 | n + 1=>by
   have ih:=qy7 ht hv n;refine ⟨fun r h h1 h2 hn l r' e=>?_,fun r h h1 h2 hn l r' e=>?_,fun r h h1 h2 hn l r' e=>?_,fun r h h1 h2 hn s r' e=>?_⟩
   ·have hi:r.i < ts.length:=h1 ▸ h.i;obtain ⟨_,_,_,hS⟩:=YU ht.num n;unfold qT at e;split at e
    case isFalse=>cases e; exact qon h
    obtain ⟨o,r1,e1,e2⟩:=m8 e;obtain ⟨_,f1,g1⟩:=hS r h h1 (by omega);rw[e1] at f1
    cases o with
    | none=>cases e2; rw[qep e1]; exact qon h
    | some s=>
      have gi:=g1 s r1 e1;obtain ⟨l2,r2,e3,e4⟩:=m8 e2;cases e4;have a:=ih.S r h h1 h2 (by omega) s r1 e1;exact a.trans (ih.R r1 a.k.ok (a.k.ts.trans h1) (a.k.vs.trans h2) (by omega) _ _ e3)
   ·have hi:r.i < ts.length:=h1 ▸ h.i;unfold jH at e;split at e
    ·cases e
    rename_i hin;obtain ⟨hk,ho⟩:=qc3 hin;have hop:=Rd.opened_ok h ho;have hni:r.opened.next.i=r.i + 1:=F8 (r:=r.opened) (by rw[show r.opened.tok=r.tok from rfl]; omega);have k1:=Kept.next hop;obtain ⟨l1,r1,e1,e2⟩:=m8 e;split at e2
    case isFalse=>cases e2
    rename_i c;cases e2;have b:=ih.R _ k1.ok (k1.ts.trans h1) (k1.vs.trans h2) (by omega) _ _ e1;have b2:=b.trans (V5 b.k.ok c);have o1:r.opened.next.op=r.op + 1:=k1.op;have ho0:=h.op;have hb3:=b2.k.op;refine ⟨⟨Rd.closed_ok b2.k.ok (by omega),b2.k.ts.trans k1.ts,b2.k.vs.trans k1.vs,by show r1.next.op - 1=r.op; omega,by have:=b2.k.i; show r.i≤r1.next.i; omega,b2.k.ly.trans k1.ly⟩,by have:=b2.d; omega,by have:=b2.z; show _≤r1.next.i; omega,?_,?_⟩
    ·have e1:=b2.m; rw[k1.ms,List.append_nil] at e1; exact e1
    ·have e1:=b2.n; rw[k1.ms] at e1; exact e1
   ·have hi:r.i < ts.length:=h1 ▸ h.i;unfold vY at e;split at e
    case isFalse=>cases e; exact qon h
    rename_i c;have k1:=V5 h c;have i1:=k1.z;obtain ⟨l1,r1,e1,e2⟩:=m8 e;obtain ⟨bs,r2,e3,e4⟩:=m8 e2;cases e4;have b:=k1.trans (ih.B _ k1.k.ok (k1.k.ts.trans h1) (k1.k.vs.trans h2) (by omega) _ _ e1);have c:=b.trans (ih.O r1 b.k.ok (b.k.ts.trans h1) (b.k.vs.trans h2) (by have:=b.z; omega) _ _ e3);exact (show Sq r r' _ _ (Bls.mks (.mk r.tok.pos l1 :: bs)) from by simpa [Bls.mks] using c).le (by simp only[Bls.tz]; omega) (by simp only[Bls.dep]; omega)
   ·have hi:r.i < ts.length:=h1 ▸ h.i;have htr:Tks r.ts:=h1 ▸ ht;have hvr:∀ w∈r.vs,NameOk w:=h2 ▸ hv
    have blk:∀ {z d m} r1 l r2,Sq r r1 (1 + z) d m→jH n r1 = .ok l r2→Sq r r2 (1 + z + (1 + Sms.tz l)) (max d (1 + Sms.dep l)) (m++Sms.mks l):=fun r1 l r2 k e=>by
     have:=k.z;exact k.trans (ih.B r1 k.k.ok (k.k.ts.trans h1) (k.k.vs.trans h2) (by omega) _ _ e)
    unfold kC at e;split at e
    ·rename_i c;obtain ⟨s1,r1,e1,e2⟩:=m8 e;cases e2;exact qvb h htr hvr c e1
    split at e
    ·rename_i c;have k1:=V5 h c;obtain ⟨e1,c2,rfl⟩:=zH e;cases e1;exact (k1.trans (V5 k1.k.ok c2)).le (by simp[Sm.tz]) (by simp[Sm.dep])
    split at e
    ·rename_i c;have k1:=V5 h c;obtain ⟨e1,c2,rfl⟩:=zH e;cases e1;exact (k1.trans (V5 k1.k.ok c2)).le (by simp[Sm.tz]) (by simp[Sm.dep])
    split at e
    ·rename_i c;have k1:=V5 h c;obtain ⟨s1,r1,e1,e2⟩:=m8 e;cases e2;exact (k1.trans (q1y k1.k.ok e1)).le (by omega) (by omega)
    split at e
    ·rename_i c;have k1:=V5 h c;obtain ⟨l1,r1,e1,e2⟩:=m8 e;obtain ⟨bs,r2,e3,e4⟩:=m8 e2;cases e4;have b:=blk (z:=0) _ _ _ k1 e1;have c:=b.trans (ih.O r1 b.k.ok (b.k.ts.trans h1) (b.k.vs.trans h2) (by have:=b.z; omega) _ _ e3);exact (show Sq r r' _ _ (Sm.mks (.choose r.tok.pos (.mk r.tok.pos l1 :: bs))) from by simpa [Bls.mks,Sm.mks] using c).le (by simp only[Sm.tz,Bls.tz]; omega) (by simp only[Sm.dep,Bls.dep]; omega)
    split at e
    ·rename_i c;have k1:=V5 h c;obtain ⟨l1,r1,e1,e2⟩:=m8 e;cases e2;have b:=blk (z:=0) _ _ _ k1 e1;exact (show Sq r r' _ _ (Sm.mks (.loop r.tok.pos l1)) from by simpa [Sm.mks] using b).le (by simp only[Sm.tz]; omega) (by simp only[Sm.dep]; omega)
    split at e
    ·rename_i c;have k1:=V5 h c;obtain ⟨cd,r1,e1,e2⟩:=m8 e;have k2:=k1.trans (qsg k1.k.ok (k1.k.ts ▸ htr) (k1.k.vs ▸ hvr) e1);obtain ⟨l1,r2,e3,e4⟩:=m8 e2;have b:=blk _ _ _ k2 e3;split at e4
     ·rename_i c2;obtain ⟨l2,r3,e5,e6⟩:=m8 e4;cases e6;have k4:=b.trans (V5 b.k.ok c2);have d:=blk (z:=1 + (cd.1.sz + cd.2.1.sz) + (Sms.tz l1)) _ _ _ (k4.le (by omega) (Nat.le_refl _)) e5;exact (show Sq r r' _ _ (Sm.mks (.ife r.tok.pos cd.1 cd.2.1 cd.2.2 l1 r2.tok.pos l2)) from by simpa [Sm.mks] using d).le (by simp only[Sm.tz]; omega) (by simp only[Sm.dep]; omega)
     ·cases e4;exact (show Sq r r' _ _ (Sm.mks (.ifs r.tok.pos cd.1 cd.2.1 cd.2.2 l1)) from by simpa [Sm.mks] using b).le (by simp only[Sm.tz]; omega) (by simp only[Sm.dep]; omega)
    split at e
    ·rename_i c;have k1:=V5 h c;obtain ⟨cd,r1,e1,e2⟩:=m8 e;have k2:=k1.trans (qsg k1.k.ok (k1.k.ts ▸ htr) (k1.k.vs ▸ hvr) e1);obtain ⟨l1,r2,e3,e4⟩:=m8 e2;cases e4;have b:=blk _ _ _ k2 e3;exact (show Sq r r' _ _ (Sm.mks (.while r.tok.pos cd.1 cd.2.1 cd.2.2 l1)) from by simpa [Sm.mks] using b).le (by simp only[Sm.tz]; omega) (by simp only[Sm.dep]; omega)
    cases e
end Go.Rf
