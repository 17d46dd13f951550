/- Parts of the proof. -/
import Derived.Test.YtpaeaccmddffjaaGreatDoorRb2
import Derived.Test.YtpaeaccmddffjaaGreatDoorSp24
set_option linter.all false
namespace Go.Rf
set_option maxHeartbeats 32000000
theorem qsk {n:Nat} (p:Pl) (bs:List Bl) (hl:bs.length≤100000) (a:Int):∀ (rest pre:List Bl) (g:Gb) (N:Nat) (es:List Int),(∀ q b,.mk q b∈rest→qff n b)→bs=pre++rest→Gok g n N→N + 10 * Bls.sz rest≤900000→0≤a→a < g.out.length→es.length + rest.length≤1000000→∀ (w m0:Bool),(w=false→m0=false)→(rest=[]→w=true)→∀ (ev:List (Nat × V)),
 ∃ m,j6 T0 X0 9 I9 (some (.nrm,⟨(0,.ptr (.b 0) 0 0) :: (1,.d (Sm.choose p bs).d) :: (2,.d (.int .i64 a)) :: (7,.ptr (.b 9) 0 0) :: (8,.ref (.b 10) ⟨1,8⟩ 0 es.length) :: (18,.d (.sl (LD blL bs))) :: (19,.d (.int .i64 bs.length)) :: (20,.d (.int .i64 pre.length)) :: ev,GX g w w m0 2 [chX p bs,.arr (LW inL es) ⟨1,8⟩]⟩)) =
   some (.exit 0,⟨[(0,.ptr (.b 0) 0 0),(1,.d (Sm.choose p bs).d),(8,.ref (.b 9) ⟨1,8⟩ 0 (es++(Bls.bld n p a bs.length pre.length rest g).2).length)],GX (Bls.bld n p a bs.length pre.length rest g).1 true true m 1 [.arr (LW inL (es++(Bls.bld n p a bs.length pre.length rest g).2)) ⟨1,8⟩]⟩)
 | [],pre,g,N,es,_,hbs,h,hN,h0,h1,he,w,m0,hc,hr,ev=>by
   have hw:=hr rfl;subst hw;refine ⟨m0,?_⟩;rw[d5 (l:=I9) rfl];simp only[Bls.bld,List.append_nil] at *;subst hbs
   have hd:(Sm.choose p bs).d = .iface x8 (.agg [.int .i64 p.b,.int .i64 p.g,.int .i64 p.l,.int .i64 p.c,.sl (LD blL bs)]):=by simp only[Sm.d,Bls.d_LD]
   simp only[hd];clear hd;cases m0
   all_goals
    simp only[GX,chX,j3,j7,List.cons_append,List.nil_append,List.append_nil];simp -implicitDefEqProofs (disch:=omega) [J0]
 | .mk q b :: rest,pre,g,N,es,hs,hbs,h,hN,h0,h1,he,w,m0,hc,hr,ev=>by
   simp only[Bls.sz,Bl.sz,Bls.bld,List.length_cons] at *;obtain ⟨m1,one⟩:=za2 (hs q b (List.mem_cons_self ..)) p bs pre rest hbs (by omega) g a h (by omega) h0 h1 es (by omega) w m0 hc [];have k1:=h.point.edge { f:=a,t:=g.out.length,k:=5,tk:=pre.length,mn:=bs.length,at_:=p };have k:=M5 n b k1 (a:=g.out.length) (by omega) (by rw[eo,po]; omega);have le:=k.le;rw[eo,po] at le;obtain ⟨m2,two⟩:=qsk p bs hl a rest (pre++[.mk q b]) _ _ (es++[(Sms.bld n b (g.point.edge { f:=a,t:=g.out.length,k:=5,tk:=pre.length,mn:=bs.length,at_:=p }) g.out.length).2]) (fun q' b' hx=>hs q' b' (List.mem_cons_of_mem _ hx)) (by simpa using hbs) k.ok (by omega) h0 (by omega) (by simp; omega) true m1 (by simp) (fun _=>rfl) [];refine ⟨m2,?_⟩
   have e3:(pre++[Bl.mk q b]).length=pre.length + 1:=by simp
   rw[e3] at two;simp only[Int.natCast_add,Int.cast_ofNat_Int,List.append_assoc,List.cons_append,List.nil_append,List.length_append,List.length_cons,List.length_nil,Nat.zero_add] at two ⊢;rw[d5 (l:=I9) rfl,← two];generalize Sms.bld n b (g.point.edge { f:=a,t:=g.out.length,k:=5,tk:=pre.length,mn:=bs.length,at_:=p }) g.out.length=r at *
   have hd:(Sm.choose p bs).d = .iface x8 (.agg [.int .i64 p.b,.int .i64 p.g,.int .i64 p.l,.int .i64 p.c,.sl (LD blL bs)]):=by simp only[Sm.d,Bls.d_LD]
   simp only[hd] at one ⊢;clear two hs k k1 hbs hd;generalize pre.length=i at *
   cases w <;> cases m0 <;> (try (exfalso; simp at hc; done)) <;> cases m1
   all_goals
    simp only[GX,chX,j3,j7,List.cons_append,List.nil_append,List.append_nil] at one ⊢;simp (maxSteps:=4000000) -implicitDefEqProofs (disch:=omega) [one]
theorem qru {n:Nat} (p:Pl) (bs:List Bl) (j:Int) (es:List Int) (hl:es.length≤100000):∀ (rest pre:List Int) (g:Gb) (N:Nat),es=pre++rest→Gok g n N→N + rest.length≤900000→(∀ x∈rest,0≤x∧x < g.out.length)→0≤j∧j < g.out.length→∀ (m:Bool) (ev:List (Nat × V)),
 j6 T0 X0 9 I8 (some (.nrm,⟨(0,.ptr (.b 0) 0 0) :: (1,.d (Sm.choose p bs).d) :: (12,.d (.int .i64 j)) :: (47,.ref (.b 9) ⟨1,8⟩ 0 es.length) :: (48,.d (.int .i64 es.length)) :: (49,.d (.int .i64 pre.length)) :: ev,GX g true true m 1 [.arr (LW inL es) ⟨1,8⟩]⟩)) =
  some (.exit 2,⟨[(12,.d (.int .i64 j))],GH (kD p j rest g) true true m⟩)
 | [],pre,g,N,hes,h,hN,hx,hj,m,ev=>by
   rw[d5 (l:=I8) rfl];simp only[kD,List.append_nil] at *;subst hes
   have hd:(Sm.choose p bs).d = .iface x8 (.agg [.int .i64 p.b,.int .i64 p.g,.int .i64 p.l,.int .i64 p.c,.sl (LD blL bs)]):=by simp only[Sm.d,Bls.d_LD]
   simp only[hd];clear hd;cases m
   all_goals
    simp only[GX,GH,j3,j7,List.cons_append,List.nil_append,List.append_nil];simp -implicitDefEqProofs (disch:=omega) [P6]
 | x :: rest,pre,g,N,hes,h,hN,hx,hj,m,ev=>by
   simp only[List.length_cons,kD] at *;have s1:=R8 h (by omega) (f:=x) (t:=j) (hx x (List.mem_cons_self ..)) hj 1 (.choose p bs);have k:=h.edge { f:=x,t:=j,k:=1,at_:=p };have ih:=qru p bs j es hl rest (pre++[x]) (g.edge { f:=x,t:=j,k:=1,at_:=p }) _ (by simpa using hes) k (by omega) (fun y hy=>by rw[eo]; exact hx y (List.mem_cons_of_mem _ hy)) (by rw[eo]; exact hj) m []
   have e3:(pre++[x]).length=pre.length + 1:=by simp
   rw[e3] at ih
   have hget:(LW inL es)[pre.length]? = some (.d (.int .i64 x)):=by rw[hes]; simp[LW,inL]
   have hlt:pre.length < es.length:=by rw[hes]; simp
   simp only[Int.natCast_add,Int.cast_ofNat_Int,Sm.at_] at ih s1;rw[d5 (l:=I8) rfl,← ih];generalize g.edge { f:=x,t:=j,k:=1,at_:=p } = g1 at *
   have hd:(Sm.choose p bs).d = .iface x8 (.agg [.int .i64 p.b,.int .i64 p.g,.int .i64 p.l,.int .i64 p.c,.sl (LD blL bs)]):=by simp only[Sm.d,Bls.d_LD]
   simp only[hd] at s1 ⊢;clear ih k hes hd;generalize pre.length=i at *;cases m
   all_goals
    simp only[GX,GH,j3,j7,List.cons_append,List.nil_append,List.append_nil] at s1 ⊢;simp (maxSteps:=4000000) -implicitDefEqProofs (disch:=omega) [P6,s1,hget]
theorem qiz {n:Nat} {bs:List Bl} (ih:∀ q b,.mk q b∈bs→qff n b) (hne:bs≠[]) (p:Pl):StS n (.choose p bs):=fun g a N h hN h0 h1=>by
 simp only[Sm.sz] at hN;have hbl:=JC bs;obtain ⟨m,s1⟩:=qsk p bs (by omega) a bs [] g N [] ih rfl h (by omega) h0 h1 (by simp; omega) false false (by simp) (fun e=>absurd e hne) [];obtain ⟨k1,k2,k3,k4⟩:=qjv n p bs.length bs 0 h h0 h1;simp only[List.length_nil,List.nil_append,Int.cast_ofNat_Int] at s1;simp only[Sm.bld];generalize Bls.bld n p a bs.length 0 bs g=r at *;have lr:=k1.ol;have s2:=B0 r.1 (by omega) k1.il;have s3:=qru p bs r.1.out.length r.2 (by omega) r.2 [] r.1.point _ rfl k1.point (by omega) (fun x hx=>by rw[po]; have:=k4 x hx; omega) (by rw[po]; omega) m [];simp only[List.length_nil,Int.cast_ofNat_Int] at s3;generalize kD p r.1.out.length r.2 r.1.point=g4 at *;generalize r.1.point=gp at *;refine ⟨true,true,m,.inl ⟨rfl,.inl rfl⟩,?_⟩;show d6 T0 X0 B4 _ _=_;rw[c9 (af:=W7) rfl rfl rfl]
 have hd:(Sm.choose p bs).d = .iface x8 (.agg [.int .i64 p.b,.int .i64 p.g,.int .i64 p.l,.int .i64 p.c,.sl (LD blL bs)]):=by simp only[Sm.d,Bls.d_LD]
 simp only[hd] at s1 s3 ⊢;clear ih hd k4;cases m
 all_goals
  simp only[GX,GH,chX,j3,j7,List.cons_append,List.nil_append,List.append_nil,qen] at s1 s2 s3 ⊢;simp (maxSteps:=4000000) -implicitDefEqProofs (disch:=omega) [W7,s1,s2,s3,kZ,O2]
end Go.Rf
