/- Parts of the proof: SpB1, SpH1, SpH2, SpH3, SpH4, SpK3, SpQ1, SpQ2. -/
import Derived.Test.YtjlnfdabdhkgcaaGreatDoorRb2
import Derived.Test.YtjlnfdabdhkgcaaGreatDoorSp8
import Derived.Test.YtjlnfdabdhkgcaaGreatDoorSp7
import Derived.Test.YtjlnfdabdhkgcaaGreatDoorSp11

set_option linter.unusedSimpArgs false
set_option linter.unusedVariables false
set_option linter.unnecessarySimpa false
set_option linter.unusedSectionVars false
set_option linter.all false
namespace Go.Rf
theorem xW {u:Int} (h:0 < u):d6 u=(u % 4294967296) :: d6 (u / 4294967296):=by
 have q0:0≤u / 4294967296:=by omega
 have hv:nv ((u % 4294967296) :: d6 (u / 4294967296))=u:=by simp only[nv,x4 q0]; omega
 have hc:Can ((u % 4294967296) :: d6 (u / 4294967296)):=by
  right;rw[hv];rcases T9 (u / 4294967296) with e | e
  ·rw[e]; simp[pw]; omega
  ·by_cases hl:(d6 (u / 4294967296)).length=0
   ·simp[hl,pw]; omega
   ·have:=Qx ((d6 (u / 4294967296)).length - 1);rw[show (d6 (u / 4294967296)).length - 1 + 1=(d6 (u / 4294967296)).length by omega] at this;rw[x4 q0] at e;simp only[List.length_cons,Nat.add_sub_cancel];omega
 have:=Wl (U0.2 ⟨by omega,g8 _⟩) hc;rw[hv] at this;exact this.symm
theorem qph (n:Int):∀ m (u:Int) (out:List Int) (e:List (Nat × V)),u.toNat=m→0≤u→u < 18446744073709551616→out.length + (d6 u).length≤2→n6 out→
 i9 T0 X0 0 qc (some (.nrm,⟨(0,.d (.int .i64 n)) :: (2,.ptr (.b 0) 0 0) :: (3,.d (.int .u64 u)) :: (4,.ref (.b 1) ⟨1,4⟩ 0 out.length) :: e,[.arr [.d (Wd 0)] ⟨2,0⟩,.arr (LV out) ⟨1,4⟩]⟩)) =
  some (.exit 0,⟨[(0,.d (.int .i64 n)),(2,.ptr (.b 0) 0 0),(4,.ref (.b 1) ⟨1,4⟩ 0 (out++d6 u).length)],[.arr [.d (Wd 0)] ⟨2,0⟩,.arr (LV (out++d6 u)) ⟨1,4⟩]⟩):=by
 intro m
 induction m using Nat.strongRecOn with
 | _ m ih=>
   intro u out e hm h0 h1 hl hg;rw[c9 (l:=qc) rfl]
   by_cases hu:u=0
   ·subst hu;simp -implicitDefEqProofs (disch:=omega) [qd]
   ·rw[xW (by omega)] at hl ⊢;simp only[List.length_cons] at hl
    have s1:=fun e=>ih (u / 4294967296).toNat (by omega) (u / 4294967296) (out++[u % 4294967296]) e rfl (by omega) (by omega) (by simp; omega) (Ws.2 ⟨hg,U0.2 ⟨by omega,n6.nil⟩⟩)
    simp only[List.append_assoc,List.singleton_append,List.length_append,List.length_cons,List.length_nil,Nat.zero_add] at s1 ⊢;have ht:out.take out.length=out:=List.take_length;simp -implicitDefEqProofs (disch:=omega) [qd,s1,ht]
theorem qmz {n:Int} (h:-9223372036854775808≤n∧n≤9223372036854775807):d5 T0 X0 KU [.d (.int .i64 n)] []=some (.ret [.d (Wd n)] []):=by
 have hl:=o5 (n:=n.natAbs) (k:=2) (by omega) (by simp only[pw]; omega)
 have lp:=fun e=>qph n _ (n.natAbs:Int) [] e rfl (by omega) (by omega) (by simpa using hl) n6.nil
 simp only[List.length_nil,Int.cast_ofNat_Int,qlb,List.nil_append] at lp;rw[c8 (af:=W7) rfl rfl rfl];have vc0:(V.d (Wd 0)).cells=[.d (.bool false),.d (.sl [])]:=rfl
 have sp:∀ a l w o k,S5 (.d (Wd 0)) 0 (.agg [.d (.bool a),.ref l w o k])=some (.agg [.d (.bool a),.ref l w o k]):=fun _ _ _ _ _=>rfl
 have ht:(d6 (n.natAbs:Int)).take (d6 (n.natAbs:Int)).length=d6 (n.natAbs:Int):=List.take_length
 by_cases hn:n < 0
 ·have e1:IntKind.wrap .u64 n=n + 18446744073709551616:=by rw[U2]; omega
  have e2:IntKind.wrap .u64 (-(n + 18446744073709551616))=n.natAbs:=by rw[U2]; omega
  simp -implicitDefEqProofs (disch:=omega) [W7,e1,e2,lp,ht,vc0,sp,Wd]
 ·have e1:IntKind.wrap .u64 n=n.natAbs:=by rw[U2]; omega
  simp -implicitDefEqProofs (disch:=omega) [W7,e1,lp,ht,vc0,sp,Wd]
def IL (l:List Int):List D:=l.map fun n=>.int .i64 n
@[simp] theorem IL_len (l):(IL l).length=l.length:=by simp[IL]
theorem zb2 {l:List Int} {i:Nat} (h:i < l.length):(IL l)[i]? = some (.int .i64 (nth l i)):=by simp[IL,nth,h]
attribute [simp] zb2
theorem zf2 (l):wl (IL l)≤8:=by
 induction l with
 | nil=>simp[IL,wl]
 | cons x xs ih=>
   show max 8 (wl (IL xs))≤8;omega
@[simp] theorem fit_IL {n:Nat} {l:List Int} (h:n≤1099511627):(n * wl (IL l)≤D2)=True:=eq_true (Nat.le_trans (Nat.mul_le_mul h (zf2 l)) (by unfold D2; omega))
theorem qw6 (ns:List Int) (hn:ns.length≤1000) (hb:∀ i,-9223372036854775808≤nth ns i∧nth ns i≤9223372036854775807):∀ d i (out:List Int) (e:List (Nat × V)),d + i=ns.length→out.length=i→
 i9 T0 X0 0 U8 (some (.nrm,⟨(0,.d (.sl (IL ns))) :: (3,.ref (.b 0) ⟨2,32⟩ 0 i) :: (4,.d (.int .i64 i)) :: e,[.arr (WV out) ⟨2,32⟩]⟩)) =
  some (.exit 0,⟨[(3,.ref (.b 0) ⟨2,32⟩ 0 ns.length)],[.arr (WV (out++ns.drop i)) ⟨2,32⟩]⟩):=by
 intro d
 induction d with
 | zero=>
   intro i out e hd ho;rw[c9 (l:=U8) rfl];have h1:ns.drop i=[]:=List.drop_eq_nil_of_le (by omega)
   have h2:i=ns.length:=by omega
   subst h2;rw[h1];simp -implicitDefEqProofs (disch:=omega) [zp]
 | succ d ih=>
   intro i out e hd ho;rw[c9 (l:=U8) rfl]
   have hi:i < ns.length:=by omega
   have h1:ns.drop i=nth ns i :: ns.drop (i + 1):=N1 hi;have hbi:=hb i;have s1:=qmz hbi
   have s2:=fun e=>ih (i + 1) (out++[nth ns i]) e (by omega) (by simp[ho])
   have ht:out.take i=out:=by rw[← ho]; exact List.take_length
   simp only[Int.natCast_add,Int.cast_ofNat_Int,List.append_assoc,List.singleton_append] at s2;rw[h1];simp -implicitDefEqProofs (disch:=omega) [zp,s1,s2,ht]
theorem qvd {ns:List Int} (hn:ns.length≤1000) (hb:∀ i,-9223372036854775808≤nth ns i∧nth ns i≤9223372036854775807):d5 T0 X0 WA [.d (.sl (IL ns))] []=some (.ret [.d (.sl (WL ns))] []):=by
 have lp:=fun e=>qw6 ns hn hb ns.length 0 [] e rfl rfl
 simp only[Int.cast_ofNat_Int,qa9,List.nil_append,List.drop_zero] at lp;rw[c8 (af:=jQ) rfl rfl rfl];have ht:ns.take ns.length=ns:=List.take_length;simp -implicitDefEqProofs (disch:=omega) [jQ,lp,ht]
theorem qpk (a8 bs:List Int) (hl:a8.length=bs.length) (hs:a8.length≤1099511627):∀ d i (e:List (Nat × V)),d + i=a8.length→
 i9 T0 X0 0 J1 (some (.nrm,⟨(0,.d (.sl (L a8))) :: (1,.d (.sl (L bs))) :: (5,.d (.int .i64 i)) :: e,[]⟩)) =
  some (if a8.drop i=bs.drop i then (.exit 0,⟨[],[]⟩) else (.ret,⟨[(4,.d (.bool false))],[]⟩)):=by
 intro d
 induction d with
 | zero=>
   intro i e hd;rw[c9 (l:=J1) rfl];have h1:a8.drop i=[]:=List.drop_eq_nil_of_le (by omega);have h2:bs.drop i=[]:=List.drop_eq_nil_of_le (by omega);rw[h1,h2];simp -implicitDefEqProofs (disch:=omega) [J2]
 | succ d ih=>
   intro i e hd;rw[c9 (l:=J1) rfl]
   have s1:=fun e=>ih (i + 1) e (by omega)
   rw[N1 (xs:=a8) (i:=i) (by omega),N1 (xs:=bs) (i:=i) (by omega)];simp only[Int.natCast_add,Int.cast_ofNat_Int,List.cons.injEq] at s1 ⊢
   by_cases hc:nth a8 i=nth bs i
   ·simp only[hc,true_and];simp -implicitDefEqProofs (disch:=omega) [J2,s1,hc]
   ·simp only[hc,false_and,if_false];simp -implicitDefEqProofs (disch:=omega) [J2,hc]
theorem qpj {a8 bs:List Int} (ha:a8.length≤1099511627) (hb:bs.length≤1099511627):d5 T0 X0 ZH [.d (.sl (L a8)),.d (.sl (L bs))] []=some (.ret [.d (.bool (decide (a8=bs)))] []):=by
 rw[c8 (af:=G6) rfl rfl rfl]
 by_cases hl:a8.length=bs.length
 ·have lp:=fun e=>qpk a8 bs hl ha a8.length 0 e rfl
  simp only[Int.cast_ofNat_Int,List.drop_zero] at lp
  by_cases hc:a8=bs
  ·subst hc;simp only[if_true] at lp;simp -implicitDefEqProofs (disch:=omega) [G6,lp]
  ·simp only[if_neg hc] at lp;simp -implicitDefEqProofs (disch:=omega) [G6,lp,hl,hc]
 ·have hc:¬ a8=bs:=fun h=>hl (by rw[h])
  simp -implicitDefEqProofs (disch:=omega) [G6,hl,hc]
theorem qtw {p q:Bool} {a8 bs:List Int} (ha:a8.length≤1099511627) (hb:bs.length≤1099511627):d5 T0 X0 jn [.d (.agg [.bool p,.sl (L a8)]),.d (.agg [.bool q,.sl (L bs)])] []=some (.ret [.d (.bool (p == q && decide (a8=bs)))] []):=by
 have s1:=qpj ha hb;rw[c8 (af:=X8) rfl rfl rfl]
 cases p <;> cases q <;> simp -implicitDefEqProofs (disch:=omega) [X8,s1]
theorem q01 {m n:Int} (hm:nl m≤1073741824) (hn:nl n≤1073741824):d5 T0 X0 jn [.d (Wd m),.d (Wd n)] []=some (.ret [.d (.bool (decide (m=n)))] []):=by
 have s1:=qtw (p:=decide (m < 0)) (q:=decide (n < 0)) (a8:=d6 m.natAbs) (bs:=d6 n.natAbs) (by unfold nl at hm; omega) (by unfold nl at hn; omega)
 have e:(decide (m < 0) == decide (n < 0) && decide (d6 m.natAbs=d6 n.natAbs))=decide (m=n):=by
  by_cases h:m=n
  ·subst h; simp
  ·have:decide (m=n)=false:=decide_eq_false h;rw[this]
   by_cases h1:d6 m.natAbs=d6 n.natAbs
   ·have h2:=congrArg nv h1;rw[qD,qD] at h2
    by_cases h3:m < 0 <;> by_cases h4:n < 0 <;> simp[h1,h3,h4] <;> omega
   ·simp[h1]
 rw[e] at s1;exact s1
theorem ql3 (f g:List Int) (hl:f.length=g.length) (hs:f.length≤1000) (hf:∀ i,nl (nth f i)≤1073741824) (hg:∀ i,nl (nth g i)≤1073741824):∀ d i (e:List (Nat × V)),d + i=f.length→
 i9 T0 X0 0 H0 (some (.nrm,⟨(0,.d (.sl (WL f))) :: (1,.d (.sl (WL g))) :: (5,.d (.int .i64 i)) :: e,[]⟩)) =
  some (if f.drop i=g.drop i then (.exit 0,⟨[],[]⟩) else (.ret,⟨[(4,.d (.bool false))],[]⟩)):=by
 intro d
 induction d with
 | zero=>
   intro i e hd;rw[c9 (l:=H0) rfl];have h1:f.drop i=[]:=List.drop_eq_nil_of_le (by omega);have h2:g.drop i=[]:=List.drop_eq_nil_of_le (by omega);rw[h1,h2];simp -implicitDefEqProofs (disch:=omega) [H4]
 | succ d ih=>
   intro i e hd;rw[c9 (l:=H0) rfl]
   have s1:=fun e=>ih (i + 1) e (by omega)
   have hfi:=hf i;have hgi:=hg i;have s2:=q01 hfi hgi;rw[N1 (xs:=f) (i:=i) (by omega),N1 (xs:=g) (i:=i) (by omega)];simp only[Int.natCast_add,Int.cast_ofNat_Int,List.cons.injEq] at s1 ⊢
   by_cases hc:nth f i=nth g i
   ·rw[decide_eq_true hc] at s2;simp only[hc,true_and];rw[hc] at s2;simp -implicitDefEqProofs (disch:=omega) [H4,s1,s2,hc]
   ·rw[decide_eq_false hc] at s2;simp only[hc,false_and,if_false];simp -implicitDefEqProofs (disch:=omega) [H4,s2,hc]
theorem wa {f g:List Int} (h1:f.length≤1000) (h2:g.length≤1000) (hf:∀ i,nl (nth f i)≤1073741824) (hg:∀ i,nl (nth g i)≤1073741824):d5 T0 X0 xz [.d (.sl (WL f)),.d (.sl (WL g))] []=some (.ret [.d (.bool (decide (f=g)))] []):=by
 rw[c8 (af:=F1) rfl rfl rfl]
 by_cases hl:f.length=g.length
 ·have lp:=fun e=>ql3 f g hl h1 hf hg f.length 0 e rfl
  simp only[Int.cast_ofNat_Int,List.drop_zero] at lp
  by_cases hc:f=g
  ·subst hc;simp only[if_true] at lp;simp -implicitDefEqProofs (disch:=omega) [F1,lp]
  ·simp only[if_neg hc] at lp;simp -implicitDefEqProofs (disch:=omega) [F1,lp,hl,hc]
 ·have hc:¬ f=g:=fun h=>hl (by rw[h])
  simp -implicitDefEqProofs (disch:=omega) [F1,hl,hc]
end Go.Rf

namespace Go.Rf
theorem qgm {X:Int} (h0:0≤X) (hs:(d6 X).length≤1099511627776) :
 d5 T0 X0 qkk [.d (.sl (L (d6 X)))] []=some (.ret [.d (.int .u64 (if X < 18446744073709551616 then X else 0)),.d (.bool (decide (X < 18446744073709551616)))] []):=by
 have s1:=m8 (g8 X) hs;rw[x4 h0] at s1;rw[c8 (af:=zT) rfl rfl rfl]
 by_cases h1:X=0
 ·subst h1;simp only[vP,wC] at s1 ⊢;simp -implicitDefEqProofs (disch:=omega) [zT,s1]
 by_cases h2:X < 4294967296
 ·have e:d6 X=[X]:=by
   rw[xW (by omega),show X / 4294967296=0 by omega,vP,show X % 4294967296=X by omega]
  rw[e] at s1 ⊢;have w:=KO [X];simp only[xw,wC] at s1 w ⊢
  have hb:X < 18446744073709551616:=by omega
  simp -implicitDefEqProofs (disch:=omega) [zT,s1,w,hb]
 by_cases h3:X < 18446744073709551616
 ·have e:d6 X=[X % 4294967296,X / 4294967296]:=by
   rw[xW (by omega),xW (u:=X / 4294967296) (by omega),show X / 4294967296 / 4294967296=0 by omega,vP,show X / 4294967296 % 4294967296=X / 4294967296 by omega]
  rw[e] at s1 ⊢;have w:=KO [X % 4294967296,X / 4294967296];simp only[xw,wC] at s1 w ⊢;simp -implicitDefEqProofs (disch:=omega) [zT,s1,w,h3];rw[qxu (by omega) (by omega) (by omega)];omega
 ·have hl:3≤(d6 X).length:=by
   rw[xW (by omega),xW (u:=X / 4294967296) (by omega),xW (u:=X / 4294967296 / 4294967296) (by omega)];simp
  have hne:¬ d6 X=[]:=fun h=>by rw[h] at hl; simp at hl
  simp -implicitDefEqProofs (disch:=omega) [zT,s1,h3,hne]
theorem vQ {m n:Int} (h0:0≤m) (h:m≤n):(d6 m).length≤(d6 n).length:=by
 have:=(d7 (g8 n)).2;rw[x4 (by omega)] at this;exact o5 h0 (by omega)
theorem qek (x y:Nat):Nat.gcd y (x % y)=Nat.gcd x y:=by
 rw[Nat.gcd_comm,← Nat.gcd_rec,Nat.gcd_comm]
theorem q9o:∀ (y x:Nat),x < 18446744073709551616→y < 18446744073709551616→
 i9 T0 X0 0 zr (some (.nrm,⟨[(5,.d (.int .u64 x)),(7,.d (.int .u64 y))],[]⟩))=some (.exit 2,⟨[(5,.d (.int .u64 (Nat.gcd x y:Nat)))],[]⟩):=by
 intro y
 induction y using Nat.strongRecOn with
 | ind y ih=>
   intro x hx hy;rw[c9 (l:=zr) rfl]
   by_cases h:y=0
   ·subst h;simp -implicitDefEqProofs (disch:=omega) [zu]
   ·have hlt:=Nat.mod_lt x (Nat.pos_of_ne_zero h);have s1:=ih (x % y) hlt y hy (by omega);rw[qek,Int.natCast_emod] at s1;have hp:0 < y:=Nat.pos_of_ne_zero h;simp -implicitDefEqProofs (disch:=omega) [zu,h,hp,s1]
theorem q2p (a b c:V) (y x:Nat) (hx:x < 18446744073709551616) (hy:y < 18446744073709551616) :
 i9 T0 X0 0 zr (some (.nrm,⟨[(0,a),(1,b),(5,.d (.int .u64 x)),(7,.d (.int .u64 y)),(32,c)],[]⟩))=some (.exit 2,⟨[(5,.d (.int .u64 (Nat.gcd x y:Nat)))],[]⟩):=by
 rw[c9 (l:=zr) rfl]
 by_cases h:y=0
 ·subst h;simp -implicitDefEqProofs (disch:=omega) [zu]
 ·have hlt:=Nat.mod_lt x (Nat.pos_of_ne_zero h);have s1:=q9o (x % y) y hy (by omega);rw[qek,Int.natCast_emod] at s1;have hp:0 < y:=Nat.pos_of_ne_zero h;simp -implicitDefEqProofs (disch:=omega) [zu,h,hp,s1]
theorem q2o:∀ (B A:Nat),(d6 (A:Int)).length < 268435456→(d6 (B:Int)).length < 268435456→
 ∃ r,i9 T0 X0 0 Qg (some (.nrm,⟨[(0,.d (.sl (L (d6 A)))),(1,.d (.sl (L (d6 B))))],[]⟩))=some r ∧
   (r=(.exit 0,⟨[(0,.d (.sl (L (d6 (Nat.gcd A B:Nat)))))],[]⟩)∨r=(.ret,⟨[(4,.d (.sl (L (d6 (Nat.gcd A B:Nat)))))],[]⟩)):=by
 intro B
 induction B using Nat.strongRecOn with
 | ind B ih=>
   intro A hA hB;rw[c9 (l:=Qg) rfl]
   by_cases h:B=0
   ·subst h;refine ⟨_,?_,.inl rfl⟩;have e0:d6 ((0:Nat):Int)=[]:=rfl;rw[e0,Nat.gcd_zero_right];simp -implicitDefEqProofs (disch:=omega) [zt]
   ·have hp:0 < B:=Nat.pos_of_ne_zero h
    have hne:¬ d6 (B:Int)=[]:=fun e=>by have:=(jk (by omega)).1 e; omega
    have hlp:0 < (d6 (B:Int)).length:=List.length_pos_iff.2 hne;have s1:=qgm (X:=(A:Int)) (by omega) (by omega);have s2:=qgm (X:=(B:Int)) (by omega) (by omega)
    have d1:d5 T0 X0 vS [.d (.sl (L (d6 (A:Int)))),.d (.sl (L (d6 (B:Int))))] []=some (.ret [.d (.sl (L (d6 ((A:Int) / B)))),.d (.sl (L (d6 ((A % B:Nat):Int)))),.d (.bool true)] []):=by
     have s3:=qbt (g8 (A:Int)) (g8 (B:Int)) (by omega);rw[x4 (by omega),x4 (by omega),if_neg (by omega)] at s3;exact s3
    have hlt:=Nat.mod_lt A hp;have hl2:(d6 ((A % B:Nat):Int)).length≤(d6 (B:Int)).length:=vQ (by omega) (by omega);obtain ⟨r,hr,hr2⟩:=ih (A % B) hlt B hB (by omega);rw[qek] at hr2
    by_cases c1:(A:Int) < 18446744073709551616
    ·by_cases c2:(B:Int) < 18446744073709551616
     ·refine ⟨_,?_,.inr rfl⟩
      have s4:=fun a b c=>q2p a b c B A (by omega) (by omega)
      have hg:Nat.gcd A B < 18446744073709551616:=Nat.lt_of_le_of_lt (Nat.gcd_le_right A hp) (by omega);have s5:=ZW (n:=(Nat.gcd A B:Nat)) (by omega);rw[if_pos c1,decide_eq_true c1] at s1;rw[if_pos c2,decide_eq_true c2] at s2;generalize d6 (A:Int)=xa at *;generalize d6 (B:Int)=xb at *;generalize d6 ((Nat.gcd A B:Nat):Int)=xg at *;simp -implicitDefEqProofs (disch:=omega) [zt,s1,s2,s4,s5,hlp]
     ·refine ⟨r,?_,hr2⟩;rw[if_pos c1,decide_eq_true c1] at s1;rw[if_neg c2,decide_eq_false c2] at s2;generalize d6 (A:Int)=xa at *;generalize d6 (B:Int)=xb at *;generalize d6 ((A % B:Nat):Int)=xm at *;generalize d6 ((A:Int) / B)=xq at *;simp -implicitDefEqProofs (disch:=omega) [zt,s1,s2,d1,hr,hlp]
    ·refine ⟨r,?_,hr2⟩;rw[if_neg c1,decide_eq_false c1] at s1;generalize d6 (A:Int)=xa at *;generalize d6 (B:Int)=xb at *;generalize d6 ((A % B:Nat):Int)=xm at *;generalize d6 ((A:Int) / B)=xq at *;simp -implicitDefEqProofs (disch:=omega) [zt,s1,s2,d1,hr,hlp]
theorem qnm {A B:Nat} (hA:(d6 (A:Int)).length < 268435456) (hB:(d6 (B:Int)).length < 268435456) :
 d5 T0 X0 qny [.d (.sl (L (d6 A))),.d (.sl (L (d6 B)))] []=some (.ret [.d (.sl (L (d6 (Nat.gcd A B:Nat))))] []):=by
 have s1:=m8 (g8 (A:Int)) (by omega);have s2:=m8 (g8 (B:Int)) (by omega);rw[x4 (by omega)] at s1 s2
 have hg:(d6 (Nat.gcd A B:Nat)).length < 268435456:=by
  by_cases h:A=0
  ·subst h; rw[Nat.gcd_zero_left]; exact hB
  ·have:=vQ (m:=(Nat.gcd A B:Nat)) (n:=(A:Int)) (by omega) (by have:=Nat.gcd_le_left B (Nat.pos_of_ne_zero h); omega);omega
 have s3:=Zp (g8 (Nat.gcd A B:Nat)) (by omega);rw[x4 (by omega)] at s3;obtain ⟨r,hr,hr2⟩:=q2o B A hA hB;rw[c8 (af:=QR) rfl rfl rfl];generalize d6 (A:Int)=xa at *;generalize d6 (B:Int)=xb at *;generalize d6 ((Nat.gcd A B:Nat):Int)=xg at *;rcases hr2 with rfl | rfl
 ·simp -implicitDefEqProofs (disch:=omega) [QR,s1,s2,hr,s3]
 ·simp -implicitDefEqProofs (disch:=omega) [QR,s1,s2,hr]
theorem qv1 {m n:Int} (hm:nl m < 268435456) (hn:nl n < 268435456):d5 T0 X0 qns [.d (Wd m),.d (Wd n)] []=some (.ret [.d (Wd (Nat.gcd m.natAbs n.natAbs:Nat))] []):=by
 have s1:=qnm (A:=m.natAbs) (B:=n.natAbs) hm hn
 have hg:(d6 (Nat.gcd m.natAbs n.natAbs:Nat)).length < 268435456:=by
  by_cases h:m.natAbs=0
  ·rw[h,Nat.gcd_zero_left]; exact hn
  ·have:=vQ (m:=(Nat.gcd m.natAbs n.natAbs:Nat)) (n:=(m.natAbs:Int)) (by omega) (by have:=Nat.gcd_le_left n.natAbs (Nat.pos_of_ne_zero h); omega);unfold nl at hm;omega
 have s2:=T8 false (n:=(Nat.gcd m.natAbs n.natAbs:Nat)) (by omega) (by omega)
 have e:sg false ((Nat.gcd m.natAbs n.natAbs:Nat):Int)=(Nat.gcd m.natAbs n.natAbs:Nat):=by simp[sg]
 rw[e] at s2;unfold nl at hm hn;rw[c8 (af:=Kl) rfl rfl rfl];have d1:Wd m = .agg [.bool (decide (m < 0)),.sl (L (d6 m.natAbs))]:=rfl;have d2:Wd n = .agg [.bool (decide (n < 0)),.sl (L (d6 n.natAbs))]:=rfl;rw[d1,d2];generalize d6 ((m.natAbs:Nat):Int)=xa at *;generalize d6 ((n.natAbs:Nat):Int)=xb at *;generalize d6 ((Nat.gcd m.natAbs n.natAbs:Nat):Int)=xg at *;generalize ((Nat.gcd m.natAbs n.natAbs:Nat):Int)=g at *;simp -implicitDefEqProofs (disch:=omega) [Kl,s1,s2]
def Rt (n:Int):D:=.agg [.bool (decide (n < 0)),.sl (L (d6 n.natAbs)),.sl (L [1])]
theorem qmn:d5 T0 X0 qnu [] []=some (.ret [.d (.sl (L [1]))] []):=by
 rw[c8 (af:=Km) rfl rfl rfl];have w:=KO [1];simp only[xw,wC] at w ⊢;simp -implicitDefEqProofs (disch:=omega) [Km,w]
theorem quj:d6 1=[1]:=rfl
theorem Wr:n6 [1]:=g8 1
theorem qoq:d5 T0 X0 WC [.d (.sl (L [1]))] []=some (.ret [.d (.int .i64 1)] []):=by
 have s:=qa5 Wr (by simp);rw[show (if nv [1]=0 then (0:Int) else 32 * (qx3 (nv [1]) - 1) + jt (nth (d6 (nv [1])) ((d6 (nv [1])).length - 1)))=1 by decide] at s;exact s
theorem qah {n:Int} (h:nl n < 268435456):d5 T0 X0 qes [.d (Wd n),.d (.sl (L [1]))] []=some (.ret [.d (Rt n)] []):=by
 have s1:=kN (m:=n) (by omega);have s2:=Zp Wr (by simp);rw[show d6 (nv [1])=[1] by rfl] at s2;have s3:=qmn;have s4:=qnm (A:=n.natAbs) (B:=1) h (by decide);rw[Nat.gcd_one_right,show ((1:Nat):Int)=1 from rfl,quj] at s4;have s5:=qoq;rw[c8 (af:=jP) rfl rfl rfl];have w:=KO [1];simp only[xw,wC] at s2 s3 s4 s5 w ⊢
 by_cases h0:n=0
 ·subst h0;unfold Rt;rw[Wd_0] at s1 ⊢;simp only[xw,wC];simp -implicitDefEqProofs (disch:=omega) [jP,s1,s2,s3,w,-WS]
 ·have hne:¬ d6 (n.natAbs:Int)=[]:=fun e=>by have:=(jk (by omega)).1 e; omega
  unfold nl at h;have d1:Wd n = .agg [.bool (decide (n < 0)),.sl (L (d6 n.natAbs))]:=rfl;unfold Rt;rw[d1] at s1 ⊢;simp only[xw,wC];have lp:=c9 (T:=T0) (X:=X0) (pin:=0) (l:=QO) rfl;generalize d6 ((n.natAbs:Nat):Int)=xa at *;simp -implicitDefEqProofs (disch:=omega) [jP,QP,lp,s1,s2,s4,s5,w,hne,-WS]
end Go.Rf

namespace Go.Rf
def RtL (l:List Int):List D:=l.map Rt
def RtV (l:List Int):List V:=l.map fun n=>.d (Rt n)
@[simp] theorem RtL_len (l):(RtL l).length=l.length:=by simp[RtL]
@[simp] theorem RtV_len (l):(RtV l).length=l.length:=by simp[RtV]
@[simp] theorem q3c:RtV []=[]:=rfl
@[simp] theorem zlz (l:List Int) (n:Int):RtV l++[.d (Rt n)]=RtV (l++[n]):=by simp[RtV]
@[simp] theorem q3d (l):(RtL l).map V.d=RtV l:=by simp[RtL,RtV,Function.comp_def]
theorem q3e {l:List Int} {i:Nat} (h:i < l.length):(RtL l)[i]? = some (Rt (nth l i)):=by simp[RtL,nth,h]
attribute [simp] q3e
@[simp] theorem zly (l n):(RtV l).take n=RtV (l.take n):=by simp[RtV,List.map_take]
@[simp] theorem zgz (al:Loc→Bool) (l:List Int) (m:List Loc):ze al (RtV l) m=(RtV l,m):=by rw[← q3d]; exact vJ ..
@[simp] theorem zjm (h:Loc→Option Obj) (k:Nat) (l:List Int):kv (frz h (k + 1)) (RtV l)=some (RtL l,[]):=by
  induction l with
  | nil=>rfl
  | cons x xs ih=>
    show kv (frz h (k + 1)) (.d _ :: RtV xs)=_;simp only[kv,ih];rfl
theorem qvz (l:List Int):wl (RtL l)≤56:=by
 induction l with
 | nil=>simp[RtL,wl]
 | cons x xs ih=>
   show max (wt (Rt x)) (wl (RtL xs))≤56;have:wt (Rt x)=49:=rfl;omega
@[simp] theorem zfy (l):(wl (RtL l)≤56)=True:=eq_true (qvz l)
@[simp] theorem fit_RtL {n:Nat} {l:List Int} (h:n≤1099511627):(n * wl (RtL l)≤D2)=True:=eq_true (Nat.le_trans (Nat.mul_le_mul h (qvz l)) (by unfold D2; omega))
@[simp] theorem zk7 (n):(Rt n).cells.length=3:=rfl
@[simp] theorem zb7 (n):(V.cells (.d (Rt n))).length=3:=rfl
@[simp] theorem zf9 (n):List.take 3 (V.d (Rt n)).cells=(V.d (Rt n)).cells:=rfl
@[simp] theorem zlv (n):qrq (V.d (Rt n)).cells (xj (V.d (Rt n)).cells) = .d (Rt n):=rfl
theorem q2t {n:Int} (h:nl n < 1099511627776):P6 (.d (Rt n))=true:=by
 have:wl (L (d6 n.natAbs))≤4:=KO _;have h2:(d6 n.natAbs).length * wl (L (d6 n.natAbs))≤1099511627776 * 4:=Nat.mul_le_mul (Nat.le_of_lt h) this;have h3:wl (L [1])≤4:=KO _;simp only[xw,wC] at h3;simp[Rt,P6,JS];unfold D2; omega
attribute [simp] q2t
@[simp] theorem zi0 (h n):qx h 3 true (.d (.box (Rt n)))=val (.d (Rt n)):=by simp[Rt]
theorem Ym {n:Int} (h:nl n < 268435456):d5 T0 X0 qkh [.d (Wd n)] []=some (.ret [.d (Rt n)] []):=by
 have s1:=qmn;have s2:=qah h;rw[c8 (af:=XH) rfl rfl rfl];have w:=KO [1];have d:Rt n = .agg [.bool (decide (n < 0)),.sl (L (d6 n.natAbs)),.sl (L [1])]:=rfl;rw[d] at s2 ⊢;simp only[xw,wC] at w s1 s2 ⊢;simp -implicitDefEqProofs (disch:=omega) [XH,s1,s2,w]
theorem qc7 {n:Int} (h:nl n < 268435456):d5 T0 X0 qkg [.d (Rt n)] []=some (.ret [.d (Rt n)] []):=by
 have s2:=qah h;rw[c8 (af:=XG) rfl rfl rfl];have w:=KO [1];have d:Rt n = .agg [.bool (decide (n < 0)),.sl (L (d6 n.natAbs)),.sl (L [1])]:=rfl;have d2:Wd n = .agg [.bool (decide (n < 0)),.sl (L (d6 n.natAbs))]:=rfl;rw[d2,d] at s2;rw[d];unfold nl at h;generalize d6 ((n.natAbs:Nat):Int)=xa at *;simp only[xw,wC] at w s2 ⊢;simp -implicitDefEqProofs (disch:=omega) [XG,s2,w]
theorem qt0 {m n:Int} (hm:nl m < 67108864) (hn:nl n < 67108864) (hp:nl (m * n) < 268435456):d5 T0 X0 qnv [.d (Rt m),.d (Rt n)] []=some (.ret [.d (Rt (m * n))] []):=by
 have s1:=qis (m:=m) (n:=n) (by omega) (by omega);have s2:=qmx Wr Wr (by simp);rw[show d6 (nv [1] * nv [1])=[1] by rfl] at s2;have s3:=qah hp;rw[c8 (af:=Kn) rfl rfl rfl];have w:=KO [1]
 have d2:∀ n,Wd n = .agg [.bool (decide (n < 0)),.sl (L (d6 n.natAbs))]:=fun _=>rfl
 have d:∀ n,Rt n = .agg [.bool (decide (n < 0)),.sl (L (d6 n.natAbs)),.sl (L [1])]:=fun _=>rfl
 rw[d2,d2,d2] at s1;rw[d2,d] at s3;rw[d,d,d];unfold nl at hm hn hp;generalize m * n=mn at *;generalize d6 ((n.natAbs:Nat):Int)=xa at *;generalize d6 ((m.natAbs:Nat):Int)=xb at *;generalize d6 ((mn.natAbs:Nat):Int)=xc at *;simp only[xw,wC] at w s2 s3 ⊢;simp -implicitDefEqProofs (disch:=omega) [Kn,s1,s2,s3,w]
theorem ql6 {n:Int} (h:nl n < 268435456):d5 T0 X0 qf5 [.d (Rt n)] []=some (.ret [.d (Wd n),.d (.bool true)] []):=by
 have s2:=qc7 h;have s3:=qoq;rw[c8 (af:=Ze) rfl rfl rfl];have w:=KO [1];have d:Rt n = .agg [.bool (decide (n < 0)),.sl (L (d6 n.natAbs)),.sl (L [1])]:=rfl;have d2:Wd n = .agg [.bool (decide (n < 0)),.sl (L (d6 n.natAbs))]:=rfl;rw[d] at s2 ⊢;rw[d2];unfold nl at h;generalize d6 ((n.natAbs:Nat):Int)=xa at *;simp only[xw,wC] at w s2 s3 ⊢;simp -implicitDefEqProofs (disch:=omega) [Ze,s2,s3,w,-WS]
def fsN (f:List Int):Nat→Int
 | 0=>0
 | n + 1=>if fsN f n=0 then (nth f n).sign else fsN f n
def gcN (f:List Int):Nat→Nat
 | 0=>0
 | n + 1=>Nat.gcd (gcN f n) (nth f n).natAbs
theorem qqs {f:List Int} {k:Nat} (h:∀ i,nl (nth f i)≤k):∀ n,nl (gcN f n:Nat)≤k
 | 0=>by unfold gcN; simp
 | n + 1=>by
   unfold gcN;have h1:=qqs h n;have h2:=h n;unfold nl at *
   by_cases h0:(nth f n).natAbs=0
   ·rw[h0,Nat.gcd_zero_right]; exact h1
   ·have:=Nat.gcd_le_right (gcN f n) (Nat.pos_of_ne_zero h0);exact Nat.le_trans (vQ (by omega) (by omega)) h2
theorem q8i (f:List Int) (hl:f.length≤1000) (hf:∀ i,nl (nth f i)≤8388608):∀ d i,d + i=f.length→
 i9 T0 X0 0 qr (some (.nrm,⟨[(0,.d (.sl (WL f))),(3,.d (.int .i64 (fsN f i))),(4,.ptr (.b 0) 0 0),(11,.d (.sl (WL f))),(12,.d (.int .i64 f.length)),(13,.d (.int .i64 i))],[.arr [.d (Wd (gcN f i:Nat))] ⟨2,0⟩]⟩)) =
  some (.exit 0,⟨[(0,.d (.sl (WL f))),(3,.d (.int .i64 (fsN f f.length))),(4,.ptr (.b 0) 0 0)],[.arr [.d (Wd (gcN f f.length:Nat))] ⟨2,0⟩]⟩):=by
 intro d
 induction d with
 | zero=>
   intro i hd
   have e:i=f.length:=by omega
   subst e;rw[c9 (l:=qr) rfl];simp -implicitDefEqProofs (disch:=omega) [qu]
 | succ d ih=>
   intro i hd
   have hi:i < f.length:=by omega
   have s1:=ih (i + 1) (by omega);have hfi:=hf i;have hg:=qqs hf i;have s2:=YM (m:=nth f i) (by omega);have s3:=qv1 (m:=(gcN f i:Nat)) (n:=nth f i) (by omega) (by omega);rw[Int.natAbs_natCast,show Nat.gcd (gcN f i) (nth f i).natAbs=gcN f (i + 1) from rfl] at s3;rw[c9 (l:=qr) rfl];rw[show fsN f (i + 1)=if fsN f i=0 then (nth f i).sign else fsN f i from rfl] at s1;simp only[Int.natCast_add,Int.cast_ofNat_Int] at s1;generalize ((gcN f i:Nat):Int)=g at *;generalize ((gcN f (i + 1):Nat):Int)=g' at *
   by_cases h0:fsN f i=0
   ·rw[if_pos h0] at s1;rw[h0];simp -implicitDefEqProofs (disch:=omega) [qu,s1,s2,s3]
   ·rw[if_neg h0] at s1;simp -implicitDefEqProofs (disch:=omega) [qu,s1,s3,h0]
end Go.Rf

namespace Go.Rf
def JK (s g x:Int):Int:=if s < 0 then -(x / g) else if s=0 then x else x / g
def JJ (f:List Int):List Int:=f.map (JK (fsN f f.length) (gcN f f.length:Nat))
theorem q14 (f:List Int) (s g:Int) (hl:f.length≤1000) (hs:s≠0→g≠0) (hf:∀ i,nl (nth f i)≤8388608) (hg:nl g≤8388608) (hq:∀ i,nl (nth f i / g)≤8388608):∀ d i (out:List Int),d + i=f.length→out.length=f.length→
 i9 T0 X0 0 qq (some (.nrm,⟨[(3,.d (.int .i64 s)),(4,.ptr (.b 0) 0 0),(7,.ref (.b 1) ⟨2,32⟩ 0 f.length),(28,.d (.sl (WL f))),(29,.d (.int .i64 f.length)),(30,.d (.int .i64 i))],[.arr [.d (Wd g)] ⟨2,0⟩,.arr (WV out) ⟨2,32⟩]⟩)) =
  some (.exit 2,⟨[(7,.ref (.b 0) ⟨2,32⟩ 0 f.length)],[.arr (WV (out.take i++(f.map (JK s g)).drop i)) ⟨2,32⟩]⟩):=by
 intro d
 induction d with
 | zero=>
   intro i out hd ho;rw[c9 (l:=qq) rfl];have h1:(f.map (JK s g)).drop i=[]:=List.drop_eq_nil_of_le (by simp; omega);have h2:out.take i=out:=List.take_of_length_le (by omega);rw[h1,h2];simp -implicitDefEqProofs (disch:=omega) [S2]
 | succ d ih=>
   intro i out hd ho
   have hi:i < f.length:=by omega
   rw[c9 (l:=qq) rfl]
   have h1:(f.map (JK s g)).drop i=JK s g (nth f i) :: (f.map (JK s g)).drop (i + 1):=by
    rw[List.drop_eq_getElem_cons (by simp; omega)];simp[nth,hi]
   have s5:=ih (i + 1) (out.set i (JK s g (nth f i))) (by omega) (by simp[ho])
   have h3:(out.set i (JK s g (nth f i))).take (i + 1)=out.take i++[JK s g (nth f i)]:=by
    rw[kO (by simp; omega),List.take_set_of_le (Nat.le_refl _),W5 (by omega),if_pos rfl]
   rw[h1,List.append_cons,← h3];have hfi:=hf i;have hqi:=hq i;have s1:=Kp (m:=nth f i) (n:=g) (by omega) (by omega);have s2:=qir (m:=nth f i / g) (by omega);have s3:=kN (m:=nth f i) (by omega);have s4:=kN (m:=nth f i / g) (by omega);have s6:=kN (m:=-(nth f i / g)) (by unfold nl at *; rw[Int.natAbs_neg]; omega);simp only[Int.natCast_add,Int.cast_ofNat_Int] at s5
   by_cases c1:s < 0
   ·rw[if_neg (hs (by omega))] at s1;have e:JK s g (nth f i) = -(nth f i / g):=if_pos c1;rw[e] at s5 ⊢
    have c2:¬ s=0:=by omega
    have hn:nl (-(nth f i / g))≤8388608:=by unfold nl at *; rw[Int.natAbs_neg]; omega
    generalize -(nth f i / g)=x at *;generalize nth f i / g=q at *;simp -implicitDefEqProofs (disch:=omega) [S2,s1,s2,s5,s6,c1,c2]
   ·by_cases c2:s=0
    ·have e:JK s g (nth f i)=nth f i:=by unfold JK; rw[if_neg c1,if_pos c2]
     rw[e] at s5 ⊢;subst c2;simp -implicitDefEqProofs (disch:=omega) [S2,s3,s5]
    ·rw[if_neg (hs c2)] at s1
     have e:JK s g (nth f i)=nth f i / g:=by unfold JK; rw[if_neg c1,if_neg c2]
     rw[e] at s5 ⊢;generalize nth f i / g=q at *;simp -implicitDefEqProofs (disch:=omega) [S2,s1,s4,s5,c1,c2]
theorem qx4 (x g:Int):nl (x / g)≤nl x:=by
 unfold nl;exact vQ (by omega) (by have:=Int.natAbs_ediv_le_natAbs x g; omega)
theorem qsg {f:List Int}:∀ n,gcN f n=0→fsN f n=0
 | 0,_=>rfl
 | n + 1,h=>by
   unfold gcN at h;have h1:=Nat.eq_zero_of_gcd_eq_zero_left h;have h2:=Nat.eq_zero_of_gcd_eq_zero_right h;unfold fsN;rw[if_pos (qsg n h1),show nth f n=0 by omega];rfl
theorem qyh {f:List Int} (hl:f.length≤1000) (hf:∀ i,nl (nth f i)≤8388608):d5 T0 X0 qb7 [.d (.sl (WL f))] []=some (.ret [.d (.sl (WL (JJ f)))] []):=by
 have s1:=q8i f hl hf f.length 0 (by omega);have s2:=q14 f (fsN f f.length) (gcN f f.length:Nat) hl (fun h e=>h (qsg _ (by omega))) hf (qqs hf _) (fun i=>Nat.le_trans (qx4 _ _) (hf i)) f.length 0 (List.replicate f.length 0) (by omega) (by simp);simp only[Int.cast_ofNat_Int,fsN,gcN,List.take_zero,List.drop_zero,List.nil_append] at s1 s2;rw[show List.map (JK (fsN f f.length) (gcN f f.length:Nat)) f=JJ f from rfl] at s2
 have e:(JJ f).length=f.length:=by simp[JJ]
 rw[c8 (af:=wU) rfl rfl rfl];generalize JJ f=out at *;have ht:out.take f.length=out:=List.take_of_length_le (by omega);simp -implicitDefEqProofs (disch:=omega) [wU,s1,s2,e,ht]
def kQ (f:List Int):Bool:=f.all fun x=>decide (nl x≤32)
theorem qtc (f:List Int) (hl:f.length≤1000) (hf:∀ i,nl (nth f i)≤8388608):∀ d i,d + i=f.length→
 i9 T0 X0 0 xd (some (.nrm,⟨[(0,.d (.sl (WL f))),(6,.d (.sl (WL f))),(7,.d (.int .i64 f.length)),(8,.d (.int .i64 i))],[]⟩)) =
  some (if kQ (f.drop i)=true then (.exit 0,⟨[(0,.d (.sl (WL f)))],[]⟩) else (.ret,⟨[(2,.d (.sl [])),(3,.d (.int .i64 2))],[]⟩)):=by
 intro d
 induction d with
 | zero=>
   intro i hd;rw[c9 (l:=xd) rfl,List.drop_eq_nil_of_le (by omega),if_pos (show kQ []=true from rfl)];simp -implicitDefEqProofs (disch:=omega) [xe]
 | succ d ih=>
   intro i hd
   have hi:i < f.length:=by omega
   have s1:=ih (i + 1) (by omega);have hfi:=hf i;have s2:=Je (m:=nth f i) (by omega);rw[c9 (l:=xd) rfl,N1 hi];rw[show kQ (nth f i :: f.drop (i + 1))=(decide (nl (nth f i)≤32) && kQ (f.drop (i + 1))) from rfl];simp only[Int.natCast_add,Int.cast_ofNat_Int] at s1
   by_cases c:nl (nth f i)≤32
   ·rw[decide_eq_true c,Bool.true_and];simp -implicitDefEqProofs (disch:=omega) [xe,s1,s2]
   ·rw[decide_eq_false c,Bool.false_and,if_neg (by decide)];simp -implicitDefEqProofs (disch:=omega) [xe,s2]
theorem qtb {f:List Int} (hl:f.length≤1000) (hf:∀ i,nl (nth f i)≤8388608):d5 T0 X0 qgf [.d (.sl (WL f))] []=some (.ret [.d (.sl (WL (if kQ f=true then f else []))),.d (.int .i64 (if kQ f=true then 0 else 2))] []):=by
 have s1:=qtc f hl hf f.length 0 (by omega);rw[List.drop_zero,show ((0:Nat):Int)=0 from rfl] at s1;rw[c8 (af:=kX) rfl rfl rfl]
 by_cases c:kQ f=true
 ·simp only[if_pos c] at s1 ⊢;simp -implicitDefEqProofs (disch:=omega) [kX,s1]
 ·simp only[if_neg c] at s1 ⊢;rw[show WL []=[] from rfl];simp -implicitDefEqProofs (disch:=omega) [kX,s1]
end Go.Rf

namespace Go.Rf
@[simp 10000] theorem q6r (n:Int):S5 (.d (.agg [.bool false,.sl [],.sl []])) 0 (.d (Rt n))=some (.d (Rt n)):=rfl
@[simp] theorem zja (n:Int):isAgg (V.d (Rt n))=true:=rfl
@[simp] theorem den_Rt (n:Int):(V.d (Rt n)).cells[2]? = some (.d (.sl [.int .u32 1])):=rfl
@[simp] theorem zfd:qrq ((V.d (Wd 0)).cells.set 1 (V.d (.sl [.int .u32 1]))) (xj ((V.d (Wd 0)).cells.set 1 (V.d (.sl [.int .u32 1])))) = .d (Wd 1):=rfl
@[simp] theorem zjz:P6 (.d (Rt 1))=true:=rfl
theorem q1r:D.agg [.bool false,.sl [.int .u32 1]]=Wd 1:=rfl
theorem zk0 (f:List Int) (hl:f.length≤1000) (hf:∀ i,nl (nth f i)≤8388608):∀ d i,d + i=f.length→
 i9 T0 X0 0 qY (some (.nrm,⟨[(0,.d (.sl (RtL f))),(4,.ptr (.b 0) 0 0),(18,.d (.sl (RtL f))),(19,.d (.int .i64 f.length)),(20,.d (.int .i64 i))],[.arr [.d (Wd 1)] ⟨2,0⟩]⟩)) =
  some (.exit 0,⟨[(0,.d (.sl (RtL f))),(4,.ptr (.b 0) 0 0)],[.arr [.d (Wd 1)] ⟨2,0⟩]⟩):=by
 intro d
 induction d with
 | zero=>
   intro i hd;rw[c9 (l:=qY) rfl];simp -implicitDefEqProofs (disch:=omega) [kt]
 | succ d ih=>
   intro i hd
   have hi:i < f.length:=by omega
   have s1:=ih (i + 1) (by omega);have hfi:=hf i;have s2:=qc7 (n:=nth f i) (by omega);have s3:=qv1 (m:=1) (n:=1) (by decide) (by decide);rw[show ((Nat.gcd (1:Int).natAbs (1:Int).natAbs:Nat):Int)=1 from rfl] at s3;have s4:=Kp (m:=1) (n:=1) (by decide) (by decide);rw[if_neg (by decide),show (1:Int) / 1=1 from rfl,show (1:Int) % 1=0 from rfl] at s4;have s5:=qis (m:=1) (n:=1) (by decide) (by decide);rw[show (1:Int) * 1=1 from rfl] at s5;rw[c9 (l:=qY) rfl];simp only[Int.natCast_add,Int.cast_ofNat_Int] at s1;simp -implicitDefEqProofs (disch:=omega) [kt,s1,s2,s3,s4,s5,q1r]
theorem za4 (f:List Int) (hl:f.length≤1000) (hf:∀ i,nl (nth f i)≤8388608):∀ d i (out:List Int),d + i=f.length→out.length=f.length→
 i9 T0 X0 0 qX (some (.nrm,⟨[(4,.ptr (.b 0) 0 0),(11,.ref (.b 1) ⟨2,32⟩ 0 f.length),(44,.d (.sl (RtL f))),(45,.d (.int .i64 f.length)),(46,.d (.int .i64 i))],[.arr [.d (Wd 1)] ⟨2,0⟩,.arr (WV out) ⟨2,32⟩]⟩)) =
  some (.exit 2,⟨[(11,.ref (.b 0) ⟨2,32⟩ 0 f.length)],[.arr (WV (out.take i++f.drop i)) ⟨2,32⟩]⟩):=by
 intro d
 induction d with
 | zero=>
   intro i out hd ho;rw[c9 (l:=qX) rfl];have h1:f.drop i=[]:=List.drop_eq_nil_of_le (by omega);have h2:out.take i=out:=List.take_of_length_le (by omega);rw[h1,h2];simp -implicitDefEqProofs (disch:=omega) [kq]
 | succ d ih=>
   intro i out hd ho
   have hi:i < f.length:=by omega
   rw[c9 (l:=qX) rfl];have s5:=ih (i + 1) (out.set i (nth f i)) (by omega) (by simp[ho])
   have h3:(out.set i (nth f i)).take (i + 1)=out.take i++[nth f i]:=by
    rw[kO (by simp; omega),List.take_set_of_le (Nat.le_refl _),W5 (by omega),if_pos rfl]
   rw[N1 hi,List.append_cons,← h3];have hfi:=hf i;have s1:=Ym (n:=1) (by decide);have s2:=qt0 (m:=nth f i) (n:=1) (by omega) (by decide) (by rw[Int.mul_one]; omega);rw[Int.mul_one] at s2;have s3:=ql6 (n:=nth f i) (by omega);simp only[Int.natCast_add,Int.cast_ofNat_Int] at s5;simp -implicitDefEqProofs (disch:=omega) [kq,s1,s2,s3,s5]
def ZL (f:List Int):List Int × Int:=if kQ (JJ f)=true then (JJ f,0) else ([],2)
theorem JI (f:List Int):(JJ f).length=f.length:=by simp[JJ]
theorem q15 {f:List Int} (hf:∀ i,nl (nth f i)≤8388608) (i:Nat):nl (nth (JJ f) i)≤8388608:=by
 by_cases hi:i < f.length
 ·have e:nth (JJ f) i=JK (fsN f f.length) (gcN f f.length:Nat) (nth f i):=by simp[JJ,nth,hi]
  rw[e];have h1:=hf i;have h2:=qx4 (nth f i) (gcN f f.length:Nat)
  have h3:∀ x:Int,nl (-x)=nl x:=fun x=>by unfold nl; rw[Int.natAbs_neg]
  unfold JK;split
  ·rw[h3]; omega
  ·split <;> omega
 ·rw[jz (by rw[JI]; omega)]; simp
theorem qrj {f:List Int} (h0:0 < f.length) (hl:f.length≤1000) (hf:∀ i,nl (nth f i)≤8388608):d5 T0 X0 qe0 [.d (.sl (RtL f))] []=some (.ret [.d (.sl (WL (ZL f).1)),.d (.int .i64 (ZL f).2)] []):=by
 have s1:=kY (n:=1) (by omega);have s2:=zk0 f hl hf f.length 0 (by omega);have s3:=za4 f hl hf f.length 0 (List.replicate f.length 0) (by omega) (by simp);simp only[Int.cast_ofNat_Int,List.take_zero,List.drop_zero,List.nil_append] at s2 s3;have s4:=qyh hl hf;have s5:=qtb (f:=JJ f) (by rw[JI]; exact hl) (q15 hf)
 have e:(if kQ (JJ f)=true then JJ f else [])=(ZL f).1∧(if kQ (JJ f)=true then 0 else 2)=(ZL f).2:=by
  unfold ZL; split <;> exact ⟨rfl,rfl⟩
 rw[e.1,e.2] at s5;have ht:f.take f.length=f:=List.take_length;have hne:¬ f=[]:=List.length_pos_iff.1 h0;have ll:=JI f
 have lc:(ZL f).1.length≤f.length:=by
  unfold ZL; split
  ·exact Nat.le_of_eq ll
  ·simp
 rw[c8 (af:=Qk) rfl rfl rfl];generalize ZL f=cv at *;generalize JJ f=lv at *;simp -implicitDefEqProofs (disch:=omega) [Qk,s1,s2,s3,s4,s5,ht,hne]
theorem qo8 {m n:Int} (hm:nl m < 268435456) (hn:nl n < 268435456):d5 T0 X0 qnt [.d (Wd m),.d (Wd n)] []=some (.ret [.d (.int .i64 (cmp m n))] []):=by
 have s1:=YM (m:=m) (by omega);have s2:=YM (m:=n) (by omega);have s3:=WN (g8 n.natAbs) (g8 m.natAbs) (by unfold nl at hn; omega) (by unfold nl at hm; omega);have s4:=WN (g8 m.natAbs) (g8 n.natAbs) (by unfold nl at hm; omega) (by unfold nl at hn; omega);rw[qD,qD] at s3 s4
 have d:∀ n,Wd n = .agg [.bool (decide (n < 0)),.sl (L (d6 n.natAbs))]:=fun _=>rfl
 have hm':=hm;have hn':=hn;unfold nl at hm' hn';rw[c8 (af:=jr) rfl rfl rfl]
 have sg3:∀ x:Int,x.sign=if x < 0 then -1 else if x=0 then 0 else 1:=fun x=>by
  rcases Int.lt_trichotomy x 0 with h | h | h
  ·rw[if_pos h,Int.sign_eq_neg_one_of_neg h]
  ·rw[h]; rfl
  ·rw[if_neg (by omega),if_neg (by omega),Int.sign_eq_one_of_pos h]
 have e:cmp m n=if m.sign < n.sign then -1 else if n.sign < m.sign then 1 else if m.sign < 0 then cmp n.natAbs m.natAbs else cmp m.natAbs n.natAbs:=by
  rw[sg3,sg3];unfold cmp
  split <;> split <;> split <;> split <;> omega
 rw[e]
 have b1:-1≤m.sign∧m.sign≤1:=by rw[sg3]; repeat (first | omega | split)
 have b2:-1≤n.sign∧n.sign≤1:=by rw[sg3]; repeat (first | omega | split)
 rw[d,d] at *;generalize d6 ((n.natAbs:Nat):Int)=xa at *;generalize d6 ((m.natAbs:Nat):Int)=xb at *;generalize m.sign=a at *;generalize n.sign=b at *
 by_cases c1:a < b
 ·rw[if_pos c1];simp -implicitDefEqProofs (disch:=omega) [jr,s1,s2,c1]
 ·rw[if_neg c1]
  by_cases c2:b < a
  ·rw[if_pos c2];simp -implicitDefEqProofs (disch:=omega) [jr,s1,s2,c1,c2]
  ·rw[if_neg c2]
   by_cases c3:a < 0
   ·rw[if_pos c3];simp -implicitDefEqProofs (disch:=omega) [jr,s1,s2,s3,c1,c2,c3]
   ·rw[if_neg c3];simp -implicitDefEqProofs (disch:=omega) [jr,s1,s2,s4,c1,c2,c3]
end Go.Rf

namespace Go.Rf
def Jp (f:List Int) (n:Nat):List Int:=f.set n (-(nth f n))
theorem qc8 (f n):(Jp f n).length=f.length:=by simp[Jp]
theorem qmc {f:List Int} {n i:Nat} (hn:n < f.length):nth (Jp f n) i=if i=n then -(nth f n) else nth f i:=by
 unfold Jp;rw[W5 hn]
theorem qk0 (f:List Int) (n:Nat) (hn:n < f.length) (hl:f.length≤1000) (hf:∀ i,nl (nth f i)≤8388608):∀ d i (out:List Int),d + i=f.length→out.length=i→
 i9 T0 X0 0 ki (some (.nrm,⟨[(1,.d (.int .i64 n)),(8,.ref (.b 0) ⟨3,56⟩ 0 i),(26,.d (.sl (WL f))),(27,.d (.int .i64 f.length)),(28,.d (.int .i64 i))],[.arr (RtV out) ⟨3,56⟩]⟩)) =
  some (.exit 0,⟨[(8,.ref (.b 0) ⟨3,56⟩ 0 f.length)],[.arr (RtV (out++(Jp f n).drop i)) ⟨3,56⟩]⟩):=by
 intro d;have gl:=qc8 f n
 induction d with
 | zero=>
   intro i out hd ho;rw[c9 (l:=ki) rfl]
   have h2:i=f.length:=by omega
   subst h2;have h3:(Jp f n).drop f.length=[]:=List.drop_eq_nil_of_le (by omega);rw[h3,List.append_nil];simp -implicitDefEqProofs (disch:=omega) [kj]
 | succ d ih=>
   intro i out hd ho;rw[c9 (l:=ki) rfl]
   have hi:i < f.length:=by omega
   have h1:=N1 (xs:=Jp f n) (i:=i) (by omega);rw[qmc hn] at h1;rw[h1];have hfi:=hf i;have s1:=qir (m:=nth f i) (by omega)
   have ng:∀ x:Int,nl (-x)=nl x:=fun x=>by unfold nl; rw[Int.natAbs_neg]
   have hni:=ng (nth f i);have s2:=Ym (n:=nth f i) (by omega);have s3:=Ym (n:=-nth f i) (by omega)
   have ht:out.take i=out:=by rw[← ho]; exact List.take_length
   by_cases c:i=n
   ·subst c;rw[if_pos rfl];have s4:=ih (i + 1) (out++[-nth f i]) (by omega) (by simp[ho]);simp only[Int.natCast_add,Int.cast_ofNat_Int] at s4;generalize -nth f i=x at *;simp -implicitDefEqProofs (disch:=omega) [kj,s1,s3,s4,ht]
   ·rw[if_neg c];have s4:=ih (i + 1) (out++[nth f i]) (by omega) (by simp[ho]);simp only[Int.natCast_add,Int.cast_ofNat_Int] at s4
    have c':¬ (i:Int)=(n:Int):=by omega
    simp -implicitDefEqProofs (disch:=omega) [kj,s2,s4,ht,c]
def qjb (n:Nat) (x y:Nd):List Int × Bool:=
 if (w8 n (.two 45 x y)).2=true then ((ZL (Jp (w8 n (.two 45 x y)).1 n)).1,decide ((ZL (Jp (w8 n (.two 45 x y)).1 n)).2=0)) else ([],false)
theorem qkz {n:Nat} (hn:n≤16) {x y:Nd} (b:Bool) (fx:x.fine n) (fy:y.fine n) (wx:x.w≤4000000) (wy:y.w≤4000000) :
 d5 T0 X0 qn3 [.d (cD x y b),.d (.int .i64 n)] []=some (.ret [.d (.sl (WL (qjb n x y).1)),.d (.bool (qjb n x y).2)] []):=by
 have hfine:(Nd.two 45 x y).fine n:=⟨.inr (.inl rfl),fx,fy⟩
 have hw:(Nd.two 45 x y).w≤8000000:=by unfold Nd.w; omega
 have s1:=ZF n hn (.two 45 x y) hfine (by omega);rw[c8 (af:=wB) rfl rfl rfl];unfold qjb
 by_cases hc:(w8 n (.two 45 x y)).2=true
 ·rw[hc] at s1;rw[if_pos hc];rcases kS n (.two 45 x y) hfine with ⟨_,e⟩ | sh
  ·rw[e] at hc; cases hc
  have hfl:=sh.l
  have hb:∀ i,nl (nth (w8 n (.two 45 x y)).1 i)≤8388608:=fun i=>by
   by_cases hi:i < n + 1
   ·have:=sh.b i hi; omega
   ·rw[jz (by omega)]; simp
  generalize (w8 n (.two 45 x y)).1=f at *;have s2:=qk0 f n (by omega) (by omega) hb f.length 0 [] (by omega) rfl
  have ng:∀ x:Int,nl (-x)=nl x:=fun x=>by unfold nl; rw[Int.natAbs_neg]
  have rl:=qc8 f n
  have s3:=qrj (f:=Jp f n) (by omega) (by omega) (fun i=>by
   rw[qmc (by omega)];split
   ·rw[ng]; exact hb n
   ·exact hb i)
  simp only[Int.cast_ofNat_Int,List.drop_zero,List.nil_append,q3c] at s2;have ht:(Jp f n).take f.length=Jp f n:=List.take_of_length_le (by omega)
  have lc:(ZL (Jp f n)).1.length≤1000:=by
   unfold ZL;split
   ·rw[JI]; omega
   ·simp
  have hl:f.length≤1000:=by omega
  have k2:(ZL (Jp f n)).2=0∨(ZL (Jp f n)).2=2:=by unfold ZL; split <;> simp
  generalize ZL (Jp f n)=cv at *;generalize Jp f n=rv at *;simp only[cD,Nd.d] at s1 ⊢;rcases k2 with k2 | k2
  ·simp -implicitDefEqProofs (disch:=omega) [wB,s1,s2,s3,ht,k2]
  ·simp -implicitDefEqProofs (disch:=omega) [wB,s1,s2,s3,ht,k2]
 ·have hc:=Bool.eq_false_iff.2 hc;rw[hc] at s1;rw[hc,if_neg (by decide)];simp only[cD,Nd.d] at s1 ⊢;rw[show WL []=[] from rfl];generalize (w8 n (.two 45 x y)).1=f at *;simp -implicitDefEqProofs (disch:=omega) [wB,s1]
end Go.Rf

namespace Go.Rf
set_option maxHeartbeats 8000000
structure Ed where
 f:Int
 t:Int
 k:Int
 v:Int:=0
 tk:Int:=0
 mn:Int:=0
 row:List Int:=[]
 at_:Pl
 x:Option Nd:=none
 l:Option Nd:=none
 r:Option Nd:=none
 q:Bool:=false
def Ed.cs (e:Ed):List D:=[.int .i64 e.f,.int .i64 e.t,.int .i64 e.k,.int .i64 e.v,.int .i64 e.tk,.int .i64 e.mn,.sl (WL e.row),.int .i64 e.at_.b,.int .i64 e.at_.g,.int .i64 e.at_.l,.int .i64 e.at_.c,oD e.x,oD e.l,oD e.r,.bool e.q]
theorem zh6 (x:Option Nd):wt (oD x)=16:=by cases x with
 | none=>rfl
 | some x=>cases x <;> rfl
def edL:Lst Ed:=⟨fun e=>.agg e.cs,⟨15,160⟩,fun e=>by simp[wt,wts,Ed.cs,IntKind.bits,zh6],fun e=>rfl,by decide⟩
def txL:Lst (List UInt8):=⟨fun s=>.str s,⟨1,16⟩,fun s=>by simp[wt],fun s=>rfl,by decide⟩
structure Gb where
 vs:List (List UInt8)
 bs:List Bg
 ex:Int:=0
 edges:List Ed:=[]
 out:List (List Int):=[]
 inn:List (List Int):=[]
 marks:List (List UInt8):=[]
 md:List Int:=[]
 st:List (Int × Int):=[]
 hd:List (Int × Int):=[]
 long:Bool:=false
def xV (l:List (List Int)):List (Option (List D)):=l.map fun x=>some (LD inL x)
@[simp] theorem ziv (l):(xV l).length=l.length:=by simp[xV]
theorem qyn (l x):xV l++[some (LD inL x)]=xV (l++[x]):=by simp[xV]
@[simp] theorem zde (l):xV l++[some []]=xV (l++[[]]):=qyn l []
def Xk (l:List (Int × Int)):List (D × V):=l.map fun x=>(.int .i64 x.1,.d (.int .i64 x.2))
@[simp] theorem renEs_I (al l m):wV al (Xk l) m=(Xk l,m):=by
  induction l with
  | nil=>rfl
  | cons x l ih=>
    show Z2 (V.ren al (.d _) m) _=_;simp only[V.ren,q0r,Xk,List.map_cons] at ih ⊢;rw[show wV al (List.map (fun x=>(D.int IntKind.i64 x.1,V.d (D.int IntKind.i64 x.2))) l) m=_ from ih];rfl
@[simp] theorem mapLe_I (f l):XR f (Xk l)=Xk l:=by
  induction l with
  | nil=>rfl
  | cons x l ih=>
    show (_,V.mapL f (.d _)) :: XR f (Xk l)=_;rw[ih];rfl
def GH (g:Gb) (p e m:Bool):List Obj:=
 [.arr [.agg [.ptr (.b 1) 0 0,.d (.bool g.long)]] ⟨2,0⟩,
  .arr [.agg [.d (.sl (SL g.vs)),.d (.sl (LD bgL g.bs)),.d (.int .i64 g.ex),.ref (.b (sel e 9 2)) ⟨15,160⟩ 0 g.edges.length,.ref (.b (sel p (sel e 10 9) 3)) ⟨1,24⟩ 0 g.out.length,.ref (.b (sel p (sel e 11 10) 4)) ⟨1,24⟩ 0 g.inn.length,
   .ref (.b (sel m (sel p (sel e 12 11) (sel e 10 9)) 5)) ⟨1,16⟩ 0 g.marks.length,.ref (.b (sel m (sel p (sel e 13 12) (sel e 11 10)) 6)) ⟨1,8⟩ 0 g.md.length,.map (.b 7),.map (.b 8)]] ⟨10,0⟩,
  sel e .dead (.arr (LW edL g.edges) ⟨15,160⟩),sel p .dead (.lol (xV g.out)),sel p .dead (.lol (xV g.inn)),sel m .dead (.arr (LW txL g.marks) ⟨1,16⟩),sel m .dead (.arr (LW inL g.md) ⟨1,8⟩),.map (Xk g.st),.map (Xk g.hd)] ++
 sel e [.arr (LW edL g.edges) ⟨15,160⟩] []++sel p [.lol (xV g.out),.lol (xV g.inn)] []++sel m [.arr (LW txL g.marks) ⟨1,16⟩,.arr (LW inL g.md) ⟨1,8⟩] []
@[simp] theorem wl_ed (l):(wl (LD edL l)≤160)=True:=Yg edL l
@[simp] theorem wl_tx (l):(wl (LD txL l)≤16)=True:=Yg txL l
@[simp] theorem zfv (l s):LW txL l++[.d (.str s)]=LW txL (l++[s]):=vz txL l s
def Gb.point (g:Gb):Gb:={ g with out:=g.out++[[]],inn:=g.inn++[[]] }
theorem C0 (g:Gb) (h:g.out.length≤1000000) (h2:g.inn.length=g.out.length):d5 T0 X0 L3 [.ptr (.b 0) 0 0] (GH g false false false)=some (.ret [.d (.int .i64 g.out.length)] (GH g.point true false false)):=by
 rw[c8 (af:=L5) rfl rfl rfl];simp only[GH,Gb.point,j6,k8,List.cons_append,List.nil_append,List.append_nil];simp (maxSteps:=4000000) -implicitDefEqProofs (disch:=omega) [L5,h2]
def Gb.edge (g:Gb) (e:Ed):Gb:={ g with edges:=g.edges++[e],out:=g.out.set e.f.toNat (g.out.getD e.f.toNat []++[(g.edges.length:Int)]),inn:=g.inn.set e.t.toNat (g.inn.getD e.t.toNat []++[(g.edges.length:Int)]) }
theorem qvp (l f t k v tk mn row b gg ll c x lx rx q):LW edL l++[.d (.agg [.int .i64 f,.int .i64 t,.int .i64 k,.int .i64 v,.int .i64 tk,.int .i64 mn,.sl (WL row),.int .i64 b,.int .i64 gg,.int .i64 ll,.int .i64 c,oD x,oD lx,oD rx,.bool q])]=LW edL (l++[⟨f,t,k,v,tk,mn,row,⟨b,gg,ll,c⟩,x,lx,rx,q⟩]):=vz edL l ⟨f,t,k,v,tk,mn,row,⟨b,gg,ll,c⟩,x,lx,rx,q⟩
theorem qm2 {l:List (List Int)} {i:Nat} (h:i < l.length):(xV l)[i]? = some (some (LD inL (l.getD i []))):=by simp[xV,h]
theorem qym (l:List (List Int)) (i:Nat) (x:List Int):(xV l).set i (some (LD inL x))=xV (l.set i x):=by simp[xV,List.map_set]
theorem qne {ls:List (Option (List D))} {i:Nat} (h:i < ls.length):JN (ls.set i none) i=true:=by unfold JN; rw[List.getElem?_set_self h]
theorem qnf {ls:List (Option (List D))} {i:Nat} (h:ls[i]? = some (some [])):JN ls i=true:=by unfold JN; rw[h]
@[simp] theorem qrs (x l):LD inL (x :: l) = .int .i64 x :: LD inL l:=rfl
@[simp] theorem allD_in (l:List Int):xj (LW inL l)=some (LD inL l):=by
  induction l with
  | nil=>rfl
  | cons x l ih=>show (xj (LW inL l)).map _=_; rw[ih]; rfl
theorem qu2 (g:Gb) (e:Ed) (hf:0≤e.f∧e.f < g.out.length) (ht:0≤e.t∧e.t < g.inn.length) (h1:g.edges.length≤1000000) (h2:g.out.length≤1000000) (h3:g.inn.length≤1000000) (h4:∀ i,(g.out.getD i []).length≤1000000∧(g.inn.getD i []).length≤1000000) :
 d5 T0 X0 wq [.ptr (.b 0) 0 0,.d (.agg e.cs)] (GH g false false false)=some (.ret [] (GH (g.edge e) false true false)):=by
 obtain ⟨f,t,k,v,tk,mn,row,⟨b,gg,ll,c⟩,x,lx,rx,q⟩:=e;obtain ⟨f,rfl⟩:=Int.eq_ofNat_of_zero_le hf.1;obtain ⟨t,rfl⟩:=Int.eq_ofNat_of_zero_le ht.1;simp only[Int.ofNat_eq_natCast] at hf ht ⊢
 have hf:f < g.out.length:=by omega
 have ht:t < g.inn.length:=by omega
 have g1:=qm2 hf;have g2:=qm2 ht;obtain ⟨l1,_⟩:=h4 f;obtain ⟨_,l2⟩:=h4 t;rw[c8 (af:=zE) rfl rfl rfl];simp only[GH,Gb.edge,Ed.cs,j6,k8,List.cons_append,List.nil_append,List.append_nil,Int.toNat_natCast];simp only[← qym]
 have k1:f < (xV g.out).length:=by simpa using hf
 have k2:t < (xV g.inn).length:=by simpa using ht
 have e1:=qne k1;have e2:=qne k2
 have e3:=fun h=>qnf (ls:=xV g.out) (i:=f) h
 have e4:=fun h=>qnf (ls:=xV g.inn) (i:=t) h
 generalize g.out.getD f []=xs at *;generalize g.inn.getD t []=ys at *;clear k1 k2;generalize xV g.out=lo at *;generalize xV g.inn=li at *
 rcases xs with _ | ⟨x0,xs⟩ <;> rcases ys with _ | ⟨y0,ys⟩
 all_goals
  simp only[qrr,qrs,List.length_cons,List.length_nil] at g1 g2 l1 l2;simp (maxSteps:=4000000) -implicitDefEqProofs (disch:=omega) [zE,g1,g2,e1,e2,e3,e4,hf,ht,qvp]
end Go.Rf

namespace Go.Rf
set_option maxHeartbeats 8000000
structure Gok (g:Gb) (n N:Nat):Prop where
 vs:g.vs.length=n
 ol:g.out.length≤N
 il:g.inn.length=g.out.length
 el:g.edges.length≤N
 os:∀ i,(g.out.getD i []).length≤N
 is:∀ i,(g.inn.getD i []).length≤N
 ml:g.marks.length≤N
 dl:g.md.length=g.marks.length
theorem Gok.to {g:Gb} {n N M:Nat} (h:Gok g n N) (k:N≤M):Gok g n M:=⟨h.vs,by have:=h.ol; omega,h.il,by have:=h.el; omega,fun i=>by have:=h.os i; omega,fun i=>by have:=h.is i; omega,by have:=h.ml; omega,h.dl⟩
theorem zM (l:List (List Int)) (i:Nat):(l++[[]]).getD i []=l.getD i []:=by
 by_cases h:i < l.length
 ·simp[List.getElem?_append_left h]
 ·by_cases h2:i=l.length
  ·subst h2; simp
  ·simp[List.getElem?_eq_none (l:=l) (i:=i) (by omega),List.getElem?_eq_none (l:=l++[[]]) (i:=i) (by simp; omega)]
theorem Gok.point {g:Gb} {n N:Nat} (h:Gok g n N):Gok g.point n (N + 1):=⟨h.vs,by have:=h.ol; simp only[Gb.point,List.length_append,List.length_cons,List.length_nil]; omega,by have:=h.il; simp only[Gb.point,List.length_append,List.length_cons,List.length_nil]; omega,by have:=h.el; show g.edges.length≤_; omega,fun i=>by have:=h.os i; simp only[Gb.point,zM]; omega,fun i=>by have:=h.is i; simp only[Gb.point,zM]; omega,by have:=h.ml; show g.marks.length≤_; omega,h.dl⟩
theorem Ww {l:List (List Int)} {j i N:Nat} {x:Int} (h:∀ i,(l.getD i []).length≤N):((l.set j (l.getD j []++[x])).getD i []).length≤N + 1:=by
 have h1:=h i;have h2:=h j;simp only[List.getD_eq_getElem?_getD,List.getElem?_set] at h1 h2 ⊢;split
 ·split
  ·simp only[Option.getD_some,List.length_append,List.length_cons,List.length_nil]; omega
  ·simp
 ·omega
theorem Gok.edge {g:Gb} {n N:Nat} (h:Gok g n N) (e:Ed):Gok (g.edge e) n (N + 1):=⟨h.vs,by have:=h.ol; simp only[Gb.edge,List.length_set]; omega,by have:=h.il; simp only[Gb.edge,List.length_set]; omega,by have:=h.el; simp only[Gb.edge,List.length_append,List.length_cons,List.length_nil]; omega,fun i=>Ww h.os,fun i=>Ww h.is,by have:=h.ml; show g.marks.length≤_; omega,h.dl⟩
theorem KG {g:Gb} {n N:Nat} (h:Gok g n N) (hN:N≤1000000) (e:Ed) (hf:0≤e.f∧e.f < g.out.length) (ht:0≤e.t∧e.t < g.out.length) :
 d5 T0 X0 wq [.ptr (.b 0) 0 0,.d (.agg e.cs)] (GH g false false false)=some (.ret [] (GH (g.edge e) false true false)):=
 qu2 g e hf (by rw[h.il]; exact ht) (by have:=h.el; omega) (by have:=h.ol; omega) (by have:=h.ol; have:=h.il; omega) fun i=>⟨by have:=h.os i; omega,by have:=h.is i; omega⟩
theorem qmd {n:Nat} {x y:Nd} (fx:x.fine n) (fy:y.fine n):(qjb n x y).1.length≤n + 1:=by
 unfold qjb;split
 ·rename_i hc;rcases kS n (.two 45 x y) ⟨.inr (.inl rfl),fx,fy⟩ with ⟨_,e⟩ | sh
  ·rw[e] at hc; cases hc
  ·have hl:=sh.l;show (ZL _).1.length≤_;unfold ZL;split
   ·rw[JI,qc8]; omega
   ·simp
 ·simp
section
variable {g:Gb} {n N:Nat} (h:Gok g n N) (hN:N≤1000000) {f t:Int} (hf:0≤f∧f < g.out.length) (ht:0≤t∧t < g.out.length)
include h hN hf ht
theorem V6 (k:Int) (s:Sm):d5 T0 X0 qF [.ptr (.b 0) 0 0,.d (.int .i64 f),.d (.int .i64 t),.d (.int .i64 k),.d s.d] (GH g false false false)=some (.ret [] (GH (g.edge { f,t,k,at_:=s.at_ }) false true false)):=by
 have s1:=KG h hN { f,t,k,at_:=s.at_ } hf ht;have s3:=Xe s.at_;rw[c8 (af:=qK) rfl rfl rfl];simp only[Ed.cs,oD,WL,List.map_nil] at s1;generalize g.edge { f,t,k,at_:=s.at_ } = g' at *;simp only[GH,j6,k8,List.cons_append,List.nil_append,List.append_nil,Pl.cs] at s1 s3 ⊢;simp (maxSteps:=4000000) -implicitDefEqProofs (disch:=omega) [qK,s1,s3,Pl.cs]
theorem qak (tk mn:Int) (s:Sm):d5 T0 X0 JV [.ptr (.b 0) 0 0,.d (.int .i64 f),.d (.int .i64 t),.d (.int .i64 tk),.d (.int .i64 mn),.d s.d] (GH g false false false)=some (.ret [] (GH (g.edge { f,t,k:=5,tk,mn,at_:=s.at_ }) false true false)):=by
 have s1:=KG h hN { f,t,k:=5,tk,mn,at_:=s.at_ } hf ht;have s3:=Xe s.at_;rw[c8 (af:=zB) rfl rfl rfl];simp only[Ed.cs,oD,WL,List.map_nil] at s1;generalize g.edge { f,t,k:=5,tk,mn,at_:=s.at_ } = g' at *;simp only[GH,j6,k8,List.cons_append,List.nil_append,List.append_nil,Pl.cs] at s1 s3 ⊢;simp (maxSteps:=4000000) -implicitDefEqProofs (disch:=omega) [zB,s1,s3,Pl.cs]
def tEd (n:Nat) (f t:Int) (x y:Nd) (q b:Bool) (p:Pl):Ed:={ f,t,k:=6,tk:=if q=b then 1 else 0,row:=(qjb n x y).1,at_:=p,l:=some x,r:=some y,q }
theorem vA (hn:n≤16) {vs:List (List UInt8)} (hv:vs.length=n) {x y:Nd} (hx:Xok vs x) (hy:Xok vs y) (q b:Bool) (s:Sm) :
 d5 T0 X0 zl [.ptr (.b 0) 0 0,.d (.int .i64 f),.d (.int .i64 t),.d (cD x y q),.d (.bool b),.d s.d] (GH g false false false)=some (.ret [] (GH (g.edge (tEd n f t x y q b s.at_)) false true false)):=by
 have s1:=KG h hN (tEd n f t x y q b s.at_) hf ht;have s3:=Xe s.at_;have s4:=qkz hn q (hv ▸ hx.fine) (hv ▸ hy.fine) hx.w hy.w;rw[c8 (af:=V0) rfl rfl rfl];have hvs:=h.vs;have hrl:=qmd (hv ▸ hx.fine) (hv ▸ hy.fine) (n:=n);generalize hg:g.edge (tEd n f t x y q b s.at_)=g' at *;simp only[Ed.cs,tEd,oD,cD] at s1 s4 ⊢;generalize (qjb n x y)=rr at *
 by_cases hq:q=b
 ·subst hq;simp only[GH,j6,k8,List.cons_append,List.nil_append,List.append_nil,Pl.cs,if_true] at s1 s3 s4 ⊢;simp (maxSteps:=4000000) -implicitDefEqProofs (disch:=omega) [V0,s1,s3,s4,hvs,Pl.cs]
 ·have hq2:(q == b)=false:=by cases q <;> cases b <;> simp_all
  simp only[GH,j6,k8,List.cons_append,List.nil_append,List.append_nil,Pl.cs,if_neg hq] at s1 s3 s4 ⊢;simp (maxSteps:=4000000) -implicitDefEqProofs (disch:=omega) [V0,s1,s3,s4,hvs,Pl.cs,hq2,hq]
end
def jj (F:List Int):Bool:=F.any fun x=>decide (32 < nl x)
theorem qyt (F:List Int) (hF:F.length≤1000000) (hw:∀ x∈F,nl x < 134217728):∀ d i (e:List (Nat × V)),d + i=F.length→jj (F.take i)=false→
 i9 T0 X0 0 xR (some (.nrm,⟨(7,.d (.sl [.sl (WL F)])) :: (8,.d (.int .i64 1)) :: (9,.d (.int .i64 0)) :: (13,.d (.sl (WL F))) :: (14,.d (.int .i64 F.length)) :: (15,.d (.int .i64 i)) :: e,[]⟩)) =
  if jj F=true then some (.ret,⟨[(2,.d (.bool true))],[]⟩) else some (.exit 2,⟨[(7,.d (.sl [.sl (WL F)])),(8,.d (.int .i64 1)),(9,.d (.int .i64 0))],[]⟩):=by
 intro d
 induction d with
 | zero=>
   intro i e hi hp
   have:i=F.length:=by omega
   subst this;rw[List.take_length] at hp;rw[hp,c9 (l:=xR) rfl];simp -implicitDefEqProofs (disch:=omega) [xS]
 | succ d ih=>
   intro i e hi hp
   have hlt:i < F.length:=by omega
   have hget:(WL F)[i]? = some (Wd (F[i])):=by simp[WL,hlt]
   have s1:=Je (m:=F[i]) (by have:=hw _ (List.getElem_mem hlt); omega);have hnl:=hw _ (List.getElem_mem hlt)
   have ha:jj (F.take (i + 1))=(jj (F.take i) || decide (32 < nl (F[i]))):=by unfold jj; rw[List.take_succ_eq_append_getElem hlt,List.any_append]; simp
   rw[hp,Bool.false_or] at ha;rw[c9 (l:=xR) rfl]
   by_cases hl:32 < nl (F[i])
   ·have:jj F=true:=by
     unfold jj;rw[List.any_eq_true];exact ⟨_,List.getElem_mem hlt,by simpa using hl⟩
    rw[if_pos this];generalize F[i]=w at *;simp -implicitDefEqProofs (disch:=omega) [xS,hget,s1]
   ·rw[← ih (i + 1) [] (by omega) (by rw[ha]; simpa using hl)];generalize F[i]=w at *;simp -implicitDefEqProofs (disch:=omega) [xS,hget,s1]
theorem qo3 {F:List Int} (hF:F.length≤1000000) (hw:∀ x∈F,nl x < 134217728):d5 T0 X0 qks [.d (.sl [.sl (WL F)])] []=some (.ret [.d (.bool (jj F))] []):=by
 have s1:=qyt F hF hw F.length 0 [] (by simp) rfl;rw[c8 (af:=vt) rfl rfl rfl];simp only[Int.cast_ofNat_Int] at s1;have hwl:(wl [D.sl (WL F)]≤D2)=True:=eq_true (by simp[wl,wt,D2])
 by_cases hl:jj F=true
 ·rw[if_pos hl] at s1;rw[hl];simp -implicitDefEqProofs (disch:=omega) [vt,c9 (l:=wR) rfl,wS,s1,hwl]
 ·rw[if_neg hl] at s1
  have hl:jj F=false:=by simpa using hl
  rw[hl];simp -implicitDefEqProofs (disch:=omega) [vt,c9 (l:=wR) rfl,wS,s1,hwl]
end Go.Rf
