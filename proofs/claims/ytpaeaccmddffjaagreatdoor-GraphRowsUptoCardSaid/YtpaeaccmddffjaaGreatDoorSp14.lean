/- Parts of the proof. -/
import Derived.Test.YtpaeaccmddffjaaGreatDoorRb2
import Derived.Test.YtpaeaccmddffjaaGreatDoorSp7
import Derived.Test.YtpaeaccmddffjaaGreatDoorSp13
import Derived.Test.YtpaeaccmddffjaaGreatDoorSp11
import Derived.Test.YtpaeaccmddffjaaGreatDoorSp8
import Derived.Test.YtpaeaccmddffjaaGreatDoorSp12
set_option linter.all false
namespace Go.Rf
theorem qfj {X:Int} (h0:0≤X) (hs:(d7 X).length≤1099511627776) :
 d6 T0 X0 qja [.d (.sl (L (d7 X)))] []=some (.ret [.d (.int .u64 (if X < 18446744073709551616 then X else 0)),.d (.bool (decide (X < 18446744073709551616)))] []):=by
 have s1:=n0 (g8 X) hs;rw[o9 h0] at s1;rw[c9 (af:=zg) rfl rfl rfl]
 by_cases h1:X=0
 ·subst h1;simp only[wM,kz] at s1 ⊢;simp -implicitDefEqProofs (disch:=omega) [zg,s1]
 by_cases h2:X < 4294967296
 ·have e:d7 X=[X]:=by
   rw[jD (by omega),show X / 4294967296=0 by omega,wM,show X % 4294967296=X by omega]
  rw[e] at s1 ⊢;have w:=JY [X];simp only[zE,kz] at s1 w ⊢
  have hb:X < 18446744073709551616:=by omega
  simp -implicitDefEqProofs (disch:=omega) [zg,s1,w,hb]
 by_cases h3:X < 18446744073709551616
 ·have e:d7 X=[X % 4294967296,X / 4294967296]:=by
   rw[jD (by omega),jD (u:=X / 4294967296) (by omega),show X / 4294967296 / 4294967296=0 by omega,wM,show X / 4294967296 % 4294967296=X / 4294967296 by omega]
  rw[e] at s1 ⊢;have w:=JY [X % 4294967296,X / 4294967296];simp only[zE,kz] at s1 w ⊢;simp -implicitDefEqProofs (disch:=omega) [zg,s1,w,h3];rw[qxx (by omega) (by omega) (by omega)];omega
 ·have hl:3≤(d7 X).length:=by
   rw[jD (by omega),jD (u:=X / 4294967296) (by omega),jD (u:=X / 4294967296 / 4294967296) (by omega)];simp
  have hne:¬ d7 X=[]:=fun h=>by rw[h] at hl; simp at hl
  simp -implicitDefEqProofs (disch:=omega) [zg,s1,h3,hne]
theorem wN {m n:Int} (h0:0≤m) (h:m≤n):(d7 m).length≤(d7 n).length:=by
 have:=(d8 (g8 n)).2;rw[o9 (by omega)] at this;exact o6 h0 (by omega)
theorem qc8 (x y:Nat):Nat.gcd y (x % y)=Nat.gcd x y:=by
 rw[Nat.gcd_comm,← Nat.gcd_rec,Nat.gcd_comm]
theorem q9k:∀ (y x:Nat),x < 18446744073709551616→y < 18446744073709551616→
 j6 T0 X0 0 qF (some (.nrm,⟨[(5,.d (.int .u64 x)),(7,.d (.int .u64 y))],[]⟩))=some (.exit 2,⟨[(5,.d (.int .u64 (Nat.gcd x y:Nat)))],[]⟩):=by
 intro y
 induction y using Nat.strongRecOn with
 | ind y ih=>
   intro x hx hy;rw[d5 (l:=qF) rfl]
   by_cases h:y=0
   ·subst h;simp -implicitDefEqProofs (disch:=omega) [qH]
   ·have hlt:=Nat.mod_lt x (Nat.pos_of_ne_zero h);have s1:=ih (x % y) hlt y hy (by omega);rw[qc8,Int.natCast_emod] at s1;have hp:0 < y:=Nat.pos_of_ne_zero h;simp -implicitDefEqProofs (disch:=omega) [qH,h,hp,s1]
theorem q2q (a b c:V) (y x:Nat) (hx:x < 18446744073709551616) (hy:y < 18446744073709551616) :
 j6 T0 X0 0 qF (some (.nrm,⟨[(0,a),(1,b),(5,.d (.int .u64 x)),(7,.d (.int .u64 y)),(32,c)],[]⟩))=some (.exit 2,⟨[(5,.d (.int .u64 (Nat.gcd x y:Nat)))],[]⟩):=by
 rw[d5 (l:=qF) rfl]
 by_cases h:y=0
 ·subst h;simp -implicitDefEqProofs (disch:=omega) [qH]
 ·have hlt:=Nat.mod_lt x (Nat.pos_of_ne_zero h);have s1:=q9k (x % y) y hy (by omega);rw[qc8,Int.natCast_emod] at s1;have hp:0 < y:=Nat.pos_of_ne_zero h;simp -implicitDefEqProofs (disch:=omega) [qH,h,hp,s1]
theorem q2p:∀ (B A:Nat),(d7 (A:Int)).length < 268435456→(d7 (B:Int)).length < 268435456→
 ∃ r,j6 T0 X0 0 vf (some (.nrm,⟨[(0,.d (.sl (L (d7 A)))),(1,.d (.sl (L (d7 B))))],[]⟩))=some r ∧
   (r=(.exit 0,⟨[(0,.d (.sl (L (d7 (Nat.gcd A B:Nat)))))],[]⟩)∨r=(.ret,⟨[(4,.d (.sl (L (d7 (Nat.gcd A B:Nat)))))],[]⟩)):=by
 intro B
 induction B using Nat.strongRecOn with
 | ind B ih=>
   intro A hA hB;rw[d5 (l:=vf) rfl]
   by_cases h:B=0
   ·subst h;refine ⟨_,?_,.inl rfl⟩;have e0:d7 ((0:Nat):Int)=[]:=rfl;rw[e0,Nat.gcd_zero_right];simp -implicitDefEqProofs (disch:=omega) [qG]
   ·have hp:0 < B:=Nat.pos_of_ne_zero h
    have hne:¬ d7 (B:Int)=[]:=fun e=>by have:=(xp (by omega)).1 e; omega
    have hlp:0 < (d7 (B:Int)).length:=List.length_pos_iff.2 hne;have s1:=qfj (X:=(A:Int)) (by omega) (by omega);have s2:=qfj (X:=(B:Int)) (by omega) (by omega)
    have d1:d6 T0 X0 wO [.d (.sl (L (d7 (A:Int)))),.d (.sl (L (d7 (B:Int))))] []=some (.ret [.d (.sl (L (d7 ((A:Int) / B)))),.d (.sl (L (d7 ((A % B:Nat):Int)))),.d (.bool true)] []):=by
     have s3:=WW (g8 (A:Int)) (g8 (B:Int)) (by omega);rw[o9 (by omega),o9 (by omega),if_neg (by omega)] at s3;exact s3
    have hlt:=Nat.mod_lt A hp;have hl2:(d7 ((A % B:Nat):Int)).length≤(d7 (B:Int)).length:=wN (by omega) (by omega);obtain ⟨r,hr,hr2⟩:=ih (A % B) hlt B hB (by omega);rw[qc8] at hr2
    by_cases c1:(A:Int) < 18446744073709551616
    ·by_cases c2:(B:Int) < 18446744073709551616
     ·refine ⟨_,?_,.inr rfl⟩
      have s4:=fun a b c=>q2q a b c B A (by omega) (by omega)
      have hg:Nat.gcd A B < 18446744073709551616:=Nat.lt_of_le_of_lt (Nat.gcd_le_right A hp) (by omega);have s5:=Za (n:=(Nat.gcd A B:Nat)) (by omega);rw[if_pos c1,decide_eq_true c1] at s1;rw[if_pos c2,decide_eq_true c2] at s2;generalize d7 (A:Int)=xa at *;generalize d7 (B:Int)=xb at *;generalize d7 ((Nat.gcd A B:Nat):Int)=xg at *;simp -implicitDefEqProofs (disch:=omega) [qG,s1,s2,s4,s5,hlp]
     ·refine ⟨r,?_,hr2⟩;rw[if_pos c1,decide_eq_true c1] at s1;rw[if_neg c2,decide_eq_false c2] at s2;generalize d7 (A:Int)=xa at *;generalize d7 (B:Int)=xb at *;generalize d7 ((A % B:Nat):Int)=xm at *;generalize d7 ((A:Int) / B)=xq at *;simp -implicitDefEqProofs (disch:=omega) [qG,s1,s2,d1,hr,hlp]
    ·refine ⟨r,?_,hr2⟩;rw[if_neg c1,decide_eq_false c1] at s1;generalize d7 (A:Int)=xa at *;generalize d7 (B:Int)=xb at *;generalize d7 ((A % B:Nat):Int)=xm at *;generalize d7 ((A:Int) / B)=xq at *;simp -implicitDefEqProofs (disch:=omega) [qG,s1,s2,d1,hr,hlp]
theorem qmc {A B:Nat} (hA:(d7 (A:Int)).length < 268435456) (hB:(d7 (B:Int)).length < 268435456) :
 d6 T0 X0 qmn [.d (.sl (L (d7 A))),.d (.sl (L (d7 B)))] []=some (.ret [.d (.sl (L (d7 (Nat.gcd A B:Nat))))] []):=by
 have s1:=n0 (g8 (A:Int)) (by omega);have s2:=n0 (g8 (B:Int)) (by omega);rw[o9 (by omega)] at s1 s2
 have hg:(d7 (Nat.gcd A B:Nat)).length < 268435456:=by
  by_cases h:A=0
  ·subst h; rw[Nat.gcd_zero_left]; exact hB
  ·have:=wN (m:=(Nat.gcd A B:Nat)) (n:=(A:Int)) (by omega) (by have:=Nat.gcd_le_left B (Nat.pos_of_ne_zero h); omega);omega
 have s3:=Qs (g8 (Nat.gcd A B:Nat)) (by omega);rw[o9 (by omega)] at s3;obtain ⟨r,hr,hr2⟩:=q2p B A hA hB;rw[c9 (af:=vT) rfl rfl rfl];generalize d7 (A:Int)=xa at *;generalize d7 (B:Int)=xb at *;generalize d7 ((Nat.gcd A B:Nat):Int)=xg at *;rcases hr2 with rfl | rfl
 ·simp -implicitDefEqProofs (disch:=omega) [vT,s1,s2,hr,s3]
 ·simp -implicitDefEqProofs (disch:=omega) [vT,s1,s2,hr]
theorem qvz {m n:Int} (hm:nl m < 268435456) (hn:nl n < 268435456):d6 T0 X0 qmi [.d (Wd m),.d (Wd n)] []=some (.ret [.d (Wd (Nat.gcd m.natAbs n.natAbs:Nat))] []):=by
 have s1:=qmc (A:=m.natAbs) (B:=n.natAbs) hm hn
 have hg:(d7 (Nat.gcd m.natAbs n.natAbs:Nat)).length < 268435456:=by
  by_cases h:m.natAbs=0
  ·rw[h,Nat.gcd_zero_left]; exact hn
  ·have:=wN (m:=(Nat.gcd m.natAbs n.natAbs:Nat)) (n:=(m.natAbs:Int)) (by omega) (by have:=Nat.gcd_le_left n.natAbs (Nat.pos_of_ne_zero h); omega);unfold nl at hm;omega
 have s2:=Q0 false (n:=(Nat.gcd m.natAbs n.natAbs:Nat)) (by omega) (by omega)
 have e:sg false ((Nat.gcd m.natAbs n.natAbs:Nat):Int)=(Nat.gcd m.natAbs n.natAbs:Nat):=by simp[sg]
 rw[e] at s2;unfold nl at hm hn;rw[c9 (af:=Jk) rfl rfl rfl];have d1:Wd m = .agg [.bool (decide (m < 0)),.sl (L (d7 m.natAbs))]:=rfl;have d2:Wd n = .agg [.bool (decide (n < 0)),.sl (L (d7 n.natAbs))]:=rfl;rw[d1,d2];generalize d7 ((m.natAbs:Nat):Int)=xa at *;generalize d7 ((n.natAbs:Nat):Int)=xb at *;generalize d7 ((Nat.gcd m.natAbs n.natAbs:Nat):Int)=xg at *;generalize ((Nat.gcd m.natAbs n.natAbs:Nat):Int)=g at *;simp -implicitDefEqProofs (disch:=omega) [Jk,s1,s2]
def Rt (n:Int):D:=.agg [.bool (decide (n < 0)),.sl (L (d7 n.natAbs)),.sl (L [1])]
theorem qli:d6 T0 X0 qmj [] []=some (.ret [.d (.sl (L [1]))] []):=by
 rw[c9 (af:=Jl) rfl rfl rfl];have w:=JY [1];simp only[zE,kz] at w ⊢;simp -implicitDefEqProofs (disch:=omega) [Jl,w]
theorem que:d7 1=[1]:=rfl
theorem Yl:n9 [1]:=g8 1
theorem qnl:d6 T0 X0 Yt [.d (.sl (L [1]))] []=some (.ret [.d (.int .i64 1)] []):=by
 have s:=Wt Yl (by simp);rw[show (if nv [1]=0 then (0:Int) else 32 * (qx6 (nv [1]) - 1) + xz (nth (d7 (nv [1])) ((d7 (nv [1])).length - 1)))=1 by decide] at s;exact s
theorem YP {n:Int} (h:nl n < 268435456):d6 T0 X0 qdk [.d (Wd n),.d (.sl (L [1]))] []=some (.ret [.d (Rt n)] []):=by
 have s1:=QS (m:=n) (by omega);have s2:=Qs Yl (by simp);rw[show d7 (nv [1])=[1] by rfl] at s2;have s3:=qli;have s4:=qmc (A:=n.natAbs) (B:=1) h (by decide);rw[Nat.gcd_one_right,show ((1:Nat):Int)=1 from rfl,que] at s4;have s5:=qnl;rw[c9 (af:=xY) rfl rfl rfl];have w:=JY [1];simp only[zE,kz] at s2 s3 s4 s5 w ⊢
 by_cases h0:n=0
 ·subst h0;unfold Rt;rw[Wd_0] at s1 ⊢;simp only[zE,kz];simp -implicitDefEqProofs (disch:=omega) [xY,s1,s2,s3,w,-qsx]
 ·have hne:¬ d7 (n.natAbs:Int)=[]:=fun e=>by have:=(xp (by omega)).1 e; omega
  unfold nl at h;have d1:Wd n = .agg [.bool (decide (n < 0)),.sl (L (d7 n.natAbs))]:=rfl;unfold Rt;rw[d1] at s1 ⊢;simp only[zE,kz];have lp:=d5 (T:=T0) (X:=X0) (pin:=0) (l:=vQ) rfl;generalize d7 ((n.natAbs:Nat):Int)=xa at *;simp -implicitDefEqProofs (disch:=omega) [xY,vR,lp,s1,s2,s4,s5,w,hne,-qsx]
def RtL (l:List Int):List D:=l.map Rt
def RtV (l:List Int):List V:=l.map fun n=>.d (Rt n)
@[simp] theorem RtL_len (l):(RtL l).length=l.length:=by simp[RtL]
@[simp] theorem RtV_len (l):(RtV l).length=l.length:=by simp[RtV]
@[simp] theorem q3l:RtV []=[]:=rfl
@[simp] theorem zll (l:List Int) (n:Int):RtV l++[.d (Rt n)]=RtV (l++[n]):=by simp[RtV]
@[simp] theorem q3m (l):(RtL l).map V.d=RtV l:=by simp[RtL,RtV,Function.comp_def]
theorem q3n {l:List Int} {i:Nat} (h:i < l.length):(RtL l)[i]? = some (Rt (nth l i)):=by simp[RtL,nth,h]
attribute [simp] q3n
@[simp] theorem zlk (l n):(RtV l).take n=RtV (l.take n):=by simp[RtV,List.map_take]
@[simp] theorem zgt (al:Loc→Bool) (l:List Int) (m:List Loc):qo al (RtV l) m=(RtV l,m):=by rw[← q3m]; exact wF ..
@[simp] theorem zji (h:Loc→Option Obj) (k:Nat) (l:List Int):ju (frz h (k + 1)) (RtV l)=some (RtL l,[]):=by
  induction l with
  | nil=>rfl
  | cons x xs ih=>
    show ju (frz h (k + 1)) (.d _ :: RtV xs)=_;simp only[ju,ih];rfl
theorem qvy (l:List Int):wl (RtL l)≤56:=by
 induction l with
 | nil=>simp[RtL,wl]
 | cons x xs ih=>
   show max (wt (Rt x)) (wl (RtL xs))≤56;have:wt (Rt x)=49:=rfl;omega
@[simp] theorem zfq (l):(wl (RtL l)≤56)=True:=eq_true (qvy l)
@[simp] theorem fit_RtL {n:Nat} {l:List Int} (h:n≤1099511627):(n * wl (RtL l)≤w8)=True:=eq_true (Nat.le_trans (Nat.mul_le_mul h (qvy l)) (by unfold w8; omega))
@[simp] theorem zk0 (n):(Rt n).cells.length=3:=rfl
@[simp] theorem zbv (n):(V.cells (.d (Rt n))).length=3:=rfl
@[simp] theorem zf2 (n):List.take 3 (V.d (Rt n)).cells=(V.d (Rt n)).cells:=rfl
@[simp] theorem zli (n):qvf (V.d (Rt n)).cells (qE (V.d (Rt n)).cells) = .d (Rt n):=rfl
theorem q2v {n:Int} (h:nl n < 1099511627776):S1 (.d (Rt n))=true:=by
 have:wl (L (d7 n.natAbs))≤4:=JY _;have h2:(d7 n.natAbs).length * wl (L (d7 n.natAbs))≤1099511627776 * 4:=Nat.mul_le_mul (Nat.le_of_lt h) this;have h3:wl (L [1])≤4:=JY _;simp only[zE,kz] at h3;simp[Rt,S1,XS];unfold w8; omega
attribute [simp] q2v
@[simp] theorem zis (h n):qw h 3 true (.d (.box (Rt n)))=val (.d (Rt n)):=by simp[Rt]
theorem Kf {n:Int} (h:nl n < 268435456):d6 T0 X0 qi7 [.d (Wd n)] []=some (.ret [.d (Rt n)] []):=by
 have s1:=qli;have s2:=YP h;rw[c9 (af:=ZQ) rfl rfl rfl];have w:=JY [1];have d:Rt n = .agg [.bool (decide (n < 0)),.sl (L (d7 n.natAbs)),.sl (L [1])]:=rfl;rw[d] at s2 ⊢;simp only[zE,kz] at w s1 s2 ⊢;simp -implicitDefEqProofs (disch:=omega) [ZQ,s1,s2,w]
theorem qbr {n:Int} (h:nl n < 268435456):d6 T0 X0 qi6 [.d (Rt n)] []=some (.ret [.d (Rt n)] []):=by
 have s2:=YP h;rw[c9 (af:=ZP) rfl rfl rfl];have w:=JY [1];have d:Rt n = .agg [.bool (decide (n < 0)),.sl (L (d7 n.natAbs)),.sl (L [1])]:=rfl;have d2:Wd n = .agg [.bool (decide (n < 0)),.sl (L (d7 n.natAbs))]:=rfl;rw[d2,d] at s2;rw[d];unfold nl at h;generalize d7 ((n.natAbs:Nat):Int)=xa at *;simp only[zE,kz] at w s2 ⊢;simp -implicitDefEqProofs (disch:=omega) [ZP,s2,w]
theorem qtw {m n:Int} (hm:nl m < 67108864) (hn:nl n < 67108864) (hp:nl (m * n) < 268435456):d6 T0 X0 qmk [.d (Rt m),.d (Rt n)] []=some (.ret [.d (Rt (m * n))] []):=by
 have s1:=qn3 (m:=m) (n:=n) (by omega) (by omega);have s2:=qls Yl Yl (by simp);rw[show d7 (nv [1] * nv [1])=[1] by rfl] at s2;have s3:=YP hp;rw[c9 (af:=Jm) rfl rfl rfl];have w:=JY [1]
 have d2:∀ n,Wd n = .agg [.bool (decide (n < 0)),.sl (L (d7 n.natAbs))]:=fun _=>rfl
 have d:∀ n,Rt n = .agg [.bool (decide (n < 0)),.sl (L (d7 n.natAbs)),.sl (L [1])]:=fun _=>rfl
 rw[d2,d2,d2] at s1;rw[d2,d] at s3;rw[d,d,d];unfold nl at hm hn hp;generalize m * n=mn at *;generalize d7 ((n.natAbs:Nat):Int)=xa at *;generalize d7 ((m.natAbs:Nat):Int)=xb at *;generalize d7 ((mn.natAbs:Nat):Int)=xc at *;simp only[zE,kz] at w s2 s3 ⊢;simp -implicitDefEqProofs (disch:=omega) [Jm,s1,s2,s3,w]
theorem qkv {n:Int} (h:nl n < 268435456):d6 T0 X0 qe2 [.d (Rt n)] []=some (.ret [.d (Wd n),.d (.bool true)] []):=by
 have s2:=qbr h;have s3:=qnl;rw[c9 (af:=Qi) rfl rfl rfl];have w:=JY [1];have d:Rt n = .agg [.bool (decide (n < 0)),.sl (L (d7 n.natAbs)),.sl (L [1])]:=rfl;have d2:Wd n = .agg [.bool (decide (n < 0)),.sl (L (d7 n.natAbs))]:=rfl;rw[d] at s2 ⊢;rw[d2];unfold nl at h;generalize d7 ((n.natAbs:Nat):Int)=xa at *;simp only[zE,kz] at w s2 s3 ⊢;simp -implicitDefEqProofs (disch:=omega) [Qi,s2,s3,w,-qsx]
def fsN (f:List Int):Nat→Int
 | 0=>0
 | n + 1=>if fsN f n=0 then (nth f n).sign else fsN f n
def gcN (f:List Int):Nat→Nat
 | 0=>0
 | n + 1=>Nat.gcd (gcN f n) (nth f n).natAbs
theorem qp2 {f:List Int} {k:Nat} (h:∀ i,nl (nth f i)≤k):∀ n,nl (gcN f n:Nat)≤k
 | 0=>by unfold gcN; simp
 | n + 1=>by
   unfold gcN;have h1:=qp2 h n;have h2:=h n;unfold nl at *
   by_cases h0:(nth f n).natAbs=0
   ·rw[h0,Nat.gcd_zero_right]; exact h1
   ·have:=Nat.gcd_le_right (gcN f n) (Nat.pos_of_ne_zero h0);exact Nat.le_trans (wN (by omega) (by omega)) h2
theorem q8k (f:List Int) (hl:f.length≤1000) (hf:∀ i,nl (nth f i)≤8388608):∀ d i,d + i=f.length→
 j6 T0 X0 0 X2 (some (.nrm,⟨[(0,.d (.sl (WL f))),(3,.d (.int .i64 (fsN f i))),(4,.ptr (.b 0) 0 0),(11,.d (.sl (WL f))),(12,.d (.int .i64 f.length)),(13,.d (.int .i64 i))],[.arr [.d (Wd (gcN f i:Nat))] ⟨2,0⟩]⟩)) =
  some (.exit 0,⟨[(0,.d (.sl (WL f))),(3,.d (.int .i64 (fsN f f.length))),(4,.ptr (.b 0) 0 0)],[.arr [.d (Wd (gcN f f.length:Nat))] ⟨2,0⟩]⟩):=by
 intro d
 induction d with
 | zero=>
   intro i hd
   have e:i=f.length:=by omega
   subst e;rw[d5 (l:=X2) rfl];simp -implicitDefEqProofs (disch:=omega) [X3]
 | succ d ih=>
   intro i hd
   have hi:i < f.length:=by omega
   have s1:=ih (i + 1) (by omega);have hfi:=hf i;have hg:=qp2 hf i;have s2:=KC (m:=nth f i) (by omega);have s3:=qvz (m:=(gcN f i:Nat)) (n:=nth f i) (by omega) (by omega);rw[Int.natAbs_natCast,show Nat.gcd (gcN f i) (nth f i).natAbs=gcN f (i + 1) from rfl] at s3;rw[d5 (l:=X2) rfl];rw[show fsN f (i + 1)=if fsN f i=0 then (nth f i).sign else fsN f i from rfl] at s1;simp only[Int.natCast_add,Int.cast_ofNat_Int] at s1;generalize ((gcN f i:Nat):Int)=g at *;generalize ((gcN f (i + 1):Nat):Int)=g' at *
   by_cases h0:fsN f i=0
   ·rw[if_pos h0] at s1;rw[h0];simp -implicitDefEqProofs (disch:=omega) [X3,s1,s2,s3]
   ·rw[if_neg h0] at s1;simp -implicitDefEqProofs (disch:=omega) [X3,s1,s3,h0]
def XL (s g x:Int):Int:=if s < 0 then -(x / g) else if s=0 then x else x / g
def XK (f:List Int):List Int:=f.map (XL (fsN f f.length) (gcN f f.length:Nat))
theorem q12 (f:List Int) (s g:Int) (hl:f.length≤1000) (hs:s≠0→g≠0) (hf:∀ i,nl (nth f i)≤8388608) (hg:nl g≤8388608) (hq:∀ i,nl (nth f i / g)≤8388608):∀ d i (out:List Int),d + i=f.length→out.length=f.length→
 j6 T0 X0 0 X1 (some (.nrm,⟨[(3,.d (.int .i64 s)),(4,.ptr (.b 0) 0 0),(7,.ref (.b 1) ⟨2,32⟩ 0 f.length),(28,.d (.sl (WL f))),(29,.d (.int .i64 f.length)),(30,.d (.int .i64 i))],[.arr [.d (Wd g)] ⟨2,0⟩,.arr (WV out) ⟨2,32⟩]⟩)) =
  some (.exit 2,⟨[(7,.ref (.b 0) ⟨2,32⟩ 0 f.length)],[.arr (WV (out.take i++(f.map (XL s g)).drop i)) ⟨2,32⟩]⟩):=by
 intro d
 induction d with
 | zero=>
   intro i out hd ho;rw[d5 (l:=X1) rfl];have h1:(f.map (XL s g)).drop i=[]:=List.drop_eq_nil_of_le (by simp; omega);have h2:out.take i=out:=List.take_of_length_le (by omega);rw[h1,h2];simp -implicitDefEqProofs (disch:=omega) [O8]
 | succ d ih=>
   intro i out hd ho
   have hi:i < f.length:=by omega
   rw[d5 (l:=X1) rfl]
   have h1:(f.map (XL s g)).drop i=XL s g (nth f i) :: (f.map (XL s g)).drop (i + 1):=by
    rw[List.drop_eq_getElem_cons (by simp; omega)];simp[nth,hi]
   have s5:=ih (i + 1) (out.set i (XL s g (nth f i))) (by omega) (by simp[ho])
   have h3:(out.set i (XL s g (nth f i))).take (i + 1)=out.take i++[XL s g (nth f i)]:=by
    rw[jP (by simp; omega),List.take_set_of_le (Nat.le_refl _),S7 (by omega),if_pos rfl]
   rw[h1,List.append_cons,← h3];have hfi:=hf i;have hqi:=hq i;have s1:=YE (m:=nth f i) (n:=g) (by omega) (by omega);have s2:=qn2 (m:=nth f i / g) (by omega);have s3:=QS (m:=nth f i) (by omega);have s4:=QS (m:=nth f i / g) (by omega);have s6:=QS (m:=-(nth f i / g)) (by unfold nl at *; rw[Int.natAbs_neg]; omega);simp only[Int.natCast_add,Int.cast_ofNat_Int] at s5
   by_cases c1:s < 0
   ·rw[if_neg (hs (by omega))] at s1;have e:XL s g (nth f i) = -(nth f i / g):=if_pos c1;rw[e] at s5 ⊢
    have c2:¬ s=0:=by omega
    have hn:nl (-(nth f i / g))≤8388608:=by unfold nl at *; rw[Int.natAbs_neg]; omega
    generalize -(nth f i / g)=x at *;generalize nth f i / g=q at *;simp -implicitDefEqProofs (disch:=omega) [O8,s1,s2,s5,s6,c1,c2]
   ·by_cases c2:s=0
    ·have e:XL s g (nth f i)=nth f i:=by unfold XL; rw[if_neg c1,if_pos c2]
     rw[e] at s5 ⊢;subst c2;simp -implicitDefEqProofs (disch:=omega) [O8,s3,s5]
    ·rw[if_neg (hs c2)] at s1
     have e:XL s g (nth f i)=nth f i / g:=by unfold XL; rw[if_neg c1,if_neg c2]
     rw[e] at s5 ⊢;generalize nth f i / g=q at *;simp -implicitDefEqProofs (disch:=omega) [O8,s1,s4,s5,c1,c2]
theorem qx7 (x g:Int):nl (x / g)≤nl x:=by
 unfold nl;exact wN (by omega) (by have:=Int.natAbs_ediv_le_natAbs x g; omega)
theorem qr2 {f:List Int}:∀ n,gcN f n=0→fsN f n=0
 | 0,_=>rfl
 | n + 1,h=>by
   unfold gcN at h;have h1:=Nat.eq_zero_of_gcd_eq_zero_left h;have h2:=Nat.eq_zero_of_gcd_eq_zero_right h;unfold fsN;rw[if_pos (qr2 n h1),show nth f n=0 by omega];rfl
theorem qyk {f:List Int} (hl:f.length≤1000) (hf:∀ i,nl (nth f i)≤8388608):d6 T0 X0 qao [.d (.sl (WL f))] []=some (.ret [.d (.sl (WL (XK f)))] []):=by
 have s1:=q8k f hl hf f.length 0 (by omega);have s2:=q12 f (fsN f f.length) (gcN f f.length:Nat) hl (fun h e=>h (qr2 _ (by omega))) hf (qp2 hf _) (fun i=>Nat.le_trans (qx7 _ _) (hf i)) f.length 0 (List.replicate f.length 0) (by omega) (by simp);simp only[Int.cast_ofNat_Int,fsN,gcN,List.take_zero,List.drop_zero,List.nil_append] at s1 s2;rw[show List.map (XL (fsN f f.length) (gcN f f.length:Nat)) f=XK f from rfl] at s2
 have e:(XK f).length=f.length:=by simp[XK]
 rw[c9 (af:=kQ) rfl rfl rfl];generalize XK f=out at *;have ht:out.take f.length=out:=List.take_of_length_le (by omega);simp -implicitDefEqProofs (disch:=omega) [kQ,s1,s2,e,ht]
def jQ (f:List Int):Bool:=f.all fun x=>decide (nl x≤32)
theorem qtc (f:List Int) (hl:f.length≤1000) (hf:∀ i,nl (nth f i)≤8388608):∀ d i,d + i=f.length→
 j6 T0 X0 0 zn (some (.nrm,⟨[(0,.d (.sl (WL f))),(6,.d (.sl (WL f))),(7,.d (.int .i64 f.length)),(8,.d (.int .i64 i))],[]⟩)) =
  some (if jQ (f.drop i)=true then (.exit 0,⟨[(0,.d (.sl (WL f)))],[]⟩) else (.ret,⟨[(2,.d (.sl [])),(3,.d (.int .i64 2))],[]⟩)):=by
 intro d
 induction d with
 | zero=>
   intro i hd;rw[d5 (l:=zn) rfl,List.drop_eq_nil_of_le (by omega),if_pos (show jQ []=true from rfl)];simp -implicitDefEqProofs (disch:=omega) [zo]
 | succ d ih=>
   intro i hd
   have hi:i < f.length:=by omega
   have s1:=ih (i + 1) (by omega);have hfi:=hf i;have s2:=qkb (m:=nth f i) (by omega);rw[d5 (l:=zn) rfl,M0 hi];rw[show jQ (nth f i :: f.drop (i + 1))=(decide (nl (nth f i)≤32) && jQ (f.drop (i + 1))) from rfl];simp only[Int.natCast_add,Int.cast_ofNat_Int] at s1
   by_cases c:nl (nth f i)≤32
   ·rw[decide_eq_true c,Bool.true_and];simp -implicitDefEqProofs (disch:=omega) [zo,s1,s2]
   ·rw[decide_eq_false c,Bool.false_and,if_neg (by decide)];simp -implicitDefEqProofs (disch:=omega) [zo,s2]
theorem qtb {f:List Int} (hl:f.length≤1000) (hf:∀ i,nl (nth f i)≤8388608):d6 T0 X0 qfb [.d (.sl (WL f))] []=some (.ret [.d (.sl (WL (if jQ f=true then f else []))),.d (.int .i64 (if jQ f=true then 0 else 2))] []):=by
 have s1:=qtc f hl hf f.length 0 (by omega);rw[List.drop_zero,show ((0:Nat):Int)=0 from rfl] at s1;rw[c9 (af:=jW) rfl rfl rfl]
 by_cases c:jQ f=true
 ·simp only[if_pos c] at s1 ⊢;simp -implicitDefEqProofs (disch:=omega) [jW,s1]
 ·simp only[if_neg c] at s1 ⊢;rw[show WL []=[] from rfl];simp -implicitDefEqProofs (disch:=omega) [jW,s1]
@[simp 10000] theorem q63 (n:Int):zO (.d (.agg [.bool false,.sl [],.sl []])) 0 (.d (Rt n))=some (.d (Rt n)):=rfl
@[simp] theorem zi3 (n:Int):isAgg (V.d (Rt n))=true:=rfl
@[simp] theorem den_Rt (n:Int):(V.d (Rt n)).cells[2]? = some (.d (.sl [.int .u32 1])):=rfl
@[simp] theorem ze4:qvf ((V.d (Wd 0)).cells.set 1 (V.d (.sl [.int .u32 1]))) (qE ((V.d (Wd 0)).cells.set 1 (V.d (.sl [.int .u32 1])))) = .d (Wd 1):=rfl
@[simp] theorem zjv:S1 (.d (Rt 1))=true:=rfl
theorem q1u:D.agg [.bool false,.sl [.int .u32 1]]=Wd 1:=rfl
theorem zkv (f:List Int) (hl:f.length≤1000) (hf:∀ i,nl (nth f i)≤8388608):∀ d i,d + i=f.length→
 j6 T0 X0 0 qh (some (.nrm,⟨[(0,.d (.sl (RtL f))),(4,.ptr (.b 0) 0 0),(18,.d (.sl (RtL f))),(19,.d (.int .i64 f.length)),(20,.d (.int .i64 i))],[.arr [.d (Wd 1)] ⟨2,0⟩]⟩)) =
  some (.exit 0,⟨[(0,.d (.sl (RtL f))),(4,.ptr (.b 0) 0 0)],[.arr [.d (Wd 1)] ⟨2,0⟩]⟩):=by
 intro d
 induction d with
 | zero=>
   intro i hd;rw[d5 (l:=qh) rfl];simp -implicitDefEqProofs (disch:=omega) [js]
 | succ d ih=>
   intro i hd
   have hi:i < f.length:=by omega
   have s1:=ih (i + 1) (by omega);have hfi:=hf i;have s2:=qbr (n:=nth f i) (by omega);have s3:=qvz (m:=1) (n:=1) (by decide) (by decide);rw[show ((Nat.gcd (1:Int).natAbs (1:Int).natAbs:Nat):Int)=1 from rfl] at s3;have s4:=YE (m:=1) (n:=1) (by decide) (by decide);rw[if_neg (by decide),show (1:Int) / 1=1 from rfl,show (1:Int) % 1=0 from rfl] at s4;have s5:=qn3 (m:=1) (n:=1) (by decide) (by decide);rw[show (1:Int) * 1=1 from rfl] at s5;rw[d5 (l:=qh) rfl];simp only[Int.natCast_add,Int.cast_ofNat_Int] at s1;simp -implicitDefEqProofs (disch:=omega) [js,s1,s2,s3,s4,s5,q1u]
theorem za1 (f:List Int) (hl:f.length≤1000) (hf:∀ i,nl (nth f i)≤8388608):∀ d i (out:List Int),d + i=f.length→out.length=f.length→
 j6 T0 X0 0 qg (some (.nrm,⟨[(4,.ptr (.b 0) 0 0),(11,.ref (.b 1) ⟨2,32⟩ 0 f.length),(44,.d (.sl (RtL f))),(45,.d (.int .i64 f.length)),(46,.d (.int .i64 i))],[.arr [.d (Wd 1)] ⟨2,0⟩,.arr (WV out) ⟨2,32⟩]⟩)) =
  some (.exit 2,⟨[(11,.ref (.b 0) ⟨2,32⟩ 0 f.length)],[.arr (WV (out.take i++f.drop i)) ⟨2,32⟩]⟩):=by
 intro d
 induction d with
 | zero=>
   intro i out hd ho;rw[d5 (l:=qg) rfl];have h1:f.drop i=[]:=List.drop_eq_nil_of_le (by omega);have h2:out.take i=out:=List.take_of_length_le (by omega);rw[h1,h2];simp -implicitDefEqProofs (disch:=omega) [jr]
 | succ d ih=>
   intro i out hd ho
   have hi:i < f.length:=by omega
   rw[d5 (l:=qg) rfl];have s5:=ih (i + 1) (out.set i (nth f i)) (by omega) (by simp[ho])
   have h3:(out.set i (nth f i)).take (i + 1)=out.take i++[nth f i]:=by
    rw[jP (by simp; omega),List.take_set_of_le (Nat.le_refl _),S7 (by omega),if_pos rfl]
   rw[M0 hi,List.append_cons,← h3];have hfi:=hf i;have s1:=Kf (n:=1) (by decide);have s2:=qtw (m:=nth f i) (n:=1) (by omega) (by decide) (by rw[Int.mul_one]; omega);rw[Int.mul_one] at s2;have s3:=qkv (n:=nth f i) (by omega);simp only[Int.natCast_add,Int.cast_ofNat_Int] at s5;simp -implicitDefEqProofs (disch:=omega) [jr,s1,s2,s3,s5]
def QO (f:List Int):List Int × Int:=if jQ (XK f)=true then (XK f,0) else ([],2)
theorem XJ (f:List Int):(XK f).length=f.length:=by simp[XK]
theorem q13 {f:List Int} (hf:∀ i,nl (nth f i)≤8388608) (i:Nat):nl (nth (XK f) i)≤8388608:=by
 by_cases hi:i < f.length
 ·have e:nth (XK f) i=XL (fsN f f.length) (gcN f f.length:Nat) (nth f i):=by simp[XK,nth,hi]
  rw[e];have h1:=hf i;have h2:=qx7 (nth f i) (gcN f f.length:Nat)
  have h3:∀ x:Int,nl (-x)=nl x:=fun x=>by unfold nl; rw[Int.natAbs_neg]
  unfold XL;split
  ·rw[h3]; omega
  ·split <;> omega
 ·rw[xN (by rw[XJ]; omega)]; simp
theorem qqp {f:List Int} (h0:0 < f.length) (hl:f.length≤1000) (hf:∀ i,nl (nth f i)≤8388608):d6 T0 X0 qdq [.d (.sl (RtL f))] []=some (.ret [.d (.sl (WL (QO f).1)),.d (.int .i64 (QO f).2)] []):=by
 have s1:=Xf (n:=1) (by omega);have s2:=zkv f hl hf f.length 0 (by omega);have s3:=za1 f hl hf f.length 0 (List.replicate f.length 0) (by omega) (by simp);simp only[Int.cast_ofNat_Int,List.take_zero,List.drop_zero,List.nil_append] at s2 s3;have s4:=qyk hl hf;have s5:=qtb (f:=XK f) (by rw[XJ]; exact hl) (q13 hf)
 have e:(if jQ (XK f)=true then XK f else [])=(QO f).1∧(if jQ (XK f)=true then 0 else 2)=(QO f).2:=by
  unfold QO; split <;> exact ⟨rfl,rfl⟩
 rw[e.1,e.2] at s5;have ht:f.take f.length=f:=List.take_length;have hne:¬ f=[]:=List.length_pos_iff.1 h0;have ll:=XJ f
 have lc:(QO f).1.length≤f.length:=by
  unfold QO; split
  ·exact Nat.le_of_eq ll
  ·simp
 rw[c9 (af:=vj) rfl rfl rfl];generalize QO f=cv at *;generalize XK f=lv at *;simp -implicitDefEqProofs (disch:=omega) [vj,s1,s2,s3,s4,s5,ht,hne]
def Xm (f:List Int) (n:Nat):List Int:=f.set n (-(nth f n))
theorem qbt (f n):(Xm f n).length=f.length:=by simp[Xm]
theorem qk0 {f:List Int} {n i:Nat} (hn:n < f.length):nth (Xm f n) i=if i=n then -(nth f n) else nth f i:=by
 unfold Xm;rw[S7 hn]
theorem qjq (f:List Int) (n:Nat) (hn:n < f.length) (hl:f.length≤1000) (hf:∀ i,nl (nth f i)≤8388608):∀ d i (out:List Int),d + i=f.length→out.length=i→
 j6 T0 X0 0 jm (some (.nrm,⟨[(1,.d (.int .i64 n)),(8,.ref (.b 0) ⟨3,56⟩ 0 i),(26,.d (.sl (WL f))),(27,.d (.int .i64 f.length)),(28,.d (.int .i64 i))],[.arr (RtV out) ⟨3,56⟩]⟩)) =
  some (.exit 0,⟨[(8,.ref (.b 0) ⟨3,56⟩ 0 f.length)],[.arr (RtV (out++(Xm f n).drop i)) ⟨3,56⟩]⟩):=by
 intro d;have gl:=qbt f n
 induction d with
 | zero=>
   intro i out hd ho;rw[d5 (l:=jm) rfl]
   have h2:i=f.length:=by omega
   subst h2;have h3:(Xm f n).drop f.length=[]:=List.drop_eq_nil_of_le (by omega);rw[h3,List.append_nil];simp -implicitDefEqProofs (disch:=omega) [jn]
 | succ d ih=>
   intro i out hd ho;rw[d5 (l:=jm) rfl]
   have hi:i < f.length:=by omega
   have h1:=M0 (xs:=Xm f n) (i:=i) (by omega);rw[qk0 hn] at h1;rw[h1];have hfi:=hf i;have s1:=qn2 (m:=nth f i) (by omega)
   have ng:∀ x:Int,nl (-x)=nl x:=fun x=>by unfold nl; rw[Int.natAbs_neg]
   have hni:=ng (nth f i);have s2:=Kf (n:=nth f i) (by omega);have s3:=Kf (n:=-nth f i) (by omega)
   have ht:out.take i=out:=by rw[← ho]; exact List.take_length
   by_cases c:i=n
   ·subst c;rw[if_pos rfl];have s4:=ih (i + 1) (out++[-nth f i]) (by omega) (by simp[ho]);simp only[Int.natCast_add,Int.cast_ofNat_Int] at s4;generalize -nth f i=x at *;simp -implicitDefEqProofs (disch:=omega) [jn,s1,s3,s4,ht]
   ·rw[if_neg c];have s4:=ih (i + 1) (out++[nth f i]) (by omega) (by simp[ho]);simp only[Int.natCast_add,Int.cast_ofNat_Int] at s4
    have c':¬ (i:Int)=(n:Int):=by omega
    simp -implicitDefEqProofs (disch:=omega) [jn,s2,s4,ht,c]
def qh5 (n:Nat) (x y:Nd):List Int × Bool:=
 if (q8 n (.two 45 x y)).2=true then ((QO (Xm (q8 n (.two 45 x y)).1 n)).1,decide ((QO (Xm (q8 n (.two 45 x y)).1 n)).2=0)) else ([],false)
theorem qjp {n:Nat} (hn:n≤16) {x y:Nd} (b:Bool) (fx:x.fine n) (fy:y.fine n) (wx:x.w≤4000000) (wy:y.w≤4000000) :
 d6 T0 X0 qmu [.d (cD x y b),.d (.int .i64 n)] []=some (.ret [.d (.sl (WL (qh5 n x y).1)),.d (.bool (qh5 n x y).2)] []):=by
 have hfine:(Nd.two 45 x y).fine n:=⟨.inr (.inl rfl),fx,fy⟩
 have hw:(Nd.two 45 x y).w≤8000000:=by unfold Nd.w; omega
 have s1:=QI n hn (.two 45 x y) hfine (by omega);rw[c9 (af:=kw) rfl rfl rfl];unfold qh5
 by_cases hc:(q8 n (.two 45 x y)).2=true
 ·rw[hc] at s1;rw[if_pos hc];rcases jR n (.two 45 x y) hfine with ⟨_,e⟩ | sh
  ·rw[e] at hc; cases hc
  have hfl:=sh.l
  have hb:∀ i,nl (nth (q8 n (.two 45 x y)).1 i)≤8388608:=fun i=>by
   by_cases hi:i < n + 1
   ·have:=sh.b i hi; omega
   ·rw[xN (by omega)]; simp
  generalize (q8 n (.two 45 x y)).1=f at *;have s2:=qjq f n (by omega) (by omega) hb f.length 0 [] (by omega) rfl
  have ng:∀ x:Int,nl (-x)=nl x:=fun x=>by unfold nl; rw[Int.natAbs_neg]
  have rl:=qbt f n
  have s3:=qqp (f:=Xm f n) (by omega) (by omega) (fun i=>by
   rw[qk0 (by omega)];split
   ·rw[ng]; exact hb n
   ·exact hb i)
  simp only[Int.cast_ofNat_Int,List.drop_zero,List.nil_append,q3l] at s2;have ht:(Xm f n).take f.length=Xm f n:=List.take_of_length_le (by omega)
  have lc:(QO (Xm f n)).1.length≤1000:=by
   unfold QO;split
   ·rw[XJ]; omega
   ·simp
  have hl:f.length≤1000:=by omega
  have k2:(QO (Xm f n)).2=0∨(QO (Xm f n)).2=2:=by unfold QO; split <;> simp
  generalize QO (Xm f n)=cv at *;generalize Xm f n=rv at *;simp only[cD,Nd.d] at s1 ⊢;rcases k2 with k2 | k2
  ·simp -implicitDefEqProofs (disch:=omega) [kw,s1,s2,s3,ht,k2]
  ·simp -implicitDefEqProofs (disch:=omega) [kw,s1,s2,s3,ht,k2]
 ·have hc:=Bool.eq_false_iff.2 hc;rw[hc] at s1;rw[hc,if_neg (by decide)];simp only[cD,Nd.d] at s1 ⊢;rw[show WL []=[] from rfl];generalize (q8 n (.two 45 x y)).1=f at *;simp -implicitDefEqProofs (disch:=omega) [kw,s1]
set_option maxHeartbeats 8000000
structure Ed where
 f:Int
 t:Int
 k:Int
 v:Int:=0
 tk:Int:=0
 mn:Int:=0
 row:List Int:=[]
 at_:Pl
 x:Option Nd:=none
 l:Option Nd:=none
 r:Option Nd:=none
 q:Bool:=false
def Ed.cs (e:Ed):List D:=[.int .i64 e.f,.int .i64 e.t,.int .i64 e.k,.int .i64 e.v,.int .i64 e.tk,.int .i64 e.mn,.sl (WL e.row),.int .i64 e.at_.b,.int .i64 e.at_.g,.int .i64 e.at_.l,.int .i64 e.at_.c,oD e.x,oD e.l,oD e.r,.bool e.q]
theorem zh2 (x:Option Nd):wt (oD x)=16:=by cases x with
 | none=>rfl
 | some x=>cases x <;> rfl
def edL:Lst Ed:=⟨fun e=>.agg e.cs,⟨15,160⟩,fun e=>by simp[wt,wts,Ed.cs,IntKind.bits,zh2],fun e=>rfl,by decide⟩
def txL:Lst (List UInt8):=⟨fun s=>.str s,⟨1,16⟩,fun s=>by simp[wt],fun s=>rfl,by decide⟩
structure Gb where
 vs:List (List UInt8)
 bs:List Bg
 ex:Int:=0
 edges:List Ed:=[]
 out:List (List Int):=[]
 inn:List (List Int):=[]
 marks:List (List UInt8):=[]
 md:List Int:=[]
 st:List (Int × Int):=[]
 hd:List (Int × Int):=[]
 long:Bool:=false
@[simp] theorem q5o:D.cells .nils=[.nils]:=rfl
def gcI:List Int→GC
 | []=>.d .nils
 | x :: l=>.g (LD inL (x :: l))
def jC (l:List (List Int)):List GC:=l.map gcI
@[simp] theorem zin (l):(jC l).length=l.length:=by simp[jC]
@[simp] theorem zc0 (l):jC l++[.d .nils]=jC (l++[[]]):=by simp[jC,gcI]
@[simp] theorem zfo (l):(LD inL l).all (fun x=>x.cells.length == 1)=true:=by
  induction l with
  | nil=>rfl
  | cons x l ih=>exact ih
def Zo (l:List (Int × Int)):List (D × V):=l.map fun x=>(.int .i64 x.1,.d (.int .i64 x.2))
@[simp] theorem renEs_I (al l m):kR al (Zo l) m=(Zo l,m):=by
  induction l with
  | nil=>rfl
  | cons x l ih=>
    show V4 (V.ren al (.d _) m) _=_;simp only[V.ren,q0m,Zo,List.map_cons] at ih ⊢;rw[show kR al (List.map (fun x=>(D.int IntKind.i64 x.1,V.d (D.int IntKind.i64 x.2))) l) m=_ from ih];rfl
@[simp] theorem mapLe_I (f l):ZW f (Zo l)=Zo l:=by
  induction l with
  | nil=>rfl
  | cons x l ih=>
    show (_,V.mapL f (.d _)) :: ZW f (Zo l)=_;rw[ih];rfl
def GH (g:Gb) (p e m:Bool):List Obj:=
 [.arr [.agg [.ptr (.b 1) 0 0,.d (.bool g.long)]] ⟨2,0⟩,
  .arr [.agg [.d (.sl (SL g.vs)),.d (.sl (LD bgL g.bs)),.d (.int .i64 g.ex),.ref (.b (sel e 9 2)) ⟨15,160⟩ 0 g.edges.length,.ref (.b (sel p (sel e 10 9) 3)) ⟨1,24⟩ 0 g.out.length,.ref (.b (sel p (sel e 11 10) 4)) ⟨1,24⟩ 0 g.inn.length,
   .ref (.b (sel m (sel p (sel e 12 11) (sel e 10 9)) 5)) ⟨1,16⟩ 0 g.marks.length,.ref (.b (sel m (sel p (sel e 13 12) (sel e 11 10)) 6)) ⟨1,8⟩ 0 g.md.length,.map (.b 7),.map (.b 8)]] ⟨10,0⟩,
  sel e .dead (.arr (LW edL g.edges) ⟨15,160⟩),sel p .dead (.gl (jC g.out) ⟨1,24⟩),sel p .dead (.gl (jC g.inn) ⟨1,24⟩),sel m .dead (.arr (LW txL g.marks) ⟨1,16⟩),sel m .dead (.arr (LW inL g.md) ⟨1,8⟩),.map (Zo g.st),.map (Zo g.hd)] ++
 sel e [.arr (LW edL g.edges) ⟨15,160⟩] []++sel p [.gl (jC g.out) ⟨1,24⟩,.gl (jC g.inn) ⟨1,24⟩] []++sel m [.arr (LW txL g.marks) ⟨1,16⟩,.arr (LW inL g.md) ⟨1,8⟩] []
@[simp] theorem q53 (l):(∀ x∈LW txL l,x.cells.length=1)=True:=q0c txL l
@[simp] theorem wl_ed (l):(wl (LD edL l)≤160)=True:=QT edL l
@[simp] theorem wl_tx (l):(wl (LD txL l)≤16)=True:=QT txL l
@[simp] theorem zfk (l s):LW txL l++[.d (.str s)]=LW txL (l++[s]):=wq txL l s
def Gb.point (g:Gb):Gb:={ g with out:=g.out++[[]],inn:=g.inn++[[]] }
theorem B0 (g:Gb) (h:g.out.length≤1000000) (h2:g.inn.length=g.out.length):d6 T0 X0 J3 [.ptr (.b 0) 0 0] (GH g false false false)=some (.ret [.d (.int .i64 g.out.length)] (GH g.point true false false)):=by
 rw[c9 (af:=J4) rfl rfl rfl];simp only[GH,Gb.point,j3,j7,List.cons_append,List.nil_append,List.append_nil];simp (maxSteps:=4000000) -implicitDefEqProofs (disch:=omega) [J4,h2]
def Gb.edge (g:Gb) (e:Ed):Gb:={ g with edges:=g.edges++[e],out:=g.out.set e.f.toNat (g.out.getD e.f.toNat []++[(g.edges.length:Int)]),inn:=g.inn.set e.t.toNat (g.inn.getD e.t.toNat []++[(g.edges.length:Int)]) }
theorem qvh (l f t k v tk mn row b gg ll c x lx rx q):LW edL l++[.d (.agg [.int .i64 f,.int .i64 t,.int .i64 k,.int .i64 v,.int .i64 tk,.int .i64 mn,.sl (WL row),.int .i64 b,.int .i64 gg,.int .i64 ll,.int .i64 c,oD x,oD lx,oD rx,.bool q])]=LW edL (l++[⟨f,t,k,v,tk,mn,row,⟨b,gg,ll,c⟩,x,lx,rx,q⟩]):=wq edL l ⟨f,t,k,v,tk,mn,row,⟨b,gg,ll,c⟩,x,lx,rx,q⟩
theorem qlw {l:List (List Int)} {i:Nat} (h:i < l.length):(jC l)[i]? = some (gcI (l.getD i [])):=by simp[jC,h]
theorem qym (l:List (List Int)) (i:Nat) (x:List Int):(jC l).set i (gcI x)=jC (l.set i x):=by simp[jC,List.map_set]
@[simp] theorem qqw (x l):LD inL (x :: l) = .int .i64 x :: LD inL l:=rfl
@[simp] theorem wl_i64 (n:Int):(wl [D.int .i64 n]≤8)=True:=eq_true (by show max 8 1≤8; decide)
@[simp] theorem wl_i64c (n:Int) (l):(wl (D.int .i64 n :: LD inL l)≤8)=True:=QT inL (n :: l)
theorem qvl (l:List Int) (n:Int):LD inL l++[D.int .i64 n]=LD inL (l++[n]):=by simp[LD,inL]
theorem qut (g:Gb) (e:Ed) (hf:0≤e.f∧e.f < g.out.length) (ht:0≤e.t∧e.t < g.inn.length) (h1:g.edges.length≤1000000) (h2:g.out.length≤1000000) (h3:g.inn.length≤1000000) (h4:∀ i,(g.out.getD i []).length≤1000000∧(g.inn.getD i []).length≤1000000) :
 d6 T0 X0 kp [.ptr (.b 0) 0 0,.d (.agg e.cs)] (GH g false false false)=some (.ret [] (GH (g.edge e) false true false)):=by
 obtain ⟨f,t,k,v,tk,mn,row,⟨b,gg,ll,c⟩,x,lx,rx,q⟩:=e;obtain ⟨f,rfl⟩:=Int.eq_ofNat_of_zero_le hf.1;obtain ⟨t,rfl⟩:=Int.eq_ofNat_of_zero_le ht.1;simp only[Int.ofNat_eq_natCast] at hf ht ⊢
 have hf:f < g.out.length:=by omega
 have ht:t < g.inn.length:=by omega
 have g1:=qlw hf;have g2:=qlw ht;obtain ⟨l1,_⟩:=h4 f;obtain ⟨_,l2⟩:=h4 t;rw[c9 (af:=qR) rfl rfl rfl];simp only[GH,Gb.edge,Ed.cs,j3,j7,List.cons_append,List.nil_append,List.append_nil,Int.toNat_natCast];simp only[← qym]
 have k1:f < (jC g.out).length:=by simpa using hf
 have k2:t < (jC g.inn).length:=by simpa using ht
 generalize g.out.getD f []=xs at *;generalize g.inn.getD t []=ys at *;generalize jC g.out=lo at *;generalize jC g.inn=li at *
 rcases xs with _ | ⟨x0,xs⟩ <;> rcases ys with _ | ⟨y0,ys⟩
 all_goals
  simp only[gcI,qjy,qqw,List.length_cons,List.length_nil] at g1 g2 l1 l2;have g3:=(List.getElem?_eq_some_iff.1 g1).2;have g4:=(List.getElem?_eq_some_iff.1 g2).2;simp (maxSteps:=4000000) -implicitDefEqProofs (disch:=omega) [qR,g1,g2,g3,g4,k1,k2,gcI,hf,ht,qvh,qvl]
structure Gok (g:Gb) (n N:Nat):Prop where
 vs:g.vs.length=n
 ol:g.out.length≤N
 il:g.inn.length=g.out.length
 el:g.edges.length≤N
 os:∀ i,(g.out.getD i []).length≤N
 is:∀ i,(g.inn.getD i []).length≤N
 ml:g.marks.length≤N
 dl:g.md.length=g.marks.length
theorem Gok.to {g:Gb} {n N M:Nat} (h:Gok g n N) (k:N≤M):Gok g n M:=⟨h.vs,by have:=h.ol; omega,h.il,by have:=h.el; omega,fun i=>by have:=h.os i; omega,fun i=>by have:=h.is i; omega,by have:=h.ml; omega,h.dl⟩
theorem qX (l:List (List Int)) (i:Nat):(l++[[]]).getD i []=l.getD i []:=by
 by_cases h:i < l.length
 ·simp[List.getElem?_append_left h]
 ·by_cases h2:i=l.length
  ·subst h2; simp
  ·simp[List.getElem?_eq_none (l:=l) (i:=i) (by omega),List.getElem?_eq_none (l:=l++[[]]) (i:=i) (by simp; omega)]
theorem Gok.point {g:Gb} {n N:Nat} (h:Gok g n N):Gok g.point n (N + 1):=⟨h.vs,by have:=h.ol; simp only[Gb.point,List.length_append,List.length_cons,List.length_nil]; omega,by have:=h.il; simp only[Gb.point,List.length_append,List.length_cons,List.length_nil]; omega,by have:=h.el; show g.edges.length≤_; omega,fun i=>by have:=h.os i; simp only[Gb.point,qX]; omega,fun i=>by have:=h.is i; simp only[Gb.point,qX]; omega,by have:=h.ml; show g.marks.length≤_; omega,h.dl⟩
theorem Yo {l:List (List Int)} {j i N:Nat} {x:Int} (h:∀ i,(l.getD i []).length≤N):((l.set j (l.getD j []++[x])).getD i []).length≤N + 1:=by
 have h1:=h i;have h2:=h j;simp only[List.getD_eq_getElem?_getD,List.getElem?_set] at h1 h2 ⊢;split
 ·split
  ·simp only[Option.getD_some,List.length_append,List.length_cons,List.length_nil]; omega
  ·simp
 ·omega
theorem Gok.edge {g:Gb} {n N:Nat} (h:Gok g n N) (e:Ed):Gok (g.edge e) n (N + 1):=⟨h.vs,by have:=h.ol; simp only[Gb.edge,List.length_set]; omega,by have:=h.il; simp only[Gb.edge,List.length_set]; omega,by have:=h.el; simp only[Gb.edge,List.length_append,List.length_cons,List.length_nil]; omega,fun i=>Yo h.os,fun i=>Yo h.is,by have:=h.ml; show g.marks.length≤_; omega,h.dl⟩
theorem Jz {g:Gb} {n N:Nat} (h:Gok g n N) (hN:N≤1000000) (e:Ed) (hf:0≤e.f∧e.f < g.out.length) (ht:0≤e.t∧e.t < g.out.length) :
 d6 T0 X0 kp [.ptr (.b 0) 0 0,.d (.agg e.cs)] (GH g false false false)=some (.ret [] (GH (g.edge e) false true false)):=
 qut g e hf (by rw[h.il]; exact ht) (by have:=h.el; omega) (by have:=h.ol; omega) (by have:=h.ol; have:=h.il; omega) fun i=>⟨by have:=h.os i; omega,by have:=h.is i; omega⟩
theorem qk1 {n:Nat} {x y:Nd} (fx:x.fine n) (fy:y.fine n):(qh5 n x y).1.length≤n + 1:=by
 unfold qh5;split
 ·rename_i hc;rcases jR n (.two 45 x y) ⟨.inr (.inl rfl),fx,fy⟩ with ⟨_,e⟩ | sh
  ·rw[e] at hc; cases hc
  ·have hl:=sh.l;show (QO _).1.length≤_;unfold QO;split
   ·rw[XJ,qbt]; omega
   ·simp
 ·simp
section
variable {g:Gb} {n N:Nat} (h:Gok g n N) (hN:N≤1000000) {f t:Int} (hf:0≤f∧f < g.out.length) (ht:0≤t∧t < g.out.length)
include h hN hf ht
theorem R8 (k:Int) (s:Sm):d6 T0 X0 Y5 [.ptr (.b 0) 0 0,.d (.int .i64 f),.d (.int .i64 t),.d (.int .i64 k),.d s.d] (GH g false false false)=some (.ret [] (GH (g.edge { f,t,k,at_:=s.at_ }) false true false)):=by
 have s1:=Jz h hN { f,t,k,at_:=s.at_ } hf ht;have s3:=Zh s.at_;rw[c9 (af:=Z0) rfl rfl rfl];simp only[Ed.cs,oD,WL,List.map_nil] at s1;generalize g.edge { f,t,k,at_:=s.at_ } = g' at *;simp only[GH,j3,j7,List.cons_append,List.nil_append,List.append_nil,Pl.cs] at s1 s3 ⊢;simp (maxSteps:=4000000) -implicitDefEqProofs (disch:=omega) [Z0,s1,s3,Pl.cs]
theorem YV (tk mn:Int) (s:Sm):d6 T0 X0 XW [.ptr (.b 0) 0 0,.d (.int .i64 f),.d (.int .i64 t),.d (.int .i64 tk),.d (.int .i64 mn),.d s.d] (GH g false false false)=some (.ret [] (GH (g.edge { f,t,k:=5,tk,mn,at_:=s.at_ }) false true false)):=by
 have s1:=Jz h hN { f,t,k:=5,tk,mn,at_:=s.at_ } hf ht;have s3:=Zh s.at_;rw[c9 (af:=qO) rfl rfl rfl];simp only[Ed.cs,oD,WL,List.map_nil] at s1;generalize g.edge { f,t,k:=5,tk,mn,at_:=s.at_ } = g' at *;simp only[GH,j3,j7,List.cons_append,List.nil_append,List.append_nil,Pl.cs] at s1 s3 ⊢;simp (maxSteps:=4000000) -implicitDefEqProofs (disch:=omega) [qO,s1,s3,Pl.cs]
def tEd (n:Nat) (f t:Int) (x y:Nd) (q b:Bool) (p:Pl):Ed:={ f,t,k:=6,tk:=if q=b then 1 else 0,row:=(qh5 n x y).1,at_:=p,l:=some x,r:=some y,q }
theorem wv (hn:n≤16) {vs:List (List UInt8)} (hv:vs.length=n) {x y:Nd} (hx:Xok vs x) (hy:Xok vs y) (q b:Bool) (s:Sm) :
 d6 T0 X0 qB [.ptr (.b 0) 0 0,.d (.int .i64 f),.d (.int .i64 t),.d (cD x y q),.d (.bool b),.d s.d] (GH g false false false)=some (.ret [] (GH (g.edge (tEd n f t x y q b s.at_)) false true false)):=by
 have s1:=Jz h hN (tEd n f t x y q b s.at_) hf ht;have s3:=Zh s.at_;have s4:=qjp hn q (hv ▸ hx.fine) (hv ▸ hy.fine) hx.w hy.w;rw[c9 (af:=R5) rfl rfl rfl];have hvs:=h.vs;have hrl:=qk1 (hv ▸ hx.fine) (hv ▸ hy.fine) (n:=n);generalize hg:g.edge (tEd n f t x y q b s.at_)=g' at *;simp only[Ed.cs,tEd,oD,cD] at s1 s4 ⊢;generalize (qh5 n x y)=rr at *
 by_cases hq:q=b
 ·subst hq;simp only[GH,j3,j7,List.cons_append,List.nil_append,List.append_nil,Pl.cs,if_true] at s1 s3 s4 ⊢;simp (maxSteps:=4000000) -implicitDefEqProofs (disch:=omega) [R5,s1,s3,s4,hvs,Pl.cs]
 ·have hq2:(q == b)=false:=by cases q <;> cases b <;> simp_all
  simp only[GH,j3,j7,List.cons_append,List.nil_append,List.append_nil,Pl.cs,if_neg hq] at s1 s3 s4 ⊢;simp (maxSteps:=4000000) -implicitDefEqProofs (disch:=omega) [R5,s1,s3,s4,hvs,Pl.cs,hq2,hq]
end
def zp (F:List Int):Bool:=F.any fun x=>decide (32 < nl x)
theorem qys (F:List Int) (hF:F.length≤1000000) (hw:∀ x∈F,nl x < 134217728):∀ d i (e:List (Nat × V)),d + i=F.length→zp (F.take i)=false→
 j6 T0 X0 0 xf (some (.nrm,⟨(7,.d (.sl [.sl (WL F)])) :: (8,.d (.int .i64 1)) :: (9,.d (.int .i64 0)) :: (13,.d (.sl (WL F))) :: (14,.d (.int .i64 F.length)) :: (15,.d (.int .i64 i)) :: e,[]⟩)) =
  if zp F=true then some (.ret,⟨[(2,.d (.bool true))],[]⟩) else some (.exit 2,⟨[(7,.d (.sl [.sl (WL F)])),(8,.d (.int .i64 1)),(9,.d (.int .i64 0))],[]⟩):=by
 intro d
 induction d with
 | zero=>
   intro i e hi hp
   have:i=F.length:=by omega
   subst this;rw[List.take_length] at hp;rw[hp,d5 (l:=xf) rfl];simp -implicitDefEqProofs (disch:=omega) [xh]
 | succ d ih=>
   intro i e hi hp
   have hlt:i < F.length:=by omega
   have hget:(WL F)[i]? = some (Wd (F[i])):=by simp[WL,hlt]
   have s1:=qkb (m:=F[i]) (by have:=hw _ (List.getElem_mem hlt); omega);have hnl:=hw _ (List.getElem_mem hlt)
   have ha:zp (F.take (i + 1))=(zp (F.take i) || decide (32 < nl (F[i]))):=by unfold zp; rw[List.take_succ_eq_append_getElem hlt,List.any_append]; simp
   rw[hp,Bool.false_or] at ha;rw[d5 (l:=xf) rfl]
   by_cases hl:32 < nl (F[i])
   ·have:zp F=true:=by
     unfold zp;rw[List.any_eq_true];exact ⟨_,List.getElem_mem hlt,by simpa using hl⟩
    rw[if_pos this];generalize F[i]=w at *;simp -implicitDefEqProofs (disch:=omega) [xh,hget,s1]
   ·rw[← ih (i + 1) [] (by omega) (by rw[ha]; simpa using hl)];generalize F[i]=w at *;simp -implicitDefEqProofs (disch:=omega) [xh,hget,s1]
theorem qnz {F:List Int} (hF:F.length≤1000000) (hw:∀ x∈F,nl x < 134217728):d6 T0 X0 qjk [.d (.sl [.sl (WL F)])] []=some (.ret [.d (.bool (zp F))] []):=by
 have s1:=qys F hF hw F.length 0 [] (by simp) rfl;rw[c9 (af:=wo) rfl rfl rfl];simp only[Int.cast_ofNat_Int] at s1;have hwl:(wl [D.sl (WL F)]≤w8)=True:=eq_true (by simp[wl,wt,w8])
 by_cases hl:zp F=true
 ·rw[if_pos hl] at s1;rw[hl];simp -implicitDefEqProofs (disch:=omega) [wo,d5 (l:=kO) rfl,kP,s1,hwl]
 ·rw[if_neg hl] at s1
  have hl:zp F=false:=by simpa using hl
  rw[hl];simp -implicitDefEqProofs (disch:=omega) [wo,d5 (l:=kO) rfl,kP,s1,hwl]
@[simp] theorem wl_sl1 (xs:List D):wl [.sl xs]=24:=by simp[wl,wt]
def qk9:List (Int × Int)→Int→Int→List (Int × Int)
 | [],k,v=>[(k,v)]
 | (a,b) :: l,k,v=>if k=a then (a,v) :: l else (a,b) :: qk9 l k v
theorem q7p (l k v):KQ (Zo l) (.int .i64 k) (.d (.int .i64 v))=Zo (qk9 l k v):=by
 induction l with
 | nil=>rfl
 | cons x l ih=>
   obtain ⟨a,b⟩:=x;show (if I5 (.int .i64 k) (.int .i64 a)=true then _ else _)=_
   by_cases h:k=a
   ·subst h; simp[I5,qk9,Zo]
   ·simp only[I5,qk9,if_neg h];rw[if_neg (by simp[h])];show _ :: KQ (Zo l) _ _=_;rw[ih];rfl
attribute [simp] q7p
def Gb.mark (g:Gb) (s:List UInt8) (at_:Int):Gb:={ g with marks:=g.marks++[s],md:=g.md++[at_] }
def Gb.start (g:Gb) (b at_:Int):Gb:={ g with st:=qk9 g.st b at_ }
def Gb.head (g:Gb) (b h:Int):Gb:={ g with hd:=qk9 g.hd b h }
def kD (p:Pl) (j:Int):List Int→Gb→Gb
 | [],g=>g
 | e :: l,g=>kD p j l (g.edge { f:=e,t:=j,k:=1,at_:=p })
mutual
def Sm.bld (n:Nat):Sm→Gb→Int→Gb × Int
 | .set p v _ e,g,a=>match e with
   | none=>(g.point.edge { f:=a,t:=g.out.length,k:=3,v,at_:=p },g.out.length)
   | some x=>if (q8 n x).2=true then ({ g.point with long:=g.long || zp (q8 n x).1 }.edge { f:=a,t:=g.out.length,k:=2,v,row:=(q8 n x).1,at_:=p,x:=some x },g.out.length)
     else (g.point.edge { f:=a,t:=g.out.length,k:=4,v,at_:=p,x:=some x },g.out.length)
 | .skip p,g,a=>(g.point.edge { f:=a,t:=g.out.length,k:=1,at_:=p },g.out.length)
 | .stop _,g,_=>(g.point,g.out.length)
 | .mark _ s,g,a=>(g.mark s a,a)
 | .choose p bs,g,a=>let r:=Bls.bld n p a bs.length 0 bs g; (kD p r.1.out.length r.2 r.1.point,r.1.out.length)
 | .loop p b,g,a=>let h:Int:=g.out.length; let i:Int:=g.out.length + 1
   let r:=Sms.bld n b ((g.point.edge { f:=a,t:=h,k:=1,at_:=p }).point.edge { f:=h,t:=i,k:=5,tk:=1,mn:=2,at_:=p }) i
   let g1:=r.1.edge { f:=r.2,t:=h,k:=1,at_:=p }
   (g1.point.edge { f:=h,t:=g1.out.length,k:=5,tk:=0,mn:=2,at_:=p },g1.out.length)
 | .ifs p x y q b,g,a=>let i:Int:=g.out.length
   let r:=Sms.bld n b (g.point.edge (tEd n a i x y q true p)) i
   let two:Int:=r.1.out.length
   let g2:=r.1.point.edge (tEd n a two x y q false p)
   let j:Int:=g2.out.length
   ((g2.point.edge { f:=r.2,t:=j,k:=1,at_:=p }).edge { f:=two,t:=j,k:=1,at_:=p },j)
 | .ife p x y q b _ e,g,a=>let i:Int:=g.out.length
   let r:=Sms.bld n b (g.point.edge (tEd n a i x y q true p)) i
   let two:Int:=r.1.out.length
   let r2:=Sms.bld n e (r.1.point.edge (tEd n a two x y q false p)) two
   let j:Int:=r2.1.out.length
   ((r2.1.point.edge { f:=r.2,t:=j,k:=1,at_:=p }).edge { f:=r2.2,t:=j,k:=1,at_:=p },j)
 | .while p x y q b,g,a=>let h:Int:=g.out.length; let i:Int:=g.out.length + 1
   let r:=Sms.bld n b (((g.point.head p.b h).edge { f:=a,t:=h,k:=1,at_:=p }).point.edge (tEd n h i x y q true p)) i
   let g1:=r.1.edge { f:=r.2,t:=h,k:=1,at_:=p }
   (g1.point.edge (tEd n h g1.out.length x y q false p),g1.out.length)
def Sms.bld (n:Nat):List Sm→Gb→Int→Gb × Int
 | [],g,a=>(g,a)
 | s :: l,g,a=>Sms.bld n l (s.bld n (g.start s.at_.b a) a).1 (s.bld n (g.start s.at_.b a) a).2
def Bls.bld (n:Nat) (p:Pl) (f mn:Int):Int→List Bl→Gb→Gb × List Int
 | _,[],g=>(g,[])
 | i,.mk _ b :: l,g=>let r:=Sms.bld n b (g.point.edge { f,t:=g.out.length,k:=5,tk:=i,mn,at_:=p }) g.out.length
   let z:=Bls.bld n p f mn (i + 1) l r.1
   (z.1,r.2 :: z.2)
end
def Sm.fn:Sm→FuncId
 | .set ..=>I0
 | .skip ..=>E6
 | .stop ..=>E5
 | .mark ..=>E7
 | .choose ..=>B4
 | .loop ..=>E8
 | .ifs ..=>w9
 | .ife ..=>w9
 | .while ..=>C4
theorem qv0 (g:Gb) (s:Sm):d6 T0 X0 JM [.ptr (.b 0) 0 0,.d s.d] (GH g false false false)=some (.ret [.fn (s.fn + fB) [.ptr (.b 0) 0 0]] (GH g false false false)):=by
 rw[c9 (af:=zA) rfl rfl rfl]
 cases s <;> simp only[GH,j3,j7,List.cons_append,List.nil_append,List.append_nil,Sm.d,Sm.fn]
 all_goals
  simp (maxSteps:=4000000) -implicitDefEqProofs (disch:=omega) [zA,x8,T3,Q5,V0,qk,U9,U8,Q4]
section
variable {g:Gb} {n N:Nat} (h:Gok g n N) (hN:N≤900000) {a:Int} (ha:0≤a∧a < g.out.length)
include h hN ha
theorem qia:g.point.out.length=g.out.length + 1:=by simp[Gb.point]
theorem qtn (p:Pl):d6 T0 X0 E6 [.ptr (.b 0) 0 0,.d (Sm.skip p).d,.d (.int .i64 a)] (GH g false false false)=some (.ret [.d (.int .i64 ((Sm.skip p).bld n g a).2)] (GH ((Sm.skip p).bld n g a).1 true true false)):=by
 have ho:=h.ol;have s1:=B0 g (by omega) h.il;have s2:=R8 h.point (by omega) (f:=a) (t:=g.out.length) (by rw[qia h hN ha]; omega) (by rw[qia h hN ha]; omega) 1 (.skip p);rw[c9 (af:=qN) rfl rfl rfl];simp only[Sm.bld,Sm.at_] at s2 ⊢;generalize (g.point.edge { f:=a,t:=g.out.length,k:=1,at_:=p })=g' at *;generalize g.point=g1 at *;simp only[GH,j3,j7,List.cons_append,List.nil_append,List.append_nil] at s1 s2 ⊢;simp (maxSteps:=4000000) -implicitDefEqProofs (disch:=omega) [qN,s1,s2]
theorem qtj (p:Pl):d6 T0 X0 E5 [.ptr (.b 0) 0 0,.d (Sm.stop p).d,.d (.int .i64 a)] (GH g false false false)=some (.ret [.d (.int .i64 ((Sm.stop p).bld n g a).2)] (GH ((Sm.stop p).bld n g a).1 true false false)):=by
 have ho:=h.ol;have s1:=B0 g (by omega) h.il;rw[c9 (af:=qM) rfl rfl rfl];simp only[Sm.bld];generalize g.point=g1 at *;simp only[GH,j3,j7,List.cons_append,List.nil_append,List.append_nil] at s1 ⊢;simp (maxSteps:=4000000) -implicitDefEqProofs (disch:=omega) [qM,s1]
theorem qpq (p:Pl) (s:List UInt8):d6 T0 X0 E7 [.ptr (.b 0) 0 0,.d (Sm.mark p s).d,.d (.int .i64 a)] (GH g false false false)=some (.ret [.d (.int .i64 ((Sm.mark p s).bld n g a).2)] (GH ((Sm.mark p s).bld n g a).1 false false true)):=by
 have h1:=h.ml;have h2:=h.dl;have htk:g.md.take g.marks.length=g.md:=List.take_of_length_le (by omega);rw[c9 (af:=qP) rfl rfl rfl];simp only[Sm.bld,Gb.mark,GH,j3,j7,List.cons_append,List.nil_append,List.append_nil,Sm.d];simp (maxSteps:=4000000) -implicitDefEqProofs (disch:=omega) [qP,h2,htk]
end
end Go.Rf
