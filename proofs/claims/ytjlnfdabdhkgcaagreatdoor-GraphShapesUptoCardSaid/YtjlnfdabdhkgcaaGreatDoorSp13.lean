/- Parts of the proof: SpH2, SpH3, SpH4, SpK3, SpQ1, SpQ2, SpQ3. -/
import Derived.Test.YtjlnfdabdhkgcaaGreatDoorRb2
import Derived.Test.YtjlnfdabdhkgcaaGreatDoorSp12
import Derived.Test.YtjlnfdabdhkgcaaGreatDoorSp11
import Derived.Test.YtjlnfdabdhkgcaaGreatDoorSp8

set_option linter.unusedSimpArgs false
set_option linter.unusedVariables false
set_option linter.unnecessarySimpa false
set_option linter.unusedSectionVars false
set_option linter.all false
namespace Go.Rf
def RtL (l:List Int):List D:=l.map Rt
def RtV (l:List Int):List V:=l.map fun n=>.d (Rt n)
@[simp] theorem RtL_len (l):(RtL l).length=l.length:=by simp[RtL]
@[simp] theorem RtV_len (l):(RtV l).length=l.length:=by simp[RtV]
@[simp] theorem RtL_nil:RtL []=[]:=rfl
@[simp] theorem q1r:RtV []=[]:=rfl
@[simp] theorem zm4 (l:List Int) (n:Int):RtV l++[.d (Rt n)]=RtV (l++[n]):=by simp[RtV]
@[simp] theorem zm6 (l:List Int) (n:Int):RtL l++[Rt n]=RtL (l++[n]):=by simp[RtL]
@[simp] theorem qrg (l):(RtL l).map V.d=RtV l:=by simp[RtL,RtV,Function.comp_def]
@[simp] theorem zm5 (l n):(RtL l).take n=RtL (l.take n):=by simp[RtL,List.map_take]
theorem q1s {l:List Int} {i:Nat} (h:i < l.length):(RtL l)[i]? = some (Rt (nth l i)):=by simp[RtL,nth,h]
attribute [simp] q1s
@[simp] theorem zm3 (l n):(RtV l).take n=RtV (l.take n):=by simp[RtV,List.map_take]
@[simp] theorem zmu (l):S9 (RtV l)=some (RtL l):=by rw[← qrg]; exact qd7 _
@[simp] theorem zhj (al:Loc→Bool) (l:List Int) (m:List Loc):qN al (RtV l) m=(RtV l,m):=by rw[← qrg]; exact wQ ..
@[simp] theorem zc2 (f:Loc→Loc) (l:List Int):Q1 f (RtV l)=RtV l:=by
  induction l with
  | nil=>rfl
  | cons x xs ih=>
    show V.mapL f (.d _) :: Q1 f (RtV xs)=_;rw[ih];rfl
@[simp] theorem zkj (h:Loc→Option Obj) (k:Nat) (l:List Int):jP (frz h (k + 1)) (RtV l)=some (RtL l,[]):=by
  induction l with
  | nil=>rfl
  | cons x xs ih=>
    show jP (frz h (k + 1)) (.d _ :: RtV xs)=_;simp only[jP,ih];rfl
@[simp] theorem zf4 (l):(∀ x∈RtV l,x.cells.length=3)=True:=eq_true (by
  intro x hx;obtain ⟨n,_,rfl⟩:=List.mem_map.1 hx
  rfl)
theorem qt8 (l:List Int):wl (RtL l)≤56:=by
 induction l with
 | nil=>simp[RtL,wl]
 | cons x xs ih=>
   show max (wt (Rt x)) (wl (RtL xs))≤56;have:wt (Rt x)=49:=rfl;omega
@[simp] theorem zgb (l):(wl (RtL l)≤56)=True:=eq_true (qt8 l)
@[simp] theorem fit_RtL {n:Nat} {l:List Int} (h:n≤1099511627):(n * wl (RtL l)≤A5)=True:=eq_true (Nat.le_trans (Nat.mul_le_mul h (qt8 l)) (by unfold A5; omega))
@[simp] theorem zf5 (l):(∀ x∈RtL l,x.cells.length=3)=True:=eq_true (by
  intro x hx;obtain ⟨n,_,rfl⟩:=List.mem_map.1 hx
  rfl)
@[simp] theorem zl6 (n):(Rt n).cells.length=3:=rfl
@[simp] theorem zbp (n):(V.cells (.d (Rt n))).length=3:=rfl
@[simp] theorem aggO_Rt (n):qd9 (List.take 3 (V.d (Rt n)).cells) (S9 (List.take 3 (V.d (Rt n)).cells)) = .d (Rt n):=rfl
@[simp] theorem zgp (n):List.take 3 (V.d (Rt n)).cells=(V.d (Rt n)).cells:=rfl
@[simp] theorem zmx (n):qd9 (V.d (Rt n)).cells (S9 (V.d (Rt n)).cells) = .d (Rt n):=rfl
theorem q05 {n:Int} (h:nl n < 1099511627776):N6 (.d (Rt n))=true:=by
 have:wl (L (d6 n.natAbs))≤4:=JT _;have h2:(d6 n.natAbs).length * wl (L (d6 n.natAbs))≤1099511627776 * 4:=Nat.mul_le_mul (Nat.le_of_lt h) this;have h3:wl (L [1])≤4:=JT _;simp only[zT,kS] at h3;simp[Rt,N6,jQ];unfold A5; omega
attribute [simp] q05
@[simp] theorem zjt (h n):S7 h 3 true (.d (.box (Rt n)))=val (.d (Rt n)):=by simp[Rt]
theorem Kp {n:Int} (h:nl n < 268435456):d5 T0 X0 qii [.d (Wd n)] []=some (.ret [.d (Rt n)] []):=by
 have s1:=qkn;have s2:=Wo h;rw[a8 (af:=ZP) rfl rfl rfl];have w:=JT [1];have d:Rt n = .agg [.bool (decide (n < 0)),.sl (L (d6 n.natAbs)),.sl (L [1])]:=rfl;rw[d] at s2 ⊢;simp only[zT,kS] at w s1 s2 ⊢;simp -implicitDefEqProofs (disch:=omega) [ZP,s1,s2,w]
theorem qbw {n:Int} (h:nl n < 268435456):d5 T0 X0 qih [.d (Rt n)] []=some (.ret [.d (Rt n)] []):=by
 have s2:=Wo h;rw[a8 (af:=ZO) rfl rfl rfl];have w:=JT [1];have d:Rt n = .agg [.bool (decide (n < 0)),.sl (L (d6 n.natAbs)),.sl (L [1])]:=rfl;have d2:Wd n = .agg [.bool (decide (n < 0)),.sl (L (d6 n.natAbs))]:=rfl;rw[d2,d] at s2;rw[d];unfold nl at h;generalize d6 ((n.natAbs:Nat):Int)=xa at *;simp only[zT,kS] at w s2 ⊢;simp -implicitDefEqProofs (disch:=omega) [ZO,s2,w]
theorem qsc {m n:Int} (hm:nl m < 67108864) (hn:nl n < 67108864) (hp:nl (m * n) < 268435456):d5 T0 X0 ql3 [.d (Rt m),.d (Rt n)] []=some (.ret [.d (Rt (m * n))] []):=by
 have s1:=qnk (m:=m) (n:=n) (by omega) (by omega);have s2:=qkx YC YC (by simp);rw[show d6 (nv [1] * nv [1])=[1] by rfl] at s2;have s3:=Wo hp;rw[a8 (af:=Jq) rfl rfl rfl];have w:=JT [1]
 have d2:∀ n,Wd n = .agg [.bool (decide (n < 0)),.sl (L (d6 n.natAbs))]:=fun _=>rfl
 have d:∀ n,Rt n = .agg [.bool (decide (n < 0)),.sl (L (d6 n.natAbs)),.sl (L [1])]:=fun _=>rfl
 rw[d2,d2,d2] at s1;rw[d2,d] at s3;rw[d,d,d];unfold nl at hm hn hp;generalize m * n=mn at *;generalize d6 ((n.natAbs:Nat):Int)=xa at *;generalize d6 ((m.natAbs:Nat):Int)=xb at *;generalize d6 ((mn.natAbs:Nat):Int)=xc at *;simp only[zT,kS] at w s2 s3 ⊢;simp -implicitDefEqProofs (disch:=omega) [Jq,s1,s2,s3,w]
theorem qj8 {n:Int} (h:nl n < 268435456):d5 T0 X0 qev [.d (Rt n)] []=some (.ret [.d (Wd n),.d (.bool true)] []):=by
 have s2:=qbw h;have s3:=qm3;rw[a8 (af:=Qr) rfl rfl rfl];have w:=JT [1];have d:Rt n = .agg [.bool (decide (n < 0)),.sl (L (d6 n.natAbs)),.sl (L [1])]:=rfl;have d2:Wd n = .agg [.bool (decide (n < 0)),.sl (L (d6 n.natAbs))]:=rfl;rw[d] at s2 ⊢;rw[d2];unfold nl at h;generalize d6 ((n.natAbs:Nat):Int)=xa at *;simp only[zT,kS] at w s2 s3 ⊢;simp -implicitDefEqProofs (disch:=omega) [Qr,s2,s3,w,-qre]
def fsN (f:List Int):Nat→Int
 | 0=>0
 | n + 1=>if fsN f n=0 then (nth f n).sign else fsN f n
def gcN (f:List Int):Nat→Nat
 | 0=>0
 | n + 1=>Nat.gcd (gcN f n) (nth f n).natAbs
theorem qo9 {f:List Int} {k:Nat} (h:∀ i,nl (nth f i)≤k):∀ n,nl (gcN f n:Nat)≤k
 | 0=>by unfold gcN; simp
 | n + 1=>by
   unfold gcN;have h1:=qo9 h n;have h2:=h n;unfold nl at *
   by_cases h0:(nth f n).natAbs=0
   ·rw[h0,Nat.gcd_zero_right]; exact h1
   ·have:=Nat.gcd_le_right (gcN f n) (Nat.pos_of_ne_zero h0);exact Nat.le_trans (wY (by omega) (by omega)) h2
theorem q7r (f:List Int) (hl:f.length≤1000) (hf:∀ i,nl (nth f i)≤8388608):∀ d i,d + i=f.length→
 j0 T0 X0 0 Z7 (some (.nrm,⟨[(0,.d (.sl (WL f))),(3,.d (.int .i64 (fsN f i))),(4,.ptr (.b 0) 0 0),(11,.d (.sl (WL f))),(12,.d (.int .i64 f.length)),(13,.d (.int .i64 i))],[.arr [.d (Wd (gcN f i:Nat))] ⟨2,0⟩]⟩)) =
  some (.exit 0,⟨[(0,.d (.sl (WL f))),(3,.d (.int .i64 (fsN f f.length))),(4,.ptr (.b 0) 0 0)],[.arr [.d (Wd (gcN f f.length:Nat))] ⟨2,0⟩]⟩):=by
 intro d
 induction d with
 | zero=>
   intro i hd
   have e:i=f.length:=by omega
   subst e;rw[c9 (l:=Z7) rfl];simp -implicitDefEqProofs (disch:=omega) [Z8]
 | succ d ih=>
   intro i hd
   have hi:i < f.length:=by omega
   have s1:=ih (i + 1) (by omega);have hfi:=hf i;have hg:=qo9 hf i;have s2:=KS (m:=nth f i) (by omega);have s3:=qt9 (m:=(gcN f i:Nat)) (n:=nth f i) (by omega) (by omega);rw[Int.natAbs_natCast,show Nat.gcd (gcN f i) (nth f i).natAbs=gcN f (i + 1) from rfl] at s3;rw[c9 (l:=Z7) rfl];rw[show fsN f (i + 1)=if fsN f i=0 then (nth f i).sign else fsN f i from rfl] at s1;simp only[Int.natCast_add,Int.cast_ofNat_Int] at s1;generalize ((gcN f i:Nat):Int)=g at *;generalize ((gcN f (i + 1):Nat):Int)=g' at *
   by_cases h0:fsN f i=0
   ·rw[if_pos h0] at s1;rw[h0];simp -implicitDefEqProofs (disch:=omega) [Z8,s1,s2,s3]
   ·rw[if_neg h0] at s1;simp -implicitDefEqProofs (disch:=omega) [Z8,s1,s3,h0]
end Go.Rf

namespace Go.Rf
def XS (s g x:Int):Int:=if s < 0 then -(x / g) else if s=0 then x else x / g
def XR (f:List Int):List Int:=f.map (XS (fsN f f.length) (gcN f f.length:Nat))
theorem q0g (f:List Int) (s g:Int) (hl:f.length≤1000) (hs:s≠0→g≠0) (hf:∀ i,nl (nth f i)≤8388608) (hg:nl g≤8388608) (hq:∀ i,nl (nth f i / g)≤8388608):∀ d i (out:List Int),d + i=f.length→out.length=f.length→
 j0 T0 X0 0 Z6 (some (.nrm,⟨[(3,.d (.int .i64 s)),(4,.ptr (.b 0) 0 0),(7,.ref (.b 1) ⟨2,32⟩ 0 f.length),(28,.d (.sl (WL f))),(29,.d (.int .i64 f.length)),(30,.d (.int .i64 i))],[.arr [.d (Wd g)] ⟨2,0⟩,.arr (WV out) ⟨2,32⟩]⟩)) =
  some (.exit 2,⟨[(7,.ref (.b 0) ⟨2,32⟩ 0 f.length)],[.arr (WV (out.take i++(f.map (XS s g)).drop i)) ⟨2,32⟩]⟩):=by
 intro d
 induction d with
 | zero=>
   intro i out hd ho;rw[c9 (l:=Z6) rfl];have h1:(f.map (XS s g)).drop i=[]:=List.drop_eq_nil_of_le (by simp; omega);have h2:out.take i=out:=List.take_of_length_le (by omega);rw[h1,h2];simp -implicitDefEqProofs (disch:=omega) [Q5]
 | succ d ih=>
   intro i out hd ho
   have hi:i < f.length:=by omega
   rw[c9 (l:=Z6) rfl]
   have h1:(f.map (XS s g)).drop i=XS s g (nth f i) :: (f.map (XS s g)).drop (i + 1):=by
    rw[List.drop_eq_getElem_cons (by simp; omega)];simp[nth,hi]
   have s5:=ih (i + 1) (out.set i (XS s g (nth f i))) (by omega) (by simp[ho])
   have h3:(out.set i (XS s g (nth f i))).take (i + 1)=out.take i++[XS s g (nth f i)]:=by
    rw[ko (by simp; omega),List.take_set_of_le (Nat.le_refl _),U9 (by omega),if_pos rfl]
   rw[h1,List.append_cons,← h3];have hfi:=hf i;have hqi:=hq i;have s1:=Wa (m:=nth f i) (n:=g) (by omega) (by omega);have s2:=qnj (m:=nth f i / g) (by omega);have s3:=Zb (m:=nth f i) (by omega);have s4:=Zb (m:=nth f i / g) (by omega);have s6:=Zb (m:=-(nth f i / g)) (by unfold nl at *; rw[Int.natAbs_neg]; omega);simp only[Int.natCast_add,Int.cast_ofNat_Int] at s5
   by_cases c1:s < 0
   ·rw[if_neg (hs (by omega))] at s1;have e:XS s g (nth f i) = -(nth f i / g):=if_pos c1;rw[e] at s5 ⊢
    have c2:¬ s=0:=by omega
    have hn:nl (-(nth f i / g))≤8388608:=by unfold nl at *; rw[Int.natAbs_neg]; omega
    generalize -(nth f i / g)=x at *;generalize nth f i / g=q at *;simp -implicitDefEqProofs (disch:=omega) [Q5,s1,s2,s5,s6,c1,c2]
   ·by_cases c2:s=0
    ·have e:XS s g (nth f i)=nth f i:=by unfold XS; rw[if_neg c1,if_pos c2]
     rw[e] at s5 ⊢;subst c2;simp -implicitDefEqProofs (disch:=omega) [Q5,s3,s5]
    ·rw[if_neg (hs c2)] at s1
     have e:XS s g (nth f i)=nth f i / g:=by unfold XS; rw[if_neg c1,if_neg c2]
     rw[e] at s5 ⊢;generalize nth f i / g=q at *;simp -implicitDefEqProofs (disch:=omega) [Q5,s1,s4,s5,c1,c2]
theorem qwd (x g:Int):nl (x / g)≤nl x:=by
 unfold nl;exact wY (by omega) (by have:=Int.natAbs_ediv_le_natAbs x g; omega)
theorem qqu {f:List Int}:∀ n,gcN f n=0→fsN f n=0
 | 0,_=>rfl
 | n + 1,h=>by
   unfold gcN at h;have h1:=Nat.eq_zero_of_gcd_eq_zero_left h;have h2:=Nat.eq_zero_of_gcd_eq_zero_right h;unfold fsN;rw[if_pos (qqu n h1),show nth f n=0 by omega];rfl
theorem qwm {f:List Int} (hl:f.length≤1000) (hf:∀ i,nl (nth f i)≤8388608):d5 T0 X0 qa1 [.d (.sl (WL f))] []=some (.ret [.d (.sl (WL (XR f)))] []):=by
 have s1:=q7r f hl hf f.length 0 (by omega);have s2:=q0g f (fsN f f.length) (gcN f f.length:Nat) hl (fun h e=>h (qqu _ (by omega))) hf (qo9 hf _) (fun i=>Nat.le_trans (qwd _ _) (hf i)) f.length 0 (List.replicate f.length 0) (by omega) (by simp);simp only[Int.cast_ofNat_Int,fsN,gcN,List.take_zero,List.drop_zero,List.nil_append] at s1 s2;rw[show List.map (XS (fsN f f.length) (gcN f f.length:Nat)) f=XR f from rfl] at s2
 have e:(XR f).length=f.length:=by simp[XR]
 rw[a8 (af:=wh) rfl rfl rfl];generalize XR f=out at *;have ht:out.take f.length=out:=List.take_of_length_le (by omega);simp -implicitDefEqProofs (disch:=omega) [wh,s1,s2,e,ht]
def kq (f:List Int):Bool:=f.all fun x=>decide (nl x≤32)
theorem qrr (f:List Int) (hl:f.length≤1000) (hf:∀ i,nl (nth f i)≤8388608):∀ d i,d + i=f.length→
 j0 T0 X0 0 zH (some (.nrm,⟨[(0,.d (.sl (WL f))),(6,.d (.sl (WL f))),(7,.d (.int .i64 f.length)),(8,.d (.int .i64 i))],[]⟩)) =
  some (if kq (f.drop i)=true then (.exit 0,⟨[(0,.d (.sl (WL f)))],[]⟩) else (.ret,⟨[(2,.d (.sl [])),(3,.d (.int .i64 2))],[]⟩)):=by
 intro d
 induction d with
 | zero=>
   intro i hd;rw[c9 (l:=zH) rfl,List.drop_eq_nil_of_le (by omega),if_pos (show kq []=true from rfl)];simp -implicitDefEqProofs (disch:=omega) [zI]
 | succ d ih=>
   intro i hd
   have hi:i < f.length:=by omega
   have s1:=ih (i + 1) (by omega);have hfi:=hf i;have s2:=qjp (m:=nth f i) (by omega);rw[c9 (l:=zH) rfl,N7 hi];rw[show kq (nth f i :: f.drop (i + 1))=(decide (nl (nth f i)≤32) && kq (f.drop (i + 1))) from rfl];simp only[Int.natCast_add,Int.cast_ofNat_Int] at s1
   by_cases c:nl (nth f i)≤32
   ·rw[decide_eq_true c,Bool.true_and];simp -implicitDefEqProofs (disch:=omega) [zI,s1,s2]
   ·rw[decide_eq_false c,Bool.false_and,if_neg (by decide)];simp -implicitDefEqProofs (disch:=omega) [zI,s2]
theorem qrq {f:List Int} (hl:f.length≤1000) (hf:∀ i,nl (nth f i)≤8388608):d5 T0 X0 qe4 [.d (.sl (WL f))] []=some (.ret [.d (.sl (WL (if kq f=true then f else []))),.d (.int .i64 (if kq f=true then 0 else 2))] []):=by
 have s1:=qrr f hl hf f.length 0 (by omega);rw[List.drop_zero,show ((0:Nat):Int)=0 from rfl] at s1;rw[a8 (af:=kz) rfl rfl rfl]
 by_cases c:kq f=true
 ·simp only[if_pos c] at s1 ⊢;simp -implicitDefEqProofs (disch:=omega) [kz,s1]
 ·simp only[if_neg c] at s1 ⊢;rw[show WL []=[] from rfl];simp -implicitDefEqProofs (disch:=omega) [kz,s1]
end Go.Rf

namespace Go.Rf
@[simp 10000] theorem q51 (n:Int):B6 (.d (.agg [.bool false,.sl [],.sl []])) 0 (.d (Rt n))=some (.d (Rt n)):=rfl
@[simp] theorem zj4 (n:Int):isAgg (V.d (Rt n))=true:=rfl
@[simp] theorem den_Rt (n:Int):(V.d (Rt n)).cells[2]? = some (.d (.sl [.int .u32 1])):=rfl
@[simp] theorem zfm:qd9 ((V.d (Wd 0)).cells.set 1 (V.d (.sl [.int .u32 1]))) (S9 ((V.d (Wd 0)).cells.set 1 (V.d (.sl [.int .u32 1])))) = .d (Wd 1):=rfl
@[simp] theorem zkw:N6 (.d (Rt 1))=true:=rfl
theorem q0a:D.agg [.bool false,.sl [.int .u32 1]]=Wd 1:=rfl
theorem zl0 (f:List Int) (hl:f.length≤1000) (hf:∀ i,nl (nth f i)≤8388608):∀ d i,d + i=f.length→
 j0 T0 X0 0 qI (some (.nrm,⟨[(0,.d (.sl (RtL f))),(4,.ptr (.b 0) 0 0),(18,.d (.sl (RtL f))),(19,.d (.int .i64 f.length)),(20,.d (.int .i64 i))],[.arr [.d (Wd 1)] ⟨2,0⟩]⟩)) =
  some (.exit 0,⟨[(0,.d (.sl (RtL f))),(4,.ptr (.b 0) 0 0)],[.arr [.d (Wd 1)] ⟨2,0⟩]⟩):=by
 intro d
 induction d with
 | zero=>
   intro i hd;rw[c9 (l:=qI) rfl];simp -implicitDefEqProofs (disch:=omega) [jN]
 | succ d ih=>
   intro i hd
   have hi:i < f.length:=by omega
   have s1:=ih (i + 1) (by omega);have hfi:=hf i;have s2:=qbw (n:=nth f i) (by omega);have s3:=qt9 (m:=1) (n:=1) (by decide) (by decide);rw[show ((Nat.gcd (1:Int).natAbs (1:Int).natAbs:Nat):Int)=1 from rfl] at s3;have s4:=Wa (m:=1) (n:=1) (by decide) (by decide);rw[if_neg (by decide),show (1:Int) / 1=1 from rfl,show (1:Int) % 1=0 from rfl] at s4;have s5:=qnk (m:=1) (n:=1) (by decide) (by decide);rw[show (1:Int) * 1=1 from rfl] at s5;rw[c9 (l:=qI) rfl];simp only[Int.natCast_add,Int.cast_ofNat_Int] at s1;simp -implicitDefEqProofs (disch:=omega) [jN,s1,s2,s3,s4,s5,q0a]
theorem zam (f:List Int) (hl:f.length≤1000) (hf:∀ i,nl (nth f i)≤8388608):∀ d i (out:List Int),d + i=f.length→out.length=f.length→
 j0 T0 X0 0 qH (some (.nrm,⟨[(4,.ptr (.b 0) 0 0),(11,.ref (.b 1) ⟨2,32⟩ 0 f.length),(44,.d (.sl (RtL f))),(45,.d (.int .i64 f.length)),(46,.d (.int .i64 i))],[.arr [.d (Wd 1)] ⟨2,0⟩,.arr (WV out) ⟨2,32⟩]⟩)) =
  some (.exit 2,⟨[(11,.ref (.b 0) ⟨2,32⟩ 0 f.length)],[.arr (WV (out.take i++f.drop i)) ⟨2,32⟩]⟩):=by
 intro d
 induction d with
 | zero=>
   intro i out hd ho;rw[c9 (l:=qH) rfl];have h1:f.drop i=[]:=List.drop_eq_nil_of_le (by omega);have h2:out.take i=out:=List.take_of_length_le (by omega);rw[h1,h2];simp -implicitDefEqProofs (disch:=omega) [jM]
 | succ d ih=>
   intro i out hd ho
   have hi:i < f.length:=by omega
   rw[c9 (l:=qH) rfl];have s5:=ih (i + 1) (out.set i (nth f i)) (by omega) (by simp[ho])
   have h3:(out.set i (nth f i)).take (i + 1)=out.take i++[nth f i]:=by
    rw[ko (by simp; omega),List.take_set_of_le (Nat.le_refl _),U9 (by omega),if_pos rfl]
   rw[N7 hi,List.append_cons,← h3];have hfi:=hf i;have s1:=Kp (n:=1) (by decide);have s2:=qsc (m:=nth f i) (n:=1) (by omega) (by decide) (by rw[Int.mul_one]; omega);rw[Int.mul_one] at s2;have s3:=qj8 (n:=nth f i) (by omega);simp only[Int.natCast_add,Int.cast_ofNat_Int] at s5;simp -implicitDefEqProofs (disch:=omega) [jM,s1,s2,s3,s5]
def QZ (f:List Int):List Int × Int:=if kq (XR f)=true then (XR f,0) else ([],2)
theorem XQ (f:List Int):(XR f).length=f.length:=by simp[XR]
theorem q0h {f:List Int} (hf:∀ i,nl (nth f i)≤8388608) (i:Nat):nl (nth (XR f) i)≤8388608:=by
 by_cases hi:i < f.length
 ·have e:nth (XR f) i=XS (fsN f f.length) (gcN f f.length:Nat) (nth f i):=by simp[XR,nth,hi]
  rw[e];have h1:=hf i;have h2:=qwd (nth f i) (gcN f f.length:Nat)
  have h3:∀ x:Int,nl (-x)=nl x:=fun x=>by unfold nl; rw[Int.natAbs_neg]
  unfold XS;split
  ·rw[h3]; omega
  ·split <;> omega
 ·rw[ji (by rw[XQ]; omega)]; simp
theorem qpu {f:List Int} (h0:0 < f.length) (hl:f.length≤1000) (hf:∀ i,nl (nth f i)≤8388608):d5 T0 X0 qdo [.d (.sl (RtL f))] []=some (.ret [.d (.sl (WL (QZ f).1)),.d (.int .i64 (QZ f).2)] []):=by
 have s1:=Xj (n:=1) (by omega);have s2:=zl0 f hl hf f.length 0 (by omega);have s3:=zam f hl hf f.length 0 (List.replicate f.length 0) (by omega) (by simp);simp only[Int.cast_ofNat_Int,List.take_zero,List.drop_zero,List.nil_append] at s2 s3;have s4:=qwm hl hf;have s5:=qrq (f:=XR f) (by rw[XQ]; exact hl) (q0h hf)
 have e:(if kq (XR f)=true then XR f else [])=(QZ f).1∧(if kq (XR f)=true then 0 else 2)=(QZ f).2:=by
  unfold QZ; split <;> exact ⟨rfl,rfl⟩
 rw[e.1,e.2] at s5;have ht:f.take f.length=f:=List.take_length;have hne:¬ f=[]:=List.length_pos_iff.1 h0;have ll:=XQ f
 have lc:(QZ f).1.length≤f.length:=by
  unfold QZ; split
  ·exact Nat.le_of_eq ll
  ·simp
 rw[a8 (af:=vG) rfl rfl rfl];generalize QZ f=cv at *;generalize XR f=lv at *;simp -implicitDefEqProofs (disch:=omega) [vG,s1,s2,s3,s4,s5,ht,hne]
end Go.Rf

namespace Go.Rf
def Xx (f:List Int) (n:Nat):List Int:=f.set n (-(nth f n))
theorem qbx (f n):(Xx f n).length=f.length:=by simp[Xx]
theorem qkd {f:List Int} {n i:Nat} (hn:n < f.length):nth (Xx f n) i=if i=n then -(nth f n) else nth f i:=by
 unfold Xx;rw[U9 hn]
@[simp 10000] theorem rt_zero (n:Int):qd9 (zW [V.d (.bool false),V.d (.sl []),V.d (.sl [])] 0 (V.d (Rt n)).cells) (S9 (zW [V.d (.bool false),V.d (.sl []),V.d (.sl [])] 0 (V.d (Rt n)).cells)) = .d (Rt n):=rfl
theorem qi3 (f:List Int) (n:Nat) (hn:n < f.length) (hl:f.length≤1000) (hf:∀ i,nl (nth f i)≤8388608):∀ d i (out:List Int),d + i=f.length→out.length=i→
 j0 T0 X0 0 jH (some (.nrm,⟨[(1,.d (.int .i64 n)),(8,.ref (.b 0) ⟨3,56⟩ 0 i),(26,.d (.sl (WL f))),(27,.d (.int .i64 f.length)),(28,.d (.int .i64 i))],[.arr (RtV out) ⟨3,56⟩]⟩)) =
  some (.exit 0,⟨[(8,.ref (.b 0) ⟨3,56⟩ 0 f.length)],[.arr (RtV (out++(Xx f n).drop i)) ⟨3,56⟩]⟩):=by
 intro d;have gl:=qbx f n
 induction d with
 | zero=>
   intro i out hd ho;rw[c9 (l:=jH) rfl]
   have h2:i=f.length:=by omega
   subst h2;have h3:(Xx f n).drop f.length=[]:=List.drop_eq_nil_of_le (by omega);rw[h3,List.append_nil];simp -implicitDefEqProofs (disch:=omega) [jI]
 | succ d ih=>
   intro i out hd ho;rw[c9 (l:=jH) rfl]
   have hi:i < f.length:=by omega
   have h1:=N7 (xs:=Xx f n) (i:=i) (by omega);rw[qkd hn] at h1;rw[h1];have hfi:=hf i;have s1:=qnj (m:=nth f i) (by omega)
   have ng:∀ x:Int,nl (-x)=nl x:=fun x=>by unfold nl; rw[Int.natAbs_neg]
   have hni:=ng (nth f i);have s2:=Kp (n:=nth f i) (by omega);have s3:=Kp (n:=-nth f i) (by omega)
   have ht:out.take i=out:=by rw[← ho]; exact List.take_length
   by_cases c:i=n
   ·subst c;rw[if_pos rfl];have s4:=ih (i + 1) (out++[-nth f i]) (by omega) (by simp[ho]);simp only[Int.natCast_add,Int.cast_ofNat_Int] at s4;generalize -nth f i=x at *;simp -implicitDefEqProofs (disch:=omega) [jI,s1,s3,s4,ht]
   ·rw[if_neg c];have s4:=ih (i + 1) (out++[nth f i]) (by omega) (by simp[ho]);simp only[Int.natCast_add,Int.cast_ofNat_Int] at s4
    have c':¬ (i:Int)=(n:Int):=by omega
    simp -implicitDefEqProofs (disch:=omega) [jI,s2,s4,ht,c]
def qhj (n:Nat) (x y:Nd):List Int × Bool:=
 if (r9 n (.two 45 x y)).2=true then ((QZ (Xx (r9 n (.two 45 x y)).1 n)).1,decide ((QZ (Xx (r9 n (.two 45 x y)).1 n)).2=0)) else ([],false)
theorem qi2 {n:Nat} (hn:n≤16) {x y:Nd} (b:Bool) (fx:x.fine n) (fy:y.fine n) (wx:x.w≤4000000) (wy:y.w≤4000000) :
 d5 T0 X0 qmd [.d (cD x y b),.d (.int .i64 n)] []=some (.ret [.d (.sl (WL (qhj n x y).1)),.d (.bool (qhj n x y).2)] []):=by
 have hfine:(Nd.two 45 x y).fine n:=⟨.inr (.inl rfl),fx,fy⟩
 have hw:(Nd.two 45 x y).w≤8000000:=by unfold Nd.w; omega
 have s1:=wM n hn (.two 45 x y) hfine (by omega);rw[a8 (af:=kR) rfl rfl rfl];unfold qhj
 by_cases hc:(r9 n (.two 45 x y)).2=true
 ·rw[hc] at s1;rw[if_pos hc];rcases kr n (.two 45 x y) hfine with ⟨_,e⟩ | sh
  ·rw[e] at hc; cases hc
  have hfl:=sh.l
  have hb:∀ i,nl (nth (r9 n (.two 45 x y)).1 i)≤8388608:=fun i=>by
   by_cases hi:i < n + 1
   ·have:=sh.b i hi; omega
   ·rw[ji (by omega)]; simp
  generalize (r9 n (.two 45 x y)).1=f at *;have s2:=qi3 f n (by omega) (by omega) hb f.length 0 [] (by omega) rfl
  have ng:∀ x:Int,nl (-x)=nl x:=fun x=>by unfold nl; rw[Int.natAbs_neg]
  have rl:=qbx f n
  have s3:=qpu (f:=Xx f n) (by omega) (by omega) (fun i=>by
   rw[qkd (by omega)];split
   ·rw[ng]; exact hb n
   ·exact hb i)
  simp only[Int.cast_ofNat_Int,List.drop_zero,List.nil_append,q1r] at s2;have ht:(Xx f n).take f.length=Xx f n:=List.take_of_length_le (by omega)
  have lc:(QZ (Xx f n)).1.length≤1000:=by
   unfold QZ;split
   ·rw[XQ]; omega
   ·simp
  have hl:f.length≤1000:=by omega
  have k2:(QZ (Xx f n)).2=0∨(QZ (Xx f n)).2=2:=by unfold QZ; split <;> simp
  generalize QZ (Xx f n)=cv at *;generalize Xx f n=rv at *;simp only[cD,Nd.d] at s1 ⊢;rcases k2 with k2 | k2
  ·simp -implicitDefEqProofs (disch:=omega) [kR,s1,s2,s3,ht,k2]
  ·simp -implicitDefEqProofs (disch:=omega) [kR,s1,s2,s3,ht,k2]
 ·have hc:=Bool.eq_false_iff.2 hc;rw[hc] at s1;rw[hc,if_neg (by decide)];simp only[cD,Nd.d] at s1 ⊢;rw[show WL []=[] from rfl];generalize (r9 n (.two 45 x y)).1=f at *;simp -implicitDefEqProofs (disch:=omega) [kR,s1]
@[simp] theorem zky (x:Nd):jQ x.d=true:=by cases x <;> rfl
end Go.Rf

namespace Go.Rf
set_option maxHeartbeats 8000000
structure Ed where
 f:Int
 t:Int
 k:Int
 v:Int:=0
 tk:Int:=0
 mn:Int:=0
 row:List Int:=[]
 at_:Pl
 x:Option Nd:=none
 l:Option Nd:=none
 r:Option Nd:=none
 q:Bool:=false
def Ed.cs (e:Ed):List D:=[.int .i64 e.f,.int .i64 e.t,.int .i64 e.k,.int .i64 e.v,.int .i64 e.tk,.int .i64 e.mn,.sl (WL e.row),.int .i64 e.at_.b,.int .i64 e.at_.g,.int .i64 e.at_.l,.int .i64 e.at_.c,oD e.x,oD e.l,oD e.r,.bool e.q]
theorem ziy (x:Option Nd):wt (oD x)=16:=by cases x with
 | none=>rfl
 | some x=>cases x <;> rfl
def edL:Lst Ed:=⟨fun e=>.agg e.cs,⟨15,160⟩,fun e=>by simp[wt,wts,Ed.cs,IntKind.bits,ziy],fun e=>rfl,by decide⟩
def txL:Lst (List UInt8):=⟨fun s=>.str s,⟨1,16⟩,fun s=>by simp[wt],fun s=>rfl,by decide⟩
structure Gb where
 vs:List (List UInt8)
 bs:List Bg
 ex:Int:=0
 edges:List Ed:=[]
 out:List (List Int):=[]
 inn:List (List Int):=[]
 marks:List (List UInt8):=[]
 md:List Int:=[]
 st:List (Int × Int):=[]
 hd:List (Int × Int):=[]
 long:Bool:=false
def xG (l:List (List Int)):List (Option (List D)):=l.map fun x=>some (LD inL x)
@[simp] theorem zjp (l):(xG l).length=l.length:=by simp[xG]
theorem qwp (l x):xG l++[some (LD inL x)]=xG (l++[x]):=by simp[xG]
@[simp] theorem zc7 (l):xG l++[some []]=xG (l++[[]]):=qwp l []
def Qm (l:List (Int × Int)):List (D × V):=l.map fun x=>(.int .i64 x.1,.d (.int .i64 x.2))
@[simp] theorem renEs_I (al l m):jf al (Qm l) m=(Qm l,m):=by
  induction l with
  | nil=>rfl
  | cons x l ih=>
    show X6 (V.ren al (.d _) m) _=_;simp only[V.ren,qy2,Qm,List.map_cons] at ih ⊢;rw[show jf al (List.map (fun x=>(D.int IntKind.i64 x.1,V.d (D.int IntKind.i64 x.2))) l) m=_ from ih];rfl
@[simp] theorem mapLe_I (f l):ZW f (Qm l)=Qm l:=by
  induction l with
  | nil=>rfl
  | cons x l ih=>
    show (_,V.mapL f (.d _)) :: ZW f (Qm l)=_;rw[ih];rfl
def GH (g:Gb) (p e m:Bool):List Obj:=
 [.arr [.agg [.ptr (.b 1) 0 0,.d (.bool g.long)]] ⟨2,0⟩,
  .arr [.agg [.d (.sl (SL g.vs)),.d (.sl (LD bgL g.bs)),.d (.int .i64 g.ex),.ref (.b (sel e 9 2)) ⟨15,160⟩ 0 g.edges.length,.ref (.b (sel p (sel e 10 9) 3)) ⟨1,24⟩ 0 g.out.length,.ref (.b (sel p (sel e 11 10) 4)) ⟨1,24⟩ 0 g.inn.length,
   .ref (.b (sel m (sel p (sel e 12 11) (sel e 10 9)) 5)) ⟨1,16⟩ 0 g.marks.length,.ref (.b (sel m (sel p (sel e 13 12) (sel e 11 10)) 6)) ⟨1,8⟩ 0 g.md.length,.map (.b 7),.map (.b 8)]] ⟨10,0⟩,
  sel e .dead (.arr (LW edL g.edges) ⟨15,160⟩),sel p .dead (.lol (xG g.out)),sel p .dead (.lol (xG g.inn)),sel m .dead (.arr (LW txL g.marks) ⟨1,16⟩),sel m .dead (.arr (LW inL g.md) ⟨1,8⟩),.map (Qm g.st),.map (Qm g.hd)] ++
 sel e [.arr (LW edL g.edges) ⟨15,160⟩] []++sel p [.lol (xG g.out),.lol (xG g.inn)] []++sel m [.arr (LW txL g.marks) ⟨1,16⟩,.arr (LW inL g.md) ⟨1,8⟩] []
@[simp] theorem q4s (l):(∀ x∈LW edL l,x.cells.length=15)=True:=kT edL l
@[simp] theorem q4o (l):(∀ x∈LW txL l,x.cells.length=1)=True:=kT txL l
@[simp] theorem wl_ed (l):(wl (LD edL l)≤160)=True:=Xk edL l
@[simp] theorem wl_tx (l):(wl (LD txL l)≤16)=True:=Xk txL l
@[simp] theorem zf6 (l s):LW txL l++[.d (.str s)]=LW txL (l++[s]):=kA txL l s
def Gb.point (g:Gb):Gb:={ g with out:=g.out++[[]],inn:=g.inn++[[]] }
theorem B3 (g:Gb) (h:g.out.length≤1000000) (h2:g.inn.length=g.out.length):d5 T0 X0 K0 [.ptr (.b 0) 0 0] (GH g false false false)=some (.ret [.d (.int .i64 g.out.length)] (GH g.point true false false)):=by
 rw[a8 (af:=K2) rfl rfl rfl];simp only[GH,Gb.point,j6,k8,List.cons_append,List.nil_append,List.append_nil];simp (maxSteps:=4000000) -implicitDefEqProofs (disch:=omega) [K2,h2]
def Gb.edge (g:Gb) (e:Ed):Gb:={ g with edges:=g.edges++[e],out:=g.out.set e.f.toNat (g.out.getD e.f.toNat []++[(g.edges.length:Int)]),inn:=g.inn.set e.t.toNat (g.inn.getD e.t.toNat []++[(g.edges.length:Int)]) }
theorem qtu (l f t k v tk mn row b gg ll c x lx rx q):LW edL l++[.d (.agg [.int .i64 f,.int .i64 t,.int .i64 k,.int .i64 v,.int .i64 tk,.int .i64 mn,.sl (WL row),.int .i64 b,.int .i64 gg,.int .i64 ll,.int .i64 c,oD x,oD lx,oD rx,.bool q])]=LW edL (l++[⟨f,t,k,v,tk,mn,row,⟨b,gg,ll,c⟩,x,lx,rx,q⟩]):=kA edL l ⟨f,t,k,v,tk,mn,row,⟨b,gg,ll,c⟩,x,lx,rx,q⟩
theorem qk3 {l:List (List Int)} {i:Nat} (h:i < l.length):(xG l)[i]? = some (some (LD inL (l.getD i []))):=by simp[xG,h]
theorem qwo (l:List (List Int)) (i:Nat) (x:List Int):(xG l).set i (some (LD inL x))=xG (l.set i x):=by simp[xG,List.map_set]
theorem qlk {ls:List (Option (List D))} {i:Nat} (h:i < ls.length):XV (ls.set i none) i=true:=by unfold XV; rw[List.getElem?_set_self h]
theorem qll {ls:List (Option (List D))} {i:Nat} (h:ls[i]? = some (some [])):XV ls i=true:=by unfold XV; rw[h]
@[simp] theorem qp0 (x l):LD inL (x :: l) = .int .i64 x :: LD inL l:=rfl
@[simp] theorem zbh (x l):LW inL (x :: l) = .d (.int .i64 x) :: LW inL l:=rfl
@[simp] theorem allD_in (l:List Int):S9 (LW inL l)=some (LD inL l):=by
  induction l with
  | nil=>rfl
  | cons x l ih=>show (S9 (LW inL l)).map _=_; rw[ih]; rfl
theorem qs9 (g:Gb) (e:Ed) (hf:0≤e.f∧e.f < g.out.length) (ht:0≤e.t∧e.t < g.inn.length) (h1:g.edges.length≤1000000) (h2:g.out.length≤1000000) (h3:g.inn.length≤1000000) (h4:∀ i,(g.out.getD i []).length≤1000000∧(g.inn.getD i []).length≤1000000) :
 d5 T0 X0 kL [.ptr (.b 0) 0 0,.d (.agg e.cs)] (GH g false false false)=some (.ret [] (GH (g.edge e) false true false)):=by
 obtain ⟨f,t,k,v,tk,mn,row,⟨b,gg,ll,c⟩,x,lx,rx,q⟩:=e;obtain ⟨f,rfl⟩:=Int.eq_ofNat_of_zero_le hf.1;obtain ⟨t,rfl⟩:=Int.eq_ofNat_of_zero_le ht.1;simp only[Int.ofNat_eq_natCast] at hf ht ⊢
 have hf:f < g.out.length:=by omega
 have ht:t < g.inn.length:=by omega
 have g1:=qk3 hf;have g2:=qk3 ht;obtain ⟨l1,_⟩:=h4 f;obtain ⟨_,l2⟩:=h4 t;rw[a8 (af:=zk) rfl rfl rfl];simp only[GH,Gb.edge,Ed.cs,j6,k8,List.cons_append,List.nil_append,List.append_nil,Int.toNat_natCast];simp only[← qwo]
 have k1:f < (xG g.out).length:=by simpa using hf
 have k2:t < (xG g.inn).length:=by simpa using ht
 have e1:=qlk k1;have e2:=qlk k2
 have e3:=fun h=>qll (ls:=xG g.out) (i:=f) h
 have e4:=fun h=>qll (ls:=xG g.inn) (i:=t) h
 generalize g.out.getD f []=xs at *;generalize g.inn.getD t []=ys at *;clear k1 k2;generalize xG g.out=lo at *;generalize xG g.inn=li at *
 rcases xs with _ | ⟨x0,xs⟩ <;> rcases ys with _ | ⟨y0,ys⟩
 all_goals
  simp only[qjd,qp0,List.length_cons,List.length_nil] at g1 g2 l1 l2;simp (maxSteps:=4000000) -implicitDefEqProofs (disch:=omega) [zk,g1,g2,e1,e2,e3,e4,hf,ht,qtu]
end Go.Rf

namespace Go.Rf
set_option maxHeartbeats 8000000
structure Gok (g:Gb) (n N:Nat):Prop where
 vs:g.vs.length=n
 ol:g.out.length≤N
 il:g.inn.length=g.out.length
 el:g.edges.length≤N
 os:∀ i,(g.out.getD i []).length≤N
 is:∀ i,(g.inn.getD i []).length≤N
 ml:g.marks.length≤N
 dl:g.md.length=g.marks.length
theorem Gok.to {g:Gb} {n N M:Nat} (h:Gok g n N) (k:N≤M):Gok g n M:=⟨h.vs,by have:=h.ol; omega,h.il,by have:=h.el; omega,fun i=>by have:=h.os i; omega,fun i=>by have:=h.is i; omega,by have:=h.ml; omega,h.dl⟩
theorem O4 (l:List (List Int)) (i:Nat):(l++[[]]).getD i []=l.getD i []:=by
 by_cases h:i < l.length
 ·simp[List.getElem?_append_left h]
 ·by_cases h2:i=l.length
  ·subst h2; simp
  ·simp[List.getElem?_eq_none (l:=l) (i:=i) (by omega),List.getElem?_eq_none (l:=l++[[]]) (i:=i) (by simp; omega)]
theorem Gok.point {g:Gb} {n N:Nat} (h:Gok g n N):Gok g.point n (N + 1):=⟨h.vs,by have:=h.ol; simp only[Gb.point,List.length_append,List.length_cons,List.length_nil]; omega,by have:=h.il; simp only[Gb.point,List.length_append,List.length_cons,List.length_nil]; omega,by have:=h.el; show g.edges.length≤_; omega,fun i=>by have:=h.os i; simp only[Gb.point,O4]; omega,fun i=>by have:=h.is i; simp only[Gb.point,O4]; omega,by have:=h.ml; show g.marks.length≤_; omega,h.dl⟩
theorem YE {l:List (List Int)} {j i N:Nat} {x:Int} (h:∀ i,(l.getD i []).length≤N):((l.set j (l.getD j []++[x])).getD i []).length≤N + 1:=by
 have h1:=h i;have h2:=h j;simp only[List.getD_eq_getElem?_getD,List.getElem?_set] at h1 h2 ⊢;split
 ·split
  ·simp only[Option.getD_some,List.length_append,List.length_cons,List.length_nil]; omega
  ·simp
 ·omega
theorem Gok.edge {g:Gb} {n N:Nat} (h:Gok g n N) (e:Ed):Gok (g.edge e) n (N + 1):=⟨h.vs,by have:=h.ol; simp only[Gb.edge,List.length_set]; omega,by have:=h.il; simp only[Gb.edge,List.length_set]; omega,by have:=h.el; simp only[Gb.edge,List.length_append,List.length_cons,List.length_nil]; omega,fun i=>YE h.os,fun i=>YE h.is,by have:=h.ml; show g.marks.length≤_; omega,h.dl⟩
theorem JJ {g:Gb} {n N:Nat} (h:Gok g n N) (hN:N≤1000000) (e:Ed) (hf:0≤e.f∧e.f < g.out.length) (ht:0≤e.t∧e.t < g.out.length) :
 d5 T0 X0 kL [.ptr (.b 0) 0 0,.d (.agg e.cs)] (GH g false false false)=some (.ret [] (GH (g.edge e) false true false)):=
 qs9 g e hf (by rw[h.il]; exact ht) (by have:=h.el; omega) (by have:=h.ol; omega) (by have:=h.ol; have:=h.il; omega) fun i=>⟨by have:=h.os i; omega,by have:=h.is i; omega⟩
theorem qke {n:Nat} {x y:Nd} (fx:x.fine n) (fy:y.fine n):(qhj n x y).1.length≤n + 1:=by
 unfold qhj;split
 ·rename_i hc;rcases kr n (.two 45 x y) ⟨.inr (.inl rfl),fx,fy⟩ with ⟨_,e⟩ | sh
  ·rw[e] at hc; cases hc
  ·have hl:=sh.l;show (QZ _).1.length≤_;unfold QZ;split
   ·rw[XQ,qbx]; omega
   ·simp
 ·simp
section
variable {g:Gb} {n N:Nat} (h:Gok g n N) (hN:N≤1000000) {f t:Int} (hf:0≤f∧f < g.out.length) (ht:0≤t∧t < g.out.length)
include h hN hf ht
theorem U2 (k:Int) (s:Sm):d5 T0 X0 qh [.ptr (.b 0) 0 0,.d (.int .i64 f),.d (.int .i64 t),.d (.int .i64 k),.d s.d] (GH g false false false)=some (.ret [] (GH (g.edge { f,t,k,at_:=s.at_ }) false true false)):=by
 have s1:=JJ h hN { f,t,k,at_:=s.at_ } hf ht;have s3:=Q0 s.at_;rw[a8 (af:=qq) rfl rfl rfl];simp only[Ed.cs,oD,WL,List.map_nil] at s1;generalize g.edge { f,t,k,at_:=s.at_ } = g' at *;simp only[GH,j6,k8,List.cons_append,List.nil_append,List.append_nil,Pl.cs] at s1 s3 ⊢;simp (maxSteps:=4000000) -implicitDefEqProofs (disch:=omega) [qq,s1,s3,Pl.cs]
theorem Wr (tk mn:Int) (s:Sm):d5 T0 X0 Jc [.ptr (.b 0) 0 0,.d (.int .i64 f),.d (.int .i64 t),.d (.int .i64 tk),.d (.int .i64 mn),.d s.d] (GH g false false false)=some (.ret [] (GH (g.edge { f,t,k:=5,tk,mn,at_:=s.at_ }) false true false)):=by
 have s1:=JJ h hN { f,t,k:=5,tk,mn,at_:=s.at_ } hf ht;have s3:=Q0 s.at_;rw[a8 (af:=zh) rfl rfl rfl];simp only[Ed.cs,oD,WL,List.map_nil] at s1;generalize g.edge { f,t,k:=5,tk,mn,at_:=s.at_ } = g' at *;simp only[GH,j6,k8,List.cons_append,List.nil_append,List.append_nil,Pl.cs] at s1 s3 ⊢;simp (maxSteps:=4000000) -implicitDefEqProofs (disch:=omega) [zh,s1,s3,Pl.cs]
def tEd (n:Nat) (f t:Int) (x y:Nd) (q b:Bool) (p:Pl):Ed:={ f,t,k:=6,tk:=if q=b then 1 else 0,row:=(qhj n x y).1,at_:=p,l:=some x,r:=some y,q }
theorem wF (hn:n≤16) {vs:List (List UInt8)} (hv:vs.length=n) {x y:Nd} (hx:Xok vs x) (hy:Xok vs y) (q b:Bool) (s:Sm) :
 d5 T0 X0 qS [.ptr (.b 0) 0 0,.d (.int .i64 f),.d (.int .i64 t),.d (cD x y q),.d (.bool b),.d s.d] (GH g false false false)=some (.ret [] (GH (g.edge (tEd n f t x y q b s.at_)) false true false)):=by
 have s1:=JJ h hN (tEd n f t x y q b s.at_) hf ht;have s3:=Q0 s.at_;have s4:=qi2 hn q (hv ▸ hx.fine) (hv ▸ hy.fine) hx.w hy.w;rw[a8 (af:=T4) rfl rfl rfl];have hvs:=h.vs;have hrl:=qke (hv ▸ hx.fine) (hv ▸ hy.fine) (n:=n);generalize hg:g.edge (tEd n f t x y q b s.at_)=g' at *;simp only[Ed.cs,tEd,oD,cD] at s1 s4 ⊢;generalize (qhj n x y)=rr at *
 by_cases hq:q=b
 ·subst hq;simp only[GH,j6,k8,List.cons_append,List.nil_append,List.append_nil,Pl.cs,if_true] at s1 s3 s4 ⊢;simp (maxSteps:=4000000) -implicitDefEqProofs (disch:=omega) [T4,s1,s3,s4,hvs,Pl.cs]
 ·have hq2:(q == b)=false:=by cases q <;> cases b <;> simp_all
  simp only[GH,j6,k8,List.cons_append,List.nil_append,List.append_nil,Pl.cs,if_neg hq] at s1 s3 s4 ⊢;simp (maxSteps:=4000000) -implicitDefEqProofs (disch:=omega) [T4,s1,s3,s4,hvs,Pl.cs,hq2,hq]
end
def zX (F:List Int):Bool:=F.any fun x=>decide (32 < nl x)
theorem qww (F:List Int) (hF:F.length≤1000000) (hw:∀ x∈F,nl x < 134217728):∀ d i (e:List (Nat × V)),d + i=F.length→zX (F.take i)=false→
 j0 T0 X0 0 xB (some (.nrm,⟨(7,.d (.sl [.sl (WL F)])) :: (8,.d (.int .i64 1)) :: (9,.d (.int .i64 0)) :: (13,.d (.sl (WL F))) :: (14,.d (.int .i64 F.length)) :: (15,.d (.int .i64 i)) :: e,[]⟩)) =
  if zX F=true then some (.ret,⟨[(2,.d (.bool true))],[]⟩) else some (.exit 2,⟨[(7,.d (.sl [.sl (WL F)])),(8,.d (.int .i64 1)),(9,.d (.int .i64 0))],[]⟩):=by
 intro d
 induction d with
 | zero=>
   intro i e hi hp
   have:i=F.length:=by omega
   subst this;rw[List.take_length] at hp;rw[hp,c9 (l:=xB) rfl];simp -implicitDefEqProofs (disch:=omega) [xC]
 | succ d ih=>
   intro i e hi hp
   have hlt:i < F.length:=by omega
   have hget:(WL F)[i]? = some (Wd (F[i])):=by simp[WL,hlt]
   have s1:=qjp (m:=F[i]) (by have:=hw _ (List.getElem_mem hlt); omega);have hnl:=hw _ (List.getElem_mem hlt)
   have ha:zX (F.take (i + 1))=(zX (F.take i) || decide (32 < nl (F[i]))):=by unfold zX; rw[List.take_succ_eq_append_getElem hlt,List.any_append]; simp
   rw[hp,Bool.false_or] at ha;rw[c9 (l:=xB) rfl]
   by_cases hl:32 < nl (F[i])
   ·have:zX F=true:=by
     unfold zX;rw[List.any_eq_true];exact ⟨_,List.getElem_mem hlt,by simpa using hl⟩
    rw[if_pos this];generalize F[i]=w at *;simp -implicitDefEqProofs (disch:=omega) [xC,hget,s1]
   ·rw[← ih (i + 1) [] (by omega) (by rw[ha]; simpa using hl)];generalize F[i]=w at *;simp -implicitDefEqProofs (disch:=omega) [xC,hget,s1]
theorem qng {F:List Int} (hF:F.length≤1000000) (hw:∀ x∈F,nl x < 134217728):d5 T0 X0 qiw [.d (.sl [.sl (WL F)])] []=some (.ret [.d (.bool (zX F))] []):=by
 have s1:=qww F hF hw F.length 0 [] (by simp) rfl;rw[a8 (af:=wE) rfl rfl rfl];simp only[Int.cast_ofNat_Int] at s1;have hwl:(wl [D.sl (WL F)]≤A5)=True:=eq_true (by simp[wl,wt,A5])
 by_cases hl:zX F=true
 ·rw[if_pos hl] at s1;rw[hl];simp -implicitDefEqProofs (disch:=omega) [wE,c9 (l:=wf) rfl,wg,s1,hwl]
 ·rw[if_neg hl] at s1
  have hl:zX F=false:=by simpa using hl
  rw[hl];simp -implicitDefEqProofs (disch:=omega) [wE,c9 (l:=wf) rfl,wg,s1,hwl]
end Go.Rf

namespace Go.Rf
set_option maxHeartbeats 8000000
@[simp] theorem wl_sl1 (xs:List D):wl [.sl xs]=24:=by simp[wl,wt]
@[simp] theorem le24:(24≤A5)=True:=eq_true (by decide)
def qkg:List (Int × Int)→Int→Int→List (Int × Int)
 | [],k,v=>[(k,v)]
 | (a,b) :: l,k,v=>if k=a then (a,v) :: l else (a,b) :: qkg l k v
theorem q6n (l k v):Yd (Qm l) (.int .i64 k) (.d (.int .i64 v))=Qm (qkg l k v):=by
 induction l with
 | nil=>rfl
 | cons x l ih=>
   obtain ⟨a,b⟩:=x;show (if J1 (.int .i64 k) (.int .i64 a)=true then _ else _)=_
   by_cases h:k=a
   ·subst h; simp[J1,qkg,Qm]
   ·simp only[J1,qkg,if_neg h];rw[if_neg (by simp[h])];show _ :: Yd (Qm l) _ _=_;rw[ih];rfl
theorem q77 (l k):kV false (.int .i64 k) (Qm l)=true:=by
 unfold kV;simp[zZ,Qm]
attribute [simp] q6n q77
def Gb.mark (g:Gb) (s:List UInt8) (at_:Int):Gb:={ g with marks:=g.marks++[s],md:=g.md++[at_] }
def Gb.start (g:Gb) (b at_:Int):Gb:={ g with st:=qkg g.st b at_ }
def Gb.head (g:Gb) (b h:Int):Gb:={ g with hd:=qkg g.hd b h }
def Y3 (p:Pl) (j:Int):List Int→Gb→Gb
 | [],g=>g
 | e :: l,g=>Y3 p j l (g.edge { f:=e,t:=j,k:=1,at_:=p })
mutual
def Sm.bld (n:Nat):Sm→Gb→Int→Gb × Int
 | .set p v _ e,g,a=>match e with
   | none=>(g.point.edge { f:=a,t:=g.out.length,k:=3,v,at_:=p },g.out.length)
   | some x=>if (r9 n x).2=true then ({ g.point with long:=g.long || zX (r9 n x).1 }.edge { f:=a,t:=g.out.length,k:=2,v,row:=(r9 n x).1,at_:=p,x:=some x },g.out.length)
     else (g.point.edge { f:=a,t:=g.out.length,k:=4,v,at_:=p,x:=some x },g.out.length)
 | .skip p,g,a=>(g.point.edge { f:=a,t:=g.out.length,k:=1,at_:=p },g.out.length)
 | .stop _,g,_=>(g.point,g.out.length)
 | .mark _ s,g,a=>(g.mark s a,a)
 | .choose p bs,g,a=>let r:=Bls.bld n p a bs.length 0 bs g; (Y3 p r.1.out.length r.2 r.1.point,r.1.out.length)
 | .loop p b,g,a=>let h:Int:=g.out.length; let i:Int:=g.out.length + 1
   let r:=Sms.bld n b ((g.point.edge { f:=a,t:=h,k:=1,at_:=p }).point.edge { f:=h,t:=i,k:=5,tk:=1,mn:=2,at_:=p }) i
   let g1:=r.1.edge { f:=r.2,t:=h,k:=1,at_:=p }
   (g1.point.edge { f:=h,t:=g1.out.length,k:=5,tk:=0,mn:=2,at_:=p },g1.out.length)
 | .ifs p x y q b,g,a=>let i:Int:=g.out.length
   let r:=Sms.bld n b (g.point.edge (tEd n a i x y q true p)) i
   let two:Int:=r.1.out.length
   let g2:=r.1.point.edge (tEd n a two x y q false p)
   let j:Int:=g2.out.length
   ((g2.point.edge { f:=r.2,t:=j,k:=1,at_:=p }).edge { f:=two,t:=j,k:=1,at_:=p },j)
 | .ife p x y q b _ e,g,a=>let i:Int:=g.out.length
   let r:=Sms.bld n b (g.point.edge (tEd n a i x y q true p)) i
   let two:Int:=r.1.out.length
   let r2:=Sms.bld n e (r.1.point.edge (tEd n a two x y q false p)) two
   let j:Int:=r2.1.out.length
   ((r2.1.point.edge { f:=r.2,t:=j,k:=1,at_:=p }).edge { f:=r2.2,t:=j,k:=1,at_:=p },j)
 | .while p x y q b,g,a=>let h:Int:=g.out.length; let i:Int:=g.out.length + 1
   let r:=Sms.bld n b (((g.point.head p.b h).edge { f:=a,t:=h,k:=1,at_:=p }).point.edge (tEd n h i x y q true p)) i
   let g1:=r.1.edge { f:=r.2,t:=h,k:=1,at_:=p }
   (g1.point.edge (tEd n h g1.out.length x y q false p),g1.out.length)
def Sms.bld (n:Nat):List Sm→Gb→Int→Gb × Int
 | [],g,a=>(g,a)
 | s :: l,g,a=>Sms.bld n l (s.bld n (g.start s.at_.b a) a).1 (s.bld n (g.start s.at_.b a) a).2
def Bls.bld (n:Nat) (p:Pl) (f mn:Int):Int→List Bl→Gb→Gb × List Int
 | _,[],g=>(g,[])
 | i,.mk _ b :: l,g=>let r:=Sms.bld n b (g.point.edge { f,t:=g.out.length,k:=5,tk:=i,mn,at_:=p }) g.out.length
   let z:=Bls.bld n p f mn (i + 1) l r.1
   (z.1,r.2 :: z.2)
end
def Sm.fn:Sm→FuncId
 | .set ..=>I7
 | .skip ..=>F8
 | .stop ..=>F7
 | .mark ..=>F9
 | .choose ..=>C0
 | .loop ..=>G1
 | .ifs ..=>x7
 | .ife ..=>x7
 | .while ..=>C8
theorem qua (g:Gb) (s:Sm):d5 T0 X0 JZ [.ptr (.b 0) 0 0,.d s.d] (GH g false false false)=some (.ret [.fn (s.fn + fB) [.ptr (.b 0) 0 0]] (GH g false false false)):=by
 rw[a8 (af:=zQ) rfl rfl rfl]
 cases s <;> simp only[GH,j6,k8,List.cons_append,List.nil_append,List.append_nil,Sm.d,Sm.fn]
 all_goals
  simp (maxSteps:=4000000) -implicitDefEqProofs (disch:=omega) [zQ,f7,n7,l8,p9,v8,p7,o9,j8]
section
variable {g:Gb} {n N:Nat} (h:Gok g n N) (hN:N≤900000) {a:Int} (ha:0≤a∧a < g.out.length)
include h hN ha
theorem qhm:g.point.out.length=g.out.length + 1:=by simp[Gb.point]
theorem qr3 (p:Pl):d5 T0 X0 F8 [.ptr (.b 0) 0 0,.d (Sm.skip p).d,.d (.int .i64 a)] (GH g false false false)=some (.ret [.d (.int .i64 ((Sm.skip p).bld n g a).2)] (GH ((Sm.skip p).bld n g a).1 true true false)):=by
 have ho:=h.ol;have s1:=B3 g (by omega) h.il;have s2:=U2 h.point (by omega) (f:=a) (t:=g.out.length) (by rw[qhm h hN ha]; omega) (by rw[qhm h hN ha]; omega) 1 (.skip p);rw[a8 (af:=zg) rfl rfl rfl];simp only[Sm.bld,Sm.at_] at s2 ⊢;generalize (g.point.edge { f:=a,t:=g.out.length,k:=1,at_:=p })=g' at *;generalize g.point=g1 at *;simp only[GH,j6,k8,List.cons_append,List.nil_append,List.append_nil] at s1 s2 ⊢;simp (maxSteps:=4000000) -implicitDefEqProofs (disch:=omega) [zg,s1,s2]
theorem qrx (p:Pl):d5 T0 X0 F7 [.ptr (.b 0) 0 0,.d (Sm.stop p).d,.d (.int .i64 a)] (GH g false false false)=some (.ret [.d (.int .i64 ((Sm.stop p).bld n g a).2)] (GH ((Sm.stop p).bld n g a).1 true false false)):=by
 have ho:=h.ol;have s1:=B3 g (by omega) h.il;rw[a8 (af:=zf) rfl rfl rfl];simp only[Sm.bld];generalize g.point=g1 at *;simp only[GH,j6,k8,List.cons_append,List.nil_append,List.append_nil] at s1 ⊢;simp (maxSteps:=4000000) -implicitDefEqProofs (disch:=omega) [zf,s1]
theorem qoz (p:Pl) (s:List UInt8):d5 T0 X0 F9 [.ptr (.b 0) 0 0,.d (Sm.mark p s).d,.d (.int .i64 a)] (GH g false false false)=some (.ret [.d (.int .i64 ((Sm.mark p s).bld n g a).2)] (GH ((Sm.mark p s).bld n g a).1 false false true)):=by
 have h1:=h.ml;have h2:=h.dl;have htk:g.md.take g.marks.length=g.md:=List.take_of_length_le (by omega);rw[a8 (af:=zi) rfl rfl rfl];simp only[Sm.bld,Gb.mark,GH,j6,k8,List.cons_append,List.nil_append,List.append_nil,Sm.d];simp (maxSteps:=4000000) -implicitDefEqProofs (disch:=omega) [zi,h2,htk]
end
end Go.Rf
