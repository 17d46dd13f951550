/- Parts of the proof: SpD2, SpD3, SpD4, SpD5, SpD6, SpA1, SpA2, SpA3. -/
import Derived.Test.YtjlnfdabdhkgcaaGreatDoorRb2
import Derived.Test.YtjlnfdabdhkgcaaGreatDoorSp6
import Derived.Test.YtjlnfdabdhkgcaaGreatDoorSp5

set_option linter.unusedSimpArgs false
set_option linter.unusedVariables false
set_option linter.unnecessarySimpa false
set_option linter.unusedSectionVars false
set_option linter.all false
namespace Go.Rf
theorem XF (s:Nat):0 < (2:Int) ^ s:=Int.pow_pos (by decide)
theorem qqg {s:Nat} (h:s < 32):(2:Int) ^ s≤2147483648:=by
 have h1:(2:Nat) ^ s≤2 ^ 31:=Nat.pow_le_pow_right (by decide) (by omega)
 have h2:((2 ^ s:Nat):Int)=(2:Int) ^ s:=by simp
 omega
theorem zia {c a:Int} {s:Nat} (hs:s < 32) (hc:0≤c∧c < 2 ^ s) (ha:0≤a∧a < 4294967296):orK .u64 c (a * 2 ^ s)=c + a * 2 ^ s:=by
 obtain ⟨x,rfl⟩:=Int.eq_ofNat_of_zero_le hc.1;obtain ⟨y,rfl⟩:=Int.eq_ofNat_of_zero_le ha.1;have hp:=qqg hs
 have h2:((2 ^ s:Nat):Int)=(2:Int) ^ s:=by simp
 have h3:(y:Int) * 2 ^ s≤4294967295 * 2 ^ s:=Int.mul_le_mul_of_nonneg_right (by omega) (by have:=XF s; omega)
 have h5:2 ^ s * y≤9223372034707292160:=by
  have:((2 ^ s * y:Nat):Int)≤9223372034707292160:=by
   rw[Int.natCast_mul,h2,Int.mul_comm]; omega
  omega
 unfold orK;rw[BitVec.toNat_or]
 have e1:(BitVec.ofInt IntKind.u64.bits ((y:Int) * 2 ^ s)).toNat=2 ^ s * y:=by
  rw[show ((y:Int) * 2 ^ s)=((2 ^ s * y:Nat):Int) by rw[Int.natCast_mul,h2,Int.mul_comm],BitVec.ofInt_natCast,BitVec.toNat_ofNat];exact Nat.mod_eq_of_lt (by show _ < 2 ^ 64; omega)
 have e2:(BitVec.ofInt IntKind.u64.bits (x:Int)).toNat=x:=by
  rw[BitVec.ofInt_natCast,BitVec.toNat_ofNat];exact Nat.mod_eq_of_lt (by show _ < 2 ^ 64; omega)
 rw[e1,e2,Nat.or_comm,← Nat.two_pow_add_eq_or_of_lt (by omega),qbh ⟨by omega,by omega⟩,Int.natCast_add,Int.natCast_mul,h2,Int.mul_comm,Int.add_comm]
theorem qv1 (k:IntKind) (x y:Int):orK k x y=orK k y x:=by
 unfold orK;rw[BitVec.or_comm]
theorem qoy (a7:List Int) (s n:Nat) (hs:s < 32) (hn:n≤1099511627776) (ha:n8 a7) (hl:a7.length≤n):∀ d i (out:List Int) (c:Int),d + i=n→out.length=n→n8 out→0≤c→c < 2 ^ s→
 nv (out.take i) + pw i * c=nv (a7.take i) * 2 ^ s→
 ∃ out' c',j0 T0 X0 0 zw (some (.nrm,⟨[(0,.d (.sl (L a7))),(1,.d (.int .i64 s)),(7,.ref (.b 0) ⟨1,4⟩ 0 n),(8,.d (.int .u64 c)),(13,.d (.int .i64 n)),(14,.d (.int .i64 i))],[.arr (LV out) ⟨1,4⟩]⟩)) =
  some (.exit 0,⟨[(7,.ref (.b 0) ⟨1,4⟩ 0 n)],[.arr (LV out') ⟨1,4⟩]⟩) ∧
   out'.length=n∧n8 out'∧0≤c'∧nv out' + pw n * c'=nv a7 * 2 ^ s:=by
 have p0:=XF s;have p1:=qqg hs
 have hm:min s 64=s:=by omega
 intro d
 induction d with
 | zero=>
   intro i out c hd ho hg hc hc1 hv
   have:i=n:=by omega
   subst this;refine ⟨out,c,?_,ho,hg,hc,by rw[List.take_of_length_le (by omega),List.take_of_length_le (by omega)] at hv; exact hv⟩;rw[c9 (l:=zw) rfl];simp -implicitDefEqProofs (disch:=omega) [zx]
 | succ d ih=>
   intro i out c hd ho hg hc hc1 hv;have n1:=ha.nth i;rw[c9 (l:=zw) rfl];have hy:0≤nth a7 i * 2 ^ s∧nth a7 i * 2 ^ s≤4294967295 * 2 ^ s:=⟨Int.mul_nonneg n1.1 (by omega),Int.mul_le_mul_of_nonneg_right (by omega) (by omega)⟩;have ho1:=zia hs ⟨hc,hc1⟩ n1
   obtain ⟨out',c',h1,h2⟩:=ih (i + 1) (out.set i ((c + nth a7 i * 2 ^ s) % 4294967296)) ((c + nth a7 i * 2 ^ s) / 4294967296) (by omega) (by simp[ho]) (V7 hg _ (by omega)) (by omega) (by omega) (by
    rw[vP (by omega),D2,Int.add_mul,← hv,Int.mul_assoc];have s1:=jg i (c + nth a7 i * 2 ^ s);rw[Int.mul_add (pw i) c] at s1
    omega)
   refine ⟨out',c',?_,h2⟩;rw[← h1]
   by_cases hi:i < a7.length
   ·generalize hz:nth a7 i * 2 ^ s=z at *;simp -implicitDefEqProofs (disch:=omega) [zx,hm,hz,ho1]
   ·have e:nth a7 i=0:=ji (by omega)
    have ec:c % 4294967296=c:=by omega
    simp -implicitDefEqProofs (disch:=omega) [zx,e,ec]
theorem qcs {a7:List Int} {s n:Nat} (hs:s < 32) (hn:n≤1099511627776) (ha:n8 a7) (hl:a7.length≤n) (hb:nv a7 * 2 ^ s < pw n) :
 ∃ out,d5 T0 X0 qex [.d (.sl (L a7)),.d (.int .i64 s),.d (.int .i64 n)] []=some (.ret [.ref (.b 0) ⟨1,4⟩ 0 n] [.arr (LV out) ⟨1,4⟩])∧out.length=n∧n8 out∧nv out=nv a7 * 2 ^ s:=by
 obtain ⟨out,c,h1,ho,hg,hc,hv⟩:=qoy a7 s n hs hn ha hl n 0 (List.replicate n 0) 0 (by omega) (by simp) (QU _) (by omega) (XF s) (by simp[nv]);rw[a8 (af:=Qt) rfl rfl rfl];have h0:=(d7 hg).1
 have hc0:c=0:=by
  by_cases h:c=0
  ·exact h
  ·have:=V4 n;have:pw n * 1≤pw n * c:=Int.mul_le_mul_of_nonneg_left (by omega) (by omega);omega
 subst hc0;refine ⟨out,?_,ho,hg,by omega⟩;simp only[Int.cast_ofNat_Int] at h1;simp -implicitDefEqProofs (disch:=omega) [Qt,h1]
theorem qod {a b:Int} {s:Nat} (hs:s < 32) (ha:0≤a∧a < 4294967296) (hb:0≤b∧b < 4294967296):2 ^ s * (((b * 4294967296 + a) / 2 ^ s) % 4294967296)=a - a % 2 ^ s + 4294967296 * (b % 2 ^ s):=by
 obtain ⟨t,ht⟩:∃ t:Nat,s + t=32:=⟨32 - s,by omega⟩;have p0:=XF s
 have hQ:(2:Int) ^ s * 2 ^ t=4294967296:=by rw[← Int.pow_add,ht]; rfl
 have q0:=XF t;generalize (2:Int) ^ s=P at *;generalize (2:Int) ^ t=Q at *;have e1:=Int.mul_ediv_add_emod a P;have e2:=Int.mul_ediv_add_emod b P;have r1:=Int.emod_nonneg a (show P≠0 by omega);have r2:=Int.emod_lt_of_pos a p0;have t1:=Int.emod_nonneg b (show P≠0 by omega);have t2:=Int.emod_lt_of_pos b p0;have u0:0≤a / P:=Int.ediv_nonneg ha.1 (by omega);have u1:a / P < Q:=Int.ediv_lt_of_lt_mul p0 (by rw[Int.mul_comm,hQ]; exact ha.2);generalize a / P=u at *;generalize a % P=r at *;generalize b / P=w at *;generalize b % P=t at *
 have ex:b * 4294967296 + a=r + P * (u + Q * t + 4294967296 * w):=by
  rw[← e1,← e2,Int.mul_add P,Int.mul_add P,← Int.mul_assoc P Q,hQ,Int.add_mul,Int.mul_comm t,Int.mul_comm (P * w),Int.mul_left_comm P];omega
 have ey:(b * 4294967296 + a) / P=u + Q * t + 4294967296 * w:=by
  rw[ex,Int.add_mul_ediv_left _ _ (by omega),Int.ediv_eq_zero_of_lt r1 r2,Int.zero_add]
 have hq:Q * t≤Q * (P - 1):=Int.mul_le_mul_of_nonneg_left (by omega) (by omega);rw[Int.mul_sub,Int.mul_comm Q P,hQ,Int.mul_one] at hq;have hq0:0≤Q * t:=Int.mul_nonneg (by omega) t1
 have em:(u + Q * t + 4294967296 * w) % 4294967296=u + Q * t:=by rw[Int.add_mul_emod_self_left]; exact Int.emod_eq_of_lt (by omega) (by omega)
 rw[ey,em,Int.mul_add,← Int.mul_assoc,hQ];omega
theorem qoc (a7:List Int) (s:Nat) (hs:s < 32) (hn:a7.length≤1099511627776) (ha:n8 a7):∀ d i (out:List Int),d + i=a7.length→out.length=a7.length→n8 out→
 2 ^ s * nv (out.take i) + nth a7 0 % 2 ^ s=nv (a7.take i) + pw i * (nth a7 i % 2 ^ s)→
 ∃ out',j0 T0 X0 0 zA (some (.nrm,⟨[(0,.d (.sl (L a7))),(1,.d (.int .i64 s)),(6,.ref (.b 0) ⟨1,4⟩ 0 a7.length),(26,.d (.int .i64 a7.length)),(27,.d (.int .i64 i))],[.arr (LV out) ⟨1,4⟩]⟩)) =
  some (.exit 0,⟨[(6,.ref (.b 0) ⟨1,4⟩ 0 a7.length)],[.arr (LV out') ⟨1,4⟩]⟩) ∧
   out'.length=a7.length∧n8 out'∧2 ^ s * nv out' + nth a7 0 % 2 ^ s=nv a7:=by
 have p0:=XF s;have p1:=qqg hs
 have hm:min s 64=s:=by omega
 have hsm:(s:Int) % 32=s:=by omega
 intro d
 induction d with
 | zero=>
   intro i out hd ho hg hv
   have:i=a7.length:=by omega
   subst this;refine ⟨out,?_,ho,hg,?_⟩
   ·rw[c9 (l:=zA) rfl];simp -implicitDefEqProofs (disch:=omega) [zB]
   ·rw[ji (Nat.le_refl _),List.take_of_length_le (by omega),List.take_of_length_le (by omega)] at hv
    simpa using hv
 | succ d ih=>
   intro i out hd ho hg hv;have n1:=ha.nth i;have n2:=ha.nth (i + 1);rw[c9 (l:=zA) rfl];have hr:=qod hs n1 n2
   obtain ⟨out',h1,h2⟩:=ih (i + 1) (out.set i (((nth a7 (i + 1) * 4294967296 + nth a7 i) / 2 ^ s) % 4294967296)) (by omega) (by simp[ho]) (V7 hg _ (by omega)) (by
    rw[vP (by omega),D2,Int.mul_add,Int.mul_left_comm,hr,vM];simp only[Int.mul_add,Int.mul_sub];rw[Int.mul_left_comm (pw i),Int.mul_assoc]
    omega)
   refine ⟨out',?_,h2⟩;rw[← h1]
   have ho1:orK .u64 (nth a7 i) (nth a7 (i + 1) * 4294967296)=nth a7 (i + 1) * 4294967296 + nth a7 i:=by rw[qv1]; exact qv2 n2.1 n1 n2.2
   by_cases hi:i + 1 < a7.length
   ·simp -implicitDefEqProofs (disch:=omega) [zB,hm,hsm,ho1]
   ·have e:nth a7 (i + 1)=0:=ji (by omega);simp -implicitDefEqProofs (disch:=omega) [zB,hm,hsm,e]
theorem qob {xs:List Int} {s:Nat} (hs:s < 32) (hn:xs.length≤1099511627776) (hx:n8 xs) :
 d5 T0 X0 qez [.d (.sl (L xs)),.d (.int .i64 s)] []=some (.ret [.d (.sl (L (d6 (nv xs / 2 ^ s)))),.d (.int .i64 0)] []):=by
 rw[a8 (af:=kw) rfl rfl rfl];have s1:=m8 hx (by omega);have h1:=q9 (d7 hx).1;have l1:(d6 (nv xs)).length≤xs.length:=o6 (d7 hx).1 (d7 hx).2;have hg:=g9 (nv xs);generalize d6 (nv xs)=a7 at *;rw[← h1]
 have hd:(s:Int) / 32=0:=by omega
 by_cases h0:a7.length=0
 ·have:a7=[]:=List.length_eq_zero_iff.1 h0;subst this
  have e:(nv [] / 2 ^ s:Int)=0:=by simp[nv]
  rw[e];simp -implicitDefEqProofs (disch:=omega) [kw,s1,hd]
 ·obtain ⟨out,l2,ho,hgo,hv⟩:=qoc a7 s hs (by omega) hg a7.length 0 (List.replicate a7.length 0) (by omega) (by simp) (QU _) (by simp[nv,pw]);have s2:=m8 hgo (by omega);have p0:=XF s
  have e:nv a7 / 2 ^ s=nv out:=by
   rw[← hv,Int.add_comm,Int.add_mul_ediv_left _ _ (by omega),Int.ediv_eq_zero_of_lt (Int.emod_nonneg _ (by omega)) (Int.emod_lt_of_pos _ p0),Int.zero_add]
  rw[e];have ht:out.take a7.length=out:=List.take_of_length_le (by omega);simp only[Int.cast_ofNat_Int] at l2;simp -implicitDefEqProofs (disch:=omega) [-List.length_eq_zero_iff,kw,s1,hd,l2,s2,ht]
end Go.Rf

namespace Go.Rf
theorem qlp {Vv W Bn f1 f2 top u2:Int} (hBn:0 < Bn) (hf1:1≤f1) (hf2:0≤f2∧f2 < 4294967296) (hu2:0≤u2∧u2 < 4294967296) (ht:0≤top)
 (hV1:(f1 * 4294967296 + f2) * Bn≤Vv) (hV2:Vv < (f1 * 4294967296 + f2 + 1) * Bn) (hW1:(top * 4294967296 + u2) * Bn≤W) (hW2:W < (top * 4294967296 + u2 + 1) * Bn) (hWB:W < 4294967296 * Vv) :
 (∀ g rest,g * f1 + rest=top→0≤g→g < 4294967296→(4294967296≤rest∨g * f2≤rest * 4294967296 + u2)→(g - 1) * Vv≤W) ∧
 (∀ g rest,g * f1 + rest=top→0≤g→(4294967296≤g∨rest * 4294967296 + u2 < g * f2)→W < g * Vv) ∧
 (∀ g rest,g * f1 + rest=top→4294967296≤g→rest < 4294967296)∧W < (top / f1 + 1) * Vv:=by
 have hm:∀ g rest:Int,g * f1 + rest=top→g * (f1 * 4294967296 + f2)=(top - rest) * 4294967296 + g * f2:=fun g rest h=>by
  rw[Int.mul_add,← Int.mul_assoc,← h,Int.add_sub_cancel]
 have hV0:0 < Vv:=Int.lt_of_lt_of_le (Int.mul_pos (by omega) hBn) hV1
 have key:∀ g,0≤g→top * 4294967296 + u2 < g * (f1 * 4294967296 + f2)→W < g * Vv:=fun g h0 h=>by
  have e1:(top * 4294967296 + u2 + 1) * Bn≤g * (f1 * 4294967296 + f2) * Bn:=Int.mul_le_mul_of_nonneg_right (by omega) (by omega);have e2:g * ((f1 * 4294967296 + f2) * Bn)≤g * Vv:=Int.mul_le_mul_of_nonneg_left hV1 h0;rw[← Int.mul_assoc] at e2;omega
 refine ⟨fun g rest h h0 h1 hc=>?_,fun g rest h h0 hc=>?_,fun g rest h hc=>?_,?_⟩
 ·have hc2:g * f2≤rest * 4294967296 + u2:=by
   rcases hc with hc | hc
   ·have:=qcr ⟨h0,h1⟩ hf2;omega
   ·exact hc
  have e0:=hm g rest h;have e1:g * Vv≤g * ((f1 * 4294967296 + f2 + 1) * Bn):=Int.mul_le_mul_of_nonneg_left (by omega) h0
  have e2:g * ((f1 * 4294967296 + f2 + 1) * Bn)=g * (f1 * 4294967296 + f2) * Bn + g * Bn:=by
   rw[← Int.mul_assoc,Int.mul_add g _ 1,Int.mul_one,Int.add_mul]
  have e3:g * (f1 * 4294967296 + f2) * Bn≤(top * 4294967296 + u2) * Bn:=Int.mul_le_mul_of_nonneg_right (by omega) (by omega);have e4:g * Bn≤(f1 * 4294967296 + f2) * Bn:=Int.mul_le_mul_of_nonneg_right (by omega) (by omega);rw[Int.sub_mul,Int.one_mul];omega
 ·rcases hc with hc | hc
  ·have:4294967296 * Vv≤g * Vv:=Int.mul_le_mul_of_nonneg_right hc (by omega);omega
  ·exact key g h0 (by rw[hm g rest h]; omega)
 ·have e1:(top * 4294967296 + u2) * Bn < 4294967296 * (f1 * 4294967296 + f2 + 1) * Bn:=by
   rw[Int.mul_assoc 4294967296];omega
  have e2:=Int.lt_of_mul_lt_mul_right e1 (by omega);have e3:4294967296 * f1≤g * f1:=Int.mul_le_mul_of_nonneg_right hc (by omega);omega
 ·have e0:=Int.lt_ediv_add_one_mul_self top (show 0 < f1 by omega);have e1:0≤top / f1:=Int.ediv_nonneg ht (by omega);refine key _ (by omega) ?_;have e2:0≤(top / f1 + 1) * f2:=Int.mul_nonneg (by omega) hf2.1;rw[Int.mul_add,← Int.mul_assoc];omega
theorem qo7 (us qs vs:List Int) (s j:Nat) {Vv W f1 f2 top:Int} (hl:us.length≤1099511627776) (hj:j + vs.length < us.length) (hv:2≤vs.length) (hq:qs.length≤1099511627776) (hu:n8 us)
 (hf1:1≤f1∧f1 < 4294967296) (hf2:0≤f2∧f2 < 4294967296) (ht:0≤top∧top < 18446744073709551616)
 (k1:∀ g rest,g * f1 + rest=top→0≤g→g < 4294967296→(4294967296≤rest∨g * f2≤rest * 4294967296 + nth us (j + vs.length - 2))→(g - 1) * Vv≤W)
 (k2:∀ g rest,g * f1 + rest=top→0≤g→(4294967296≤g∨rest * 4294967296 + nth us (j + vs.length - 2) < g * f2)→W < g * Vv)
 (k3:∀ g rest,g * f1 + rest=top→4294967296≤g→rest < 4294967296) :
 ∀ m g rest,(4294967296 - rest).toNat=m→g * f1 + rest=top→0≤g→g < 18446744073709551616→0≤rest→rest < 8589934592→W < (g + 1) * Vv→
 ∃ g',j0 T0 X0 0 xn (some (.nrm,⟨[(4,.ref (.b 0) ⟨1,4⟩ 0 qs.length),(6,.d (.int .i64 s)),(7,.ref (.b 1) ⟨1,4⟩ 0 us.length),(8,.ref (.b 2) ⟨1,4⟩ 0 vs.length),(9,.d (.int .i64 vs.length)),(10,.d (.int .u64 f1)),(11,.d (.int .u64 f2)),(12,.d (.int .i64 j)),(14,.d (.int .u64 g)),(15,.d (.int .u64 rest))],[.arr (LV qs) ⟨1,4⟩,.arr (LV us) ⟨1,4⟩,.arr (LV vs) ⟨1,4⟩]⟩)) =
  some (.exit 2,⟨[(4,.ref (.b 0) ⟨1,4⟩ 0 qs.length),(6,.d (.int .i64 s)),(7,.ref (.b 1) ⟨1,4⟩ 0 us.length),(8,.ref (.b 2) ⟨1,4⟩ 0 vs.length),(9,.d (.int .i64 vs.length)),(10,.d (.int .u64 f1)),(11,.d (.int .u64 f2)),(12,.d (.int .i64 j)),(14,.d (.int .u64 g'))],[.arr (LV qs) ⟨1,4⟩,.arr (LV us) ⟨1,4⟩,.arr (LV vs) ⟨1,4⟩]⟩) ∧
   0≤g'∧g' < 4294967296∧(g' - 1) * Vv≤W∧W < (g' + 1) * Vv:=by
 intro m
 induction m using Nat.strongRecOn with
 | _ m ih=>
   intro g rest hm hg h0 h64 hr0 hr1 hW;have n2:=hu.nth (j + vs.length - 2);rw[c9 (l:=xn) rfl]
   by_cases hr:rest < 4294967296
   ·have hor:=qv2 hr0 n2 hr
    have hdec:∀ hc:4294967296≤g∨rest * 4294967296 + nth us (j + vs.length - 2) < g * f2,1≤g→
     ∃ g',j0 T0 X0 0 xn (some (.nrm,⟨[(4,.ref (.b 0) ⟨1,4⟩ 0 qs.length),(6,.d (.int .i64 s)),(7,.ref (.b 1) ⟨1,4⟩ 0 us.length),(8,.ref (.b 2) ⟨1,4⟩ 0 vs.length),(9,.d (.int .i64 vs.length)),(10,.d (.int .u64 f1)),(11,.d (.int .u64 f2)),(12,.d (.int .i64 j)),(14,.d (.int .u64 (g - 1))),(15,.d (.int .u64 (rest + f1)))],[.arr (LV qs) ⟨1,4⟩,.arr (LV us) ⟨1,4⟩,.arr (LV vs) ⟨1,4⟩]⟩)) =
      some (.exit 2,⟨[(4,.ref (.b 0) ⟨1,4⟩ 0 qs.length),(6,.d (.int .i64 s)),(7,.ref (.b 1) ⟨1,4⟩ 0 us.length),(8,.ref (.b 2) ⟨1,4⟩ 0 vs.length),(9,.d (.int .i64 vs.length)),(10,.d (.int .u64 f1)),(11,.d (.int .u64 f2)),(12,.d (.int .i64 j)),(14,.d (.int .u64 g'))],[.arr (LV qs) ⟨1,4⟩,.arr (LV us) ⟨1,4⟩,.arr (LV vs) ⟨1,4⟩]⟩) ∧
       0≤g'∧g' < 4294967296∧(g' - 1) * Vv≤W∧W < (g' + 1) * Vv:=fun hc h1=>
     ih _ (by omega) (g - 1) (rest + f1) rfl (by rw[Int.sub_mul,Int.one_mul]; omega) (by omega) (by omega) (by omega) (by omega) (by rw[Int.sub_add_cancel]; exact k2 g rest hg h0 hc)
    by_cases hb:4294967296≤g
    ·obtain ⟨g',e,h⟩:=hdec (.inl hb) (by omega);refine ⟨g',?_,h⟩;rw[← e];simp -implicitDefEqProofs (disch:=omega) [Z9,hor]
    ·have hm2:=qcr (x:=g) (y:=f2) ⟨h0,by omega⟩ hf2
     by_cases hc:rest * 4294967296 + nth us (j + vs.length - 2) < g * f2
     ·have h1:1≤g:=by
       by_cases h:1≤g
       ·exact h
       ·have:g=0:=by omega
        subst this;omega
      obtain ⟨g',e,h⟩:=hdec (.inr hc) h1;refine ⟨g',?_,h⟩;rw[← e];simp -implicitDefEqProofs (disch:=omega) [Z9,hor]
     ·refine ⟨g,?_,h0,by omega,k1 g rest hg h0 (by omega) (.inr (by omega)),hW⟩;simp -implicitDefEqProofs (disch:=omega) [Z9,hor]
   ·have hb:g < 4294967296:=by
     by_cases h:g < 4294967296
     ·exact h
     ·exact absurd (k3 g rest hg (by omega)) hr
    refine ⟨g,?_,h0,hb,k1 g rest hg h0 hb (.inl (by omega)),hW⟩;simp -implicitDefEqProofs (disch:=omega) [Z9]
end Go.Rf

namespace Go.Rf
@[simp] theorem q40 (h:Loc→Option Obj) (m:List Loc) (l:Loc):Q7 h m l=if l∈m then none else h l:=rfl
theorem qhz {l:List Int} (h:∀ i,nth l i=0):nv l=0:=by
 induction l with
 | nil=>rfl
 | cons x l ih=>
   have h0:=h 0;rw[Qk] at h0;have h1:=ih (fun i=>by have:=h (i + 1); rwa [Ql] at this);simp only[nv,h0,h1];rfl
theorem qku (xs:List Int) (k i:Nat):nth (xs.drop k) i=nth xs (k + i):=by simp[nth,List.getD_eq_getElem?_getD,List.getElem?_drop]
theorem qso (vs:List Int) (s m:Nat) (hv:n8 vs) (hv2:2≤vs.length) (hf:1≤nth vs (vs.length - 1)) (hl:m + vs.length≤1099511627776):∀ k (us qs:List Int),k≤m→us.length=m + vs.length→qs.length=m→n8 us→n8 qs→nv us < pw k * nv vs→(∀ i,i < k→nth qs i=0)→
 ∃ us' qs',j0 T0 X0 0 xl (some (.nrm,⟨[(4,.ref (.b 0) ⟨1,4⟩ 0 m),(6,.d (.int .i64 s)),(7,.ref (.b 1) ⟨1,4⟩ 0 us.length),(8,.ref (.b 2) ⟨1,4⟩ 0 vs.length),(9,.d (.int .i64 vs.length)),(10,.d (.int .u64 (nth vs (vs.length - 1)))),(11,.d (.int .u64 (nth vs (vs.length - 2)))),(12,.d (.int .i64 ((k:Int) - 1)))],[.arr (LV qs) ⟨1,4⟩,.arr (LV us) ⟨1,4⟩,.arr (LV vs) ⟨1,4⟩]⟩)) =
  some (.exit 0,⟨[(4,.ref (.b 0) ⟨1,4⟩ 0 m),(6,.d (.int .i64 s)),(7,.ref (.b 1) ⟨1,4⟩ 0 us.length),(9,.d (.int .i64 vs.length))],[.arr (LV qs') ⟨1,4⟩,.arr (LV us') ⟨1,4⟩]⟩) ∧
   us'.length=us.length∧qs'.length=m∧n8 us'∧n8 qs'∧nv us' < nv vs∧nv us + nv qs * nv vs=nv us' + nv qs' * nv vs:=by
 intro k
 induction k with
 | zero=>
   intro us qs hk hu hq gu gq hlt hz;refine ⟨us,qs,?_,rfl,hq,gu,gq,by simpa [pw] using hlt,rfl⟩;rw[c9 (l:=xl) rfl];simp -implicitDefEqProofs (disch:=omega) [kY]
 | succ j ih=>
   intro us qs hk hu hq gu gq hlt hz
   have hn:j + vs.length < us.length:=by omega
   have pj:=V4 j;have vb:=d7 hv
   have hlt2:nv us < pw (j + 1 + vs.length):=by
    rw[Nat.add_comm,Zo];have:=Int.mul_le_mul_of_nonneg_left (Int.le_of_lt vb.2) (Int.le_of_lt (V4 (j + 1)));rw[Int.mul_comm (pw vs.length)];omega
   have zz:=qad gu hlt2;have f1b:=hv.nth (vs.length - 1);have f2b:=hv.nth (vs.length - 2);have u0b:=gu.nth (j + vs.length);have u1b:=gu.nth (j + vs.length - 1);have u2b:=gu.nth (j + vs.length - 2)
   have hVd:nv vs=nv (vs.take (vs.length - 2)) + pw (vs.length - 2) * (nth vs (vs.length - 1) * 4294967296 + nth vs (vs.length - 2)):=by
    rw[S6 (xs:=vs) (j:=vs.length - 2) (by omega),N7 (by omega),show vs.length - 2 + 1=vs.length - 1 by omega,N7 (by omega),show vs.length - 1 + 1=vs.length by omega,List.drop_length];simp only[nv];rw[Int.mul_zero,Int.add_zero,Int.add_comm (nth vs (vs.length - 2)),Int.mul_comm 4294967296]
   have vl:=d7 (hv.take (vs.length - 2));rw[List.length_take,Nat.min_eq_left (by omega)] at vl
   have hWd:nv (us.drop j)=nv ((us.drop j).take (vs.length - 2)) + pw (vs.length - 2) * ((nth us (j + vs.length) * 4294967296 + nth us (j + vs.length - 1)) * 4294967296 + nth us (j + vs.length - 2)):=by
    rw[S6 (xs:=us.drop j) (j:=vs.length - 2) (by simp; omega),List.drop_drop,show j + (vs.length - 2)=j + vs.length - 2 by omega,N7 (xs:=us) (i:=j + vs.length - 2) (by omega),show j + vs.length - 2 + 1=j + vs.length - 1 by omega,N7 (xs:=us) (i:=j + vs.length - 1) (by omega),show j + vs.length - 1 + 1=j + vs.length by omega,N7 (xs:=us) (i:=j + vs.length) (by omega)];have e:nv (us.drop (j + vs.length + 1))=0:=qhz (fun i=>by rw[qku]; exact zz _ (by omega));simp only[nv,e];rw[Int.mul_zero,Int.add_zero]
    congr 2
    omega
   have wl:=d7 ((gu.drop j).take (vs.length - 2));rw[List.length_take,Nat.min_eq_left (by simp; omega)] at wl;have hUd:=S6 (xs:=us) (j:=j) (by omega);have ul:=d7 (gu.take j);rw[List.length_take,Nat.min_eq_left (by omega)] at ul
   have hWB:nv (us.drop j) < 4294967296 * nv vs:=by
    have:pw j * nv (us.drop j) < pw j * (4294967296 * nv vs):=by
     rw[vM,Int.mul_comm 4294967296,Int.mul_assoc] at hlt;omega
    exact Int.lt_of_mul_lt_mul_left this (by omega)
   generalize hf1:nth vs (vs.length - 1)=f1 at *;generalize hf2:nth vs (vs.length - 2)=f2 at *;have hb:=V4 (vs.length - 2);generalize hBn:pw (vs.length - 2)=Bn at *
   have htop:0≤nth us (j + vs.length) * 4294967296 + nth us (j + vs.length - 1)∧nth us (j + vs.length) * 4294967296 + nth us (j + vs.length - 1) < 18446744073709551616:=by omega
   have hor:=qv2 u0b.1 u1b u0b.2;generalize htp:nth us (j + vs.length) * 4294967296 + nth us (j + vs.length - 1)=top at *;obtain ⟨k1,k2,k3,k4⟩:=qlp (Vv:=nv vs) (W:=nv (us.drop j)) hb hf f2b u2b htop.1 (by rw[hVd,Int.mul_comm]; omega) (by rw[hVd,Int.add_mul,Int.one_mul,Int.mul_comm Bn]; omega) (by rw[hWd,Int.mul_comm]; omega) (by rw[hWd,Int.add_mul _ 1,Int.one_mul,Int.mul_comm Bn]; omega) hWB;have t1:=Int.mul_ediv_add_emod top f1;rw[Int.mul_comm] at t1;have t2:0≤top / f1:=Int.ediv_nonneg htop.1 (by omega);have t3:top / f1≤top:=Int.ediv_le_self _ htop.1;have t4:=Int.emod_nonneg top (show f1≠0 by omega);have t5:=Int.emod_lt_of_pos top (show 0 < f1 by omega);obtain ⟨g,l1,g0,g1,g2,g3⟩:=qo7 us qs vs s j (W:=nv (us.drop j)) (Vv:=nv vs) (by omega) hn hv2 (by omega) gu ⟨hf,f1b.2⟩ f2b htop k1 k2 k3 _ (top / f1) (top % f1) rfl t1 t2 (by omega) t4 (by omega) k4
   have hV0:0 < nv vs:=by
    have:0 < Bn * (f1 * 4294967296 + f2):=Int.mul_pos hb (by omega);omega
   obtain ⟨us2,l2,hu2,gu2,hnu⟩:=qrv (us:=us) (j:=j) (by omega) hn hv gu ⟨g0,g1⟩ (fun i hi=>zz i (by omega)) hV0 g2 g3;have q0:0≤nv (us.drop j) / nv vs:=Int.ediv_nonneg (d7 (gu.drop j)).1 (by omega);have q1:nv (us.drop j) / nv vs < 4294967296:=Int.ediv_lt_of_lt_mul hV0 hWB;have d1:=Int.mul_ediv_add_emod (nv (us.drop j)) (nv vs);have d2:=Int.emod_lt_of_pos (nv (us.drop j)) hV0
   have hlt3:nv us2 < pw j * nv vs:=by
    have e1:pw j * (nv (us.drop j) - nv (us.drop j) / nv vs * nv vs)≤pw j * (nv vs - 1):=Int.mul_le_mul_of_nonneg_left (by rw[Int.mul_comm (nv (us.drop j) / nv vs)]; omega) (by omega);rw[Int.mul_sub,Int.mul_sub,Int.mul_one] at e1;omega
   obtain ⟨us3,qs3,l3,h1,h2,h3,h4,h5,h6⟩:=ih us2 (qs.set j (nv (us.drop j) / nv vs)) (by omega) (by omega) (by simp[hq]) gu2 (V7 gq _ ⟨q0,q1⟩) hlt3 (fun i hi=>by
    rw[U9 (by omega),if_neg (by omega)]
    exact hz i (by omega))
   refine ⟨us3,qs3,?_,by omega,h2,h3,h4,h5,?_⟩
   ·rw[c9 (l:=xl) rfl];rw[hu2] at l3;rw[← l3];rw[hq] at l1;generalize nv (us.drop j) / nv vs=Q at *
    have hsl:j + vs.length + 1 - j=vs.length + 1:=by omega
    have htk:(LV vs).take vs.length=LV vs:=by rw[q1t,List.take_length]
    have hvt:vs.take vs.length=vs:=List.take_length;simp -implicitDefEqProofs (disch:=omega) [kY,hor,htp,l1,l2,hsl,htk,hvt]
   ·rw[← h6,Zt (by omega),hz j (by omega),Int.sub_zero,hnu,Int.add_mul,Int.mul_assoc];omega
end Go.Rf

namespace Go.Rf
theorem qsn {a7 bs:List Int} (ha:n8 a7) (hb:n8 bs) (hs:a7.length + bs.length < 1099511627776) (h2:2≤bs.length) (hab:bs.length≤a7.length) (ht:nth bs (bs.length - 1)≠0) :
 d5 T0 X0 qik [.d (.sl (L a7)),.d (.sl (L bs))] []=some (.ret [.d (.sl (L (d6 (nv a7 / nv bs)))),.d (.sl (L (d6 (nv a7 % nv bs))))] []):=by
 have tb:=hb.nth (bs.length - 1);have s1:=qsr tb;have b1:=YY (n:=nth bs (bs.length - 1)) (k:=32) (by omega);have b3:=qtm (n:=nth bs (bs.length - 1)) (by omega)
 have b2:1≤xZ (nth bs (bs.length - 1)):=by
  have:=X4 (nth bs (bs.length - 1))
  by_cases h:xZ (nth bs (bs.length - 1))=0
  ·rw[h] at b3;have:(2:Int) ^ (0:Int).toNat=1:=rfl;omega
  ·omega
 obtain ⟨s,hs32⟩:∃ s:Nat,32 - xZ (nth bs (bs.length - 1))=s:=⟨(32 - xZ (nth bs (bs.length - 1))).toNat,by omega⟩;rw[hs32] at s1
 have hlt:s < 32:=by omega
 have p0:=XF s;have p1:=qqg hlt;have ab:=d7 ha
 have hbtop:nv bs=nv (bs.take (bs.length - 1)) + pw (bs.length - 1) * nth bs (bs.length - 1):=by
  conv=>lhs; rw[S6 (xs:=bs) (j:=bs.length - 1) (by omega),N7 (by omega),show bs.length - 1 + 1=bs.length by omega,List.drop_length]
  simp only[nv];rw[Int.mul_zero,Int.add_zero]
 have lb:=d7 (hb.take (bs.length - 1));rw[List.length_take,Nat.min_eq_left (by omega)] at lb;have pb:=V4 (bs.length - 1)
 have hpl:pw bs.length=4294967296 * pw (bs.length - 1):=by
  have:=vM (bs.length - 1)
  rwa [show bs.length - 1 + 1=bs.length by omega] at this
 have hPP:(2:Int) ^ (xZ (nth bs (bs.length - 1))).toNat * 2 ^ s=4294967296:=by
  rw[← Int.pow_add,show (xZ (nth bs (bs.length - 1))).toNat + s=32 by omega]; rfl
 have hub:nv bs * 2 ^ s < pw bs.length:=by
  have e1:pw (bs.length - 1) * (nth bs (bs.length - 1) + 1)≤pw (bs.length - 1) * 2 ^ (xZ (nth bs (bs.length - 1))).toNat:=Int.mul_le_mul_of_nonneg_left (by omega) (by omega);rw[Int.mul_add,Int.mul_one] at e1
  have e2:nv bs < pw (bs.length - 1) * 2 ^ (xZ (nth bs (bs.length - 1))).toNat:=by omega
  have e3:=Int.mul_lt_mul_of_pos_right e2 p0;rw[Int.mul_assoc,hPP] at e3;omega
 have hbl:pw (bs.length - 1)≤nv bs:=by
  have:pw (bs.length - 1) * 1≤pw (bs.length - 1) * nth bs (bs.length - 1):=Int.mul_le_mul_of_nonneg_left (by omega) (by omega);omega
 have hua:nv a7 * 2 ^ s < pw (a7.length + 1):=by
  have e:=Int.mul_lt_mul_of_pos_right ab.2 p0;have e2:pw a7.length * 2 ^ s≤pw a7.length * 2147483648:=Int.mul_le_mul_of_nonneg_left p1 (Int.le_of_lt (V4 _));have e3:=V4 a7.length;rw[vM];omega
 obtain ⟨us,m1,lu,gu,vu⟩:=qcs (a7:=a7) (s:=s) (n:=a7.length + 1) hlt (by omega) ha (by omega) hua;obtain ⟨vs,m2,lv,gv,vv⟩:=qcs (a7:=bs) (s:=s) (n:=bs.length) hlt (by omega) hb (Nat.le_refl _) hub
 have vlow:nv bs≤nv vs:=by
  rw[vv];have:nv bs * 1≤nv bs * 2 ^ s:=Int.mul_le_mul_of_nonneg_left (by omega) (by omega);omega
 have f1:1≤nth vs (vs.length - 1):=by
  have b:=gv.nth (vs.length - 1)
  by_cases h:nth vs (vs.length - 1)=0
  ·exfalso
   have:=qcp gv (k:=vs.length - 1) (fun i hi=>by
    by_cases e:i=vs.length - 1
    ·rw[e]; exact h
    ·exact ji (by omega))
   rw[lv] at this;omega
  ·omega
 obtain ⟨us2,qs,l1,lu2,lq,gu2,gq,hlt2,hval⟩:=qso vs s (a7.length + 1 - bs.length) gv (by omega) f1 (by omega) (a7.length + 1 - bs.length) us (List.replicate (a7.length + 1 - bs.length) 0) (Nat.le_refl _) (by omega) (by simp) gu (QU _) (by
  rw[vu];have e1:=Int.mul_lt_mul_of_pos_right ab.2 p0;have e2:pw (a7.length + 1 - bs.length) * (pw (bs.length - 1) * 2 ^ s)≤pw (a7.length + 1 - bs.length) * nv vs:=Int.mul_le_mul_of_nonneg_left (by rw[vv]; exact Int.mul_le_mul_of_nonneg_right hbl (by omega)) (Int.le_of_lt (V4 _));rw[← Int.mul_assoc,← Zo,show a7.length + 1 - bs.length + (bs.length - 1)=a7.length by omega] at e2
  omega) (fun i _=>by simp[nth,List.getD_eq_getElem?_getD,List.getElem?_replicate]; split <;> rfl)
 have z0:nv (List.replicate (a7.length + 1 - bs.length) 0)=0:=qhz (fun i=>by simp[nth,List.getD_eq_getElem?_getD,List.getElem?_replicate]; split <;> rfl);rw[z0,Int.zero_mul,Int.add_zero] at hval;have b0:0≤nv us2:=(d7 gu2).1
 have hVp:0 < nv vs:=by omega
 have q1:nv a7 * 2 ^ s / nv vs=nv qs:=by
  rw[← vu,hval,Int.add_mul_ediv_right _ _ (by omega),Int.ediv_eq_zero_of_lt b0 hlt2,Int.zero_add]
 have r1:nv a7 * 2 ^ s % nv vs=nv us2:=by
  rw[← vu,hval,Int.add_mul_emod_self_right,Int.emod_eq_of_lt b0 hlt2]
 have q2:nv a7 / nv bs=nv qs:=by rw[← q1,vv,Int.mul_ediv_mul_of_pos_left _ _ p0]
 have r2:nv us2 / 2 ^ s=nv a7 % nv bs:=by
  rw[← r1,vv,Int.mul_comm _ (2 ^ s),Int.mul_comm (nv bs),Int.mul_emod_mul_of_pos _ _ p0,Int.mul_ediv_cancel_left _ (by omega)]
 have hlow:nv (us2.take vs.length)=nv us2:=by
  have hz:=qad gu2 (k:=vs.length) (Int.lt_trans hlt2 (d7 gv).2);have e:=S6 (xs:=us2) (j:=vs.length) (by omega);rw[qhz (l:=us2.drop vs.length) (fun i=>by rw[qku]; exact hz _ (by omega)),Int.mul_zero,Int.add_zero] at e;exact e.symm
 have s3:=qob (xs:=us2.take vs.length) (s:=s) hlt (by simp; omega) (gu2.take _);rw[hlow,r2] at s3;have s4:=m8 gq (by omega);rw[q2];rw[a8 (af:=ZQ) rfl rfl rfl];rw[lu,lv] at l1;rw[lv] at s3
 have hm:a7.length + 1 - bs.length + bs.length=a7.length + 1:=by omega
 have hqt:qs.take (a7.length + 1 - bs.length)=qs:=List.take_of_length_le (by omega)
 have hc:((a7.length:Int) + 1 - (bs.length:Int))=((a7.length + 1 - bs.length:Nat):Int):=by omega
 have htn:((a7.length:Int) + 1 - (bs.length:Int)).toNat=a7.length + 1 - bs.length:=by omega
 simp only[Int.natCast_add,Int.cast_ofNat_Int] at m1;have f1b:=gv.nth (vs.length - 1);have f2b:=gv.nth (vs.length - 2);rw[lv] at f1b f2b;generalize hM:a7.length + 1 - bs.length=M at *;simp -implicitDefEqProofs (disch:=omega) [ZQ,s1,m1,m2,hc,l1,s3,s4,hqt]
end Go.Rf

namespace Go.Rf
theorem qap {xs ys:List Int} (hx:n8 xs) (hy:n8 ys) (hs:xs.length + ys.length < 1073741824) :
 d5 T0 X0 va [.d (.sl (L xs)),.d (.sl (L ys))] []=some (.ret (if nv ys=0 then [.d (.sl []),.d (.sl []),.d (.bool false)] else [.d (.sl (L (d6 (nv xs / nv ys)))),.d (.sl (L (d6 (nv xs % nv ys)))),.d (.bool true)]) []):=by
 rw[a8 (af:=W2) rfl rfl rfl];have s1:=m8 hx (by omega);have s2:=m8 hy (by omega);have h1:=q9 (d7 hx).1;have h2:=q9 (d7 hy).1;have l1:(d6 (nv xs)).length≤xs.length:=o6 (d7 hx).1 (d7 hx).2;have l2:(d6 (nv ys)).length≤ys.length:=o6 (d7 hy).1 (d7 hy).2;have g1:=g9 (nv xs);have g2:=g9 (nv ys);have c1:=S4 (nv xs);have c2:=S4 (nv ys);generalize d6 (nv xs)=a7 at *;generalize d6 (nv ys)=bs at *;rw[← h1,← h2];have n1:=d7 g1;have n2:=d7 g2
 by_cases h0:nv bs=0
 ·have e:bs=[]:=by
   rcases c2 with h | h
   ·exact h
   ·have:=V4 (bs.length - 1);omega
  subst e;rw[if_pos (show nv []=0 from rfl)];simp -implicitDefEqProofs (disch:=omega) [W2,s1,s2]
 ·rw[if_neg h0]
  have hbl:bs.length≠0:=fun h=>h0 (by rw[List.length_eq_zero_iff.1 h]; rfl)
  have s3:=qmr g1 g2 (by omega) (by omega)
  by_cases hlt:nv a7 < nv bs
  ·have e1:nv a7 / nv bs=0:=Int.ediv_eq_zero_of_lt n1.1 hlt;have e2:nv a7 % nv bs=nv a7:=Int.emod_eq_of_lt n1.1 hlt;have s4:=QD g1 (by omega);rw[e1,e2];unfold cmp at s3;rw[if_pos hlt] at s3;simp -implicitDefEqProofs (disch:=omega) [-List.length_eq_zero_iff,W2,s1,s2,s3,s4]
  ·have h3:¬ cmp (nv a7) (nv bs) < 0:=by
    unfold cmp;rw[if_neg hlt]
    split <;> omega
   by_cases hl1:bs.length=1
   ·obtain ⟨y,rfl⟩:=List.length_eq_one_iff.1 hl1
    have hy0:nv [y]=y:=by simp[nv]
    have gy:=(V8.1 g2).1;rw[hy0] at h0 h3 s3 ⊢;have s4:=qav (b:=y) g1 (by omega) (by omega);have m0:=Int.emod_nonneg (nv a7) h0;have m1:=Int.emod_lt_of_pos (nv a7) (show 0 < y by omega);have s5:=Zi (n:=nv a7 % y) (by omega);simp only[zT,kS] at s2 s3
    have hw:wl [D.int .u32 y]≤A5:=by
     have:=JT [y];simp only[zT,kS] at this;unfold A5; omega
    simp -implicitDefEqProofs (disch:=omega) [W2,s1,s2,s3,s4,s5,h3,hw]
   ·have hbl2:bs.length≤a7.length:=by
     by_cases h:bs.length≤a7.length
     ·exact h
     ·have:=JD g1 c2 (show a7.length < bs.length by omega);omega
    have htop:nth bs (bs.length - 1)≠0:=fun h=>by
     rcases c2 with c | c
     ·exact hbl (by rw[c]; rfl)
     ·have:=qcp g2 (k:=bs.length - 1) (fun i hi=>by
       by_cases e:i=bs.length - 1
       ·rw[e]; exact h
       ·exact ji (by omega))
      omega
    have s4:=qsn g1 g2 (by omega) (by omega) hbl2 htop;simp -implicitDefEqProofs (disch:=omega) [-List.length_eq_zero_iff,W2,s1,s2,s3,s4,h3]
theorem JI {m n q r:Int} (hn:n≠0) (h:m=q * n + r) (h0:0≤r) (h1:r < n.natAbs):m / n=q∧m % n=r:=by
 have e:m % n=r:=by
  rw[h,Int.add_comm,Int.add_mul_emod_self_right];rcases Int.lt_or_gt_of_ne hn with hn | hn
  ·rw[← Int.emod_neg];exact Int.emod_eq_of_lt h0 (by omega)
  ·exact Int.emod_eq_of_lt h0 (by omega)
 refine ⟨?_,e⟩;have d:=Int.mul_ediv_add_emod m n;rw[e] at d
 have:n * (m / n)=n * q:=by rw[Int.mul_comm n q]; omega
 exact Int.eq_of_mul_eq_mul_left hn this
def q0 (m n:Int):Int:=sg (decide (m < 0) != decide (n < 0)) ((m.natAbs:Int) / n.natAbs)
def r0 (m n:Int):Int:=sg (decide (m < 0)) ((m.natAbs:Int) % n.natAbs)
theorem qr0 (m n:Int) (hn:n≠0):m=q0 m n * n + r0 m n∧(r0 m n).natAbs < n.natAbs∧(q0 m n).natAbs≤m.natAbs:=by
 have d:=Int.mul_ediv_add_emod (m.natAbs:Int) n.natAbs;have m0:=Int.emod_nonneg (m.natAbs:Int) (show (n.natAbs:Int)≠0 by omega);have m1:=Int.emod_lt_of_pos (m.natAbs:Int) (show 0 < (n.natAbs:Int) by omega);have q1:(m.natAbs:Int) / n.natAbs≤m.natAbs:=Int.ediv_le_self _ (by omega);have q2:0≤(m.natAbs:Int) / n.natAbs:=Int.ediv_nonneg (by omega) (by omega);unfold q0 r0 sg;generalize (m.natAbs:Int) / n.natAbs=q at *;generalize (m.natAbs:Int) % n.natAbs=r at *
 have e:(n.natAbs:Int)=if n < 0 then -n else n:=by split <;> omega
 rw[e] at d
 by_cases hm:m < 0 <;> by_cases hn2:n < 0 <;> simp only[hm,hn2,decide_true,decide_false,if_true,if_false,bne_self_eq_false,Bool.false_eq_true,Bool.true_bne,Bool.false_bne,Bool.not_false] at d ⊢ <;> refine ⟨?_,by omega,by omega⟩
 ·rw[Int.neg_mul,Int.mul_comm] at d; omega
 ·rw[Int.mul_comm] at d; rw[Int.neg_mul]; omega
 ·rw[Int.neg_mul,Int.mul_comm] at d; rw[Int.neg_mul]; omega
 ·rw[Int.mul_comm] at d; omega
section walk
variable {p pn:Bool} {a7 bs:List Int} {qa ra Q R:Int} (h1:a7.length < 268435456) (h2:bs.length < 268435456) (h3:(d6 qa).length < 536870912) (h4:(d6 ra).length < 536870912) (h5:(d6 Q.natAbs).length < 536870912) (h6:(d6 R.natAbs).length < 536870912)
 (s1:d5 T0 X0 va [.d (.sl (L a7)),.d (.sl (L bs))] []=some (.ret [.d (.sl (L (d6 qa))),.d (.sl (L (d6 ra))),.d (.bool true)] []))
 (s2:d5 T0 X0 ZC [.d (.bool (!(p == pn))),.d (.sl (L (d6 qa)))] []=some (.ret [.d (.agg [.bool (decide (Q < 0)),.sl (L (d6 Q.natAbs))])] []))
 (s3:d5 T0 X0 ZC [.d (.bool p),.d (.sl (L (d6 ra)))] []=some (.ret [.d (.agg [.bool (decide (R < 0)),.sl (L (d6 R.natAbs))])] []))
include h1 h2 h3 h4 h5 h6 s1 s2 s3
theorem q96 (hr:¬ R < 0):d5 T0 X0 jm [.d (.agg [.bool p,.sl (L a7)]),.d (.agg [.bool pn,.sl (L bs)])] []=some (.ret [.d (.agg [.bool (decide (Q < 0)),.sl (L (d6 Q.natAbs))]),.d (.agg [.bool (decide (R < 0)),.sl (L (d6 R.natAbs))]),.d (.bool true)] []):=by
 have _:=h5;have _:=h6;rw[a8 (af:=H7) rfl rfl rfl];simp -implicitDefEqProofs (disch:=omega) [H7,s1,s2,s3]
variable {one l6 l9:List Int} {b6 b9:Bool} {sn:Int} (h7:one.length < 536870912)
 (s4:d5 T0 X0 qde [.d (.int .i64 1)] []=some (.ret [.d (.agg [.bool false,.sl (L one)])] []))
 (s5:d5 T0 X0 ZD [.d (.agg [.bool pn,.sl (L bs)])] []=some (.ret [.d (.int .i64 sn)] []))
include h7 s4 s5
theorem zly (hr:R < 0) (hn:sn < 0)
 (s6:d5 T0 X0 vX [.d (.agg [.bool (decide (Q < 0)),.sl (L (d6 Q.natAbs))]),.d (.agg [.bool false,.sl (L one)])] []=some (.ret [.d (.agg [.bool b6,.sl (L l6)])] []))
 (s9:d5 T0 X0 vW [.d (.agg [.bool true,.sl (L (d6 R.natAbs))]),.d (.agg [.bool pn,.sl (L bs)])] []=some (.ret [.d (.agg [.bool b9,.sl (L l9)])] [])) :
 d5 T0 X0 jm [.d (.agg [.bool p,.sl (L a7)]),.d (.agg [.bool pn,.sl (L bs)])] []=some (.ret [.d (.agg [.bool b6,.sl (L l6)]),.d (.agg [.bool b9,.sl (L l9)]),.d (.bool true)] []):=by
 rw[a8 (af:=H7) rfl rfl rfl];simp -implicitDefEqProofs (disch:=omega) [H7,s1,s2,s3,s4,s5,s6,s9]
theorem zlz (hr:R < 0) (hn:¬ sn < 0)
 (s6:d5 T0 X0 vW [.d (.agg [.bool (decide (Q < 0)),.sl (L (d6 Q.natAbs))]),.d (.agg [.bool false,.sl (L one)])] []=some (.ret [.d (.agg [.bool b6,.sl (L l6)])] []))
 (s9:d5 T0 X0 vX [.d (.agg [.bool true,.sl (L (d6 R.natAbs))]),.d (.agg [.bool pn,.sl (L bs)])] []=some (.ret [.d (.agg [.bool b9,.sl (L l9)])] [])) :
 d5 T0 X0 jm [.d (.agg [.bool p,.sl (L a7)]),.d (.agg [.bool pn,.sl (L bs)])] []=some (.ret [.d (.agg [.bool b6,.sl (L l6)]),.d (.agg [.bool b9,.sl (L l9)]),.d (.bool true)] []):=by
 rw[a8 (af:=H7) rfl rfl rfl];simp -implicitDefEqProofs (disch:=omega) [H7,s1,s2,s3,s4,s5,s6,s9]
end walk
theorem Wa {m n:Int} (hm:nl m < 268435456) (hn:nl n < 268435456) :
 d5 T0 X0 jm [.d (Wd m),.d (Wd n)] []=some (.ret (if n=0 then [.d (Wd 0),.d (Wd 0),.d (.bool false)] else [.d (Wd (m / n)),.d (Wd (m % n)),.d (.bool true)]) []):=by
 have s1:=qap (g9 m.natAbs) (g9 n.natAbs) (by unfold nl at hm hn; omega);rw[jh,jh] at s1
 by_cases h0:n=0
 ·subst h0;rw[a8 (af:=H7) rfl rfl rfl];rw[if_pos (show ((Int.natAbs 0:Nat):Int)=0 from rfl)] at s1;rw[if_pos rfl];simp only[nl] at hm;simp only[Wd,Int.natAbs_zero,Int.cast_ofNat_Int,wX,kS] at s1 ⊢;simp -implicitDefEqProofs (disch:=omega) [H7,s1]
 ·rw[if_neg h0];rw[if_neg (by omega)] at s1;obtain ⟨e1,e2,e3⟩:=qr0 m n h0;have lm:=qag m;have ln:=qag n;have nq:nl (q0 m n)≤nl m:=qf2 (by omega) (by omega);have nr:nl (r0 m n)≤nl n:=qf2 (by omega) (by omega);have hq0:0≤(m.natAbs:Int) / n.natAbs:=Int.ediv_nonneg (by omega) (by omega);have hr0:=Int.emod_nonneg (m.natAbs:Int) (show (n.natAbs:Int)≠0 by omega);have k1:(d6 ((m.natAbs:Int) / n.natAbs)).length≤nl m:=o6 hq0 (by have:=Int.ediv_le_self (a:=(m.natAbs:Int)) (n.natAbs:Int) (by omega); omega);have k2:(d6 ((m.natAbs:Int) % n.natAbs)).length≤nl n:=o6 hr0 (by have:=Int.emod_lt_of_pos (m.natAbs:Int) (show 0 < (n.natAbs:Int) by omega); omega);have s2:=S3 (decide (m < 0) != decide (n < 0)) hq0 (by omega);have s3:=S3 (decide (m < 0)) hr0 (by omega);change _=some (CRes.ret [.d (Wd (q0 m n))] []) at s2;change _=some (CRes.ret [.d (Wd (r0 m n))] []) at s3;have s4:=Xj (n:=1) (by omega);have s5:=KS (m:=n) (by omega)
  by_cases hr:r0 m n < 0
  ·have hrd:decide (r0 m n < 0)=true:=decide_eq_true hr
   by_cases hneg:n < 0
   ·obtain ⟨d1,d2⟩:=JI (m:=m) (n:=n) (q:=q0 m n + 1) (r:=r0 m n - n) h0 (by rw[Int.add_mul,Int.one_mul]; omega) (by omega) (by omega);rw[d1,d2];have s6:=qno (m:=q0 m n) (n:=1) (by omega) (by decide);have s9:=qt1 (m:=r0 m n) (n:=n) (by omega) (by omega)
    have hsg:n.sign < 0:=by rw[Int.sign_eq_neg_one_of_neg hneg]; decide
    unfold Wd at s9;rw[hrd] at s9;exact zly (by unfold nl at hm; omega) (by unfold nl at hn; omega) (by omega) (by omega) (by unfold nl at nq hm; omega) (by unfold nl at nr hn; omega) s1 s2 s3 (by decide) s4 s5 hr hsg s6 s9
   ·obtain ⟨d1,d2⟩:=JI (m:=m) (n:=n) (q:=q0 m n - 1) (r:=r0 m n + n) h0 (by rw[Int.sub_mul,Int.one_mul]; omega) (by omega) (by omega);rw[d1,d2];have s6:=qt1 (m:=q0 m n) (n:=1) (by omega) (by decide);have s9:=qno (m:=r0 m n) (n:=n) (by omega) (by omega)
    have hsg:¬ n.sign < 0:=by rw[Int.sign_eq_one_of_pos (by omega)]; decide
    unfold Wd at s9;rw[hrd] at s9;exact zlz (by unfold nl at hm; omega) (by unfold nl at hn; omega) (by omega) (by omega) (by unfold nl at nq hm; omega) (by unfold nl at nr hn; omega) s1 s2 s3 (by decide) s4 s5 hr hsg s6 s9
  ·obtain ⟨d1,d2⟩:=JI (q:=q0 m n) (r:=r0 m n) h0 e1 (by omega) (by omega);rw[d1,d2];exact q96 (by unfold nl at hm; omega) (by unfold nl at hn; omega) (by omega) (by omega) (by unfold nl at nq hm; omega) (by unfold nl at nr hn; omega) s1 s2 s3 hr
end Go.Rf

namespace Go.Rf
def WL (l:List Int):List D:=l.map Wd
def WV (l:List Int):List V:=l.map fun n=>.d (Wd n)
@[simp] theorem WL_len (l):(WL l).length=l.length:=by simp[WL]
@[simp] theorem WV_len (l):(WV l).length=l.length:=by simp[WV]
@[simp] theorem qyl:WV []=[]:=rfl
@[simp] theorem WV_take (l n):(WV l).take n=WV (l.take n):=by simp[WV,List.map_take]
@[simp] theorem WL_take (l n):(WL l).take n=WL (l.take n):=by simp[WL,List.map_take]
@[simp] theorem qrf (l:List Int) (n:Int):WV l++[.d (Wd n)]=WV (l++[n]):=by simp[WV]
@[simp] theorem WV_set (l:List Int) (i:Nat) (n:Int):(WV l).set i (.d (Wd n))=WV (l.set i n):=by simp[WV,List.map_set]
@[simp] theorem zbc (n:Nat) (y:Int):List.replicate n (V.d (Wd y))=WV (List.replicate n y):=by simp[WV]
theorem Wd_0:Wd 0 = .agg [.bool false,.sl []]:=rfl
@[simp] theorem qre:V.d (.agg [.bool false,.sl []])=V.d (Wd 0):=rfl
@[simp] theorem WV_rep0 (n:Nat):List.replicate n (V.d (.agg [.bool false,.sl []]))=WV (List.replicate n 0):=zbc n 0
@[simp] theorem qym (l):(WL l).map V.d=WV l:=by simp[WL,WV,Function.comp_def]
@[simp] theorem allD_WV (l):S9 (WV l)=some (WL l):=by rw[← qym]; exact qd7 _
@[simp] theorem rens_WV (al:Loc→Bool) (l:List Int) (m:List Loc):qN al (WV l) m=(WV l,m):=by rw[← qym]; exact wQ ..
@[simp] theorem zjh (f:Loc→Loc) (l:List Int):Q1 f (WV l)=WV l:=by
  induction l with
  | nil=>rfl
  | cons x xs ih=>
    show V.mapL f (.d _) :: Q1 f (WV xs)=_;rw[ih];rfl
@[simp] theorem frzL_WV (h:Loc→Option Obj) (k:Nat) (l:List Int):jP (frz h (k + 1)) (WV l)=some (WL l,[]):=by
  induction l with
  | nil=>rfl
  | cons x xs ih=>
    show jP (frz h (k + 1)) (.d _ :: WV xs)=_;simp only[jP,ih];rfl
theorem q1v (l:List Int):wl (WL l)≤32:=by
 induction l with
 | nil=>simp[WL,wl]
 | cons x xs ih=>
   show max (wt (Wd x)) (wl (WL xs))≤32;have:wt (Wd x)=25:=rfl;omega
@[simp] theorem wl_WL32 (l):(wl (WL l)≤32)=True:=eq_true (q1v l)
@[simp] theorem fit_WL {n:Nat} {l:List Int} (h:n≤1099511627):(n * wl (WL l)≤A5)=True:=eq_true (Nat.le_trans (Nat.mul_le_mul h (q1v l)) (by unfold A5; omega))
@[simp] theorem zmy (l):(∀ x∈WV l,x.cells.length=2)=True:=eq_true (by
  intro x hx;obtain ⟨n,_,rfl⟩:=List.mem_map.1 hx
  rfl)
@[simp] theorem zmz (l):(∀ x∈WL l,x.cells.length=2)=True:=eq_true (by
  intro x hx;obtain ⟨n,_,rfl⟩:=List.mem_map.1 hx
  rfl)
theorem qyn {l:List Int} {i:Nat} (h:i < l.length):(WL l)[i]? = some (Wd (nth l i)):=by simp[WL,nth,h]
theorem qea {l:List Int} {i:Nat} (h:i < l.length):(WV l)[i]? = some (.d (Wd (nth l i))):=by simp[WV,nth,h]
attribute [simp] qyn qea
@[simp] theorem zl4 (n:Int):(Wd n).cells.length=2:=rfl
@[simp] theorem zbn (n:Int):(V.cells (.d (Wd n))).length=2:=rfl
@[simp] theorem aggO_Wd (n):qd9 (List.take 2 (V.d (Wd n)).cells) (S9 (List.take 2 (V.d (Wd n)).cells)) = .d (Wd n):=rfl
@[simp] theorem zgq (n):List.take 2 (V.d (Wd n)).cells=(V.d (Wd n)).cells:=rfl
@[simp] theorem zmv (n):qd9 (V.d (Wd n)).cells (S9 (V.d (Wd n)).cells) = .d (Wd n):=rfl
theorem q03 {n:Int} (h:nl n < 1099511627776):N6 (.d (Wd n))=true:=by
 have:wl (L (d6 n.natAbs))≤4:=JT _;have h2:(d6 n.natAbs).length * wl (L (d6 n.natAbs))≤1099511627776 * 4:=Nat.mul_le_mul (Nat.le_of_lt h) this;simp[Wd,N6,jQ];unfold A5; omega
attribute [simp] q03
@[simp] theorem nl_0:nl 0=0:=rfl
@[simp] theorem nl_1:nl 1=1:=rfl
@[simp] theorem nl_m1:nl (-1)=1:=rfl
@[simp] theorem zkv:N6 (.d (Wd 0))=true:=rfl
@[simp] theorem zku:N6 (.d (Wd 1))=true:=rfl
@[simp] theorem zeh:N6 (.d (Wd (-1)))=true:=rfl
@[simp] theorem zjr (h n):S7 h 2 true (.d (.box (Wd n)))=val (.d (Wd n)):=by simp[Wd]
@[simp] theorem q5y (x n:Int):B6 (.d (Wd x)) 0 (.d (Wd n))=some (.d (Wd n)):=by simp[Wd,B6]
theorem qnr (k:Int) (f:List Int) (hf:f.length≤1000) (hk:nl k < 1073741824) (hb:∀ i,i < f.length→nl (nth f i) < 1073741824):∀ d i (out:List Int) (e:List (Nat × V)),d + i=f.length→out.length=i→
 j0 T0 X0 0 zD (some (.nrm,⟨(3,.ptr (.b 0) 0 0) :: (5,.ref (.b 1) ⟨2,32⟩ 0 i) :: (8,.d (.sl (WL f))) :: (9,.d (.int .i64 f.length)) :: (10,.d (.int .i64 i)) :: e,[.arr [.d (Wd k)] ⟨2,0⟩,.arr (WV out) ⟨2,32⟩]⟩)) =
  some (.exit 0,⟨[(5,.ref (.b 0) ⟨2,32⟩ 0 f.length)],[.arr (WV (out++(f.map (· * k)).drop i)) ⟨2,32⟩]⟩):=by
 intro d
 induction d with
 | zero=>
   intro i out e hd ho;rw[c9 (l:=zD) rfl];have h1:(f.map (· * k)).drop i=[]:=List.drop_eq_nil_of_le (by simp; omega)
   have h2:i=f.length:=by omega
   subst h2;have h3:(f.map (· * k)).drop f.length=[]:=h1;simp -implicitDefEqProofs (disch:=omega) [km,h3]
 | succ d ih=>
   intro i out e hd ho;rw[c9 (l:=zD) rfl]
   have hi:i < f.length:=by omega
   have h1:(f.map (· * k)).drop i=(nth f i * k) :: (f.map (· * k)).drop (i + 1):=by rw[List.drop_eq_getElem_cons (by simpa using hi)]; simp[nth,hi]
   have hbi:=hb i hi;have s1:=qnk (m:=nth f i) (n:=k) (hb i hi) hk
   have s2:=fun e=>ih (i + 1) (out++[nth f i * k]) e (by omega) (by simp[ho])
   have ht:out.take i=out:=by rw[← ho]; exact List.take_length
   simp only[Int.natCast_add,Int.cast_ofNat_Int] at s2;rw[h1];simp -implicitDefEqProofs (disch:=omega) [km,s1,s2,ht]
theorem Zf {k:Int} {f:List Int} (hf:f.length≤1000) (hk:nl k < 1073741824) (hb:∀ i,i < f.length→nl (nth f i) < 1073741824) :
 d5 T0 X0 qe1 [.d (.sl (WL f)),.d (Wd k)] []=some (.ret [.d (.sl (WL (f.map (· * k))))] []):=by
 rw[a8 (af:=Qw) rfl rfl rfl]
 have h:=fun e=>qnr k f hf hk hb f.length 0 [] e rfl rfl
 simp only[Int.cast_ofNat_Int,List.length_nil,qyl,List.nil_append,List.drop_zero] at h
 have ht:(f.map (· * k)).take f.length=f.map (· * k):=by rw[List.take_of_length_le]; simp
 simp -implicitDefEqProofs (disch:=omega) [Qw,h,ht]
theorem qe7 (f g:List Int) (n:Nat) (hf:n≤1000) (hb:∀ i,i < n→nl (nth g i) < 1073741824) (hn:g.length=n):∀ d i (e:List (Nat × V)),d + i=n→
 j0 T0 X0 0 V0 (some (.nrm,⟨(0,.d (.sl (WL f))) :: (2,.ptr (.b 0) 0 0) :: (4,.d (.int .i64 n)) :: (12,.d (.sl (WL g))) :: (13,.d (.int .i64 n)) :: (14,.d (.int .i64 i)) :: e,[.arr [.d (Wd 0)] ⟨2,0⟩]⟩)) =
  some (if g.drop i=List.replicate d 0 then (.exit 0,⟨[(0,.d (.sl (WL f))),(2,.ptr (.b 0) 0 0),(4,.d (.int .i64 n))],[.arr [.d (Wd 0)] ⟨2,0⟩]⟩) else (.ret,⟨[(2,.ptr (.b 0) 0 0),(3,.d (.bool false))],[.arr [.d (Wd 0)] ⟨2,0⟩]⟩)):=by
 intro d
 induction d with
 | zero=>
   intro i e hd;rw[c9 (l:=V0) rfl];have h1:g.drop i=[]:=List.drop_eq_nil_of_le (by omega);rw[h1];simp only[List.replicate_zero,if_pos];simp -implicitDefEqProofs (disch:=omega) [V1]
 | succ d ih=>
   intro i e hd;rw[c9 (l:=V0) rfl]
   have hi:i < n:=by omega
   have h1:g.drop i=nth g i :: g.drop (i + 1):=by rw[List.drop_eq_getElem_cons (by omega)]; simp[nth,hn ▸ hi]
   have s1:=KS (m:=nth g i) (hb i hi)
   have s2:=fun e=>ih (i + 1) e (by omega)
   simp only[Int.natCast_add,Int.cast_ofNat_Int] at s2;have hbi:=hb i hi;rw[h1]
   by_cases hz:nth g i=0
   ·simp only[hz,List.replicate_succ,List.cons.injEq,true_and,Int.sign_zero] at s1 ⊢;simp -implicitDefEqProofs (disch:=omega) [V1,hz,s1,s2]
   ·rw[if_neg (by simp[List.replicate_succ,hz])]
    have h2:(nth g i).sign≠0:=by simpa using hz
    simp -implicitDefEqProofs (disch:=omega) [V1,s1,h2]
def G9 (f:List Int):Int × Bool:=if f.take (f.length - 1)=List.replicate (f.length - 1) 0 then (nth f (f.length - 1),true) else (0,false)
theorem Kh {f:List Int} (hf:f.length≤1000) (h0:0 < f.length) (hb:∀ i,i < f.length→nl (nth f i) < 1073741824) :
 d5 T0 X0 WJ [.d (.sl (WL f))] []=some (.ret [.d (Wd (G9 f).1),.d (.bool (G9 f).2)] []):=by
 obtain ⟨n,hn⟩:∃ n,f.length=n + 1:=⟨f.length - 1,by omega⟩;rw[a8 (af:=zE) rfl rfl rfl]
 have hg:∀ i,i < n→nth (f.take n) i=nth f i:=fun i hi=>by simp[nth,hi]
 have h:=fun e=>qe7 f (f.take n) n (by omega) (fun i hi=>by rw[hg i hi]; exact hb i (by omega)) (by simp; omega) n 0 e (by omega)
 simp only[Int.cast_ofNat_Int,List.drop_zero] at h;unfold G9;rw[hn,Nat.add_sub_cancel]
 by_cases c:f.take n=List.replicate n 0
 ·simp only[if_pos c] at h ⊢;simp -implicitDefEqProofs (disch:=omega) [zE,h,hn]
 ·simp only[if_neg c] at h ⊢;simp -implicitDefEqProofs (disch:=omega) [zE,h,hn]
end Go.Rf

namespace Go.Rf
@[simp] theorem WL_nil:WL []=[]:=rfl
theorem qg0 (l r:List Int) (N:Nat) (hN:N≤1000) (hl:l.length=N) (hr:r.length=N) (bl:∀ i,i < N→nl (nth l i) < 1073741824) (br:∀ i,i < N→nl (nth r i) < 1073741824):∀ d i (out:List Int) (e:List (Nat × V)),d + i=N→out.length=N→
 j0 T0 X0 0 xz (some (.nrm,⟨(1,.d (.sl (WL l))) :: (2,.d (.sl (WL r))) :: (12,.ref (.b 0) ⟨2,32⟩ 0 N) :: (41,.d (.int .i64 N)) :: (42,.d (.int .i64 i)) :: e,[.arr (WV out) ⟨2,32⟩]⟩)) =
  some (.exit 1,⟨[(12,.ref (.b 0) ⟨2,32⟩ 0 N)],[.arr (WV (out.take i++(List.zipWith (· + ·) l r).drop i)) ⟨2,32⟩]⟩):=by
 intro d
 induction d with
 | zero=>
   intro i out e hd ho;rw[c9 (l:=xz) rfl];have h1:(List.zipWith (· + ·) l r).drop i=[]:=List.drop_eq_nil_of_le (by simp; omega);have h2:out.take i=out:=List.take_of_length_le (by omega);rw[h1,h2];simp -implicitDefEqProofs (disch:=omega) [wc]
 | succ d ih=>
   intro i out e hd ho;rw[c9 (l:=xz) rfl]
   have hi:i < N:=by omega
   have h1:(List.zipWith (· + ·) l r).drop i=(nth l i + nth r i) :: (List.zipWith (· + ·) l r).drop (i + 1):=by
    rw[List.drop_eq_getElem_cons (by simp; omega)];simp[nth,hl,hr,hi]
   have hbl:=bl i hi;have hbr:=br i hi;have s1:=qno hbl hbr
   have s2:=fun e=>ih (i + 1) (out.set i (nth l i + nth r i)) e (by omega) (by simp[ho])
   have h3:(out.set i (nth l i + nth r i)).take (i + 1)=out.take i++[nth l i + nth r i]:=by
    rw[ko (by simp; omega),List.take_set_of_le (Nat.le_refl _),U9 (by omega),if_pos rfl]
   rw[h1];rw[List.append_cons,← h3];generalize nth l i + nth r i=x at *;simp only[Int.natCast_add,Int.cast_ofNat_Int] at s2;simp -implicitDefEqProofs (disch:=omega) [wc,s1,s2]
def YW (op:Int) (l r:List Int):List Int × Bool:=
 if op=43 then (List.zipWith (· + ·) l r,true)
 else if op=45 then (List.zipWith (· + ·) l (r.map (· * -1)),true)
 else if op=42 then (if (G9 l).2=true then (r.map (· * (G9 l).1),true) else (l.map (· * (G9 r).1),(G9 r).2))
 else if (G9 l).2=true∧(G9 r).2=true∧(G9 r).1≠0 then
  ((List.replicate l.length 0).set (l.length - 1) (if op=37 then (G9 l).1 % (G9 r).1 else (G9 l).1 / (G9 r).1),true)
 else ([],false)
theorem qgt {f:List Int} {k:Nat} (hb:∀ i,i < f.length→nl (nth f i) < k) (h0:0 < k) (h1:0 < f.length):nl (G9 f).1 < k:=by
 unfold G9;split
 ·exact hb _ (by omega)
 ·exact h0
theorem qa9 {f:List Int} (g:Int→Int) {i:Nat} (h:i < f.length):nth (f.map g) i=g (nth f i):=by simp[nth,h]
theorem qow (n:Int):nl (-n)=nl n:=by unfold nl; rw[Int.natAbs_neg]
theorem qtl {op:Int} {l r:List Int} {N:Nat} (hN:N≤1000) (h0:0 < N) (hl:l.length=N) (hr:r.length=N) (bl:∀ i,i < N→nl (nth l i) < 134217728) (br:∀ i,i < N→nl (nth r i) < 134217728) :
 d5 T0 X0 qis [.d (.int .u8 op),.d (.sl (WL l)),.d (.sl (WL r))] []=some (.ret [.d (.sl (WL (YW op l r).1)),.d (.bool (YW op l r).2)] []):=by
 subst hl;have cl:=qgt bl (by omega) h0;have cr:=qgt (f:=r) (fun i hi=>br i (by omega)) (by omega) (by omega);have s1:=Kh (f:=l) hN h0 (fun i hi=>by have:=bl i hi; omega);have s2:=Kh (f:=r) (by omega) (by omega) (fun i hi=>by have:=br i (by omega); omega);rw[a8 (af:=I4) rfl rfl rfl];unfold YW
 by_cases o1:op=43
 ·rw[if_pos o1]
  have lp:=fun e=>qg0 l r l.length hN rfl hr (fun i hi=>by have:=bl i hi; omega) (fun i hi=>by have:=br i hi; omega) l.length 0 (List.replicate l.length 0) e (by omega) (by simp)
  simp only[Int.cast_ofNat_Int,List.drop_zero,List.take_zero,List.nil_append] at lp;have ht:(List.zipWith (· + ·) l r).take l.length=List.zipWith (· + ·) l r:=List.take_of_length_le (by simp; omega);subst o1;simp -implicitDefEqProofs (disch:=omega) [I4,s1,s2,lp,ht]
 ·rw[if_neg o1]
  by_cases o2:op=45
  ·rw[if_pos o2];have s3:=Zf (f:=r) (k:=-1) (by omega) (by decide) (fun i hi=>by have:=br i (by omega); omega);have s4:=Xj (n:=-1) (by omega)
   have lp:=fun e=>qg0 l (r.map (· * -1)) l.length hN rfl (by simpa using hr) (fun i hi=>by have:=bl i hi; omega) (fun i hi=>by
    rw[qa9 _ (by omega),Int.mul_neg,Int.mul_one,qow]
    have:=br i hi; omega) l.length 0 (List.replicate l.length 0) e (by omega) (by simp)
   simp only[Int.cast_ofNat_Int,List.drop_zero,List.take_zero,List.nil_append] at lp;have ht:(List.zipWith (· + ·) l (r.map (· * -1))).take l.length=List.zipWith (· + ·) l (r.map (· * -1)):=List.take_of_length_le (by simp; omega)
   have hr':(r.map (· * -1)).length=l.length:=by simpa using hr
   generalize r.map (· * -1)=r' at *;subst o2;simp -implicitDefEqProofs (disch:=omega) [I4,s1,s2,s3,s4,lp,ht]
  ·rw[if_neg o2]
   by_cases o3:op=42
   ·rw[if_pos o3];subst o3
    cases hc:(G9 l).2 with
    | true=>
      rw[hc] at s1;rw[if_pos rfl];have s3:=Zf (f:=r) (k:=(G9 l).1) (by omega) (by omega) (fun i hi=>by have:=br i (by omega); omega);simp -implicitDefEqProofs (disch:=omega) [I4,s1,s2,s3]
    | false=>
      rw[hc] at s1;rw[if_neg (by decide)];have s3:=Zf (f:=l) (k:=(G9 r).1) (by omega) (by omega) (fun i hi=>by have:=bl i (by omega); omega);simp -implicitDefEqProofs (disch:=omega) [I4,s1,s2,s3]
   ·rw[if_neg o3];have s3:=Wa (m:=(G9 l).1) (n:=(G9 r).1) (by omega) (by omega);generalize hc1:(G9 l).2=c1 at *;generalize hc2:(G9 r).2=c2 at *;generalize hx:(G9 l).1=x at *;generalize hy:(G9 r).1=y at *
    by_cases hz:y=0
    ·rw[if_neg (by simp[hz])];rw[if_pos hz] at s3;subst hz
     cases c1 <;> cases c2 <;> simp -implicitDefEqProofs (disch:=omega) [I4,s1,s2,s3,o1,o2,o3]
    ·rw[if_neg hz] at s3
     cases c1 with
     | false=>
       rw[if_neg (by simp)];simp -implicitDefEqProofs (disch:=omega) [I4,s1,s2,s3,o1,o2,o3]
     | true=>
       cases c2 with
       | false=>
         rw[if_neg (by simp)];simp -implicitDefEqProofs (disch:=omega) [I4,s1,s2,s3,o1,o2,o3]
       | true=>
         rw[if_pos ⟨rfl,rfl,hz⟩];generalize x / y=q at *;generalize x % y=m at *
         have ht:∀ v:Int,((List.replicate l.length 0).set (l.length - 1) v).take l.length=(List.replicate l.length 0).set (l.length - 1) v:=fun v=>List.take_of_length_le (by simp)
         have hg1:(WV (List.replicate l.length 0))[l.length - 1]? = some (.d (Wd 0)):=by rw[qea (by simp; omega)]; simp[nth,List.getD_eq_getElem?_getD,List.getElem?_replicate,h0]; rw[if_pos (by omega)]; rfl
         have hg2:∀ v:Int,(WV ((List.replicate l.length 0).set (l.length - 1) v))[l.length - 1]? = some (.d (Wd v)):=fun v=>by rw[qea (by simp; omega),U9 (by simp; omega),if_pos rfl]
         by_cases o4:op=37
         ·rw[if_pos o4];subst o4;simp -implicitDefEqProofs (disch:=omega) [I4,s1,s2,s3,ht,hg1,hg2]
         ·rw[if_neg o4];simp -implicitDefEqProofs (disch:=omega) [I4,s1,s2,s3,ht,hg1,o1,o2,o3,o4]
end Go.Rf

namespace Go.Rf
def r9 (n:Nat):Nd→List Int × Bool
 | .num k=>((List.replicate (n + 1) 0).set n k,true)
 | .name v _=>((List.replicate (n + 1) 0).set v.toNat 1,true)
 | .minus x=>((r9 n x).1.map (· * -1),(r9 n x).2)
 | .two op x y=>if (r9 n x).2=true∧(r9 n y).2=true then YW op (r9 n x).1 (r9 n y).1 else ([],false)
def Nd.w:Nd→Nat
 | .num k=>nl k + 1
 | .name _ _=>1
 | .minus x=>x.w
 | .two _ x y=>x.w + y.w
def Nd.fine (n:Nat):Nd→Prop
 | .num _=>True
 | .name v s=>0≤v∧v < n∧s.length≤1100000
 | .minus x=>x.fine n
 | .two op x y=>(op=43∨op=45∨op=42∨op=47∨op=37)∧x.fine n∧y.fine n
theorem Nd.w_pos:∀ x:Nd,0 < x.w
 | .num k=>by unfold Nd.w; omega
 | .name _ _=>by unfold Nd.w; omega
 | .minus x=>by unfold Nd.w; exact x.w_pos
 | .two _ x y=>by unfold Nd.w; have:=x.w_pos; omega
theorem qfs {k:Nat} (h:0 < k):4294967296≤pw k:=by
 have:=QJ (m:=1) (n:=k) h
 simpa [pw] using this
theorem qwg {a b:Int} {k m:Nat} (ha:nl a≤k) (hb:nl b≤m) (hk:0 < k) (hm:0 < m):nl (a + b)≤k + m:=by
 have h1:=qag a;have h2:=qag b;have p1:=QJ ha;have p2:=QJ hb;have q1:=qfs hk;have q2:=qfs hm;have e:pw (k + m)=pw k * pw m:=Zo m k;have e1:pw k * 4294967296≤pw k * pw m:=Int.mul_le_mul_of_nonneg_left q2 (by omega);have e2:4294967296 * pw m≤pw k * pw m:=Int.mul_le_mul_of_nonneg_right q1 (by omega);exact qf2 (by omega) (by omega)
theorem qwe {a b:Int} {k m:Nat} (ha:nl a≤k) (hb:nl b≤m):nl (a * b)≤k + m:=by
 have h1:=qag a;have h2:=qag b;have p1:=QJ ha;have p2:=QJ hb;have e:pw (k + m)=pw k * pw m:=Zo m k
 have e1:((a * b).natAbs:Int) < pw k * pw m:=by
  rw[Int.natAbs_mul,Int.natCast_mul];exact Int.lt_of_le_of_lt (Int.mul_le_mul_of_nonneg_left (Int.le_of_lt (Int.lt_of_lt_of_le h2 p2)) (by omega)) (Int.mul_lt_mul_of_pos_right (by omega) (V4 m))
 exact qf2 (by omega) (by omega)
theorem qwf {a b:Int} (h:a.natAbs≤b.natAbs):nl a≤nl b:=by
 have:=qag b;exact qf2 (by omega) (by omega)
theorem q7d (a b:Int):nl (a / b)≤nl a + 1:=by
 have h1:=qag a
 have h2:(a / b).natAbs≤a.natAbs + 1:=by
  by_cases hb:b=0
  ·subst hb; simp
  ·obtain ⟨e1,e2,e3⟩:=qr0 a b hb
   by_cases hr:r0 a b < 0
   ·by_cases hn:b < 0
    ·rw[(JI (m:=a) (n:=b) (q:=q0 a b + 1) (r:=r0 a b - b) hb (by rw[Int.add_mul,Int.one_mul]; omega) (by omega) (by omega)).1];omega
    ·rw[(JI (m:=a) (n:=b) (q:=q0 a b - 1) (r:=r0 a b + b) hb (by rw[Int.sub_mul,Int.one_mul]; omega) (by omega) (by omega)).1];omega
   ·rw[(JI (m:=a) (n:=b) (q:=q0 a b) (r:=r0 a b) hb e1 (by omega) (by omega)).1];omega
 have:=V4 (nl a);exact qf2 (by rw[vM]; omega) (by rw[vM]; omega)
theorem q7c (a b:Int) (h:b≠0):nl (a % b)≤nl b:=by
 have m0:=Int.emod_nonneg a h;have m1:=Int.emod_lt a h;exact qwf (by omega)
theorem qh1 (n i:Nat):nth (List.replicate n 0) i=0:=by
 simp only[nth,List.getD_eq_getElem?_getD,List.getElem?_replicate]
 split <;> rfl
theorem XI {n k:Nat} (h:k < n) (v:Int) (i:Nat):nth ((List.replicate n 0).set k v) i=if i=k then v else 0:=by
 rw[U9 (by simpa using h)];split
 ·rfl
 ·exact qh1 ..
structure Sh (n w:Nat) (f:List Int):Prop where
 l:f.length=n + 1
 b:∀ i,i < n + 1→nl (nth f i)≤w
theorem qmm {n w:Nat} {f:List Int} (h:Sh n w f):nl (G9 f).1≤w:=by
 unfold G9;split
 ·exact h.b _ (by have:=h.l; omega)
 ·show nl 0≤w;simp
theorem q1m {n a b:Nat} {f g:List Int} (op:Int) (ha:0 < a) (hb:0 < b) (hf:Sh n a f) (hg:Sh n b g):(YW op f g).1=[]∧(YW op f g).2=false∨Sh n (a + b) (YW op f g).1:=by
 have l1:=hf.l;have l2:=hg.l;have cf:=qmm hf;have cg:=qmm hg;unfold YW;split
 ·refine .inr ⟨by simp[l1,l2],fun i hi=>?_⟩
  have e:nth (List.zipWith (· + ·) f g) i=nth f i + nth g i:=by simp[nth,l1,l2,hi]
  rw[e];exact qwg (hf.b i hi) (hg.b i hi) ha hb
 split
 ·refine .inr ⟨by simp[l1,l2],fun i hi=>?_⟩
  have e:nth (List.zipWith (· + ·) f (g.map (· * -1))) i=nth f i + nth g i * -1:=by simp[nth,l1,l2,hi]
  rw[e];exact qwg (hf.b i hi) (by rw[Int.mul_neg,Int.mul_one,qow]; exact hg.b i hi) ha hb
 split
 ·split
  ·refine .inr ⟨by simp[l2],fun i hi=>?_⟩;rw[qa9 _ (by omega)];rw[Nat.add_comm];exact qwe (hg.b i hi) cf
  ·refine .inr ⟨by simp[l1],fun i hi=>?_⟩;rw[qa9 _ (by omega)];exact qwe (hf.b i hi) cg
 split
 ·rename_i c;refine .inr ⟨by simp[l1],fun i hi=>?_⟩;rw[XI (by omega)];split
  ·split
   ·have:=q7c (G9 f).1 _ c.2.2;omega
   ·have:=q7d (G9 f).1 (G9 g).1;omega
  ·simp
 ·exact .inl ⟨rfl,rfl⟩
theorem kr (n:Nat):∀ x:Nd,x.fine n→(r9 n x).1=[]∧(r9 n x).2=false∨Sh n x.w (r9 n x).1
 | .num k,_=>by
   refine .inr ⟨by simp[r9],fun i hi=>?_⟩;unfold r9 Nd.w;rw[XI (by omega)]
   split <;> simp
 | .name v s,h=>by
   unfold Nd.fine at h;refine .inr ⟨by simp[r9],fun i hi=>?_⟩;unfold r9 Nd.w;rw[XI (by omega)]
   split <;> simp
 | .minus x,h=>by
   unfold r9 Nd.w;rcases kr n x h with ⟨e,f⟩ | c
   ·exact .inl ⟨by simp[e],f⟩
   ·have:=c.l;refine .inr ⟨by simpa using c.l,fun i hi=>?_⟩;rw[qa9 _ (by omega),Int.mul_neg,Int.mul_one,qow];exact c.b i hi
 | .two op x y,h=>by
   unfold r9 Nd.w;split
   ·rename_i c;rcases kr n x h.2.1 with ⟨e,f⟩ | c1
    ·rw[f] at c; cases c.1
    rcases kr n y h.2.2 with ⟨e,f⟩ | c2
    ·rw[f] at c; cases c.2
    exact q1m op x.w_pos y.w_pos c1 c2
   ·exact .inl ⟨rfl,rfl⟩
end Go.Rf
