/- Parts of the proof. -/
import Derived.Test.YtpaeaccmddffjaaGreatDoorRb2
import Derived.Test.YtpaeaccmddffjaaGreatDoorSp4
set_option linter.all false
namespace Go.Rf
theorem qxx {x y:Int} (hx:0≤x) (hy:0≤y∧y < 4294967296) (h:x < 4294967296):orK .u64 (x * 4294967296) y=x * 4294967296 + y:=by
 obtain ⟨a,rfl⟩:=Int.eq_ofNat_of_zero_le hx;obtain ⟨b,rfl⟩:=Int.eq_ofNat_of_zero_le hy.1;unfold orK;rw[BitVec.toNat_or]
 have e1:(BitVec.ofInt IntKind.u64.bits ((a:Int) * 4294967296)).toNat=2 ^ 32 * a:=by
  rw[show ((a:Int) * 4294967296)=((2 ^ 32 * a:Nat):Int) by omega,BitVec.ofInt_natCast,BitVec.toNat_ofNat];exact Nat.mod_eq_of_lt (by show _ < 2 ^ 64; omega)
 have e2:(BitVec.ofInt IntKind.u64.bits (b:Int)).toNat=b:=by
  rw[BitVec.ofInt_natCast,BitVec.toNat_ofNat];exact Nat.mod_eq_of_lt (by show _ < 2 ^ 64; omega)
 rw[e1,e2,← Nat.two_pow_add_eq_or_of_lt (by omega),qbb (by omega)];omega
theorem M0 {xs:List Int} {i:Nat} (h:i < xs.length):xs.drop i=nth xs i :: xs.drop (i + 1):=by
 rw[List.drop_eq_getElem_cons h];simp[nth,h]
theorem qfc {xs:List Int} {i:Nat} (h:i < xs.length) (y:Int):(xs.set i y).drop i=y :: xs.drop (i + 1):=by
 rw[M0 (by simpa using h),S7 h,if_pos rfl,List.drop_set_of_lt (by omega)]
theorem qnc (c8:List Int) (b:Int) (hs:c8.length≤1099511627776) (ha:n9 c8) (hb:0 < b∧b < 4294967296):∀ k (out:List Int) (r:Int),k≤c8.length→out.length=c8.length→n9 out→0≤r→r < b→
 nv (c8.drop k)=b * nv (out.drop k) + r→
 ∃ out' r',j6 T0 X0 0 qb (some (.nrm,⟨[(0,.d (.sl (L c8))),(1,.d (.int .u32 b)),(6,.ref (.b 0) ⟨1,4⟩ 0 c8.length),(7,.d (.int .u64 r)),(8,.d (.int .i64 ((k:Int) - 1)))],[.arr (LV out) ⟨1,4⟩]⟩))=some (.exit 0,⟨[(6,.ref (.b 0) ⟨1,4⟩ 0 c8.length),(7,.d (.int .u64 r'))],[.arr (LV out') ⟨1,4⟩]⟩) ∧
   out'.length=c8.length∧n9 out'∧0≤r'∧r' < b∧nv c8=b * nv out' + r':=by
 intro k
 induction k with
 | zero=>
   intro out r _ ho hg h0 h1 hv;refine ⟨out,r,?_,ho,hg,h0,h1,by simpa using hv⟩;rw[d5 (l:=qb) rfl];simp -implicitDefEqProofs (disch:=omega) [xZ]
 | succ k ih=>
   intro out r hk ho hg h0 h1 hv;have n1:=ha.nth k;rw[d5 (l:=qb) rfl]
   have hx:0≤r * 4294967296 + nth c8 k:=by omega
   have hq0:0≤(r * 4294967296 + nth c8 k) / b:=Int.ediv_nonneg hx (by omega)
   have hq:(r * 4294967296 + nth c8 k) / b < 4294967296:=Int.ediv_lt_of_lt_mul (by omega) (by
    have:(r + 1) * 4294967296≤b * 4294967296:=Int.mul_le_mul_of_nonneg_right (by omega) (by omega)
    omega)
   have hr0:=Int.emod_nonneg (r * 4294967296 + nth c8 k) (show b≠0 by omega);have hr1:=Int.emod_lt_of_pos (r * 4294967296 + nth c8 k) hb.1
   obtain ⟨out',r',h2,h3⟩:=ih (out.set k ((r * 4294967296 + nth c8 k) / b)) ((r * 4294967296 + nth c8 k) % b) (by omega) (by simp[ho]) (T5 hg _ ⟨hq0,hq⟩) hr0 hr1 (by
    rw[M0 (by omega),qfc (by omega)];simp only[nv,hv];have e1:=Int.mul_ediv_add_emod (r * 4294967296 + nth c8 k) b;have e2:b * (4294967296 * nv (out.drop (k + 1)))=4294967296 * (b * nv (out.drop (k + 1))):=Int.mul_left_comm ..;simp only[Int.mul_add,e2]
    omega)
   refine ⟨out',r',?_,h3⟩;rw[← h2];simp -implicitDefEqProofs (disch:=omega) [xZ,qxx,Int.emod_eq_of_lt]
theorem qag {xs:List Int} {b:Int} (hx:n9 xs) (hs:xs.length < 1099511627776) (hb:0 < b∧b < 4294967296) :
 d6 T0 X0 qdl [.d (.sl (L xs)),.d (.int .u32 b)] []=some (.ret [.d (.sl (L (d7 (nv xs / b)))),.d (.int .u32 (nv xs % b))] []):=by
 rw[c9 (af:=wY) rfl rfl rfl];obtain ⟨out,r,h1,ho,hg,h0,hr,hv⟩:=qnc xs b (by omega) hx hb xs.length (List.replicate xs.length 0) 0 (by omega) (by simp) (QH _) (by omega) hb.1 (by simp[nv])
 have e1:nv xs / b=nv out:=by
  rw[hv,Int.add_comm,Int.add_mul_ediv_left _ _ (by omega),Int.ediv_eq_zero_of_lt h0 hr,Int.zero_add]
 have e2:nv xs % b=r:=by
  rw[hv,Int.add_comm,Int.add_mul_emod_self_left,Int.emod_eq_of_lt h0 hr]
 rw[e1,e2];have s1:=n0 hg (by omega);have ht:out.take xs.length=out:=List.take_of_length_le (by omega);simp -implicitDefEqProofs (disch:=omega) [wY,h1,s1,ht]
def B8 (s:List UInt8):List V:=s.map fun c=>.d (.int .u8 c.toNat)
@[simp] theorem B8_len (s):(B8 s).length=s.length:=by simp[B8]
@[simp] theorem vn:B8 []=[]:=rfl
@[simp] theorem B8_take (s n):(B8 s).take n=B8 (s.take n):=by simp[B8,List.map_take]
@[simp] theorem B8_app1 (s:List UInt8) (c:UInt8):B8 s++[.d (.int .u8 c.toNat)]=B8 (s++[c]):=by simp[B8]
@[simp] theorem B8_rep (n:Nat):List.replicate n (V.d (.int .u8 0))=B8 (List.replicate n 0):=by simp[B8]
theorem zbt {s:List UInt8} {i:Nat} (h:i < s.length):(B8 s)[i]? = some (.d (.int .u8 (s.getD i 0).toNat)):=by simp[B8,h]
@[simp] theorem B8_set (s:List UInt8) (i:Nat) (c:UInt8):(B8 s).set i (.d (.int .u8 c.toNat))=B8 (s.set i c):=by simp[B8,List.map_set]
@[simp] theorem zls (s):(∀ x∈B8 s,x.cells.length=1)=True:=eq_true (by
  intro x hx;obtain ⟨n,_,rfl⟩:=List.mem_map.1 hx
  rfl)
@[simp] theorem rens_B8 (al:Loc→Bool) (s) (m:List Loc):qo al (B8 s) m=(B8 s,m):=by
  have:B8 s=(s.map fun c=>(D.int .u8 c.toNat)).map V.d:=by simp[B8]
  rw[this]; exact wF ..
@[simp] theorem zil (f:Loc→Loc) (s):X5 f (B8 s)=B8 s:=by
  induction s with
  | nil=>rfl
  | cons x xs ih=>
    show V.mapL f (.d _) :: X5 f (B8 xs)=_;rw[ih];rfl
@[simp] theorem zbc (s):qZ (B8 s)=some s:=by
  induction s with
  | nil=>rfl
  | cons c s ih=>
    show qZ (.d (.int .u8 c.toNat) :: B8 s)=_;simp[qZ,ih]
attribute [simp] zbt
def dig (r:Int):UInt8:=UInt8.ofNat (48 + (r % 10).toNat)
theorem qzn {r:Int} (h:0≤r):48 + r % 10=((dig r).toNat:Int):=by
 unfold dig
 have:(r % 10).toNat < 10:=by omega
 rw[UInt8.toNat_ofNat',Nat.mod_eq_of_lt (by omega)];omega
def inF:Nat→Int→Bool→List UInt8
 | 0,_,_=>[]
 | f + 1,r,more=>if 0 < r∨more=true then dig r :: inF f (r / 10) more else []
def qD:Nat→Int→List UInt8
 | 0,_=>[]
 | f + 1,n=>if n≤0 then [] else inF 9 (n % 1000000000) (decide (0 < n / 1000000000))++qD f (n / 1000000000)
theorem qa6:∀ f r b,(inF f r b).length≤f
 | 0,_,_=>Nat.le_refl _
 | f + 1,r,b=>by
   unfold inF;split
   ·have:=qa6 f (r / 10) b;simp only[List.length_cons]; omega
   ·simp
theorem q0p (q:Int) (hq:0≤q) (hs:(d7 q).length≤1099511627776):∀ f (i:Nat) (r:Int) (back:List UInt8),f + i=9→back.length + f≤1099511627→0≤r→r < 4294967296→
 j6 T0 X0 0 zW (some (.nrm,⟨[(0,.d (.sl (L (d7 q)))),(3,.ref (.b 0) ⟨1,1⟩ 0 back.length),(4,.d (.int .u32 r)),(5,.d (.int .i64 i))],[.arr (B8 back) ⟨1,1⟩]⟩)) =
  some (.exit 2,⟨[(0,.d (.sl (L (d7 q)))),(3,.ref (.b 0) ⟨1,1⟩ 0 (back++inF f r (decide (0 < q))).length)],[.arr (B8 (back++inF f r (decide (0 < q)))) ⟨1,1⟩]⟩):=by
 intro f
 induction f with
 | zero=>
   intro i r back hi hb h0 h1;rw[d5 (l:=zW) rfl];simp -implicitDefEqProofs (disch:=omega) [X8,inF]
 | succ f ih=>
   intro i r back hi hb h0 h1
   have hn:(d7 q).length=0↔q=0:=by rw[List.length_eq_zero_iff]; exact xp hq
   rw[d5 (l:=zW) rfl];unfold inF
   by_cases hc:0 < r∨decide (0 < q)=true
   ·rw[if_pos hc];have e:=qzn h0;have s1:=ih (i + 1) (r / 10) (back++[dig r]) (by omega) (by simp; omega) (by omega) (by omega);rw[List.append_assoc,List.singleton_append] at s1;rw[← s1]
    by_cases hr:0 < r
    ·simp -implicitDefEqProofs (disch:=omega) [X8,e]
    ·have hq1:0 < q:=by simpa [hr] using hc
     have hn':(d7 q).length≠0:=fun h=>by have:=hn.1 h; omega
     simp -implicitDefEqProofs (disch:=omega) [X8,e,-List.length_eq_zero_iff]
   ·rw[if_neg hc];simp at hc
    have hq0:q=0:=by omega
    subst hq0;simp -implicitDefEqProofs (disch:=omega) [X8]
theorem JD:∀ f n,(qD f n).length≤9 * f
 | 0,_=>Nat.le_refl _
 | f + 1,n=>by
   unfold qD;split
   ·simp
   ·have:=qa6 9 (n % 1000000000) (decide (0 < n / 1000000000));have:=JD f (n / 1000000000);simp only[List.length_append]; omega
def kB:Nat→Int
 | 0=>1
 | f + 1=>1000000000 * kB f
theorem kW:∀ f,0 < kB f∧kB f≤pw f
 | 0=>by simp[kB,pw]
 | f + 1=>by have:=kW f; simp only[kB,pw]; omega
theorem qv9:∀ f (n:Int) (back:List UInt8),back.length + 9 * f≤1099511627→0≤n→n < kB f→
 j6 T0 X0 0 zV (some (.nrm,⟨[(0,.d (.sl (L (d7 n)))),(3,.ref (.b 0) ⟨1,1⟩ 0 back.length)],[.arr (B8 back) ⟨1,1⟩]⟩)) =
  some (.exit 0,⟨[(3,.ref (.b 0) ⟨1,1⟩ 0 (back++qD f n).length)],[.arr (B8 (back++qD f n)) ⟨1,1⟩]⟩):=by
 intro f
 induction f with
 | zero=>
   intro n back hb h0 h1
   have:n=0:=by simp only[kB] at h1; omega
   subst this;rw[d5 (l:=zV) rfl];simp -implicitDefEqProofs (disch:=omega) [zX,qD]
 | succ f ih=>
   intro n back hb h0 h1;rw[d5 (l:=zV) rfl];unfold qD;have hl:(d7 n).length≤f + 1:=o6 h0 (by have:=(kW (f + 1)).2; omega)
   have hn:(d7 n).length=0↔n=0:=by rw[List.length_eq_zero_iff]; exact xp h0
   by_cases hz:n≤0
   ·rw[if_pos hz]
    have:n=0:=by omega
    subst this;simp -implicitDefEqProofs (disch:=omega) [zX]
   ·rw[if_neg hz]
    have hn':(d7 n).length≠0:=fun h=>by have:=hn.1 h; omega
    have s0:=qag (g8 n) (b:=1000000000) (by omega) (by omega);rw[o9 h0] at s0
    have hq:n / 1000000000 < kB f:=by simp only[kB] at h1; omega
    have hl':(d7 (n / 1000000000)).length≤f:=o6 (by omega) (by have:=(kW f).2; omega);have s1:=q0p (n / 1000000000) (by omega) (by omega) 9 0 (n % 1000000000) back rfl (by omega) (by omega) (by omega);have hi:=qa6 9 (n % 1000000000) (decide (0 < n / 1000000000));have s2:=ih (n / 1000000000) (back++inF 9 (n % 1000000000) (decide (0 < n / 1000000000))) (by simp only[List.length_append]; omega) (by omega) hq;rw[List.append_assoc] at s2;rw[← s2];simp only[Int.cast_ofNat_Int] at s1;simp -implicitDefEqProofs (disch:=omega) [zX,s0,s1,-List.length_eq_zero_iff]
theorem qtf (back:List UInt8) (hb:back.length≤1099511627):∀ d i (out:List UInt8),d + i=back.length→out.length=back.length→out.drop (back.length - i)=(back.take i).reverse→
 j6 T0 X0 0 zU (some (.nrm,⟨[(3,.ref (.b 0) ⟨1,1⟩ 0 back.length),(6,.ref (.b 1) ⟨1,1⟩ 0 back.length),(47,.ref (.b 0) ⟨1,1⟩ 0 back.length),(48,.d (.int .i64 back.length)),(49,.d (.int .i64 i))],[.arr (B8 back) ⟨1,1⟩,.arr (B8 out) ⟨1,1⟩]⟩)) =
  some (.exit 4,⟨[(6,.ref (.b 0) ⟨1,1⟩ 0 back.length)],[.arr (B8 back.reverse) ⟨1,1⟩]⟩):=by
 intro d
 induction d with
 | zero=>
   intro i out hd ho hv
   have:i=back.length:=by omega
   subst this;simp at hv;subst hv;rw[d5 (l:=zU) rfl];simp -implicitDefEqProofs (disch:=omega) [kJ]
 | succ d ih=>
   intro i out hd ho hv;rw[d5 (l:=zU) rfl]
   have s1:=ih (i + 1) (out.set (back.length - 1 - i) (back.getD i 0)) (by omega) (by simp[ho]) (by
    rw[List.take_add_one,show back.length - (i + 1)=back.length - 1 - i by omega]
    have e:back[i]? = some (back.getD i 0):=by simp[show i < back.length by omega]
    rw[e];simp only[Option.toList_some,List.reverse_append,List.reverse_cons,List.reverse_nil,List.nil_append,List.cons_append];rw[← hv,List.drop_eq_getElem_cons (by simp; omega)];simp only[List.getElem_set_self]
    rw[List.drop_set_of_lt (by omega),show back.length - 1 - i + 1=back.length - i by omega])
   rw[← s1];simp -implicitDefEqProofs (disch:=omega) [kJ]
def B2 (f:Nat) (n:Int):List UInt8:=if n=0 then [48] else (qD f n).reverse
theorem YG {xs:List Int} (hx:n9 xs) (f:Nat) (hf:f≤100000) (hs:xs.length≤1099511627776) (h:nv xs < kB f):d6 T0 X0 qjc [.d (.sl (L xs))] []=some (.ret [.d (.str (B2 f (nv xs)))] []):=by
 rw[c9 (af:=wg) rfl rfl rfl];have h0:=(d8 hx).1;have hl:(d7 (nv xs)).length≤f:=o6 h0 (by have:=(kW f).2; omega);have s0:=n0 hx hs
 have hn:(d7 (nv xs)).length=0↔nv xs=0:=by rw[List.length_eq_zero_iff]; exact xp h0
 unfold B2
 by_cases hz:nv xs=0
 ·rw[if_pos hz];rw[hz] at s0;simp -implicitDefEqProofs (disch:=omega) [wg,s0]
 ·rw[if_neg hz]
  have hn':(d7 (nv xs)).length≠0:=fun h=>hz (hn.1 h)
  have s1:=qv9 f (nv xs) [] (by simp; omega) h0 h;have hb:=JD f (nv xs);have s2:=qtf (qD f (nv xs)) (by omega) (qD f (nv xs)).length 0 (List.replicate (qD f (nv xs)).length 0) (by omega) (by simp) (by simp);simp only[List.length_nil,List.nil_append,vn,Int.cast_ofNat_Int] at s1 s2;have ht:(qD f (nv xs)).reverse.take (qD f (nv xs)).length=(qD f (nv xs)).reverse:=List.take_of_length_le (by simp);simp -implicitDefEqProofs (disch:=omega) [wg,s0,s1,s2,ht,-List.length_eq_zero_iff]
def rcF (s:List UInt8):Nat→Nat→Nat→Nat
 | 0,_,k=>k
 | f + 1,i,k=>if i < s.length then rcF s f (i + (dec s i).2) (k + 1) else k
theorem q1n (s:List UInt8) (hs:s.length≤1100000):∀ f i (k:Nat),s.length - i < f→i≤s.length→k≤i→
 j6 T0 X0 0 M9 (some (.nrm,⟨[(2,.d (.int .i64 k)),(4,.iter (.b 0))],[.iter s i]⟩))=some (.exit 0,⟨[(2,.d (.int .i64 (rcF s f i k)))],[]⟩):=by
 intro f
 induction f with
 | zero=>intros; omega
 | succ f ih=>
   intro i k hf hi hk;rw[d5 (l:=M9) rfl];unfold rcF
   by_cases h:i < s.length
   ·rw[if_pos h];obtain ⟨d1,d2,_⟩:=Yy h;rw[← ih (i + (dec s i).2) (k + 1) (by omega) (by omega) (by omega)];simp -implicitDefEqProofs (disch:=omega) [N0]
   ·rw[if_neg h];simp -implicitDefEqProofs (disch:=omega) [N0]
def rc (s:List UInt8):Nat:=rcF s (s.length + 1) 0 0
theorem qq8 {s:List UInt8} (hs:s.length≤1100000):d6 T0 X0 Qe [.d (.str s)] []=some (.ret [.d (.int .i64 (rc s))] []):=by
 rw[c9 (af:=S3) rfl rfl rfl];have s1:=q1n s hs (s.length + 1) 0 0 (by omega) (by omega) (by omega);simp only[Int.cast_ofNat_Int] at s1;simp -implicitDefEqProofs (disch:=omega) [S3,s1,rc]
def enc (r:Int):List UInt8:=(Utf8.encode r).data.toList
theorem ZE (r:Int):(Utf8.encode r).data.toList=enc r:=rfl
theorem qmx (r:Int):(Utf8.encode r).size=(enc r).length:=by
 rw[← ZE,Array.length_toList];rfl
theorem qp9 (r:Int):(enc r).length≤4:=by
 rw[← qmx];unfold Utf8.encode
 extract_lets c b
 split
 ·exact show 1≤4 by omega
 ·split
  ·exact show 2≤4 by omega
  ·split
   ·exact show 3≤4 by omega
   ·exact show 4≤4 by omega
def Sc.sign (s:Sc):List UInt8 × Sc:=
 if s.next.1=8788 then ([58,61],s.pass) else if s.next.1=8800 then ([33,61],s.pass) else
 if s.next.1=58∨s.next.1=33 then (if s.pass.next.1≠61 then ([],s.pass.next.2.early 41 s.pos) else (enc s.next.1++[61],s.pass.pass)) else (enc (qi1 s.next.1),s.pass)
theorem qfm {s:Sc} (h:s.cls.1=5):0≤s.next.1:=by
 unfold Sc.cls at h
 by_cases h0:s.next.1 < 0
 ·rw[if_pos h0] at h; exact absurd h (by simp)
 ·omega
theorem qhz {s:Sc} (h:s.ok) (hn:0≤s.next.1):d6 T0 X0 XX [.ptr (.b 0) 0 0] [s.obj]=some (.ret [.d (.str s.sign.1)] [s.sign.2.obj]):=by
 rw[c9 (af:=B1) rfl rfl rfl];have h1:=s.next_le;obtain ⟨e,hr⟩:=s.next_same hn;have s0:=QF h;rw[e] at s0;have s1:=QB h hr;unfold Sc.sign
 have hf:-1≤qi1 s.next.1∧qi1 s.next.1≤1114111:=by unfold qi1; (repeat' split) <;> omega
 by_cases h2:s.next.1=8788
 ·rw[if_pos h2];simp only[Sc.obj,Sc.cs] at s0 s1 ⊢;simp -implicitDefEqProofs (disch:=omega) [B1,s0,s1]
 rw[if_neg h2]
 by_cases h3:s.next.1=8800
 ·rw[if_pos h3];simp only[Sc.obj,Sc.cs] at s0 s1 ⊢;simp -implicitDefEqProofs (disch:=omega) [B1,s0,s1]
 rw[if_neg h3]
 by_cases h4:s.next.1=58∨s.next.1=33
 ·rw[if_pos h4];have hp:=Sc.pass_ok h hr;have s2:=QF hp
  by_cases h5:s.pass.next.1≠61
  ·rw[if_pos h5];have s3:=Kz s.pass.next.2 41 s.pos;simp only[Sc.obj,Sc.cs,Pl.cs] at s0 s1 s2 s3 ⊢
   rcases h4 with h4 | h4 <;> simp -implicitDefEqProofs (disch:=omega) [B1,s0,s1,s2,s3]
  ·rw[if_neg h5]
   have h5:s.pass.next.1=61:=by omega
   obtain ⟨e2,hr2⟩:=s.pass.next_same (by omega);rw[e2] at s2;have s3:=QB hp hr2;simp only[Sc.obj,Sc.cs,Pl.cs] at s0 s1 s2 s3 ⊢;have he:=qp9 s.next.1
   rcases h4 with h4 | h4 <;> simp -implicitDefEqProofs (disch:=omega) [B1,s0,s1,s2,s3,ZE,qmx]
 ·rw[if_neg h4];simp only[Sc.obj,Sc.cs,Pl.cs] at s0 s1 ⊢;have s3:=qup s.next.1;simp -implicitDefEqProofs (disch:=omega) [B1,s0,s1,s3,ZE]
theorem qse (s:List UInt8):∀ f i v w,0≤v→qdw s f i v=some w→w < (v + 1) * 10 ^ f
 | 0,_,v,w,_,e=>by cases e; omega
 | f + 1,i,v,w,h,e=>by
   have hp:(0:Int) < 10 ^ f:=Int.pow_pos (by decide);unfold qdw at e;split at e
   ·split at e
    ·cases e
    ·rename_i hd;have:=qse s f _ _ _ (by omega) e;refine Int.lt_of_lt_of_le this ?_;rw[Int.pow_succ,Int.mul_comm _ 10,← Int.mul_assoc];exact Int.mul_le_mul_of_nonneg_right (by omega) (by omega)
   ·cases e;have h1:(v + 1) * 1≤(v + 1) * 10 ^ (f + 1):=Int.mul_le_mul_of_nonneg_left (by have:=Int.pow_pos (n:=10) (m:=f + 1) (by decide); omega) (by omega);omega
theorem qxt {a b:Nat} (h:a≤b):(10:Int) ^ a≤10 ^ b:=by
 have:=Nat.pow_le_pow_right (n:=10) (by decide) h
 exact_mod_cast this
theorem KG:∀ f,kB f=10 ^ (9 * f)
 | 0=>rfl
 | f + 1=>by
   rw[kB,KG f,Nat.mul_add,Int.pow_add]
   have:(10:Int) ^ (9 * 1)=1000000000:=by decide
   rw[this,Int.mul_comm]
def qW (s:List UInt8):Int:=(Xv s).getD 0
theorem Jt {s:List UInt8} (hs:s.length≤4096):0≤qW s∧qW s < kB 456:=by
 unfold qW;have ht:=(kW 456).1
 cases h:Xv s with
 | none=>exact ⟨Int.le_refl _,ht⟩
 | some v=>
   show 0≤v∧v < kB 456;unfold Xv at h;split at h
   ·cases h
   ·have h1:=qse s _ _ _ _ (by omega) h;have h2:=WZ s _ _ _ _ (by omega) h;refine ⟨h2,Int.lt_of_lt_of_le h1 ?_⟩;rw[KG,Int.zero_add,Int.one_mul];exact qxt (show s.length + 1≤9 * 456 by omega)
theorem qlc {s:List UInt8} (hs:s.length≤4096):∃ e,d6 T0 X0 JV [.d (.str s)] []=some (.ret [.d (.sl (L (d7 (qW s)))),.d (.int .i64 e)] []):=by
 have:=qb4 (s:=s) (by omega);unfold qW
 cases h:Xv s with
 | none=>rw[h] at this; exact ⟨10,this⟩
 | some v=>rw[h] at this; exact ⟨0,this⟩
structure Tok where
 kind:Int
 text:List UInt8
 pos:Pl
def Tok.cs (t:Tok):List D:=[.int .i64 t.kind,.str t.text,.int .i64 t.pos.b,.int .i64 t.pos.g,.int .i64 t.pos.l,.int .i64 t.pos.c]
def Sc.run (p:Int→Bool) (s:Sc):Sc:=I2 p (s.rest.length + 1) s
def Sc.ran (p:Int→Bool) (s:Sc):List UInt8:=s.rest.take (s.rest.length - (s.run p).rest.length)
def Sc.token (s:Sc):Tok × Sc:=
 if s.cls.1=2 then (⟨1,s.ran x7,s.pos⟩,if 16 < rc (s.ran x7) then (s.run x7).early 42 s.pos else s.run x7)
 else if s.cls.1=3 then (⟨2,B2 456 (qW (s.ran z8)),s.pos⟩,if 32 < (d7 (qW (s.ran z8))).length then (s.run z8).early 2 s.pos else s.run z8)
 else if s.cls.1=5 then (⟨3,s.sign.1,s.pos⟩,s.sign.2)
 else if s.cls.1 = -1 then (⟨0,[],s.pos⟩,s.cls.2)
 else (⟨0,[],s.pos⟩,s.cls.2.fail 41 s.cls.2.pos)
theorem qxj (s:List UInt8):∀ f i k,i≤s.length→k≤i→rcF s f i k≤s.length
 | 0,i,k,hi,hk=>by unfold rcF; omega
 | f + 1,i,k,hi,hk=>by
   unfold rcF;split
   ·rename_i h;have:=Yy h;exact qxj s f _ _ (by omega) (by omega)
   ·omega
theorem qn7 {s:Sc} (h:s.ok):d6 T0 X0 Xb [.ptr (.b 0) 0 0] [s.obj]=some (.ret [.d (.agg s.token.1.cs)] [s.token.2.obj]):=by
 rw[c9 (af:=v8) rfl rfl rfl];have hl:=h.1;have h1:=s.cls_le;have s0:=ZH h;unfold Sc.token
 by_cases c2:s.cls.1=2
 ·rw[if_pos c2];obtain ⟨e,hr⟩:=s.cls_same (by omega);rw[e] at s0;have s1:=qbd qhq (by decide) h
  have h3:(s.ran x7).length≤s.rest.length:=by unfold Sc.ran; rw[List.length_take]; omega
  have s2:=qq8 (s:=s.ran x7) (by omega)
  have h2:rc (s.ran x7)≤4096:=by
   have:=qxj (s.ran x7) ((s.ran x7).length + 1) 0 0 (by omega) (by omega);exact Nat.le_trans this (by omega)
  have s3:=Kz (s.run x7) 42 s.pos;change d6 T0 X0 Y6 _ _=some (.ret [.d (.str (s.ran x7))] [(s.run x7).obj]) at s1
  by_cases h16:16 < rc (s.ran x7)
  ·rw[if_pos h16];simp only[Sc.obj,Sc.cs,Pl.cs,Tok.cs] at s0 s1 s2 s3 ⊢;simp -implicitDefEqProofs (disch:=omega) [v8,s0,s1,s2,s3]
  ·rw[if_neg h16];simp only[Sc.obj,Sc.cs,Pl.cs,Tok.cs] at s0 s1 s2 s3 ⊢;simp -implicitDefEqProofs (disch:=omega) [v8,s0,s1,s2]
 rw[if_neg c2]
 by_cases c3:s.cls.1=3
 ·rw[if_pos c3];obtain ⟨e,hr⟩:=s.cls_same (by omega);rw[e] at s0;have s1:=qbd qhp (by decide) h
  have h3:(s.ran z8).length≤4096:=by unfold Sc.ran; rw[List.length_take]; omega
  obtain ⟨er,s2⟩:=qlc h3;have hn:=Jt h3;have hk:(d7 (qW (s.ran z8))).length≤456:=o6 hn.1 (by have:=(kW 456).2; omega);have s4:=YG (g8 (qW (s.ran z8))) 456 (by omega) (by omega) (by rw[o9 hn.1]; exact hn.2);rw[o9 hn.1] at s4;have s3:=Kz (s.run z8) 2 s.pos;change d6 T0 X0 Y6 _ _=some (.ret [.d (.str (s.ran z8))] [(s.run z8).obj]) at s1
  by_cases h32:32 < (d7 (qW (s.ran z8))).length
  ·rw[if_pos h32];simp only[Sc.obj,Sc.cs,Pl.cs,Tok.cs] at s0 s1 s2 s3 ⊢;simp -implicitDefEqProofs (disch:=omega) [v8,s0,s1,s2,s3,s4]
  ·rw[if_neg h32];simp only[Sc.obj,Sc.cs,Pl.cs,Tok.cs] at s0 s1 s2 s3 ⊢;simp -implicitDefEqProofs (disch:=omega) [v8,s0,s1,s2,s4]
 rw[if_neg c3]
 by_cases c5:s.cls.1=5
 ·rw[if_pos c5];obtain ⟨e,hr⟩:=s.cls_same (by omega);rw[e] at s0;have s1:=qhz h (qfm c5);simp only[Sc.obj,Sc.cs,Pl.cs,Tok.cs] at s0 s1 ⊢;simp -implicitDefEqProofs (disch:=omega) [v8,s0,s1]
 rw[if_neg c5]
 by_cases c0:s.cls.1 = -1
 ·rw[if_pos c0];simp only[Sc.obj,Sc.cs,Pl.cs,Tok.cs] at s0 ⊢;simp -implicitDefEqProofs (disch:=omega) [v8,s0]
 ·rw[if_neg c0];have s1:=qgw s.cls.2 41 s.cls.2.pos;simp only[Sc.obj,Sc.cs,Pl.cs,Tok.cs] at s0 s1 ⊢;simp -implicitDefEqProofs (disch:=omega) [v8,s0,s1]
theorem Sc.sign_ok {s:Sc} (h:s.ok) (hn:0≤s.next.1):s.sign.2.ok∧s.sign.2.rest.length < s.rest.length:=by
 obtain ⟨e,hr⟩:=s.next_same hn;have hp:=Sc.pass_ok h hr;have hl:=Sc.pass_len hr;unfold Sc.sign;split
 ·exact ⟨hp,hl⟩
 split
 ·exact ⟨hp,hl⟩
 split
 ·split
  ·refine ⟨Sc.early_ok (Sc.next_ok hp) _ _,?_⟩;show s.pass.next.2.rest.length < _;rw[s.pass.next_rest.1]; exact hl
  ·rename_i h5;have h5:s.pass.next.1=61:=Classical.not_not.1 h5;obtain ⟨e2,hr2⟩:=s.pass.next_same (by omega);have:=Sc.pass_len hr2;exact ⟨Sc.pass_ok hp hr2,Nat.lt_trans this hl⟩
 ·exact ⟨hp,hl⟩
theorem qw1 (p:Int→Bool) {s:Sc} (h:s.ok) (h0:0≤s.cls.1) (hp:p s.cls.1=true):(s.run p).ok∧(s.run p).rest.length < s.rest.length:=by
 obtain ⟨e,hr⟩:=s.cls_same h0;have hl:=Sc.pass_len hr;have:=Qq p s.rest.length (Sc.pass_ok h hr);unfold Sc.run I2;rw[if_pos ⟨h0,hp⟩];exact ⟨this.1,by omega⟩
theorem Xh {s:Sc} (h:s.ok):s.token.2.ok∧(s.token.1.kind≠0→s.token.2.rest.length < s.rest.length)∧s.token.1.text.length≤1100000:=by
 have hl:=h.1;unfold Sc.token;split
 ·rename_i c;have:=qw1 x7 h (by omega) (by rw[c]; rfl);refine ⟨?_,fun _=>?_,?_⟩
  ·simp only[]; split
   ·exact Sc.early_ok this.1 _ _
   ·exact this.1
  ·simp only[]; split
   ·exact this.2
   ·exact this.2
  ·show (s.ran x7).length≤_;unfold Sc.ran; rw[List.length_take]; omega
 split
 ·rename_i c;have:=qw1 z8 h (by omega) (by rw[c]; rfl);refine ⟨?_,fun _=>?_,?_⟩
  ·simp only[]; split
   ·exact Sc.early_ok this.1 _ _
   ·exact this.1
  ·simp only[]; split
   ·exact this.2
   ·exact this.2
  ·show (B2 456 _).length≤_;unfold B2;split
   ·simp
   ·rw[List.length_reverse];exact Nat.le_trans (JD 456 _) (by omega)
 split
 ·rename_i c;have:=Sc.sign_ok h (qfm c);refine ⟨this.1,fun _=>this.2,?_⟩;show s.sign.1.length≤_;unfold Sc.sign;have e1:=qp9 s.next.1;have e2:=qp9 (qi1 s.next.1)
  (repeat' split) <;> simp <;> omega
 split
 ·exact ⟨Sc.cls_ok h,fun h0=>absurd rfl h0,by simp⟩
 ·exact ⟨Sc.fail_ok (Sc.cls_ok h) _ _,fun h0=>absurd rfl h0,by simp⟩
def E4:Nat→Sc→List Tok→Option (List Tok) × Int × Pl
 | 0,_,out=>(some out,0,⟨0,0,0,0⟩)
 | f + 1,s,out=>
   if s.blanks.token.2.code≠0 then (none,s.blanks.token.2.code,s.blanks.token.2.bad)
   else if s.blanks.token.1.kind=0 then (some (out++[s.blanks.token.1]),0,⟨0,0,0,0⟩)
   else E4 f s.blanks.token.2 (out++[s.blanks.token.1])
def LT (l:List Tok):List D:=l.map fun t=>.agg t.cs
def VT (l:List Tok):List V:=l.map fun t=>.d (.agg t.cs)
@[simp] theorem VT_len (l):(VT l).length=l.length:=by simp[VT]
@[simp] theorem zbm:VT []=[]:=rfl
@[simp] theorem VT_take (l n):(VT l).take n=VT (l.take n):=by simp[VT,List.map_take]
@[simp] theorem VT_app1 (l:List Tok) (k x a b c d):VT l++[.d (.agg [.int .i64 k,.str x,.int .i64 a,.int .i64 b,.int .i64 c,.int .i64 d])]=VT (l++[⟨k,x,⟨a,b,c,d⟩⟩]):=by simp[VT,Tok.cs]
@[simp] theorem tok_eta (t:Tok):(⟨t.kind,t.text,⟨t.pos.b,t.pos.g,t.pos.l,t.pos.c⟩⟩:Tok)=t:=rfl
@[simp] theorem zbr (l):(LT l).map V.d=VT l:=by simp[LT,VT,Function.comp_def]
@[simp] theorem rens_VT (al:Loc→Bool) (l:List Tok) (m:List Loc):qo al (VT l) m=(VT l,m):=by rw[← zbr]; exact wF ..
@[simp] theorem frzL_VT (h:Loc→Option Obj) (k:Nat) (l:List Tok):ju (frz h (k + 1)) (VT l)=some (LT l,[]):=by
  induction l with
  | nil=>rfl
  | cons x xs ih=>
    show ju (frz h (k + 1)) (.d _ :: VT xs)=_;simp only[ju,ih];rfl
theorem zfr (l:List Tok):wl (LT l)≤56:=by
 induction l with
 | nil=>simp[LT,wl]
 | cons x xs ih=>
   show max (wt (.agg x.cs)) (wl (LT xs))≤56;have:wt (.agg x.cs)=56:=rfl;omega
@[simp] theorem wl_LT56 (l):(wl (LT l)≤56)=True:=eq_true (zfr l)
theorem YL:∀ f (s:Sc) (out l:List Tok) e p,s.ok→E4 f s out=(some l,e,p)→l.length≤out.length + f
 | 0,s,out,l,e,p,_,h=>by unfold E4 at h; cases h; omega
 | f + 1,s,out,l,e,p,hs,h=>by
   unfold E4 at h;split at h
   ·cases h
   ·split at h
    ·cases h; simp
    ·have:=YL f _ _ l e p (Xh (xl _ hs).1).1 h;simp at this;omega
def g9:Pl:=⟨0,0,0,0⟩
theorem qtr:∀ f (s:Sc) (out:List Tok) (e:List (Nat × V)),s.ok→s.rest.length < f→out.length + s.rest.length≤5000→
 j6 T0 X0 0 kN (some (.nrm,⟨(4,.ptr (.b 0) 0 0) :: (5,.ptr (.b 1) 0 0) :: (6,.ref (.b 2) ⟨6,56⟩ 0 out.length) :: e,[.arr [.d (.agg [.int .i64 0,.int .i64 0,.int .i64 0,.int .i64 0])] ⟨4,0⟩,s.obj,.arr (VT out) ⟨6,56⟩]⟩)) =
  some (.ret,match E4 f s out with
   | (none,c,p)=>⟨[(2,.d (.sl [])),(3,.d (.int .i64 c)),(4,.ptr (.b 0) 0 0)],[.arr [.d (.agg p.cs)] ⟨4,0⟩]⟩
   | (some l,c,p)=>⟨[(2,.ref (.b 0) ⟨6,56⟩ 0 l.length),(3,.d (.int .i64 c)),(4,.ptr (.b 1) 0 0)],[.arr (VT l) ⟨6,56⟩,.arr [.d (.agg p.cs)] ⟨4,0⟩]⟩):=by
 intro f
 induction f with
 | zero=>intros; omega
 | succ f ih=>
   intro s out e h hf hb;rw[d5 (l:=kN) rfl];have s1:=qni h;have hb1:=xl (s.rest.length + 1) h;change s.blanks.ok∧s.blanks.rest.length≤s.rest.length at hb1;have s2:=qn7 hb1.1;have ht:=Xh hb1.1;unfold E4
   by_cases hc:s.blanks.token.2.code=0
   ·rw[if_neg (by simpa using hc)]
    by_cases hk:s.blanks.token.1.kind=0
    ·rw[if_pos hk];simp only[Sc.obj,Sc.cs,Tok.cs,Pl.cs] at s1 s2 ⊢;simp -implicitDefEqProofs (disch:=omega) [xe,s1,s2]
    ·rw[if_neg hk];have hlt:=ht.2.1 hk;have s3:=ih s.blanks.token.2 (out++[s.blanks.token.1]) [(39,.d (.bool false))] ht.1 (by omega) (by simp; omega);rw[← s3];simp only[Sc.obj,Sc.cs,Tok.cs,Pl.cs] at s1 s2 ⊢;simp -implicitDefEqProofs (disch:=omega) [xe,s1,s2]
   ·rw[if_pos hc];simp only[Sc.obj,Sc.cs,Tok.cs,Pl.cs] at s1 s2 ⊢;simp -implicitDefEqProofs (disch:=omega) [xe,s1,s2]
def wD (s:List UInt8):Option (List Tok) × Int × Pl:=if 4096 < s.length then (none,2,g9) else E4 (s.length + 1) ⟨s,start,0,g9⟩ []
theorem qfn (s:List UInt8) (hs:s.length≤1099511627776):d6 T0 X0 Yv [.d (.str s)] [] =
 some (.ret [.d (.sl (LT ((wD s).1.getD []))),.d (.int .i64 (wD s).2.1),.d (.agg (wD s).2.2.cs)] []):=by
 rw[c9 (af:=jq) rfl rfl rfl];unfold wD
 by_cases hl:4096 < s.length
 ·rw[if_pos hl];simp -implicitDefEqProofs (disch:=omega) [jq,Pl.cs,g9,LT]
 ·rw[if_neg hl];have s0:=qom;have hok:Sc.ok ⟨s,start,0,g9⟩:=⟨by show s.length≤4096; omega,by show Pl.small start s.length; unfold Pl.small start; simp only[]; omega⟩;have s1:=qtr (s.length + 1) ⟨s,start,0,g9⟩ [] [] hok (by show s.length < _; omega) (by show 0 + s.length≤_; omega);simp only[Sc.obj,Sc.cs,Tok.cs,Pl.cs,g9,start,zbm,List.length_nil] at s0 s1 ⊢;have hlen:=YL (s.length + 1) ⟨s,start,0,g9⟩ [];simp only[g9,start] at hlen;generalize E4 (s.length + 1) ⟨s,⟨0,0,1,1⟩,0,⟨0,0,0,0⟩⟩ []=r at s1 hlen ⊢;obtain ⟨o,c,p⟩:=r
  cases o with
  | none=>
    simp -implicitDefEqProofs (disch:=omega) [jq,s0,s1,LT]
  | some l=>
    have hl2:=hlen l c p hok rfl;simp at hl2;have ht:l.take l.length=l:=List.take_length;simp -implicitDefEqProofs (disch:=omega) [jq,s0,s1]
def isName (s:List UInt8):Bool:=match wD s with
 | (some [t,_],0,_)=>decide (t.kind=1) && decide (t.text=s)
 | _=>false
def SL (vs:List (List UInt8)):List D:=vs.map .str
@[simp] theorem SL_len (vs):(SL vs).length=vs.length:=by simp[SL]
def tx (vs:List (List UInt8)) (i:Nat):List UInt8:=vs.getD i []
theorem zbo {vs:List (List UInt8)} {i:Nat} (h:i < vs.length):(SL vs)[i]? = some (.str (tx vs i)):=by simp[SL,tx,h]
attribute [simp] zbo
theorem q3r (vs):wl (SL vs)≤16:=by
 induction vs with
 | nil=>simp[SL,wl]
 | cons x xs ih=>
   show max 16 (wl (SL xs))≤16;omega
@[simp] theorem wl_SL16 (vs):(wl (SL vs)≤16)=True:=eq_true (q3r vs)
@[simp] theorem fit_SL {n:Nat} {vs} (h:n≤1099511627):(n * wl (SL vs)≤w8)=True:=eq_true (Nat.le_trans (Nat.mul_le_mul h (q3r vs)) (by unfold w8; omega))
def Wd (n:Int):D:=.agg [.bool (decide (n < 0)),.sl (L (d7 n.natAbs))]
def sg (p:Bool) (n:Int):Int:=if p then -n else n
@[simp] theorem sg_true (n):sg true n = -n:=rfl
@[simp] theorem qwr (n):sg false n=n:=rfl
@[simp] theorem qx4 (p n):sg (!p) n = - sg p n:=by cases p <;> simp
theorem Zc (n:Int):sg (decide (n < 0)) n.natAbs=n:=by
 unfold sg
 split <;> simp_all <;> omega
def nl (n:Int):Nat:=(d7 n.natAbs).length
theorem qga {n:Int} {k:Nat} (h:n < pw k) (h':-n < pw k):nl n≤k:=o6 (by omega) (by omega)
theorem WM (n:Int):(n.natAbs:Int) < pw (nl n):=by
 have:=(d8 (g8 n.natAbs)).2
 rwa [o9 (by omega)] at this
theorem Q0 (p:Bool) {n:Int} (h:0≤n) (hs:(d7 n).length≤1099511627776):d6 T0 X0 Zy [.d (.bool p),.d (.sl (L (d7 n)))] []=some (.ret [.d (Wd (sg p n))] []):=by
 rw[c9 (af:=xV) rfl rfl rfl];have hz:=xp h;unfold Wd sg
 by_cases h0:n=0
 ·subst h0
  cases p <;> simp -implicitDefEqProofs (disch:=omega) [xV]
 ·have hl:(d7 n).length≠0:=fun e=>h0 (hz.1 (List.eq_nil_of_length_eq_zero e))
  have e:((n.natAbs:Int))=n:=by omega
  cases p
  ·simp -implicitDefEqProofs (disch:=omega) [xV,e]
  ·simp -implicitDefEqProofs (disch:=omega) [xV,e,-List.length_eq_zero_iff]
theorem qcx {xs:List Int} (hx:n9 xs):(d7 (nv xs)).length≤xs.length:=o6 (d8 hx).1 (d8 hx).2
section raw
variable {xs ys:List Int} (hx:n9 xs) (hy:n9 ys) (hs:xs.length < 1073741824) (hs':ys.length < 1073741824)
include hx hs
theorem qs1 (p:Bool):d6 T0 X0 V9 [.d (.agg [.bool p,.sl (L xs)])] []=some (.ret [.d (Wd (sg p (nv xs)))] []):=by
 rw[c9 (af:=ZN) rfl rfl rfl];have l1:=qcx hx;have s1:=Qs hx (by omega);have s2:=Q0 p (d8 hx).1 (by omega);simp -implicitDefEqProofs (disch:=omega) [ZN,s1,s2,Wd]
theorem qvw (p:Bool):d6 T0 X0 WT [.d (.agg [.bool p,.sl (L xs)])] []=some (.ret [.d (Wd (-sg p (nv xs)))] []):=by
 rw[c9 (af:=Ji) rfl rfl rfl];have l1:=qcx hx;have s1:=Qs hx (by omega);have s2:=Q0 (!p) (d8 hx).1 (by omega);simp -implicitDefEqProofs (disch:=omega) [Ji,s1,s2,Wd]
theorem qss:0≤xz (nth (d7 (nv xs)) ((d7 (nv xs)).length - 1))∧xz (nth (d7 (nv xs)) ((d7 (nv xs)).length - 1))≤32:=by
 have _:=hx;have _:=hs;have g:=(g8 (nv xs)).nth ((d7 (nv xs)).length - 1);exact ⟨V3 _,YD (k:=32) (by omega)⟩
theorem qst (h:nv xs≠0):1≤(d7 (nv xs)).length∧1≤xz (nth (d7 (nv xs)) ((d7 (nv xs)).length - 1)):=by
 have _:=hs;have h0:=(d8 hx).1
 have hn:(d7 (nv xs)).length≠0:=fun h'=>h ((xp h0).1 (List.eq_nil_of_length_eq_zero h'))
 refine ⟨by omega,?_⟩;have g:=(g8 (nv xs)).nth ((d7 (nv xs)).length - 1)
 have hz:nth (d7 (nv xs)) ((d7 (nv xs)).length - 1)≠0:=by
  intro hz;have e:=C9 (d7 (nv xs)) ((d7 (nv xs)).length - 1);rw[hz,List.take_of_length_le (by omega),o9 h0] at e;have b:=(d8 ((g8 (nv xs)).take ((d7 (nv xs)).length - 1))).2;rw[List.length_take,Nat.min_eq_left (by omega)] at b;rcases Q1 (nv xs) with c | c
  ·rw[c] at hn; exact hn rfl
  ·rw[o9 h0] at c;omega
 unfold xz;rw[if_neg (by omega)];omega
theorem qs2 (p:Bool):d6 T0 X0 Zz [.d (.agg [.bool p,.sl (L xs)])] []=some (.ret [.d (.int .i64 (Int.sign (sg p (nv xs))))] []):=by
 rw[c9 (af:=xX) rfl rfl rfl];have h0:=(d8 hx).1;have s1:=Wt hx (by omega)
 by_cases hz:nv xs=0
 ·rw[if_pos hz] at s1;rw[hz]
  cases p <;> simp -implicitDefEqProofs (disch:=omega) [xX,s1]
 ·rw[if_neg hz] at s1;have b1:=qss hx hs;have b2:=qst hx hs hz;unfold qx6 at s1;cases p
  ·have e:Int.sign (sg false (nv xs))=1:=Int.sign_eq_one_of_pos (by simp; omega);rw[e];simp -implicitDefEqProofs (disch:=omega) [xX,s1]
  ·have e:Int.sign (sg true (nv xs)) = -1:=Int.sign_eq_neg_one_of_neg (by simp; omega);rw[e];simp -implicitDefEqProofs (disch:=omega) [xX,s1]
theorem qn4 (p:Bool):d6 T0 X0 JU [.d (.agg [.bool p,.sl (L xs)])] []=some (.ret [.d (.int .i64 (d7 (nv xs)).length)] []):=by
 rw[c9 (af:=jU) rfl rfl rfl];have h0:=(d8 hx).1;have s1:=Wt hx (by omega);have l1:=qcx hx
 by_cases hz:nv xs=0
 ·rw[if_pos hz] at s1;rw[hz];simp -implicitDefEqProofs (disch:=omega) [jU,s1]
 ·rw[if_neg hz] at s1;have b1:=qss hx hs;have b2:=qst hx hs hz;unfold qx6 at s1;simp -implicitDefEqProofs (disch:=omega) [jU,s1];omega
include hy hs'
theorem qkf (p q:Bool):d6 T0 X0 vK [.d (.agg [.bool p,.sl (L xs)]),.d (.agg [.bool q,.sl (L ys)])] []=some (.ret [.d (Wd (sg p (nv xs) + sg q (nv ys)))] []):=by
 rw[c9 (af:=kr) rfl rfl rfl];have h1:=(d8 hx).1;have h2:=(d8 hy).1;have l1:=d8 hx;have l2:=d8 hy
 by_cases hpq:p=q
 ·subst hpq;have s1:=qz8 hx hy (by omega) (by omega)
  have hb:=o6 (n:=nv xs + nv ys) (k:=max xs.length ys.length + 1) (by omega) (by
   have a1:=Qz (show xs.length≤max xs.length ys.length by omega);have a2:=Qz (show ys.length≤max xs.length ys.length by omega);simp only[pw]
   omega)
  have s2:=Q0 p (n:=nv xs + nv ys) (by omega) (by omega)
  have e:sg p (nv xs) + sg p (nv ys)=sg p (nv xs + nv ys):=by cases p <;> simp <;> omega
  rw[e];simp -implicitDefEqProofs (disch:=omega) [kr,s1,s2,Wd]
 ·have e:q = !p:=by cases p <;> cases q <;> simp_all
  subst e;have s1:=qkj hx hy (by omega) (by omega);have s1':=qkj hy hx (by omega) (by omega);rw[qx4]
  by_cases hlt:nv xs < nv ys
  ·rw[if_pos hlt] at s1;rw[if_neg (by omega)] at s1';have hb:=o6 (n:=nv ys - nv xs) (k:=ys.length) (by omega) (by omega);have s2:=Q0 (!p) (n:=nv ys - nv xs) (by omega) (by omega)
   have e:sg p (nv xs) + - sg p (nv ys)=sg (!p) (nv ys - nv xs):=by cases p <;> simp <;> omega
   rw[e];simp -implicitDefEqProofs (disch:=omega) [kr,s1,s1',s2,Wd]
  ·rw[if_neg hlt] at s1;have hb:=o6 (n:=nv xs - nv ys) (k:=xs.length) (by omega) (by omega);have s2:=Q0 p (n:=nv xs - nv ys) (by omega) (by omega)
   have e:sg p (nv xs) + - sg p (nv ys)=sg p (nv xs - nv ys):=by cases p <;> simp <;> omega
   rw[e];simp -implicitDefEqProofs (disch:=omega) [kr,s1,s2,Wd]
theorem qvq (p q:Bool):d6 T0 X0 vJ [.d (.agg [.bool p,.sl (L xs)]),.d (.agg [.bool q,.sl (L ys)])] []=some (.ret [.d (Wd (sg p (nv xs) - sg q (nv ys)))] []):=by
 rw[c9 (af:=Jh) rfl rfl rfl];have s1:=qkf hx hy hs hs' p (!q);rw[qx4,← Int.sub_eq_add_neg] at s1;simp -implicitDefEqProofs (disch:=omega) [Jh,s1,Wd]
theorem qvx (p q:Bool):d6 T0 X0 WU [.d (.agg [.bool p,.sl (L xs)]),.d (.agg [.bool q,.sl (L ys)])] []=some (.ret [.d (Wd (sg p (nv xs) * sg q (nv ys)))] []):=by
 rw[c9 (af:=Jj) rfl rfl rfl];have l1:=d8 hx;have l2:=d8 hy;have s1:=qls hx hy (by omega)
 have hb:=o6 (n:=nv xs * nv ys) (k:=xs.length + ys.length) (Int.mul_nonneg l1.1 l2.1) (by
  rw[Zf];have a1:nv xs * nv ys≤nv xs * pw ys.length:=Int.mul_le_mul_of_nonneg_left (by omega) l1.1;have a2:nv xs * pw ys.length < pw xs.length * pw ys.length:=Int.mul_lt_mul_of_pos_right l1.2 (T4 _)
  omega)
 have s2:=fun b=>Q0 b (n:=nv xs * nv ys) (Int.mul_nonneg l1.1 l2.1) (by omega)
 have e:sg p (nv xs) * sg q (nv ys)=sg (p != q) (nv xs * nv ys):=by cases p <;> cases q <;> simp[Int.mul_neg,Int.neg_mul]
 rw[e]
 cases p <;> cases q <;> simp -implicitDefEqProofs (disch:=omega) [Jj,s1,s2,Wd]
end raw
theorem Xf {n:Int} (h:-9223372036854775808≤n∧n≤9223372036854775807):d6 T0 X0 qdi [.d (.int .i64 n)] []=some (.ret [.d (Wd n)] []):=by
 rw[c9 (af:=ZO) rfl rfl rfl]
 by_cases h0:n < 0
 ·have s1:=Za (n:=-n) (by omega);have hb:=o6 (n:=-n) (k:=2) (by omega) (by simp only[pw]; omega);have s2:=Q0 true (n:=-n) (by omega) (by omega)
  have e:-(n + 1) + 1 = -n:=by omega
  simp -implicitDefEqProofs (disch:=omega) [ZO,s1,s2,Wd,e]
 ·have s1:=Za (n:=n) (by omega);have hb:=o6 (n:=n) (k:=2) (by omega) (by simp only[pw]; omega);have s2:=Q0 false (n:=n) (by omega) (by omega);simp -implicitDefEqProofs (disch:=omega) [ZO,s1,s2,Wd]
section W
variable {m n:Int} (hm:nl m < 1073741824) (hn:nl n < 1073741824)
theorem xM (n:Int):nv (d7 n.natAbs)=n.natAbs:=o9 (by omega)
include hm
theorem QS:d6 T0 X0 V9 [.d (Wd m)] []=some (.ret [.d (Wd m)] []):=by
 have:=qs1 (g8 m.natAbs) hm (decide (m < 0))
 rwa [xM,Zc] at this
theorem qn2:d6 T0 X0 WT [.d (Wd m)] []=some (.ret [.d (Wd (-m))] []):=by
 have:=qvw (g8 m.natAbs) hm (decide (m < 0))
 rwa [xM,Zc] at this
theorem KC:d6 T0 X0 Zz [.d (Wd m)] []=some (.ret [.d (.int .i64 m.sign)] []):=by
 have:=qs2 (g8 m.natAbs) hm (decide (m < 0))
 rwa [xM,Zc] at this
theorem qkb:d6 T0 X0 JU [.d (Wd m)] []=some (.ret [.d (.int .i64 (nl m))] []):=by
 have:=qn4 (g8 m.natAbs) hm (decide (m < 0))
 rwa [xM] at this
include hn
theorem qn6:d6 T0 X0 vK [.d (Wd m),.d (Wd n)] []=some (.ret [.d (Wd (m + n))] []):=by
 have:=qkf (g8 m.natAbs) (g8 n.natAbs) hm hn (decide (m < 0)) (decide (n < 0))
 rwa [xM,xM,Zc,Zc] at this
theorem qvr:d6 T0 X0 vJ [.d (Wd m),.d (Wd n)] []=some (.ret [.d (Wd (m - n))] []):=by
 have:=qvq (g8 m.natAbs) (g8 n.natAbs) hm hn (decide (m < 0)) (decide (n < 0))
 rwa [xM,xM,Zc,Zc] at this
theorem qn3:d6 T0 X0 WU [.d (Wd m),.d (Wd n)] []=some (.ret [.d (Wd (m * n))] []):=by
 have:=qvx (g8 m.natAbs) (g8 n.natAbs) hm hn (decide (m < 0)) (decide (n < 0))
 rwa [xM,xM,Zc,Zc] at this
end W
def SV (vs:List (List UInt8)):List V:=vs.map fun s=>.d (.str s)
@[simp] theorem SV_len (vs):(SV vs).length=vs.length:=by simp[SV]
@[simp] theorem SV_take (vs n):(SV vs).take n=SV (vs.take n):=by simp[SV,List.map_take]
@[simp] theorem q0b (vs):(SL vs).map V.d=SV vs:=by simp[SL,SV,Function.comp_def]
@[simp] theorem qjx:SV []=[]:=rfl
@[simp] theorem SV_app1 (vs s):SV vs++[.d (.str s)]=SV (vs++[s]):=by simp[SV]
theorem JG (s l):SV (s :: l) = .d (.str s) :: SV l:=rfl
theorem zbn {vs:List (List UInt8)} {i:Nat} (h:i < vs.length):(SV vs)[i]? = some (.d (.str (tx vs i))):=by simp[SV,tx,h]
attribute [simp] zbn
@[simp] theorem rens_SV (al:Loc→Bool) (xs) (m:List Loc):qo al (SV xs) m=(SV xs,m):=by rw[← q0b]; exact wF ..
@[simp] theorem zii (f:Loc→Loc) (xs):X5 f (SV xs)=SV xs:=by
  induction xs with
  | nil=>rfl
  | cons x xs ih=>
    show V.mapL f (.d _) :: X5 f (SV xs)=_;rw[ih];rfl
@[simp] theorem frzL_SV (h:Loc→Option Obj) (k:Nat) (xs):ju (frz h (k + 1)) (SV xs)=some (SL xs,[]):=by rw[← q0b]; exact qme ..
def ME (ms:List (List UInt8)):List (D × V):=ms.map fun s=>(.str s,.d (.int .i64 1))
@[simp] theorem qem:ME []=[]:=rfl
@[simp] theorem zgy (al:Loc→Bool) (xs) (m:List Loc):kR al (ME xs) m=(ME xs,m):=by
  induction xs with
  | nil=>rfl
  | cons x xs ih=>
    show kR al ((.str x,.d (.int .i64 1)) :: ME xs) m=_;simp only[kR,V.ren,V4,ih];rfl
@[simp] theorem zim (f:Loc→Loc) (xs):ZW f (ME xs)=ME xs:=by
  induction xs with
  | nil=>rfl
  | cons x xs ih=>
    show (_,V.mapL f (.d _)) :: ZW f (ME xs)=_;rw[ih];rfl
@[simp] theorem keys_ME (xs):(ME xs).all (fun e=>jw true e.1)=true:=by
  induction xs with
  | nil=>rfl
  | cons x xs ih=>simpa [ME,jw] using ih
@[simp] theorem zjx (xs s):Yq (ME xs) (I5 (.str s))=if s∈xs then some (.d (.int .i64 1)) else none:=by
  induction xs with
  | nil=>rfl
  | cons x xs ih=>
    show (if I5 (.str s) (.str x) then _ else Yq (ME xs) _)=_;rw[ih]
    by_cases h:s=x
    ·subst h; simp[I5]
    ·simp[I5,h]
theorem q1o {xs s} (h:¬ s∈xs):KQ (ME xs) (.str s) (.d (.int .i64 1))=ME (xs++[s]):=by
 induction xs with
 | nil=>rfl
 | cons x xs ih=>
   simp only[List.mem_cons,not_or] at h;show (if I5 (.str s) (.str x) then _ else (_,_) :: KQ (ME xs) _ _)=_;rw[ih h.2];simp[I5,h.1,ME]
structure Rd where
 ts:List Tok
 i:Nat
 vs:List (List UInt8)
 op:Int
 ly:Option D
 ms:List (List UInt8)
def Rd.heap (r:Rd):List Obj:=match r.ly with
 | some x=>[.arr [.agg [.d (.sl (LT r.ts)),.d (.int .i64 r.i),.d x,.d (.int .i64 r.op),.map (.b 1)]] ⟨5,0⟩,.map (ME r.ms)]
 | none=>[.arr [.agg [.d (.sl (LT r.ts)),.d (.int .i64 r.i),.ref (.b 1) ⟨1,16⟩ 0 r.vs.length,.d (.int .i64 r.op),.map (.b 2)]] ⟨5,0⟩,.arr (SV r.vs) ⟨1,16⟩,.map (ME r.ms)]
def Rd.tok (r:Rd):Tok:=r.ts.getD r.i ⟨0,[],g9⟩
def Rd.next (r:Rd):Rd:=if r.tok.kind=0 then r else { r with i:=r.i + 1 }
def Rd.opened (r:Rd):Rd:={ r with op:=r.op + 1 }
def Rd.closed (r:Rd):Rd:={ r with op:=r.op - 1 }
theorem lys (r:Rd):r.next.ly=r.ly∧r.opened.ly=r.ly∧r.closed.ly=r.ly:=⟨by unfold Rd.next; split <;> rfl,rfl,rfl⟩
structure Rd.ok (r:Rd):Prop where
 i:r.i < r.ts.length
 n:r.ts.length≤5000
 mid:∀ j,j + 1 < r.ts.length→(r.ts.getD j ⟨0,[],g9⟩).kind≠0
 fin:∀ j,r.ts.length=j + 1→(r.ts.getD j ⟨0,[],g9⟩).kind=0
 vs:r.vs.length≤16
 op:0≤r.op∧r.op≤16
 tx:∀ t∈r.ts,t.text.length≤1100000
 tv:∀ k,(Rf.tx r.vs k).length≤1100000
 ly:∀ x,r.ly=some x→x = .sl (SL r.vs)∨x = .nils∧r.vs=[]
theorem q3p {l:List Tok} {i:Nat} (h:i < l.length):(LT l)[i]? = some (.agg (l.getD i ⟨0,[],g9⟩).cs):=by simp[LT,h]
theorem r9 {r:Rd} (h:r.ok):d6 T0 X0 wS [.ptr (.b 0) 0 0] r.heap=some (.ret [.d (.agg r.tok.cs)] r.heap):=by
 rw[c9 (af:=xn) rfl rfl rfl];have h1:=h.i;have h2:=h.n;have h3:=q3p h1;cases hly:r.ly
 all_goals
  simp only[Rd.heap,hly,lys,Rd.tok] at *;generalize r.ts.getD r.i ⟨0,[],g9⟩=t at *;simp only[Tok.cs] at *;simp -implicitDefEqProofs (disch:=omega) [xn,h3]
def i9 (e:Int) (p:Pl):D:=.iface KH (.agg [.int .i64 e,.int .i64 p.b,.int .i64 p.g,.int .i64 p.l,.int .i64 p.c])
theorem C3 (r:Rd) (e:Int):d6 T0 X0 xk [.ptr (.b 0) 0 0,.d (.bool true),.d (.int .i64 e)] r.heap=some (.ret [] r.heap):=by
 rw[c9 (af:=O6) rfl rfl rfl];cases hly:r.ly
 all_goals
  simp only[Rd.heap,hly,lys] at *;simp -implicitDefEqProofs (disch:=omega) [O6]
theorem F9 {r:Rd} (h:r.ok) (e:Int):d6 T0 X0 xk [.ptr (.b 0) 0 0,.d (.bool false),.d (.int .i64 e)] r.heap=some (.pan (.d (i9 e r.tok.pos)) r.heap):=by
 rw[c9 (af:=O6) rfl rfl rfl];have s1:=r9 h;cases hly:r.ly
 all_goals
  simp only[Rd.heap,hly,lys,i9] at *;generalize r.tok=t at *;simp only[Tok.cs] at *;simp -implicitDefEqProofs (disch:=omega) [O6,s1]
theorem Rd.next_ok {r:Rd} (h:r.ok):r.next.ok:=by
 unfold Rd.next;split
 ·exact h
 ·rename_i hk;have hi:=h.i;refine ⟨?_,h.n,h.mid,h.fin,h.vs,h.op,h.tx,h.tv,h.ly⟩;show r.i + 1 < r.ts.length
  by_cases hl:r.i + 1 < r.ts.length
  ·exact hl
  ·exact absurd (h.fin r.i (by omega)) hk
theorem V7 {r:Rd} (h:r.ok):d6 T0 X0 Kt [.ptr (.b 0) 0 0] r.heap=some (.ret [.d (.agg r.tok.cs)] r.next.heap):=by
 rw[c9 (af:=W4) rfl rfl rfl];have s1:=r9 h;have h1:=h.i;have h2:=h.n;unfold Rd.next
 by_cases hk:r.tok.kind=0
 ·rw[if_pos hk];cases hly:r.ly
  all_goals
   simp only[Rd.heap,hly,lys] at *;generalize r.tok=t at *;simp only[Tok.cs] at *;simp -implicitDefEqProofs (disch:=omega) [W4,s1]
 ·rw[if_neg hk];cases hly:r.ly
  all_goals
   simp only[Rd.heap,hly,lys] at *;generalize r.tok=t at *;simp only[Tok.cs] at *;simp -implicitDefEqProofs (disch:=omega) [W4,s1]
def Rd.isT (r:Rd) (s:List UInt8):Bool:=decide (r.tok.text=s∧(r.tok.kind=3∨r.tok.kind=1))
theorem n7 {r:Rd} (h:r.ok) (s:List UInt8) (hs:s.length≤1100000):d6 T0 X0 jE [.ptr (.b 0) 0 0,.d (.str s)] r.heap=some (.ret [.d (.bool (r.isT s))] (if r.isT s then r.next else r).heap):=by
 rw[c9 (af:=O1) rfl rfl rfl];have s1:=r9 h;have s2:=V7 h;unfold Rd.isT
 by_cases ht:r.tok.text=s
 ·have hb:(r.tok.text == s)=true:=by simp[ht]
  by_cases hk:r.tok.kind=3
  ·rw[if_pos (by simp[ht,hk]),decide_eq_true (by simp[ht,hk])];cases hly:r.ly
   all_goals
    simp only[Rd.heap,hly,lys] at *;generalize r.tok=t at *;simp only[Tok.cs] at *;simp -implicitDefEqProofs (disch:=omega) [O1,s1,s2,hb]
  ·by_cases hk1:r.tok.kind=1
   ·rw[if_pos (by simp[ht,hk1]),decide_eq_true (by simp[ht,hk1])];cases hly:r.ly
    all_goals
     simp only[Rd.heap,hly,lys] at *;generalize r.tok=t at *;simp only[Tok.cs] at *;simp -implicitDefEqProofs (disch:=omega) [O1,s1,s2,hb]
   ·rw[if_neg (by simp[ht,hk,hk1]),decide_eq_false (by simp[ht,hk,hk1])];cases hly:r.ly
    all_goals
     simp only[Rd.heap,hly,lys] at *;generalize r.tok=t at *;simp only[Tok.cs] at *;simp -implicitDefEqProofs (disch:=omega) [O1,s1,s2,hb]
 ·have hb:(r.tok.text == s)=false:=by simp[ht]
  rw[if_neg (by simp[ht]),decide_eq_false (by simp[ht])];cases hly:r.ly
  all_goals
   simp only[Rd.heap,hly,lys] at *;generalize r.tok=t at *;simp only[Tok.cs] at *;simp -implicitDefEqProofs (disch:=omega) [O1,s1,s2,hb]
theorem X9 {r:Rd} (h:r.ok) {s:List UInt8} (hs:s.length≤1100000) (hi:r.isT s=true):d6 T0 X0 wP [.ptr (.b 0) 0 0,.d (.str s)] r.heap=some (.ret [] r.next.heap):=by
 rw[c9 (af:=O7) rfl rfl rfl];have s1:=n7 h s hs;rw[hi,if_pos rfl] at s1;have s2:=C3 r.next 80;cases hly:r.ly
 all_goals
  simp only[Rd.heap,hly,lys] at *;simp -implicitDefEqProofs (disch:=omega) [O7,s1,s2]
theorem S0 {r:Rd} (h:r.ok) {s:List UInt8} (hs:s.length≤1100000) (hi:r.isT s=false):d6 T0 X0 wP [.ptr (.b 0) 0 0,.d (.str s)] r.heap=some (.pan (.d (i9 80 r.tok.pos)) r.heap):=by
 rw[c9 (af:=O7) rfl rfl rfl];have s1:=n7 h s hs;rw[hi,if_neg (by simp)] at s1;have s2:=F9 h 80;cases hly:r.ly
 all_goals
  simp only[Rd.heap,hly,lys] at *;simp -implicitDefEqProofs (disch:=omega) [O7,s1,s2]
def qfh:List (List UInt8):=[[118,97,114,115],[97,110,121],[115,107,105,112],[115,116,111,112],[109,97,114,107],[99,104,111,111,115,101],[111,114],[108,111,111,112],[105,102],[101,108,115,101],[119,104,105,108,101]]
def Y2 (s:List UInt8):Bool:=qfh.contains s
theorem qs6 (s:List UInt8) (hs:s.length≤1100000):d6 T0 X0 qmq [.d (.str s)] []=some (.ret [.d (.bool (Y2 s))] []):=by
 rw[c9 (af:=vU) rfl rfl rfl]
 by_cases h:s=[118,97,114,115]∨s=[97,110,121]∨s=[115,107,105,112]∨s=[115,116,111,112]∨s=[109,97,114,107]∨s=[99,104,111,111,115,101]∨s=[111,114]∨s=[108,111,111,112]∨s=[105,102]∨s=[101,108,115,101]∨s=[119,104,105,108,101]
 ·rcases h with rfl | rfl | rfl | rfl | rfl | rfl | rfl | rfl | rfl | rfl | rfl <;>
   simp -implicitDefEqProofs (disch:=omega) [vU,Y2,qfh]
 ·have e:Y2 s=false:=by
   unfold Y2 qfh;simp only[List.contains_eq_mem,List.mem_cons,List.not_mem_nil,or_false,decide_eq_false_iff_not];exact h
  rw[e];simp only[not_or] at h;obtain ⟨h0,h1,h2,h3,h4,h5,h6,h7,h8,h9,h10⟩:=h
  have b0:(s == [118,97,114,115])=false:=by rw[beq_eq_false_iff_ne]; exact h0
  have b1:(s == [97,110,121])=false:=by rw[beq_eq_false_iff_ne]; exact h1
  have b2:(s == [115,107,105,112])=false:=by rw[beq_eq_false_iff_ne]; exact h2
  have b3:(s == [115,116,111,112])=false:=by rw[beq_eq_false_iff_ne]; exact h3
  have b4:(s == [109,97,114,107])=false:=by rw[beq_eq_false_iff_ne]; exact h4
  have b5:(s == [99,104,111,111,115,101])=false:=by rw[beq_eq_false_iff_ne]; exact h5
  have b6:(s == [111,114])=false:=by rw[beq_eq_false_iff_ne]; exact h6
  have b7:(s == [108,111,111,112])=false:=by rw[beq_eq_false_iff_ne]; exact h7
  have b8:(s == [105,102])=false:=by rw[beq_eq_false_iff_ne]; exact h8
  have b9:(s == [101,108,115,101])=false:=by rw[beq_eq_false_iff_ne]; exact h9
  have b10:(s == [119,104,105,108,101])=false:=by rw[beq_eq_false_iff_ne]; exact h10
  simp -implicitDefEqProofs (disch:=omega) [vU,b0,b1,b2,b3,b4,b5,b6,b7,b8,b9,b10]
def Rd.isName (r:Rd):Bool:=decide (r.tok.kind=1) && !Y2 r.tok.text
theorem Q3 {r:Rd} (h:r.ok):r.tok.text.length≤1100000:=by
 unfold Rd.tok;have:=h.i;simp[this];exact h.tx _ (List.getElem_mem this)
theorem B3 {r:Rd} (h:r.ok):d6 T0 X0 Ku [.ptr (.b 0) 0 0] r.heap=some (.ret [.d (.bool r.isName)] r.heap):=by
 rw[c9 (af:=W5) rfl rfl rfl];have s1:=r9 h;have s2:=qs6 r.tok.text (Q3 h);have ht:=Q3 h;unfold Rd.isName
 by_cases hk:r.tok.kind=1
 ·rw[decide_eq_true hk];cases hly:r.ly
  all_goals
   simp only[Rd.heap,hly,lys] at *;generalize r.tok=t at *;simp only[Tok.cs] at *
   cases hw:Y2 t.text <;> rw[hw] at s2 <;> simp -implicitDefEqProofs (disch:=omega) [W5,s1,s2]
 ·rw[decide_eq_false hk];cases hly:r.ly
  all_goals
   simp only[Rd.heap,hly,lys] at *;generalize r.tok=t at *;simp only[Tok.cs] at *;simp -implicitDefEqProofs (disch:=omega) [W5,s1]
def zF (vs:List (List UInt8)) (s:List UInt8):Nat→Nat→Int
 | 0,_=>-1
 | d + 1,i=>if s=tx vs i then i else zF vs s d (i + 1)
theorem qat (vs) (s):∀ d i,d + i=vs.length→-1≤zF vs s d i∧zF vs s d i < vs.length
 | 0,i,h=>by simp only[zF]; omega
 | d + 1,i,h=>by
   unfold zF;split
   ·omega
   ·exact qat vs s d (i + 1) (by omega)
def Rd.nv (r:Rd):V:=match r.ly with
 | some x=>.d x
 | none=>.ref (.b 1) ⟨1,16⟩ 0 r.vs.length
theorem qv3 {r:Rd} (h:r.ok) (s:List UInt8) (hs:s.length≤1100000):∀ d i (e:List (Nat × V)),d + i=r.vs.length→
 j6 T0 X0 r.heap.length I6 (some (.nrm,⟨(1,.d (.str s)) :: (10,r.nv) :: (11,.d (.int .i64 r.vs.length)) :: (12,.d (.int .i64 i)) :: e,r.heap⟩)) =
  if zF r.vs s d i = -1 then some (.exit 0,⟨[],r.heap⟩) else some (.ret,⟨[(4,.d (.int .i64 (zF r.vs s d i)))],r.heap⟩):=by
 have hv:=h.vs;intro d
 induction d with
 | zero=>
   intro i e hi
   have:i=r.vs.length:=by omega
   subst this;rw[d5 (l:=I6) rfl,if_pos (show zF r.vs s 0 r.vs.length = -1 from rfl)];cases hly:r.ly
   all_goals
    simp only[Rd.heap,Rd.nv,hly];simp -implicitDefEqProofs (disch:=omega) [I7]
 | succ d ih=>
   intro i e hi;rw[d5 (l:=I6) rfl];have h1:=h.tv i
   have hx:∀ x,r.ly=some x→x = .sl (SL r.vs):=fun x e=>by
    rcases h.ly x e with h | ⟨_,h⟩
    ·exact h
    ·rw[h] at hi; simp at hi
   by_cases he:s=tx r.vs i
   ·rw[show zF r.vs s (d + 1) i=i by simp only[zF,if_pos he],if_neg (by omega)]
    have hb:(s == tx r.vs i)=true:=by rw[← he]; simp
    cases hly:r.ly
    case' some=>cases hx _ hly
    all_goals
     simp only[Rd.heap,Rd.nv,hly];simp -implicitDefEqProofs (disch:=omega) [I7,hb]
   ·rw[show zF r.vs s (d + 1) i=zF r.vs s d (i + 1) by simp only[zF,if_neg he]]
    have hb:(s == tx r.vs i)=false:=by rw[beq_eq_false_iff_ne]; exact he
    rw[← ih (i + 1) [] (by omega)];cases hly:r.ly
    case' some=>cases hx _ hly
    all_goals
     simp only[Rd.heap,Rd.nv,hly];simp -implicitDefEqProofs (disch:=omega) [I7,hb]
def Rd.var (r:Rd) (s:List UInt8):Int:=zF r.vs s r.vs.length 0
theorem KD {r:Rd} (h:r.ok) (s:List UInt8) (hs:s.length≤1100000):d6 T0 X0 ZA [.ptr (.b 0) 0 0,.d (.str s)] r.heap=some (.ret [.d (.int .i64 (r.var s))] r.heap):=by
 rw[c9 (af:=N1) rfl rfl rfl];have hv:=h.vs;have s1:=qv3 h s hs r.vs.length 0 [] rfl;have hx:=h.ly;unfold Rd.var
 by_cases hz:zF r.vs s r.vs.length 0 = -1
 ·rw[if_pos hz] at s1;rw[hz];cases hly:r.ly
  case' some=>rcases hx _ hly with rfl | ⟨rfl,hvs⟩; rotate_left; rw[hvs] at s1
  all_goals
   simp only[Rd.heap,Rd.nv,hly,Int.cast_ofNat_Int,List.length_cons,List.length_nil] at s1 ⊢;simp -implicitDefEqProofs (disch:=omega) [N1,s1]
 ·rw[if_neg hz] at s1;cases hly:r.ly
  case' some=>rcases hx _ hly with rfl | ⟨rfl,hvs⟩; rotate_left; exact absurd (by rw[hvs]; rfl) hz
  all_goals
   simp only[Rd.heap,Rd.nv,hly,Int.cast_ofNat_Int,List.length_cons,List.length_nil] at s1 ⊢;simp -implicitDefEqProofs (disch:=omega) [N1,s1]
def Rd.into (r:Rd) (s:List UInt8):Option Int:=if r.tok.kind=3∧r.tok.text=s then (if r.op < 16 then none else some 83) else some 80
theorem Rd.opened_ok {r:Rd} (h:r.ok) (hi:r.op < 16):r.opened.ok:=⟨h.i,h.n,h.mid,h.fin,h.vs,by have:=h.op; exact ⟨by show 0≤r.op + 1; omega,by show r.op + 1≤16; omega⟩,h.tx,h.tv,h.ly⟩
theorem qgl {r:Rd} (h:r.ok) {s:List UInt8} (hs:s.length≤1100000) (hi:r.into s=none):d6 T0 X0 wR [.ptr (.b 0) 0 0,.d (.str s)] r.heap=some (.ret [] r.opened.next.heap):=by
 rw[c9 (af:=E3) rfl rfl rfl];have ht:=Q3 h;unfold Rd.into at hi
 by_cases hc:r.tok.kind=3∧r.tok.text=s
 ·rw[if_pos hc] at hi
  by_cases ho:r.op < 16
  ·have s1:=r9 h;have s2:=C3 r 80;have s3:=C3 r 83;have s4:=V7 (Rd.opened_ok h ho);have h4:=h.op
   have hb:(r.tok.text == s)=true:=by rw[hc.2]; simp
   have hk:=hc.1;cases hly:r.ly
   all_goals
    simp only[Rd.heap,hly,lys] at *;generalize r.opened.tok=t2 at *;generalize r.tok=t at *;simp only[Tok.cs,Rd.opened] at *;simp -implicitDefEqProofs (disch:=omega) [E3,s1,s2,s3,s4,hb]
  ·rw[if_neg ho] at hi; cases hi
 ·rw[if_neg hc] at hi; cases hi
theorem qgk {r:Rd} (h:r.ok) {s:List UInt8} (hs:s.length≤1100000) {e:Int} (hi:r.into s=some e):d6 T0 X0 wR [.ptr (.b 0) 0 0,.d (.str s)] r.heap=some (.pan (.d (i9 e r.tok.pos)) r.heap):=by
 rw[c9 (af:=E3) rfl rfl rfl];have ht:=Q3 h;have s1:=r9 h;have h4:=h.op;unfold Rd.into at hi
 by_cases hc:r.tok.kind=3∧r.tok.text=s
 ·rw[if_pos hc] at hi
  by_cases ho:r.op < 16
  ·rw[if_pos ho] at hi; cases hi
  ·rw[if_neg ho] at hi;cases hi;have s2:=C3 r 80;have s3:=F9 h 83
   have hb:(r.tok.text == s)=true:=by rw[hc.2]; simp
   have hk:=hc.1;cases hly:r.ly
   all_goals
    simp only[Rd.heap,hly,lys,i9] at *;generalize r.tok=t at *;simp only[Tok.cs] at *;simp -implicitDefEqProofs (disch:=omega) [E3,s1,s2,s3,hb]
 ·rw[if_neg hc] at hi;cases hi;have s3:=F9 h 80
  by_cases hk:r.tok.kind=3
  ·have hb:(r.tok.text == s)=false:=by rw[beq_eq_false_iff_ne]; exact fun e=>hc ⟨hk,e⟩
   cases hly:r.ly
   all_goals
    simp only[Rd.heap,hly,lys,i9] at *;generalize r.tok=t at *;simp only[Tok.cs] at *;simp -implicitDefEqProofs (disch:=omega) [E3,s1,s3,hb]
  ·cases hly:r.ly
   all_goals
    simp only[Rd.heap,hly,lys,i9] at *;generalize r.tok=t at *;simp only[Tok.cs] at *;simp -implicitDefEqProofs (disch:=omega) [E3,s1,s3]
theorem Rd.closed_ok {r:Rd} (h:r.ok) (hi:0 < r.op):r.closed.ok:=⟨h.i,h.n,h.mid,h.fin,h.vs,by have:=h.op; exact ⟨by show 0≤r.op - 1; omega,by show r.op - 1≤16; omega⟩,h.tx,h.tv,h.ly⟩
theorem Rd.next_op (r:Rd):r.next.op=r.op∧r.next.ts=r.ts∧r.next.vs=r.vs:=by unfold Rd.next; split <;> exact ⟨rfl,rfl,rfl⟩
theorem qlf {r:Rd} (h:r.ok) {s:List UInt8} (hs:s.length≤1100000) (hi:r.isT s=true):d6 T0 X0 vL [.ptr (.b 0) 0 0,.d (.str s)] r.heap=some (.ret [] r.next.closed.heap):=by
 rw[c9 (af:=R2) rfl rfl rfl];have s1:=X9 h hs hi;have h4:=h.op;have h5:=r.next_op.1;cases hly:r.ly
 all_goals
  simp only[Rd.heap,hly,lys,Rd.closed] at *;simp -implicitDefEqProofs (disch:=omega) [R2,s1]
theorem qf4 {r:Rd} (h:r.ok) {s:List UInt8} (hs:s.length≤1100000) (hi:r.isT s=false):d6 T0 X0 vL [.ptr (.b 0) 0 0,.d (.str s)] r.heap=some (.pan (.d (i9 80 r.tok.pos)) r.heap):=by
 rw[c9 (af:=R2) rfl rfl rfl];have s1:=S0 h hs hi;cases hly:r.ly
 all_goals
  simp only[Rd.heap,hly,lys,i9] at *;simp -implicitDefEqProofs (disch:=omega) [R2,s1]
inductive Nd where
 | num (n:Int)
 | name (v:Int) (s:List UInt8)
 | minus (x:Nd)
 | two (op:Int) (l r:Nd)
def Nd.d:Nd→D
 | .num n=>.iface zG (Wd n)
 | .name v s=>.iface jX (.agg [.int .i64 v,.str s])
 | .minus x=>.iface xB (.agg [x.d])
 | .two op l r=>.iface xi (.agg [.int .u8 op,l.d,r.d])
@[simp] theorem zky (x:Nd):V.cells (.d x.d)=[.d x.d]:=by cases x <;> rfl
end Go.Rf
