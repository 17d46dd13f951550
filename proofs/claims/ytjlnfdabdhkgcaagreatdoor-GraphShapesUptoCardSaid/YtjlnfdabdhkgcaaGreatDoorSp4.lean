/- Parts of the proof: SpX, SpG1, SpG2, SpG3, SpG4, SpG5, SpL1, SpL2, SpL3, SpP. -/
import Derived.Test.YtjlnfdabdhkgcaaGreatDoorRb2
import Derived.Test.YtjlnfdabdhkgcaaGreatDoorSp2
import Derived.Test.YtjlnfdabdhkgcaaGreatDoorSp3

set_option linter.unusedSimpArgs false
set_option linter.unusedVariables false
set_option linter.unnecessarySimpa false
set_option linter.unusedSectionVars false
set_option linter.all false
namespace Go.Rf
def X0:Exts where
 run f:=if f=X3 then some q99 else if f=G5 then some (ccX wSB) else if f=U5 then some (bsX wSB 1000005) else none
instance:X0.Mono where
 le f e h c c' _ vs hp r k:=by
  unfold X0 at h;dsimp only at h;split at h
  ·cases h; exact k
  ·split at h
   ·cases h; exact k
   ·split at h
    ·cases h; exact k
    ·cases h
def qaz (xs:List Int):Nat→Nat
 | 0=>0
 | n + 1=>if nth xs n=0 then qaz xs n else n + 1
theorem qp5 (xs:List Int):∀ n,qaz xs n≤n
 | 0=>Nat.le_refl _
 | n + 1=>by
   unfold qaz;split
   ·exact Nat.le_succ_of_le (qp5 xs n)
   ·exact Nat.le_refl _
theorem qp4 (xs:List Int):∀ n,n≤xs.length→nv (xs.take (qaz xs n))=nv (xs.take n)
 | 0,_=>rfl
 | n + 1,h=>by
   unfold qaz;split
   ·rename_i h0;rw[qp4 xs n (by omega),zp (by omega),h0];simp
   ·rfl
theorem qjx {xs:List Int} (hg:n8 xs):∀ n,n≤xs.length→Can (xs.take (qaz xs n))
 | 0,_=>.inl rfl
 | n + 1,h=>by
   unfold qaz;split
   ·exact qjx hg n (by omega)
   ·rename_i h0;right;rw[List.length_take,Nat.min_eq_left h,zp (by omega),Nat.add_sub_cancel];have h1:=(d7 (hg.take n)).1;have h2:=hg.nth n;have h3:=V4 n;have h4:pw n * 1≤pw n * nth xs n:=Int.mul_le_mul_of_nonneg_left (by omega) (by omega);omega
theorem qru {xs:List Int} (hg:n8 xs):xs.take (qaz xs xs.length)=d6 (nv xs):=by
 rw[Yv (hg.take _) (qjx hg _ (Nat.le_refl _)),qp4 xs _ (Nat.le_refl _),List.take_length]
theorem qn1 (xs:List Int) (hs:xs.length≤1099511627776):∀ n,n≤xs.length→j0 T0 X0 0 zt (some (.nrm,⟨[(0,.d (.sl (L xs))),(3,.d (.int .i64 n))],[]⟩))=some (.exit 0,⟨[(0,.d (.sl (L xs))),(3,.d (.int .i64 (qaz xs n)))],[]⟩):=by
 intro n
 induction n with
 | zero=>intro h; rw[c9 (l:=zt) rfl]; simp[zu,qaz]
 | succ n ih=>
   intro h;rw[c9 (l:=zt) rfl]
   by_cases hz:nth xs n=0
   ·simp -implicitDefEqProofs (disch:=omega) [zu,qaz,ih,hz]
   ·simp -implicitDefEqProofs (disch:=omega) [zu,qaz,hz]
theorem m8 {xs:List Int} (hg:n8 xs) (hs:xs.length≤1099511627776):d5 T0 X0 qew [.d (.sl (L xs))] []=some (.ret [.d (.sl (L (d6 (nv xs))))] []):=by
 rw[a8 (af:=Qs) rfl rfl rfl];have hl:=qp5 xs xs.length;simp -implicitDefEqProofs (disch:=omega) [Qs,qn1 xs hs xs.length (Nat.le_refl _),hl,qru hg]
theorem QD {xs:List Int} (hg:n8 xs) (hs:xs.length≤1099511627776):d5 T0 X0 qim [.d (.sl (L xs))] []=some (.ret [.d (.sl (L (d6 (nv xs))))] []):=by
 rw[a8 (af:=ZR) rfl rfl rfl];have hl:(d6 (nv xs)).length≤xs.length:=o6 (d7 hg).1 (d7 hg).2;simp -implicitDefEqProofs (disch:=omega) [ZR,m8 hg hs,hl]
end Go.Rf

namespace Go.Rf
def Yy (c:Int):Bool:=(65≤c && c≤90) || (97≤c && c≤122) || (913≤c && c≤929) || (931≤c && c≤937) || (945≤c && c≤969) || (1040≤c && c≤1103)
def WD (c:Int):Bool:=[43,45,42,47,37,40,41,123,125,44,59,58,61,33,63,64,183,215,247,8722,8788,8800].contains c
def qbc (c:Int):Bool:=c == 9 || c == 10 || c == 13 || c == 32 || c == 160 || c == 12288
def qc4 (c:Int):Bool:=c == 95 || c == 176 || c == 8242 || (8320≤c && c≤8329)
def cls (c:Int):Int:=if qbc c then 1 else if Yy c then 2 else if 48≤c∧c≤57 then 3 else if qc4 c then 4 else if c=35 then 6 else if WD c then 5 else 0
def qlx (c:Int):Int:=if c=183∨c=215 then 42 else if c=247 then 47 else if c=8722 then 45 else c
theorem qla (c:Int):d5 T0 X0 qdl [.d (.int .i64 c)] []=some (.ret [.d (.bool (Yy c))] []):=by
 rw[a8 (af:=vF) rfl rfl rfl]
 have cases:c < 65∨(65≤c∧c≤90)∨(90 < c∧c < 97)∨(97≤c∧c≤122)∨(122 < c∧c < 913)∨(913≤c∧c≤929)∨c=930∨(931≤c∧c≤937)∨(937 < c∧c < 945)∨(945≤c∧c≤969)∨(969 < c∧c < 1040)∨(1040≤c∧c≤1103)∨1103 < c:=by omega
 rcases cases with h | h | h | h | h | h | h | h | h | h | h | h | h <;>
  simp -implicitDefEqProofs (disch:=omega) [vF,Yy]
theorem qr4 (c:Int):d5 T0 X0 qiu [.d (.int .i64 c)] []=some (.ret [.d (.bool (WD c))] []):=by
 rw[a8 (af:=wC) rfl rfl rfl]
 by_cases h:c=43∨c=45∨c=42∨c=47∨c=37∨c=40∨c=41∨c=123∨c=125∨c=44∨c=59∨c=58∨c=61∨c=33∨c=63∨c=64∨c=183∨c=215∨c=247∨c=8722∨c=8788∨c=8800
 ·rcases h with rfl | rfl | rfl | rfl | rfl | rfl | rfl | rfl | rfl | rfl | rfl | rfl | rfl | rfl | rfl | rfl | rfl | rfl | rfl | rfl | rfl | rfl <;>
   simp -implicitDefEqProofs (disch:=omega) [wC,WD]
 ·have e:WD c=false:=by
   unfold WD;simp only[List.contains_eq_mem,List.mem_cons,List.not_mem_nil,or_false,decide_eq_false_iff_not];exact h
  rw[e];simp -implicitDefEqProofs (disch:=omega) [wC]
theorem qs4 (c:Int):d5 T0 X0 qiv [.d (.int .i64 c)] []=some (.ret [.d (.int .i64 (qlx c))] []):=by
 rw[a8 (af:=wD) rfl rfl rfl]
 by_cases h:c=183∨c=215∨c=247∨c=8722
 ·rcases h with rfl | rfl | rfl | rfl <;> simp -implicitDefEqProofs (disch:=omega) [wD,qlx]
 ·simp -implicitDefEqProofs (disch:=omega) [wD,qlx]
end Go.Rf

namespace Go.Rf
theorem qgq (b:ByteArray) (i:Nat) (hi:i < b.size) (r:Nat × Nat) (h:Utf8.decode b i=r):1≤r.2∧i + r.2≤b.size∧r.2≤4∧r.1≤1114111∧(r.1 < 55296∨57343 < r.1):=by
 have v:∀ c:Nat,Utf8.valid (c:Int)=true→c≤1114111∧(c < 55296∨57343 < c):=by
  intro c hc;unfold Utf8.valid at hc;simp at hc;omega
 unfold Utf8.decode at h
 extract_lets at' cont b0 c2 c3 c4 at h
 have hc:∀ k,cont k=true→i + k < b.size:=by
  intro k hk;simp only[cont,Bool.and_eq_true,decide_eq_true_eq] at hk;exact hk.1
 clear_value cont
 clear_value b0
 clear_value at'
 split at h
 ·subst h; simp only[]; omega
 ·split at h
  ·rename_i h1;simp only[Bool.and_eq_true] at h1;have c1:=hc 1 h1.2
   split at h <;> subst h <;> simp only[Utf8.runeError,c2] <;> omega
  ·split at h
   ·rename_i h1;simp only[Bool.and_eq_true] at h1;have c1:=hc 2 h1.2;split at h
    ·rename_i hv;simp only[Bool.and_eq_true] at hv;have:=v _ hv.2;subst h; simp only[]; omega
    ·subst h; simp only[Utf8.runeError]; omega
   ·split at h
    ·rename_i h1;simp only[Bool.and_eq_true] at h1;have c1:=hc 3 h1.2;split at h
     ·rename_i hv;simp only[Bool.and_eq_true] at hv;have:=v _ hv.2;subst h; simp only[]; omega
     ·subst h; simp only[Utf8.runeError]; omega
    ·subst h; simp only[Utf8.runeError]; omega
theorem WO (s:List UInt8) (h:s≠[]):1≤(dec s 0).2∧(dec s 0).2≤s.length∧(dec s 0).2≤4∧(dec s 0).1≤1114111∧((dec s 0).1 < 55296∨57343 < (dec s 0).1):=by
 have hl:0 < s.length:=List.length_pos_iff.2 h
 have hsz:(ByteArray.mk s.toArray).size=s.length:=by simp[ByteArray.size]
 have:=qgq ⟨s.toArray⟩ 0 (by omega) _ rfl;rw[hsz,Nat.zero_add] at this;exact this
theorem qgr {b:UInt8} {s:List UInt8} (h:b.toNat < 128):dec (b :: s) 0=(b.toNat,1):=by
 unfold dec Utf8.decode;have e:((ByteArray.mk (b :: s).toArray).get! (0 + 0))=b:=rfl;simp only[e];rw[if_pos h]
def qoa (r:Int):Int:=if r < 0 then -1 else if r≤127 then 1 else if r≤2047 then 2 else if 55296≤r∧r≤57343 then -1 else if r≤65535 then 3 else if r≤1114111 then 4 else -1
theorem qfp {r:Int}:d5 T0 X0 qdf [.d (.int .i32 r)] []=some (.ret [.d (.int .i64 (qoa r))] []):=by
 rw[a8 (af:=vq) rfl rfl rfl]
 have cases:r < 0∨(0≤r∧r≤127)∨(127 < r∧r≤2047)∨(2047 < r∧r < 55296)∨(55296≤r∧r≤57343)∨(57343 < r∧r≤65535)∨(65535 < r∧r≤1114111)∨1114111 < r:=by omega
 rcases cases with h | h | h | h | h | h | h | h <;>
  simp -implicitDefEqProofs (disch:=omega) [vq,qoa]
theorem qaq (s:List UInt8) (hs:s.length≤1100000):d5 T0 X0 vI [.d (.str s)] []=some (.ret [.d (.int .i32 (vj s).1),.d (.int .i64 (vj s).2)] []):=by
 rw[a8 (af:=C2) rfl rfl rfl]
 have sx:∀ s,d5 T0 X0 X3 [.d (.str s)] []=some (.ret [.d (.int .i32 (vj s).1),.d (.int .i64 (vj s).2)] []):=fun s=>jr (n:=1) rfl
 cases s with
 | nil=>simp -implicitDefEqProofs (disch:=omega) [C2,sx]
 | cons b s=>
   by_cases h:b.toNat < 128
   ·have e:vj (b :: s)=(b.toNat,1):=by unfold vj; rw[if_neg (by simp),qgr h]
    rw[e];simp at hs;simp -implicitDefEqProofs (disch:=omega) [C2]
   ·have hb:=UInt8.toNat_lt b;simp at hs;simp -implicitDefEqProofs (disch:=omega) [C2,sx]
structure Pl where
 b:Int
 g:Int
 l:Int
 c:Int
 deriving DecidableEq
def Pl.cs (p:Pl):List D:=[.int .i64 p.b,.int .i64 p.g,.int .i64 p.l,.int .i64 p.c]
def start:Pl:=⟨0,0,1,1⟩
def WR (p:Pl) (r:Int):Pl:=if r=10 then ⟨p.b + qoa r,p.g + 1,p.l + 1,1⟩ else ⟨p.b + qoa r,p.g + 1,p.l,p.c + 1⟩
def Pl.small (p:Pl) (n:Nat):Prop:=-4294967296≤p.b - 4 * n∧p.b + 4 * n≤4294967296∧0≤p.g∧p.g + n≤4294967296∧0≤p.l∧p.l + n≤4294967296∧0≤p.c∧p.c + n≤4294967296
theorem qqb (r:Int):-1≤qoa r∧qoa r≤4:=by
 unfold qoa;split
 ·omega
 split
 ·omega
 split
 ·omega
 split
 ·omega
 split
 ·omega
 split <;> omega
theorem qhg {p:Pl} {n:Nat} (r:Int) (h:p.small (n + 1)):(WR p r).small n:=by
 have:=qqb r;unfold WR Pl.small at *
 split <;> simp only[] <;> omega
theorem qnz:d5 T0 X0 qe2 [] []=some (.ret [.d (.agg start.cs)] []):=by
 rw[a8 (af:=Qx) rfl rfl rfl];simp -implicitDefEqProofs (disch:=omega) [Qx,start,Pl.cs]
theorem qm4 {p:Pl} {n:Nat} (r:Int) (h:p.small (n + 1)):d5 T0 X0 qdn [.d (.agg p.cs),.d (.int .i32 r)] []=some (.ret [.d (.agg (WR p r).cs)] []):=by
 rw[a8 (af:=jK) rfl rfl rfl];have h1:=qqb r;unfold Pl.small at h
 by_cases hr:r=10
 ·subst hr;simp -implicitDefEqProofs (disch:=omega) [jK,qfp,WR,Pl.cs]
 ·simp -implicitDefEqProofs (disch:=omega) [jK,qfp,WR,Pl.cs,hr]
def kg (s:List UInt8) (r:Int):Bool:=r == 65533 && decide (((vj s).2:Int)=1)
theorem qmx {s:List UInt8} {r:Int} (hs:s.length≤1100000):d5 T0 X0 qdm [.d (.str s),.d (.int .i32 r)] []=some (.ret [.d (.bool (kg s r))] []):=by
 rw[a8 (af:=jJ) rfl rfl rfl];have s1:=qaq s hs;unfold kg
 by_cases hr:r=65533
 ·subst hr;simp -implicitDefEqProofs (disch:=omega) [jJ,s1]
 ·have e:(r == 65533)=false:=by simp[hr]
  rw[e,Bool.false_and];simp -implicitDefEqProofs (disch:=omega) [jJ]
end Go.Rf

namespace Go.Rf
structure Sc where
 rest:List UInt8
 pos:Pl
 code:Int
 bad:Pl
def Sc.cs (s:Sc):List D:=[.str s.rest,.int .i64 s.pos.b,.int .i64 s.pos.g,.int .i64 s.pos.l,.int .i64 s.pos.c,.int .i64 s.code,.int .i64 s.bad.b,.int .i64 s.bad.g,.int .i64 s.bad.l,.int .i64 s.bad.c]
def Sc.obj (s:Sc):Obj:=.arr [.d (.agg s.cs)] ⟨10,0⟩
def Sc.ok (s:Sc):Prop:=s.rest.length≤4096∧s.pos.small s.rest.length
def Sc.fail (s:Sc) (e:Int) (p:Pl):Sc:=if s.code=0 then { s with code:=e,bad:=p } else s
def Sc.early (s:Sc) (e:Int) (p:Pl):Sc:={ s with code:=e,bad:=p }
def Sc.next (s:Sc):Int × Sc:=
 if s.rest=[] then (-1,s) else if kg s.rest (dec s.rest 0).1 then (-1,s.fail 40 s.pos) else ((dec s.rest 0).1,s)
def Sc.cls (s:Sc):Int × Sc:=if s.next.1 < 0 then (-1,s.next.2) else (Rf.cls s.next.1,s.next.2)
def Sc.pass (s:Sc):Sc:={ s with pos:=WR s.pos (vj s.rest).1,rest:=s.rest.drop (vj s.rest).2 }
theorem qgj (s:Sc) (e:Int) (p:Pl):d5 T0 X0 Jg [.ptr (.b 0) 0 0,.d (.int .i64 e),.d (.agg p.cs)] [s.obj]=some (.ret [] [(s.fail e p).obj]):=by
 rw[a8 (af:=T8) rfl rfl rfl]
 by_cases h:s.code=0
 ·simp -implicitDefEqProofs (disch:=omega) [T8,Sc.obj,Sc.cs,Pl.cs,Sc.fail,h]
 ·simp -implicitDefEqProofs (disch:=omega) [T8,Sc.obj,Sc.cs,Pl.cs,Sc.fail,h]
theorem KL (s:Sc) (e:Int) (p:Pl):d5 T0 X0 Xg [.ptr (.b 0) 0 0,.d (.int .i64 e),.d (.agg p.cs)] [s.obj]=some (.ret [] [(s.early e p).obj]):=by
 rw[a8 (af:=qw) rfl rfl rfl];simp -implicitDefEqProofs (disch:=omega) [qw,Sc.obj,Sc.cs,Pl.cs,Sc.early]
theorem QQ {s:Sc} (h:s.ok):d5 T0 X0 Jf [.ptr (.b 0) 0 0] [s.obj]=some (.ret [.d (.int .i64 s.next.1)] [s.next.2.obj]):=by
 rw[a8 (af:=T7) rfl rfl rfl];have hl:=h.1;unfold Sc.next
 by_cases he:s.rest=[]
 ·rw[if_pos he];simp -implicitDefEqProofs (disch:=omega) [T7,Sc.obj,Sc.cs,he];rw[c9 (l:=W5) rfl];simp -implicitDefEqProofs (disch:=omega) [N0]
 ·rw[if_neg he];have hp:0 < s.rest.length:=List.length_pos_iff.2 he;have d1:=WO s.rest he;have s1:=qmx (s:=s.rest) (r:=(dec s.rest 0).1) (by omega);simp -implicitDefEqProofs (disch:=omega) [T7,Sc.obj,Sc.cs];rw[c9 (l:=W5) rfl];cases hb:kg s.rest (dec s.rest 0).1
  ·rw[hb] at s1;simp -implicitDefEqProofs (disch:=omega) [N0,s1]
  ·rw[hb] at s1;have s2:=qgj s 40 s.pos;simp only[Sc.obj,Sc.cs,Pl.cs] at s2;simp -implicitDefEqProofs (disch:=omega) [N0,s1,s2]
end Go.Rf

namespace Go.Rf
theorem qx0 (c:Int):d5 T0 X0 qe3 [.d (.int .i64 c)] []=some (.ret [.d (.int .i64 (cls c))] []):=by
 rw[a8 (af:=P5) rfl rfl rfl];have s1:=qla c;have s2:=qr4 c;unfold cls
 by_cases h1:c=9∨c=10∨c=13∨c=32∨c=160∨c=12288
 ·rcases h1 with rfl | rfl | rfl | rfl | rfl | rfl <;> simp -implicitDefEqProofs (disch:=omega) [P5,qbc]
 have e1:qbc c=false:=by
  unfold qbc;simp;omega
 rw[e1];cases e2:Yy c
 ·rw[e2] at s1
  by_cases h3:48≤c∧c≤57
  ·simp -implicitDefEqProofs (disch:=omega) [P5,s1]
  have h3':c < 48∨57 < c:=by omega
  by_cases h4:c=95∨c=176∨c=8242∨(8320≤c∧c≤8329)
  ·have e4:qc4 c=true:=by
    unfold qc4;simp;omega
   rw[e4];rcases h3' with h3' | h3'
   ·omega
   rcases h4 with rfl | rfl | rfl | h4 <;> simp -implicitDefEqProofs (disch:=omega) [P5,s1,h3]
  have e4:qc4 c=false:=by
   unfold qc4;simp;omega
  rw[e4]
  have h4':c < 48∨(57 < c∧c < 8320)∨8329 < c:=by omega
  by_cases h5:c=35
  ·subst h5;simp -implicitDefEqProofs (disch:=omega) [P5,s1]
  cases e6:WD c <;> rw[e6] at s2 <;> rcases h4' with h4' | h4' | h4' <;>
   simp -implicitDefEqProofs (disch:=omega) [P5,s1,s2,h3,h5]
 ·rw[e2] at s1;simp -implicitDefEqProofs (disch:=omega) [P5,s1]
theorem Sc.fail_rest (s:Sc) (e p):(s.fail e p).rest=s.rest∧(s.fail e p).pos=s.pos:=by unfold Sc.fail; split <;> exact ⟨rfl,rfl⟩
theorem Sc.next_rest (s:Sc):s.next.2.rest=s.rest∧s.next.2.pos=s.pos:=by
 unfold Sc.next;split
 ·exact ⟨rfl,rfl⟩
 ·split
  ·exact s.fail_rest _ _
  ·exact ⟨rfl,rfl⟩
theorem Sc.next_same (s:Sc) (h:0≤s.next.1):s.next.2=s∧s.rest≠[]:=by
 unfold Sc.next at *;split
 ·rename_i h0; rw[if_pos h0] at h; exact absurd h (by simp)
 ·rename_i h0;split
  ·rename_i h1; rw[if_neg h0,if_pos h1] at h; exact absurd h (by simp)
  ·exact ⟨rfl,h0⟩
theorem Sc.next_ok {s:Sc} (h:s.ok):s.next.2.ok:=by
 have:=s.next_rest;unfold Sc.ok at *;rw[this.1,this.2];exact h
theorem Sc.next_le (s:Sc):-1≤s.next.1∧s.next.1≤1114111:=by
 unfold Sc.next;split
 ·simp
 ·rename_i h0;have:=WO s.rest h0
  split <;> simp only[] <;> omega
theorem cls_le (c:Int):0≤Rf.cls c∧Rf.cls c≤6:=by
 unfold Rf.cls
 (repeat' split) <;> omega
theorem Sc.cls_le (s:Sc):-1≤s.cls.1∧s.cls.1≤6:=by
 have:=Rf.cls_le s.next.1;unfold Sc.cls
 split <;> simp only[] <;> omega
theorem Sc.cls_ok {s:Sc} (h:s.ok):s.cls.2.ok:=by
 unfold Sc.cls
 split <;> exact Sc.next_ok h
theorem Sc.cls_rest (s:Sc):s.cls.2.rest=s.rest∧s.cls.2.pos=s.pos:=by
 unfold Sc.cls
 split <;> exact s.next_rest
theorem Sc.cls_same (s:Sc) (h:0≤s.cls.1):s.cls.2=s∧s.rest≠[]:=by
 unfold Sc.cls at *
 by_cases h0:s.next.1 < 0
 ·rw[if_pos h0] at h; exact absurd h (by simp)
 ·rw[if_neg h0]; exact s.next_same (by omega)
theorem kN {s:List UInt8} (h:s≠[]):vj s=dec s 0:=by
 unfold vj;rw[if_neg];intro e;exact h (List.eq_nil_of_length_eq_zero e)
theorem Sc.pass_len {s:Sc} (h:s.rest≠[]):s.pass.rest.length < s.rest.length:=by
 have:=WO s.rest h;unfold Sc.pass;simp only[kN h,List.length_drop];omega
theorem Pl.small_le {p:Pl} {m n:Nat} (h:p.small n) (hm:m≤n):p.small m:=by unfold Pl.small at *; omega
theorem Sc.pass_ok {s:Sc} (h:s.ok) (hr:s.rest≠[]):s.pass.ok:=by
 have hl:=Sc.pass_len hr;refine ⟨by have:=h.1; omega,?_⟩;obtain ⟨n,hn⟩:∃ n,s.rest.length=n + 1:=⟨s.rest.length - 1,by omega⟩;have h2:=h.2;rw[hn] at h2;exact Pl.small_le (qhg _ h2) (by omega)
theorem Sc.fail_ok {s:Sc} (h:s.ok) (e p):(s.fail e p).ok:=by
 have:=s.fail_rest e p;unfold Sc.ok at *;rw[this.1,this.2];exact h
theorem Sc.early_ok {s:Sc} (h:s.ok) (e p):(s.early e p).ok:=h
theorem ZJ {s:Sc} (h:s.ok):d5 T0 X0 Xh [.ptr (.b 0) 0 0] [s.obj]=some (.ret [.d (.int .i64 s.cls.1)] [s.cls.2.obj]):=by
 rw[a8 (af:=R8) rfl rfl rfl];have s1:=QQ h;have h1:=s.next_le;unfold Sc.cls;simp only[Sc.obj,Sc.cs] at s1 ⊢
 by_cases h0:s.next.1 < 0
 ·simp -implicitDefEqProofs (disch:=omega) [R8,s1]
 ·simp -implicitDefEqProofs (disch:=omega) [R8,s1,qx0]
theorem QL {s:Sc} (h:s.ok) (hr:s.rest≠[]):d5 T0 X0 Je [.ptr (.b 0) 0 0] [s.obj]=some (.ret [] [s.pass.obj]):=by
 rw[a8 (af:=zl) rfl rfl rfl];have h1:=h.1;have h2:=h.2;have hp:0 < s.rest.length:=List.length_pos_iff.2 hr;have d1:=WO s.rest hr;have s1:=qaq s.rest (by omega);rw[kN hr] at s1;have s2:=qm4 (p:=s.pos) (n:=0) (dec s.rest 0).1 (Pl.small_le h2 hp);simp only[Sc.obj,Sc.cs,Sc.pass,kN hr,Pl.cs] at *;simp -implicitDefEqProofs (disch:=omega) [zl,s1,s2];rw[List.take_of_length_le (by simp)]
end Go.Rf

namespace Go.Rf
def Yu:Nat→Sc→Sc
 | 0,s=>s
 | f + 1,s=>if 0≤s.next.1∧s.next.1≠10 then Yu f s.pass else s.next.2
theorem Yt:∀ f {s:Sc},s.ok→(Yu f s).ok∧(Yu f s).rest.length≤s.rest.length
 | 0,s,h=>⟨h,Nat.le_refl _⟩
 | f + 1,s,h=>by
   unfold Yu;split
   ·rename_i hc;have hr:=(s.next_same hc.1).2;have hp:=Sc.pass_len hr;have:=Yt f (Sc.pass_ok h hr);exact ⟨this.1,by omega⟩
   ·exact ⟨Sc.next_ok h,by rw[s.next_rest.1]; exact Nat.le_refl _⟩
theorem qsp:∀ f {s:Sc},s.ok→s.rest.length < f→
 j0 T0 X0 1 S2 (some (.nrm,⟨[(0,.ptr (.b 0) 0 0),(2,.d (.int .i64 s.next.1))],[s.next.2.obj]⟩))=some (.exit 3,⟨[(0,.ptr (.b 0) 0 0)],[(Yu f s).obj]⟩):=by
 intro f
 induction f with
 | zero=>intro s _ h; omega
 | succ f ih=>
   intro s h hf;rw[c9 (l:=S2) rfl];have hl:=s.next_le;unfold Yu
   by_cases hc:0≤s.next.1∧s.next.1≠10
   ·rw[if_pos hc];obtain ⟨e,hr⟩:=s.next_same hc.1;have hp:=Sc.pass_len hr;have s1:=QL h hr;have s2:=QQ (Sc.pass_ok h hr);have s3:=ih (s:=s.pass) (Sc.pass_ok h hr) (by omega);rw[e];simp only[Sc.obj,Sc.cs] at s1 s2 s3 ⊢;simp -implicitDefEqProofs (disch:=omega) [J8,s1,s2,s3]
   ·rw[if_neg hc];simp only[Sc.obj,Sc.cs]
    by_cases h0:s.next.1 < 0
    ·simp -implicitDefEqProofs (disch:=omega) [J8]
    ·simp -implicitDefEqProofs (disch:=omega) [J8]
def Qa:Nat→Sc→Sc
 | 0,s=>s
 | f + 1,s=>if s.cls.1=1 then Qa f s.pass else if s.cls.1=6 then Qa f (Yu (s.rest.length + 1) s) else s.cls.2
theorem qwz {s:Sc} (h:s.ok) (hc:s.cls.1=6):(Yu (s.rest.length + 1) s).rest.length < s.rest.length:=by
 unfold Sc.cls at hc
 have h0:¬ s.next.1 < 0:=by intro h0; rw[if_pos h0] at hc; exact absurd hc (by simp)
 rw[if_neg h0] at hc;simp only[] at hc
 have h10:s.next.1≠10:=by
  intro e;rw[e] at hc;exact absurd hc (by decide)
 obtain ⟨_,hr⟩:=s.next_same (by omega);unfold Yu;rw[if_pos ⟨by omega,h10⟩];have:=(Yt s.rest.length (Sc.pass_ok h hr)).2;have:=Sc.pass_len hr;omega
theorem xL:∀ f {s:Sc},s.ok→(Qa f s).ok∧(Qa f s).rest.length≤s.rest.length
 | 0,s,h=>⟨h,Nat.le_refl _⟩
 | f + 1,s,h=>by
   unfold Qa;split
   ·rename_i hc;have hr:=(s.cls_same (by omega)).2;have hp:=Sc.pass_len hr;have:=xL f (Sc.pass_ok h hr);exact ⟨this.1,by omega⟩
   ·split
    ·rename_i hc;have h1:=Yt (s.rest.length + 1) h;have h2:=xL f h1.1;exact ⟨h2.1,by omega⟩
    ·exact ⟨Sc.cls_ok h,by rw[s.cls_rest.1]; exact Nat.le_refl _⟩
theorem qm2:∀ f {s:Sc},s.ok→s.rest.length < f→
 j0 T0 X0 1 S1 (some (.nrm,⟨[(0,.ptr (.b 0) 0 0)],[s.obj]⟩))=some (.ret,⟨[(0,.ptr (.b 0) 0 0),(9,.d (.bool false))],[(Qa f s).obj]⟩):=by
 intro f
 induction f with
 | zero=>intro s _ h; omega
 | succ f ih=>
   intro s h hf;rw[c9 (l:=S1) rfl];have hl:=s.cls_le;have s0:=ZJ h;unfold Qa
   by_cases hc:s.cls.1=1
   ·rw[if_pos hc];obtain ⟨e,hr⟩:=s.cls_same (by omega);have hp:=Sc.pass_len hr;have s1:=QL h hr;have s3:=ih (s:=s.pass) (Sc.pass_ok h hr) (by omega);rw[e] at s0;simp only[Sc.obj,Sc.cs] at s0 s1 s3 ⊢;simp -implicitDefEqProofs (disch:=omega) [J7,s0,s1,s3]
   ·rw[if_neg hc]
    by_cases hc:s.cls.1=6
    ·rw[if_pos hc];obtain ⟨e,hr⟩:=s.cls_same (by omega);have hp:=qwz h hc;have s1:=QQ h;have s2:=qsp (s.rest.length + 1) h (by omega);have s3:=ih (Yt (s.rest.length + 1) h).1 (by omega);rw[e] at s0;simp only[Sc.obj,Sc.cs] at s0 s1 s2 s3 ⊢;simp -implicitDefEqProofs (disch:=omega) [J7,s0,s1,s2,s3]
    ·rw[if_neg hc];simp only[Sc.obj,Sc.cs] at s0 ⊢;simp -implicitDefEqProofs (disch:=omega) [J7,s0]
def Sc.blanks (s:Sc):Sc:=Qa (s.rest.length + 1) s
theorem qm1 {s:Sc} (h:s.ok):d5 T0 X0 ZF [.ptr (.b 0) 0 0] [s.obj]=some (.ret [] [s.blanks.obj]):=by
 rw[a8 (af:=Z5) rfl rfl rfl];have s1:=qm2 (s.rest.length + 1) h (by omega);simp only[Sc.obj,Sc.cs,Sc.blanks] at s1 ⊢;simp -implicitDefEqProofs (disch:=omega) [Z5,s1]
def F2 (c:Int):Bool:=c == 2 || c == 3 || c == 4
def J9 (c:Int):Bool:=c == 3
theorem qhc (c:Int):d5 T0 X0 M8 [.d (.int .i64 c)] []=some (.ret [.d (.bool (F2 c))] []):=by
 rw[a8 (af:=M9) rfl rfl rfl]
 by_cases h:c=2∨c=3∨c=4
 ·rcases h with rfl | rfl | rfl <;> simp -implicitDefEqProofs (disch:=omega) [M9,F2]
 ·simp -implicitDefEqProofs (disch:=omega) [M9,F2]
theorem qhb (c:Int):d5 T0 X0 M7 [.d (.int .i64 c)] []=some (.ret [.d (.bool (J9 c))] []):=by
 rw[a8 (af:=W4) rfl rfl rfl];simp -implicitDefEqProofs (disch:=omega) [W4,J9]
def X5 (p:Int→Bool):Nat→Sc→Sc
 | 0,s=>s
 | f + 1,s=>if 0≤s.cls.1∧p s.cls.1=true then X5 p f s.pass else s.cls.2
theorem QB (p:Int→Bool):∀ f {s:Sc},s.ok→(X5 p f s).ok∧(X5 p f s).rest.length≤s.rest.length
 | 0,s,h=>⟨h,Nat.le_refl _⟩
 | f + 1,s,h=>by
   unfold X5;split
   ·rename_i hc;have hr:=(s.cls_same (by omega)).2;have hp:=Sc.pass_len hr;have:=QB p f (Sc.pass_ok h hr);exact ⟨this.1,by omega⟩
   ·exact ⟨Sc.cls_ok h,by rw[s.cls_rest.1]; exact Nat.le_refl _⟩
section
variable {p:Int→Bool} {g:FuncId} (hg:∀ c,d5 T0 X0 g [.d (.int .i64 c)] []=some (.ret [.d (.bool (p c))] [])) (hb:g < fB)
include hg hb
theorem qnn (from_:List UInt8) (hf:from_.length≤4096):∀ f {s:Sc},s.ok→s.rest.length < f→
 j0 T0 X0 1 U8 (some (.nrm,⟨[(0,.ptr (.b 0) 0 0),(1,.d (.fn g [])),(5,.d (.str from_)),(6,.d (.int .i64 s.cls.1))],[s.cls.2.obj]⟩))=some (.exit 0,⟨[(0,.ptr (.b 0) 0 0),(5,.d (.str from_))],[(X5 p f s).obj]⟩):=by
 intro f
 induction f with
 | zero=>intro s _ h; omega
 | succ f ih=>
   intro s h hf;rw[c9 (l:=U8) rfl];have hl:=s.cls_le;unfold X5
   by_cases h0:0≤s.cls.1
   ·obtain ⟨e,hr⟩:=s.cls_same h0;have hg1:=hg s.cls.1;cases hp:p s.cls.1
    ·rw[if_neg (by simp)];rw[hp] at hg1;simp only[Sc.obj,Sc.cs];simp -implicitDefEqProofs (disch:=omega) [L5,hg1,qqw hb,qge hb]
    ·rw[if_pos ⟨h0,rfl⟩];rw[hp] at hg1;have hp:=Sc.pass_len hr;have s1:=QL h hr;have s2:=ZJ (Sc.pass_ok h hr);have s3:=ih (s:=s.pass) (Sc.pass_ok h hr) (by omega);rw[e];simp only[Sc.obj,Sc.cs] at s1 s2 s3 ⊢;simp -implicitDefEqProofs (disch:=omega) [L5,hg1,s1,s2,s3,qqw hb,qge hb]
   ·rw[if_neg (fun x=>h0 x.1)];simp only[Sc.obj,Sc.cs];simp -implicitDefEqProofs (disch:=omega) [L5]
theorem qbk {s:Sc} (h:s.ok):d5 T0 X0 qi [.ptr (.b 0) 0 0,.d (.fn g [])] [s.obj] =
 some (.ret [.d (.str (s.rest.take (s.rest.length - (X5 p (s.rest.length + 1) s).rest.length)))] [(X5 p (s.rest.length + 1) s).obj]):=by
 rw[a8 (af:=qu) rfl rfl rfl];have h1:=h.1;have s1:=qnn hg hb s.rest h.1 (s.rest.length + 1) h (by omega);have s2:=ZJ h;have hw:=(QB p (s.rest.length + 1) h).2;have hr:=s.cls_rest.1;simp only[Sc.obj,Sc.cs] at s1 s2 ⊢;simp -implicitDefEqProofs (disch:=omega) [qu,s1,s2]
end
end Go.Rf

namespace Go.Rf
def cmp (a b:Int):Int:=if a < b then -1 else if b < a then 1 else 0
theorem qxz (xs ys:List Int) (hs:xs.length≤1099511627776) (hl:ys.length=xs.length) (hx:n8 xs) (hy:n8 ys):∀ k,k≤xs.length→
 j0 T0 X0 0 jB (some (.nrm,⟨[(0,.d (.sl (L xs))),(1,.d (.sl (L ys))),(5,.d (.int .i64 ((k:Int) - 1)))],[]⟩)) =
  if nv (xs.take k) < nv (ys.take k) then some (.ret,⟨[(4,.d (.int .i64 (-1)))],[]⟩) else if nv (ys.take k) < nv (xs.take k) then some (.ret,⟨[(4,.d (.int .i64 1))],[]⟩) else some (.exit 0,⟨[],[]⟩):=by
 intro k
 induction k with
 | zero=>
   intro h;rw[c9 (l:=jB) rfl];simp -implicitDefEqProofs (disch:=omega) [qY,nv]
 | succ k ih=>
   intro h;rw[c9 (l:=jB) rfl];rw[zp (xs:=xs) (by omega),zp (xs:=ys) (by omega)];obtain ⟨b1,b2⟩:=d7 (hx.take k);obtain ⟨b3,b4⟩:=d7 (hy.take k);rw[List.length_take,Nat.min_eq_left (by omega)] at b2 b4;have hp:=V4 k;have c1:=hx.nth k;have c2:=hy.nth k;rcases Int.lt_trichotomy (nth xs k) (nth ys k) with hlt | heq | hgt
   ·have m:pw k * (nth xs k + 1)≤pw k * nth ys k:=Int.mul_le_mul_of_nonneg_left (by omega) (by omega);rw[Int.mul_add,Int.mul_one] at m;rw[if_pos (by omega)];simp -implicitDefEqProofs (disch:=omega) [qY]
   ·rw[heq]
    have e1:(nv (xs.take k) + pw k * nth ys k < nv (ys.take k) + pw k * nth ys k)=(nv (xs.take k) < nv (ys.take k)):=by apply propext; omega
    have e2:(nv (ys.take k) + pw k * nth ys k < nv (xs.take k) + pw k * nth ys k)=(nv (ys.take k) < nv (xs.take k)):=by apply propext; omega
    simp only[e1,e2];rw[← ih (by omega)];simp -implicitDefEqProofs (disch:=omega) [qY,heq]
   ·have m:pw k * (nth ys k + 1)≤pw k * nth xs k:=Int.mul_le_mul_of_nonneg_left (by omega) (by omega);rw[Int.mul_add,Int.mul_one] at m;rw[if_neg (by omega),if_pos (by omega)];simp -implicitDefEqProofs (disch:=omega) [qY]
theorem JD {xs ys:List Int} (hy:n8 ys) (hc:Can xs) (h:ys.length < xs.length):nv ys < nv xs:=by
 have h1:=(d7 hy).2;rcases hc with hc | hc
 ·rw[hc] at h; simp at h
 ·have:=QJ (show ys.length≤xs.length - 1 by omega);omega
theorem qmr {xs ys:List Int} (hx:n8 xs) (hy:n8 ys) (hs:xs.length≤1099511627776) (hs':ys.length≤1099511627776) :
 d5 T0 X0 ql7 [.d (.sl (L xs)),.d (.sl (L ys))] []=some (.ret [.d (.int .i64 (cmp (nv xs) (nv ys)))] []):=by
 rw[a8 (af:=qZ) rfl rfl rfl];have h1:=q9 (d7 hx).1;have h2:=q9 (d7 hy).1;have l1:(d6 (nv xs)).length≤xs.length:=o6 (d7 hx).1 (d7 hx).2;have l2:(d6 (nv ys)).length≤ys.length:=o6 (d7 hy).1 (d7 hy).2;have g1:=g9 (nv xs);have g2:=g9 (nv ys);have c1:=S4 (nv xs);have c2:=S4 (nv ys);generalize ha:d6 (nv xs)=a7 at *;generalize hb:d6 (nv ys)=bs at *;rw[← h1,← h2];rcases Nat.lt_trichotomy a7.length bs.length with h | h | h
 ·have:=JD g1 c2 h;simp -implicitDefEqProofs (disch:=omega) [qZ,m8 hx hs,m8 hy hs',ha,hb,cmp]
 ·have hloop:=qxz a7 bs (by omega) h.symm g1 g2 a7.length (Nat.le_refl _);rw[List.take_length,h,List.take_length] at hloop;unfold cmp;split at hloop
  ·rename_i hc;rw[if_pos hc];simp -implicitDefEqProofs (disch:=omega) [qZ,m8 hx hs,m8 hy hs',ha,hb,h,hloop]
  ·rename_i hc;rw[if_neg hc];split at hloop
   ·rename_i hc2;rw[if_pos hc2];simp -implicitDefEqProofs (disch:=omega) [qZ,m8 hx hs,m8 hy hs',ha,hb,h,hloop]
   ·rename_i hc2;rw[if_neg hc2];simp -implicitDefEqProofs (disch:=omega) [qZ,m8 hx hs,m8 hy hs',ha,hb,h,hloop]
 ·have:=JD g2 c1 h;simp -implicitDefEqProofs (disch:=omega) [qZ,m8 hx hs,m8 hy hs',ha,hb,cmp]
end Go.Rf

namespace Go.Rf
theorem ji {xs:List Int} {i:Nat} (h:xs.length≤i):nth xs i=0:=by simp[nth,List.getD_eq_getElem?_getD,List.getElem?_eq_none h]
theorem D2 (xs:List Int) (i:Nat):nv (xs.take (i + 1))=nv (xs.take i) + pw i * nth xs i:=by
 by_cases h:i < xs.length
 ·exact zp h
 ·rw[List.take_of_length_le (by omega),List.take_of_length_le (by omega),ji (by omega)]; simp
theorem jg (i:Nat) (c:Int):pw i * (c % 4294967296) + pw (i + 1) * (c / 4294967296)=pw i * c:=by
 have h:c=c % 4294967296 + 4294967296 * (c / 4294967296):=by omega
 have e:pw i * c=pw i * (c % 4294967296 + 4294967296 * (c / 4294967296)):=by rw[← h]
 rw[e,Int.mul_add,pw]
 congr 1
 rw[Int.mul_comm 4294967296 (pw i),Int.mul_assoc]
theorem U9 {xs:List Int} {k:Nat} (h:k < xs.length) (y:Int) (j:Nat):nth (xs.set k y) j=if j=k then y else nth xs j:=by
 unfold nth;simp only[List.getD_eq_getElem?_getD,List.getElem?_set]
 by_cases e:k=j
 ·subst e; simp[h]
 ·rw[if_neg e,if_neg (Ne.symm e)]
theorem Zt:∀ {xs:List Int} {k:Nat},k < xs.length→∀ y,nv (xs.set k y)=nv xs + pw k * (y - nth xs k)
 | x :: xs,0,_,y=>by simp only[List.set_cons_zero,nv,Qk,pw]; omega
 | x :: xs,k + 1,h,y=>by
   simp only[List.set_cons_succ,nv,Ql,pw,Zt (Nat.lt_of_succ_lt_succ h) y,Int.mul_add,Int.mul_assoc];omega
theorem V7 {xs:List Int} (hg:n8 xs) (k:Nat) {y:Int} (h:0≤y∧y < 4294967296):n8 (xs.set k y):=by
 intro x hx;rcases List.mem_or_eq_of_mem_set hx with hx | hx
 ·exact hg x hx
 ·subst hx; exact h
theorem QU (n:Nat):n8 (List.replicate n 0):=by
 intro x hx;rw[(List.mem_replicate.1 hx).2]
 decide
theorem q69 (n:Nat):nv (List.replicate n 0)=0:=by
 induction n with
 | zero=>rfl
 | succ n ih=>simp only[List.replicate_succ,nv,ih]; rfl
theorem vP {xs:List Int} {i:Nat} (h:i < xs.length) (y:Int):nv ((xs.set i y).take (i + 1))=nv (xs.take i) + pw i * y:=by
 rw[zp (by simpa using h),List.take_set_of_le (Nat.le_refl _),U9 h,if_pos rfl]
theorem qcr {x y:Int} (hx:0≤x∧x < 4294967296) (hy:0≤y∧y < 4294967296):0≤x * y∧x * y≤18446744065119617025:=by
 refine ⟨Int.mul_nonneg hx.1 hy.1,?_⟩;have h1:x * y≤4294967295 * y:=Int.mul_le_mul_of_nonneg_right (by omega) hy.1;omega
theorem qnd (a7 bs:List Int) (hs:a7.length≤1099511627776) (hs':bs.length≤a7.length) (ha:n8 a7) (hb:n8 bs):∀ d i (out:List Int) (c:Int),d + i=a7.length→out.length=i→n8 out→0≤c→c≤1→
 nv out + pw i * c=nv (a7.take i) + nv (bs.take i)→
 ∃ out' c',j0 T0 X0 0 jC (some (.nrm,⟨[(0,.d (.sl (L a7))),(1,.d (.sl (L bs))),(5,.ref (.b 0) ⟨1,4⟩ 0 out.length),(6,.d (.int .u64 c)),(24,.d (.int .i64 a7.length)),(25,.d (.int .i64 i))],[.arr (LV out) ⟨1,4⟩]⟩))=some (.exit 0,⟨[(5,.ref (.b 0) ⟨1,4⟩ 0 out'.length),(6,.d (.int .u64 c'))],[.arr (LV out') ⟨1,4⟩]⟩) ∧
   out'.length=a7.length∧n8 out'∧0≤c'∧c'≤1∧nv out' + pw a7.length * c'=nv a7 + nv (bs.take a7.length):=by
 intro d
 induction d with
 | zero=>
   intro i out c hi ho hg hc hc1 hv
   have:i=a7.length:=by omega
   subst this;refine ⟨out,c,?_,ho,hg,hc,hc1,by rw[hv,List.take_length]⟩;rw[c9 (l:=jC) rfl];simp -implicitDefEqProofs (disch:=omega) [jD]
 | succ d ih=>
   intro i out c hi ho hg hc hc1 hv;have n1:=ha.nth i;have n2:=hb.nth i;rw[c9 (l:=jC) rfl]
   have step:=ih (i + 1) (out++[(c + nth a7 i + nth bs i) % 4294967296]) ((c + nth a7 i + nth bs i) / 4294967296) (by omega) (by simp[ho]) (qc7.2 ⟨hg,V8.2 ⟨by omega,n8.nil⟩⟩) (by omega) (by omega) (by
    rw[D2,D2,qa8,ho];have:=jg i (c + nth a7 i + nth bs i);simp only[Int.mul_add] at this ⊢
    omega)
   obtain ⟨out',c',h1,h2⟩:=step;refine ⟨out',c',?_,h2⟩;rw[← h1]
   by_cases hb':i < bs.length
   ·simp -implicitDefEqProofs (disch:=omega) [jD]
   ·have e:=ji (xs:=bs) (i:=i) (by omega);simp -implicitDefEqProofs (disch:=omega) [jD,e]
theorem qrd {a7 bs out:List Int} {c:Int} (c1:Can a7) (hbn:0≤nv bs) (ho:out.length=a7.length) (hg:n8 out) (hc:c=0∨c=1)
 (hv:nv out + pw a7.length * c=nv a7 + nv bs):d6 (nv a7 + nv bs)=if c=0 then out else out++[1]:=by
 have hbd:=d7 hg;rcases hc with rfl | rfl
 ·have hv':nv a7 + nv bs=nv out:=by omega
  rw[hv',if_pos rfl,← Yv hg];rcases c1 with c1 | c1
  ·left; rw[c1] at ho; exact List.eq_nil_of_length_eq_zero ho
  ·right; rw[ho]; omega
 ·have hv':nv a7 + nv bs=nv (out++[1]):=by rw[qa8,ho]; omega
  rw[hv',if_neg (by decide),← Yv (qc7.2 ⟨hg,V8.2 ⟨by decide,n8.nil⟩⟩)];right;rw[qa8,List.length_append,List.length_singleton,Nat.add_sub_cancel];omega
theorem qyj {xs ys:List Int} (hx:n8 xs) (hy:n8 ys) (hs:xs.length < 1099511627776) (hs':ys.length < 1099511627776) :
 d5 T0 X0 ql8 [.d (.sl (L xs)),.d (.sl (L ys))] []=some (.ret [.d (.sl (L (d6 (nv xs + nv ys))))] []):=by
 rw[a8 (af:=xW) rfl rfl rfl];have h1:=q9 (d7 hx).1;have h2:=q9 (d7 hy).1;have l1:(d6 (nv xs)).length≤xs.length:=o6 (d7 hx).1 (d7 hx).2;have l2:(d6 (nv ys)).length≤ys.length:=o6 (d7 hy).1 (d7 hy).2;have g1:=g9 (nv xs);have g2:=g9 (nv ys);have c1:=S4 (nv xs);have c2:=S4 (nv ys);have s1:=m8 hx (by omega);have s2:=m8 hy (by omega);generalize ha:d6 (nv xs)=a7 at *;generalize hb:d6 (nv ys)=bs at *;rw[← h1,← h2];have hn1:=(d7 g1).1;have hn2:=(d7 g2).1
 by_cases hle:a7.length < bs.length
 ·obtain ⟨out,c,hl,ho,hg,hc0,hc1,hv⟩:=qnd bs a7 (by omega) (by omega) g2 g1 bs.length 0 [] 0 (by omega) rfl n8.nil (by omega) (by omega) rfl;rw[List.take_of_length_le (by omega)] at hv;rw[Int.add_comm,qrd c2 hn1 ho hg (by omega) hv];simp only[List.length_nil,qpz,Int.cast_ofNat_Int] at hl
  by_cases hc:c=0
  ·subst hc;simp -implicitDefEqProofs (disch:=omega) [xW,s1,s2,hl]
  ·have hc:c=1:=by omega
   subst hc;simp -implicitDefEqProofs (disch:=omega) [xW,s1,s2,hl]
 ·obtain ⟨out,c,hl,ho,hg,hc0,hc1,hv⟩:=qnd a7 bs (by omega) (by omega) g1 g2 a7.length 0 [] 0 (by omega) rfl n8.nil (by omega) (by omega) rfl;rw[List.take_of_length_le (by omega)] at hv;rw[qrd c1 hn2 ho hg (by omega) hv];simp only[List.length_nil,qpz,Int.cast_ofNat_Int] at hl
  by_cases hc:c=0
  ·subst hc;simp -implicitDefEqProofs (disch:=omega) [xW,s1,s2,hl]
  ·have hc:c=1:=by omega
   subst hc;simp -implicitDefEqProofs (disch:=omega) [xW,s1,s2,hl]
theorem qun (a7 bs:List Int) (hs:a7.length≤1099511627776) (hs':bs.length≤a7.length) (ha:n8 a7) (hb:n8 bs):∀ d i (out:List Int) (c:Int),d + i=a7.length→out.length=a7.length→n8 out→0≤c→c≤1→
 nv (out.take i) - pw i * c=nv (a7.take i) - nv (bs.take i)→
 ∃ out' c',j0 T0 X0 0 jx (some (.nrm,⟨[(0,.d (.sl (L a7))),(1,.d (.sl (L bs))),(6,.ref (.b 0) ⟨1,4⟩ 0 a7.length),(7,.d (.int .u64 c)),(22,.d (.int .i64 a7.length)),(23,.d (.int .i64 i))],[.arr (LV out) ⟨1,4⟩]⟩))=some (.exit 0,⟨[(6,.ref (.b 0) ⟨1,4⟩ 0 a7.length)],[.arr (LV out') ⟨1,4⟩]⟩) ∧
   out'.length=a7.length∧n8 out'∧0≤c'∧c'≤1∧nv out' - pw a7.length * c'=nv a7 - nv (bs.take a7.length):=by
 intro d
 induction d with
 | zero=>
   intro i out c hi ho hg hc hc1 hv
   have:i=a7.length:=by omega
   subst this;refine ⟨out,c,?_,ho,hg,hc,hc1,by rw[← ho,List.take_length] at hv; rw[ho] at hv; rw[hv,List.take_length]⟩;rw[c9 (l:=jx) rfl];simp -implicitDefEqProofs (disch:=omega) [jy]
 | succ d ih=>
   intro i out c hi ho hg hc hc1 hv;have n1:=ha.nth i;have n2:=hb.nth i;rw[c9 (l:=jx) rfl]
   have step:=ih (i + 1) (out.set i ((nth a7 i - c - nth bs i) % 4294967296)) (-((nth a7 i - c - nth bs i) / 4294967296)) (by omega) (by simp[ho]) (V7 hg _ (by omega)) (by omega) (by omega) (by
    rw[vP (by omega),D2,D2];have:=jg i (nth a7 i - c - nth bs i);simp only[Int.mul_sub,Int.mul_neg] at this ⊢
    omega)
   obtain ⟨out',c',h1,h2⟩:=step;refine ⟨out',c',?_,h2⟩;rw[← h1]
   by_cases hb':i < bs.length
   ·have e2:(nth a7 i - c - nth bs i) % 18446744073709551616 / 9223372036854775808 = -((nth a7 i - c - nth bs i) / 4294967296):=by omega
    simp -implicitDefEqProofs (disch:=omega) [jy,ja,e2]
   ·have e:=ji (xs:=bs) (i:=i) (by omega)
    have e2:(nth a7 i - c) % 18446744073709551616 / 9223372036854775808 = -((nth a7 i - c) / 4294967296):=by omega
    simp -implicitDefEqProofs (disch:=omega) [jy,e,ja,e2]
theorem qjy {xs ys:List Int} (hx:n8 xs) (hy:n8 ys) (hs:xs.length < 1099511627776) (hs':ys.length < 1099511627776) :
 d5 T0 X0 ql4 [.d (.sl (L xs)),.d (.sl (L ys))] []=some (.ret (if nv xs < nv ys then [.d (.sl []),.d (.bool false)] else [.d (.sl (L (d6 (nv xs - nv ys)))),.d (.bool true)]) []):=by
 rw[a8 (af:=Qe) rfl rfl rfl];have h1:=q9 (d7 hx).1;have h2:=q9 (d7 hy).1;have l1:(d6 (nv xs)).length≤xs.length:=o6 (d7 hx).1 (d7 hx).2;have l2:(d6 (nv ys)).length≤ys.length:=o6 (d7 hy).1 (d7 hy).2;have g1:=g9 (nv xs);have g2:=g9 (nv ys);have c1:=S4 (nv xs);have c2:=S4 (nv ys);have s1:=m8 hx (by omega);have s2:=m8 hy (by omega);generalize ha:d6 (nv xs)=a7 at *;generalize hb:d6 (nv ys)=bs at *;rw[← h1,← h2];have s3:=qmr g1 g2 (by omega) (by omega)
 by_cases hlt:nv a7 < nv bs
 ·rw[cmp,if_pos hlt] at s3;simp -implicitDefEqProofs (disch:=omega) [Qe,s1,s2,s3]
 ·have hle:bs.length≤a7.length:=by
   by_cases h:bs.length≤a7.length
   ·exact h
   ·have:=JD g1 c2 (show a7.length < bs.length by omega);omega
  have h3:¬ cmp (nv a7) (nv bs) < 0:=by
   unfold cmp;rw[if_neg hlt]
   split <;> omega
  obtain ⟨out,c,hl,ho,hg,hc0,hc1,hv⟩:=qun a7 bs (by omega) (by omega) g1 g2 a7.length 0 (List.replicate a7.length 0) 0 (by omega) (by simp) (QU _) (by omega) (by omega) (by simp[nv]);rw[List.take_of_length_le (by omega)] at hv;have hb1:=d7 hg;rw[ho] at hb1
  have hc:c=0:=by
   rcases (show c=0∨c=1 by omega) with h | h
   ·exact h
   ·subst h; omega
  subst hc;have s4:=m8 hg (by omega)
  have hv':nv out=nv a7 - nv bs:=by omega
  rw[hv'] at s4;simp only[Int.cast_ofNat_Int] at hl;have ht:out.take a7.length=out:=List.take_of_length_le (by omega);simp -implicitDefEqProofs (disch:=omega) [Qe,s1,s2,s3,s4,hl,ht]
theorem q7n (a7 out0 bs:List Int) (i:Nat) (x:Int) (hs:out0.length≤1099511627776) (hi:i + bs.length < out0.length) (hx:0≤x∧x < 4294967296) (hb:n8 bs):∀ d j (out:List Int) (c:Int),d + j=bs.length→out.length=out0.length→n8 out→0≤c→c < 4294967296→
 (∀ k,i + bs.length≤k→nth out k=nth out0 k)→
 nv out + pw (i + j) * c=nv out0 + pw i * (x * nv (bs.take j))→
 ∃ out' c',j0 T0 X0 0 jA (some (.nrm,⟨[(1,.d (.sl (L bs))),(5,.ref (.b 0) ⟨1,4⟩ 0 out0.length),(6,.d (.int .i64 i)),(7,.d (.int .u32 x)),(8,.d (.int .u64 c)),(29,.d (.sl (L a7))),(30,.d (.int .i64 a7.length)),(31,.d (.int .i64 i)),(36,.d (.sl (L bs))),(37,.d (.int .i64 bs.length)),(38,.d (.int .i64 j))],[.arr (LV out) ⟨1,4⟩]⟩)) =
  some (.exit 2,⟨[(1,.d (.sl (L bs))),(5,.ref (.b 0) ⟨1,4⟩ 0 out0.length),(6,.d (.int .i64 i)),(8,.d (.int .u64 c')),(29,.d (.sl (L a7))),(30,.d (.int .i64 a7.length)),(31,.d (.int .i64 i))],[.arr (LV out') ⟨1,4⟩]⟩) ∧
   out'.length=out0.length∧n8 out'∧0≤c'∧c' < 4294967296∧(∀ k,i + bs.length≤k→nth out' k=nth out0 k)∧nv out' + pw (i + bs.length) * c'=nv out0 + pw i * (x * nv bs):=by
 intro d
 induction d with
 | zero=>
   intro j out c hd ho hg hc hc1 hk hv
   have:j=bs.length:=by omega
   subst this;refine ⟨out,c,?_,ho,hg,hc,hc1,hk,by rw[hv,List.take_length]⟩;rw[c9 (l:=jA) rfl];simp -implicitDefEqProofs (disch:=omega) [vz]
 | succ d ih=>
   intro j out c hd ho hg hc hc1 hk hv;have n1:=hb.nth j;have n2:=hg.nth (i + j);have n3:=qcr hx n1
   have hm:0≤c + (x * nth bs j + nth out (i + j))∧c + (x * nth bs j + nth out (i + j))≤18446744073709551615:=by omega
   rw[c9 (l:=jA) rfl]
   have step:=ih (j + 1) (out.set (i + j) ((c + (x * nth bs j + nth out (i + j))) % 4294967296)) ((c + (x * nth bs j + nth out (i + j))) / 4294967296) (by omega) (by simp[ho]) (V7 hg _ (by omega)) (by omega) (by omega) (by
    intro k hk';rw[U9 (by omega),if_neg (by omega)]
    exact hk k hk') (by
    rw[D2,Zt (by omega)];have e1:=jg (i + j) (c + (x * nth bs j + nth out (i + j)))
    have e2:pw i * (x * (nv (bs.take j) + pw j * nth bs j))=pw i * (x * nv (bs.take j)) + pw (i + j) * (x * nth bs j):=by
     rw[Zo j i,Int.mul_add,Int.mul_add,← Int.mul_assoc x (pw j),Int.mul_comm x (pw j)];simp only[Int.mul_assoc]
    rw[e2,← Nat.add_assoc];simp only[Int.mul_sub,Int.mul_add] at e1 ⊢
    omega)
   obtain ⟨out',c',h1,h2⟩:=step;refine ⟨out',c',?_,h2⟩;rw[← h1];simp -implicitDefEqProofs (disch:=omega) [vz]
theorem q0c (a7 bs:List Int) (hs:a7.length + bs.length≤1099511627776) (ha:n8 a7) (hb:n8 bs):∀ d i (out:List Int),d + i=a7.length→out.length=a7.length + bs.length→n8 out→
 (∀ k,i + bs.length≤k→nth out k=0)→nv out=nv (a7.take i) * nv bs→
 ∃ out',j0 T0 X0 0 jz (some (.nrm,⟨[(1,.d (.sl (L bs))),(5,.ref (.b 0) ⟨1,4⟩ 0 out.length),(29,.d (.sl (L a7))),(30,.d (.int .i64 a7.length)),(31,.d (.int .i64 i))],[.arr (LV out) ⟨1,4⟩]⟩)) =
  some (.exit 0,⟨[(5,.ref (.b 0) ⟨1,4⟩ 0 out'.length)],[.arr (LV out') ⟨1,4⟩]⟩) ∧
   out'.length=a7.length + bs.length∧n8 out'∧nv out'=nv a7 * nv bs:=by
 intro d
 induction d with
 | zero=>
   intro i out hd ho hg hk hv
   have:i=a7.length:=by omega
   subst this;refine ⟨out,?_,ho,hg,by rw[hv,List.take_length]⟩;rw[c9 (l:=jz) rfl];simp -implicitDefEqProofs (disch:=omega) [vt]
 | succ d ih=>
   intro i out hd ho hg hk hv;have n1:=ha.nth i;rw[c9 (l:=jz) rfl];obtain ⟨out1,c,h1,ho1,hg1,hc0,hc1,hk1,hv1⟩:=q7n a7 out bs i (nth a7 i) (by omega) (by omega) n1 hb bs.length 0 out 0 (by omega) rfl hg (by omega) (by omega) (fun _ _=>rfl) (by simp[nv])
   have step:=ih (i + 1) (out1.set (i + bs.length) c) (by omega) (by simp[ho1,ho]) (V7 hg1 _ (by omega)) (by
    intro k hk';rw[U9 (by omega),if_neg (by omega),hk1 k (by omega)]
    exact hk k (by omega)) (by
    rw[D2,Zt (by omega),hk1 _ (Nat.le_refl _),hk _ (Nat.le_refl _),Int.sub_zero,Int.add_mul,Int.mul_assoc,← hv]
    omega)
   obtain ⟨out',h3,h4⟩:=step;refine ⟨out',?_,h4⟩;rw[← h3];simp only[Int.cast_ofNat_Int] at h1;simp -implicitDefEqProofs (disch:=omega) [vt,h1,ho1]
theorem qkx {xs ys:List Int} (hx:n8 xs) (hy:n8 ys) (hs:xs.length + ys.length < 1099511627776) :
 d5 T0 X0 ql5 [.d (.sl (L xs)),.d (.sl (L ys))] []=some (.ret [.d (.sl (L (d6 (nv xs * nv ys))))] []):=by
 rw[a8 (af:=kP) rfl rfl rfl];have h1:=q9 (d7 hx).1;have h2:=q9 (d7 hy).1;have l1:(d6 (nv xs)).length≤xs.length:=o6 (d7 hx).1 (d7 hx).2;have l2:(d6 (nv ys)).length≤ys.length:=o6 (d7 hy).1 (d7 hy).2;have g1:=g9 (nv xs);have g2:=g9 (nv ys);have s1:=m8 hx (by omega);have s2:=m8 hy (by omega);generalize ha:d6 (nv xs)=a7 at *;generalize hb:d6 (nv ys)=bs at *;rw[← h1,← h2]
 by_cases za:a7.length=0
 ·have za':=List.eq_nil_of_length_eq_zero za;rw[show nv a7=0 by rw[za']; rfl,Int.zero_mul];simp -implicitDefEqProofs (disch:=omega) [kP,s1,s2,-List.length_eq_zero_iff]
 by_cases zb:bs.length=0
 ·have zb':=List.eq_nil_of_length_eq_zero zb;rw[show nv bs=0 by rw[zb']; rfl,Int.mul_zero];simp -implicitDefEqProofs (disch:=omega) [kP,s1,s2,-List.length_eq_zero_iff]
 obtain ⟨out,hl,ho,hg,hv⟩:=q0c a7 bs (by omega) g1 g2 a7.length 0 (List.replicate (a7.length + bs.length) 0) (by omega) (by simp) (QU _) (by intro k _; simp[nth,List.getD_eq_getElem?_getD,List.getElem?_replicate]; split <;> rfl) (by simp[nv,q69]);have s4:=m8 hg (by omega);rw[hv] at s4;simp only[Int.cast_ofNat_Int,List.length_replicate] at hl;simp -implicitDefEqProofs (disch:=omega) [kP,s1,s2,s4,hl,-List.length_eq_zero_iff]
end Go.Rf

namespace Go.Rf
def xZ (n:Int):Int:=if n≤0 then 0 else Nat.log2 n.toNat + 1
theorem qwq {n k:Nat} (h:2 ^ k≤n):Nat.log2 n=k + Nat.log2 (n / 2 ^ k):=by
 have hp:0 < 2 ^ k:=Nat.two_pow_pos k
 have hq:n / 2 ^ k≠0:=by
  have:=Nat.div_pos h hp;omega
 apply (Nat.log2_eq_iff (by omega)).2;have h1:=(Nat.log2_eq_iff hq).1 rfl;generalize Nat.log2 (n / 2 ^ k)=m at h1;rw[Nat.pow_add,show k + m + 1=k + (m + 1) from rfl,Nat.pow_add];refine ⟨?_,?_⟩
 ·exact Nat.le_trans (Nat.mul_le_mul_left _ h1.1) (Nat.mul_div_le n _)
 ·rw[Nat.mul_comm]; exact (Nat.div_lt_iff_lt_mul hp).1 h1.2
theorem qd0 {n:Int} {k:Nat} {p:Int} (hp:p=2 ^ k) (h:p≤n):xZ n=k + xZ (n / p):=by
 subst hp;obtain ⟨m,rfl⟩:=Int.eq_ofNat_of_zero_le (Int.le_trans (by have:=Int.pow_pos (n:=2) (m:=k) (by decide); omega) h)
 have h':2 ^ k≤m:=by exact_mod_cast h
 have hp:0 < 2 ^ k:=Nat.two_pow_pos k;have hq:=Nat.div_pos h' hp
 have e:((m:Int) / 2 ^ k)=((m / 2 ^ k:Nat):Int):=by simp
 unfold xZ;rw[e,if_neg (by omega),if_neg (by omega),Int.toNat_natCast,Int.toNat_natCast,qwq h'];omega
theorem len8:∀ i:Fin 256,([0,1,2,2,3,3,3,3,4,4,4,4,4,4,4,4]++List.replicate 16 5++List.replicate 32 6++List.replicate 64 7++List.replicate 128 8:List UInt8)[i.val]? = some (UInt8.ofNat (if i.val=0 then 0 else Nat.log2 i.val + 1)):=by decide +kernel
theorem zjx {tab:List UInt8} (ht:tab=[0,1,2,2,3,3,3,3,4,4,4,4,4,4,4,4]++List.replicate 16 5++List.replicate 32 6++List.replicate 64 7++List.replicate 128 8) {n:Int} (h:0≤n∧n < 256):tab[n.toNat]? = some (UInt8.ofNat (xZ n).toNat):=by
 have:=len8 ⟨n.toNat,by omega⟩;rw[ht,this];unfold xZ
 by_cases h0:n=0
 ·subst h0; rfl
 ·rw[if_neg (by show ¬ n.toNat=0; omega),if_neg (by omega)]
  congr 1
theorem qqm {n:Int} (h:0≤n∧n < 256):zgs[n.toNat]? = some (UInt8.ofNat (xZ n).toNat):=zjx (by decide +kernel) h
theorem X4 (n:Int):0≤xZ n:=by unfold xZ; split <;> omega
theorem YY {n:Int} {k:Nat} (h:n < 2 ^ k):xZ n≤k:=by
 unfold xZ;split
 ·omega
 ·have h':n.toNat < 2 ^ k:=by
   have:(n.toNat:Int) < ((2 ^ k:Nat):Int):=by rw[Int.toNat_of_nonneg (by omega)]; exact_mod_cast h
   exact_mod_cast this
  have:=(Nat.log2_lt (by omega)).2 h';omega
theorem qtm {n:Int} (h:0 < n):(2:Int) ^ ((xZ n).toNat - 1)≤n∧n < 2 ^ (xZ n).toNat:=by
 unfold xZ;rw[if_neg (by omega)];have h1:=(Nat.log2_eq_iff (n:=n.toNat) (by omega)).1 rfl
 have e:((n.toNat.log2:Int) + 1).toNat=n.toNat.log2 + 1:=by omega
 rw[e,Nat.add_sub_cancel];obtain ⟨m,rfl⟩:=Int.eq_ofNat_of_zero_le (Int.le_of_lt h);rw[Int.toNat_natCast] at *;refine ⟨by exact_mod_cast h1.1,by exact_mod_cast h1.2⟩
theorem qc1 {x:Int} (h:0≤x∧x < 4294967296):d5 T0 X0 qix [.d (.int .u32 x)] []=some (.ret [.d (.int .i64 (xZ x))] []):=by
 rw[a8 (af:=zG) rfl rfl rfl]
 have b8:∀ {y:Int},0≤y→y < 256→xZ y≤8:=fun _ hy=>YY (k:=8) (by omega)
 by_cases h1:65536≤x
 ·have e1:=qd0 (n:=x) (k:=16) (p:=65536) rfl h1
  by_cases h2:256≤x / 65536
  ·have e2:=qd0 (n:=x / 65536) (k:=8) (p:=256) rfl h2;have e3:=b8 (y:=x / 65536 / 256) (by omega) (by omega);have e4:=X4 (x / 65536 / 256);rw[e1,e2];simp -implicitDefEqProofs (disch:=omega) [zG,qqm];omega
  ·have e3:=b8 (y:=x / 65536) (by omega) (by omega);have e4:=X4 (x / 65536);rw[e1];simp -implicitDefEqProofs (disch:=omega) [zG,qqm];omega
 ·by_cases h2:256≤x
  ·have e2:=qd0 (n:=x) (k:=8) (p:=256) rfl h2;have e3:=b8 (y:=x / 256) (by omega) (by omega);have e4:=X4 (x / 256);rw[e2];simp -implicitDefEqProofs (disch:=omega) [zG,qqm];omega
  ·have e3:=b8 (y:=x) (by omega) (by omega);have e4:=X4 x;simp -implicitDefEqProofs (disch:=omega) [zG,qqm];omega
theorem qsr {x:Int} (h:0≤x∧x < 4294967296):d5 T0 X0 Xi [.d (.int .u32 x)] []=some (.ret [.d (.int .i64 (32 - xZ x))] []):=by
 rw[a8 (af:=qx) rfl rfl rfl];have e3:=YY (n:=x) (k:=32) (by omega);have e4:=X4 x;have s1:=qc1 h;simp -implicitDefEqProofs (disch:=omega) [qx,s1]
theorem Zi {n:Int} (h:0≤n∧n < 18446744073709551616):d5 T0 X0 qey [.d (.int .u64 n)] []=some (.ret [.d (.sl (L (d6 n)))] []):=by
 rw[a8 (af:=Qu) rfl rfl rfl];have s1:=m8 (xs:=[n % 4294967296,n / 4294967296]) (V8.2 ⟨by omega,V8.2 ⟨by omega,n8.nil⟩⟩) (by simp)
 have e:nv [n % 4294967296,n / 4294967296]=n:=by simp only[nv]; omega
 rw[e] at s1;simp only[zT,kS] at s1;have w:=JT [n % 4294967296,n / 4294967296];simp only[zT,kS] at w;simp -implicitDefEqProofs (disch:=omega) [Qu,s1,w]
def qwc (n:Int):Int:=(d6 n).length
theorem WQ {xs:List Int} (hg:n8 xs) (hs:xs.length≤1099511627776):d5 T0 X0 YK [.d (.sl (L xs))] [] =
 some (.ret [.d (.int .i64 (if nv xs=0 then 0 else 32 * (qwc (nv xs) - 1) + xZ (nth (d6 (nv xs)) ((d6 (nv xs)).length - 1))))] []):=by
 rw[a8 (af:=wz) rfl rfl rfl];have s1:=m8 hg hs;have l1:(d6 (nv xs)).length≤xs.length:=o6 (d7 hg).1 (d7 hg).2
 by_cases h0:nv xs=0
 ·rw[if_pos h0];rw[h0,wX] at s1;simp -implicitDefEqProofs (disch:=omega) [wz,s1]
 ·rw[if_neg h0]
  have hn:(d6 (nv xs)).length≠0:=by
   intro h;exact h0 ((xR (d7 hg).1).1 (List.eq_nil_of_length_eq_zero h))
  have g:=(g9 (nv xs)).nth ((d6 (nv xs)).length - 1);have s2:=qc1 g;have e3:=YY (n:=nth (d6 (nv xs)) ((d6 (nv xs)).length - 1)) (k:=32) (by omega);have e4:=X4 (nth (d6 (nv xs)) ((d6 (nv xs)).length - 1));unfold qwc;generalize d6 (nv xs)=a7 at *;simp -implicitDefEqProofs (disch:=omega) [wz,s1,s2,-List.length_eq_zero_iff]
end Go.Rf

namespace Go.Rf
theorem qsx (m:Int) (hm:0≤m∧m < 4294967296) (k:Nat) (hk:k≤1099511627776):∀ d i (xs:List Int) (c:Int),d + i=xs.length→xs.length=k→n8 xs→0≤c→c < 4294967296→
 ∃ xs' c',j0 T0 X0 1 xo (some (.nrm,⟨[(0,.ref (.b 0) ⟨1,4⟩ 0 k),(1,.d (.int .u32 m)),(7,.d (.int .u64 c)),(12,.d (.int .i64 k)),(13,.d (.int .i64 i))],[.arr (LV xs) ⟨1,4⟩]⟩))=some (.exit 0,⟨[(0,.ref (.b 0) ⟨1,4⟩ 0 k),(7,.d (.int .u64 c'))],[.arr (LV xs') ⟨1,4⟩]⟩) ∧
   xs'.length=k∧n8 xs'∧0≤c'∧c' < 4294967296∧nv xs' + pw k * c'=nv (xs.take i) + pw i * (c + m * nv (xs.drop i)):=by
 intro d
 induction d with
 | zero=>
   intro i xs c hd hl hg hc hc1
   have:i=k:=by omega
   subst this;refine ⟨xs,c,?_,hl,hg,hc,hc1,?_⟩
   ·rw[c9 (l:=xo) rfl];simp -implicitDefEqProofs (disch:=omega) [kZ]
   ·rw[← hl,List.take_length,List.drop_length];simp[nv]
 | succ d ih=>
   intro i xs c hd hl hg hc hc1;have n1:=hg.nth i;have n2:=qcr n1 hm;rw[c9 (l:=xo) rfl];obtain ⟨xs',c',h1,h2,h3,h4,h5,h6⟩:=ih (i + 1) (xs.set i ((c + nth xs i * m) % 4294967296)) ((c + nth xs i * m) / 4294967296) (by simp; omega) (by simp[hl]) (V7 hg _ (by omega)) (by omega) (by omega);refine ⟨xs',c',?_,h2,h3,h4,h5,?_⟩
   ·rw[← h1];simp -implicitDefEqProofs (disch:=omega) [kZ]
   ·rw[h6,vP (by omega)]
    have e1:xs.drop i=nth xs i :: xs.drop (i + 1):=by
     rw[List.drop_eq_getElem_cons (by omega)];simp[nth,show i < xs.length by omega]
    have e2:(xs.set i ((c + nth xs i * m) % 4294967296)).drop (i + 1)=xs.drop (i + 1):=by
     rw[List.drop_set_of_lt (by omega)]
    rw[e1,e2,nv];have e3:=jg i (c + nth xs i * m)
    have e4:pw i * (m * (4294967296 * nv (xs.drop (i + 1))))=pw (i + 1) * (m * nv (xs.drop (i + 1))):=by
     rw[pw,Int.mul_left_comm m,← Int.mul_assoc (pw i),Int.mul_comm (pw i)]
    have e5:m * nth xs i=nth xs i * m:=Int.mul_comm ..;simp only[Int.mul_add,e4,e5] at e3 ⊢;omega
theorem qgd {m n:Int} (hm:0≤m∧m < 4294967296) (hn:0≤n∧n < 4294967296) {xs:List Int} (hk:xs.length < 1099511627775) (hg:n8 xs) :
 ∃ xs',n8 xs'∧nv xs'=n + m * nv xs∧((xs'.length=xs.length ∧
 d5 T0 X0 YJ [.ref (.b 0) ⟨1,4⟩ 0 xs.length,.d (.int .u32 m),.d (.int .u32 n)] [.arr (LV xs) ⟨1,4⟩]=some (.ret [.ref (.b 0) ⟨1,4⟩ 0 xs.length] [.arr (LV xs') ⟨1,4⟩])) ∨
 (xs'.length=xs.length + 1∧d5 T0 X0 YJ [.ref (.b 0) ⟨1,4⟩ 0 xs.length,.d (.int .u32 m),.d (.int .u32 n)] [.arr (LV xs) ⟨1,4⟩]=some (.ret [.ref (.b 1) ⟨1,4⟩ 0 (xs.length + 1)] [.dead,.arr (LV xs') ⟨1,4⟩]))):=by
 rw[a8 (af:=wv) rfl rfl rfl];obtain ⟨xs',c',h1,h2,h3,h4,h5,h6⟩:=qsx m hm xs.length (by omega) xs.length 0 xs n (by omega) rfl hg hn.1 hn.2;simp only[Int.cast_ofNat_Int,List.take_zero,List.drop_zero,nv,pw,Int.zero_add,Int.one_mul] at h1 h6
 by_cases hc:c'=0
 ·subst hc;refine ⟨xs',h3,by omega,.inl ⟨h2,?_⟩⟩;simp -implicitDefEqProofs (disch:=omega) [wv,h1]
 ·refine ⟨xs'++[c'],qc7.2 ⟨h3,V8.2 ⟨⟨h4,h5⟩,n8.nil⟩⟩,by rw[qa8,h2]; exact h6,.inr ⟨by simp[h2],?_⟩⟩;have ht:xs'.take xs.length=xs':=List.take_of_length_le (by omega);simp -implicitDefEqProofs (disch:=omega) [wv,h1,ht]
theorem YT {s:List UInt8} {i:Nat} (h:i < s.length):1≤(dec s i).2∧i + (dec s i).2≤s.length∧(dec s i).2≤4∧(dec s i).1≤1114111:=by
 have hsz:(ByteArray.mk s.toArray).size=s.length:=by simp[ByteArray.size]
 have:=qgq ⟨s.toArray⟩ i (by omega) _ rfl;rw[hsz] at this;exact ⟨this.1,this.2.1,this.2.2.1,this.2.2.2.1⟩
def qds (s:List UInt8):Nat→Nat→Int→Option Int
 | 0,_,v=>some v
 | f + 1,i,v=>if i < s.length then (if (dec s i).1 < 48∨57 < (dec s i).1 then none else qds s f (i + (dec s i).2) (10 * v + ((dec s i).1 - 48:Int))) else some v
theorem qas (s:List UInt8):∀ f i v w,0≤v→qds s f i v=some w→0≤w
 | 0,_,v,w,h,e=>by cases e; exact h
 | f + 1,i,v,w,h,e=>by
   unfold qds at e;split at e
   ·split at e
    ·cases e
    ·exact qas s f _ _ _ (by omega) e
   ·cases e; exact h
theorem qoi (s:List UInt8) (hs:s.length≤5120):∀ f i (xs:List Int) (n m:Int) (e:List (Nat × V)),s.length - i < f→i≤s.length→n8 xs→xs.length≤i→
 (m=1∨m=10∨m=100∨m=1000∨m=10000∨m=100000∨m=1000000∨m=10000000∨m=100000000)→0≤n→n < m→
 (qds s f i (nv xs * m + n)=none∧j0 T0 X0 0 zC (some (.nrm,⟨(4,.ref (.b 0) ⟨1,4⟩ 0 xs.length) :: (5,.d (.int .u32 n)) :: (6,.d (.int .u32 m)) :: (20,.iter (.b 1)) :: e,[.arr (LV xs) ⟨1,4⟩,.iter s i]⟩))=some (.ret,⟨[(2,.d (.sl [])),(3,.d (.int .i64 10))],[]⟩)) ∨
 (∃ xs' n' m',qds s f i (nv xs * m + n)=some (nv xs' * m' + n')∧n8 xs'∧xs'.length≤s.length∧0≤n'∧n' < m'∧m'≤100000000 ∧
  j0 T0 X0 0 zC (some (.nrm,⟨(4,.ref (.b 0) ⟨1,4⟩ 0 xs.length) :: (5,.d (.int .u32 n)) :: (6,.d (.int .u32 m)) :: (20,.iter (.b 1)) :: e,[.arr (LV xs) ⟨1,4⟩,.iter s i]⟩))=some (.exit 0,⟨[(4,.ref (.b 0) ⟨1,4⟩ 0 xs'.length),(5,.d (.int .u32 n')),(6,.d (.int .u32 m'))],[.arr (LV xs') ⟨1,4⟩]⟩)):=by
 intro f
 induction f with
 | zero=>intros; omega
 | succ f ih=>
   intro i xs n m e hf hi hg hx hm hn hnm;rw[c9 (l:=zC) rfl];unfold qds
   by_cases hlt:i < s.length
   ·rw[if_pos hlt];obtain ⟨d1,d2,d3,d4⟩:=YT hlt
    by_cases hbad:(dec s i).1 < 48∨57 < (dec s i).1
    ·rw[if_pos hbad];refine .inl ⟨rfl,?_⟩
     rcases hbad with hbad | hbad <;> simp -implicitDefEqProofs (disch:=omega) [K8]
    ·rw[if_neg hbad]
     by_cases hb:m=100000000
     ·subst hb;obtain ⟨xs1,g1,v1,g2⟩:=qgd (m:=1000000000) (n:=10 * n + ((dec s i).1 - 48)) (by omega) (by omega) (xs:=xs) (by omega) hg;have:=ih (i + (dec s i).2) xs1 0 1 [] (by omega) (by omega) g1 (by omega) (by omega) (by omega) (by omega)
      have ev:nv xs1 * 1 + 0=10 * (nv xs * 100000000 + n) + ((dec s i).1 - 48):=by omega
      rw[ev] at this;rcases this with ⟨h1,h2⟩ | ⟨xs',n',m',h1,h2,h3,h4,h5,h6,h7⟩
      ·refine .inl ⟨h1,?_⟩;rw[← h2]
       rcases g2 with ⟨g2,g3⟩ | ⟨g2,g3⟩ <;> rw[g2] <;> simp -implicitDefEqProofs (disch:=omega) [K8,g3]
      ·refine .inr ⟨xs',n',m',h1,h2,h3,h4,h5,h6,?_⟩;rw[← h7]
       rcases g2 with ⟨g2,g3⟩ | ⟨g2,g3⟩ <;> rw[g2] <;> simp -implicitDefEqProofs (disch:=omega) [K8,g3]
     ·have:=ih (i + (dec s i).2) xs (10 * n + ((dec s i).1 - 48)) (10 * m) [(39,.d (.bool false))] (by omega) (by omega) hg (by omega) (by omega) (by omega) (by omega)
      have ev:nv xs * (10 * m) + (10 * n + (((dec s i).1:Int) - 48))=10 * (nv xs * m + n) + ((dec s i).1 - 48):=by
       rw[Int.mul_left_comm,Int.mul_add];omega
      rw[ev] at this;rcases this with ⟨h1,h2⟩ | ⟨xs',n',m',h1,h2,h3,h4,h5,h6,h7⟩
      ·refine .inl ⟨h1,?_⟩;rw[← h2];simp -implicitDefEqProofs (disch:=omega) [K8]
      ·refine .inr ⟨xs',n',m',h1,h2,h3,h4,h5,h6,?_⟩;rw[← h7];simp -implicitDefEqProofs (disch:=omega) [K8]
   ·rw[if_neg hlt];refine .inr ⟨xs,n,m,rfl,hg,by omega,hn,hnm,by omega,?_⟩;simp -implicitDefEqProofs (disch:=omega) [K8]
def XE (s:List UInt8):Option Int:=if s=[] then none else qds s (s.length + 1) 0 0
theorem qb5 {s:List UInt8} (hs:s.length≤5120):d5 T0 X0 Kg [.d (.str s)] [] =
 some (.ret (match XE s with | none=>[.d (.sl []),.d (.int .i64 10)] | some v=>[.d (.sl (L (d6 v))),.d (.int .i64 0)]) []):=by
 rw[a8 (af:=qe) rfl rfl rfl];unfold XE
 by_cases h0:s=[]
 ·rw[if_pos h0];subst h0;simp -implicitDefEqProofs (disch:=omega) [qe]
 ·rw[if_neg h0]
  have he:s.isEmpty=false:=by simp[h0]
  have:=qoi s hs (s.length + 1) 0 [] 0 1 [] (by omega) (by omega) n8.nil (by simp) (by omega) (by omega) (by omega);simp only[List.length_nil,qpz,nv] at this;rcases this with ⟨h1,h2⟩ | ⟨xs',n',m',h1,h2,h3,h4,h5,h6,h7⟩
  ·rw[show (0:Int) * 1 + 0=0 from rfl] at h1;rw[h1];simp -implicitDefEqProofs (disch:=omega) [qe,h2,he]
  ·rw[show (0:Int) * 1 + 0=0 from rfl] at h1;rw[h1];obtain ⟨xs1,g1,v1,g2⟩:=qgd (m:=m') (n:=n') (by omega) (by omega) (xs:=xs') (by omega) h2;have s1:=m8 g1 (by omega);have l1:(d6 (nv xs1)).length≤xs1.length:=o6 (d7 g1).1 (d7 g1).2
   have ev:nv xs1=nv xs' * m' + n':=by rw[v1,Int.mul_comm m']; omega
   rw[ev] at s1 l1;rcases g2 with ⟨g2,g3⟩ | ⟨g2,g3⟩
   ·have ht:xs1.take xs'.length=xs1:=List.take_of_length_le (by omega);simp -implicitDefEqProofs (disch:=omega) [qe,h7,he,g3,s1,ht]
   ·have ht:xs1.take (xs'.length + 1)=xs1:=List.take_of_length_le (by omega);simp -implicitDefEqProofs (disch:=omega) [qe,h7,he,g3,s1,ht]
end Go.Rf
