/- Parts of the proof. -/
import Derived.Test.YtpaeaccmddffjaaGreatDoorRb2
import Derived.Test.YtpaeaccmddffjaaGreatDoorSp2
import Derived.Test.YtpaeaccmddffjaaGreatDoorSp3
set_option linter.all false
namespace Go.Rf
def X0:Exts where
 run f:=if f=V2 then some zaq else if f=A8 then some (ccX wSB) else if f=D2 then some (bsX wSB 1000005) else none
instance:X0.Mono where
 le f e h c c' _ vs hp r k:=by
  unfold X0 at h;dsimp only at h;split at h
  ·cases h; exact k
  ·split at h
   ·cases h; exact k
   ·split at h
    ·cases h; exact k
    ·cases h
def qak (xs:List Int):Nat→Nat
 | 0=>0
 | n + 1=>if nth xs n=0 then qak xs n else n + 1
theorem qq1 (xs:List Int):∀ n,qak xs n≤n
 | 0=>Nat.le_refl _
 | n + 1=>by
   unfold qak;split
   ·exact Nat.le_succ_of_le (qq1 xs n)
   ·exact Nat.le_refl _
theorem qq0 (xs:List Int):∀ n,n≤xs.length→nv (xs.take (qak xs n))=nv (xs.take n)
 | 0,_=>rfl
 | n + 1,h=>by
   unfold qak;split
   ·rename_i h0;rw[qq0 xs n (by omega),qV (by omega),h0];simp
   ·rfl
theorem qkh {xs:List Int} (hg:n9 xs):∀ n,n≤xs.length→Can (xs.take (qak xs n))
 | 0,_=>.inl rfl
 | n + 1,h=>by
   unfold qak;split
   ·exact qkh hg n (by omega)
   ·rename_i h0;right;rw[List.length_take,Nat.min_eq_left h,qV (by omega),Nat.add_sub_cancel];have h1:=(d8 (hg.take n)).1;have h2:=hg.nth n;have h3:=T4 n;have h4:pw n * 1≤pw n * nth xs n:=Int.mul_le_mul_of_nonneg_left (by omega) (by omega);omega
theorem qtg {xs:List Int} (hg:n9 xs):xs.take (qak xs xs.length)=d7 (nv xs):=by
 rw[Ye (hg.take _) (qkh hg _ (Nat.le_refl _)),qq0 xs _ (Nat.le_refl _),List.take_length]
theorem qoo (xs:List Int) (hs:xs.length≤1099511627776):∀ n,n≤xs.length→j6 T0 X0 0 zc (some (.nrm,⟨[(0,.d (.sl (L xs))),(3,.d (.int .i64 n))],[]⟩))=some (.exit 0,⟨[(0,.d (.sl (L xs))),(3,.d (.int .i64 (qak xs n)))],[]⟩):=by
 intro n
 induction n with
 | zero=>intro h; rw[d5 (l:=zc) rfl]; simp[zd,qak]
 | succ n ih=>
   intro h;rw[d5 (l:=zc) rfl]
   by_cases hz:nth xs n=0
   ·simp -implicitDefEqProofs (disch:=omega) [zd,qak,ih,hz]
   ·simp -implicitDefEqProofs (disch:=omega) [zd,qak,hz]
theorem n0 {xs:List Int} (hg:n9 xs) (hs:xs.length≤1099511627776):d6 T0 X0 qe3 [.d (.sl (L xs))] []=some (.ret [.d (.sl (L (d7 (nv xs))))] []):=by
 rw[c9 (af:=Qj) rfl rfl rfl];have hl:=qq1 xs xs.length;simp -implicitDefEqProofs (disch:=omega) [Qj,qoo xs hs xs.length (Nat.le_refl _),hl,qtg hg]
theorem Qs {xs:List Int} (hg:n9 xs) (hs:xs.length≤1099511627776):d6 T0 X0 qjb [.d (.sl (L xs))] []=some (.ret [.d (.sl (L (d7 (nv xs))))] []):=by
 rw[c9 (af:=ZS) rfl rfl rfl];have hl:(d7 (nv xs)).length≤xs.length:=o6 (d8 hg).1 (d8 hg).2;simp -implicitDefEqProofs (disch:=omega) [ZS,n0 hg hs,hl]
def Yh (c:Int):Bool:=(65≤c && c≤90) || (97≤c && c≤122) || (913≤c && c≤929) || (931≤c && c≤937) || (945≤c && c≤969) || (1040≤c && c≤1103)
def Wg (c:Int):Bool:=[43,45,42,47,37,40,41,123,125,44,59,58,61,33,63,64,183,215,247,8722,8788,8800].contains c
def qa5 (c:Int):Bool:=c == 9 || c == 10 || c == 13 || c == 32 || c == 160 || c == 12288
def qc2 (c:Int):Bool:=c == 95 || c == 176 || c == 8242 || (8320≤c && c≤8329)
def cls (c:Int):Int:=if qa5 c then 1 else if Yh c then 2 else if 48≤c∧c≤57 then 3 else if qc2 c then 4 else if c=35 then 6 else if Wg c then 5 else 0
def qi1 (c:Int):Int:=if c=183∨c=215 then 42 else if c=247 then 47 else if c=8722 then 45 else c
theorem ql1 (c:Int):d6 T0 X0 qdn [.d (.int .i64 c)] []=some (.ret [.d (.bool (Yh c))] []):=by
 rw[c9 (af:=vi) rfl rfl rfl]
 have cases:c < 65∨(65≤c∧c≤90)∨(90 < c∧c < 97)∨(97≤c∧c≤122)∨(122 < c∧c < 913)∨(913≤c∧c≤929)∨c=930∨(931≤c∧c≤937)∨(937 < c∧c < 945)∨(945≤c∧c≤969)∨(969 < c∧c < 1040)∨(1040≤c∧c≤1103)∨1103 < c:=by omega
 rcases cases with h | h | h | h | h | h | h | h | h | h | h | h | h <;>
  simp -implicitDefEqProofs (disch:=omega) [vi,Yh]
theorem qto (c:Int):d6 T0 X0 qji [.d (.int .i64 c)] []=some (.ret [.d (.bool (Wg c))] []):=by
 rw[c9 (af:=wk) rfl rfl rfl]
 by_cases h:c=43∨c=45∨c=42∨c=47∨c=37∨c=40∨c=41∨c=123∨c=125∨c=44∨c=59∨c=58∨c=61∨c=33∨c=63∨c=64∨c=183∨c=215∨c=247∨c=8722∨c=8788∨c=8800
 ·rcases h with rfl | rfl | rfl | rfl | rfl | rfl | rfl | rfl | rfl | rfl | rfl | rfl | rfl | rfl | rfl | rfl | rfl | rfl | rfl | rfl | rfl | rfl <;>
   simp -implicitDefEqProofs (disch:=omega) [wk,Wg]
 ·have e:Wg c=false:=by
   unfold Wg;simp only[List.contains_eq_mem,List.mem_cons,List.not_mem_nil,or_false,decide_eq_false_iff_not];exact h
  rw[e];simp -implicitDefEqProofs (disch:=omega) [wk]
theorem qup (c:Int):d6 T0 X0 qjj [.d (.int .i64 c)] []=some (.ret [.d (.int .i64 (qi1 c))] []):=by
 rw[c9 (af:=wm) rfl rfl rfl]
 by_cases h:c=183∨c=215∨c=247∨c=8722
 ·rcases h with rfl | rfl | rfl | rfl <;> simp -implicitDefEqProofs (disch:=omega) [wm,qi1]
 ·simp -implicitDefEqProofs (disch:=omega) [wm,qi1]
theorem qg4 (b:ByteArray) (i:Nat) (hi:i < b.size) (r:Nat × Nat) (h:Utf8.decode b i=r):1≤r.2∧i + r.2≤b.size∧r.2≤4∧r.1≤1114111∧(r.1 < 55296∨57343 < r.1):=by
 have v:∀ c:Nat,Utf8.valid (c:Int)=true→c≤1114111∧(c < 55296∨57343 < c):=by
  intro c hc;unfold Utf8.valid at hc;simp at hc;omega
 unfold Utf8.decode at h
 extract_lets at' cont b0 c2 c3 c4 at h
 have hc:∀ k,cont k=true→i + k < b.size:=by
  intro k hk;simp only[cont,Bool.and_eq_true,decide_eq_true_eq] at hk;exact hk.1
 clear_value cont
 clear_value b0
 clear_value at'
 split at h
 ·subst h; simp only[]; omega
 ·split at h
  ·rename_i h1;simp only[Bool.and_eq_true] at h1;have c1:=hc 1 h1.2
   split at h <;> subst h <;> simp only[Utf8.runeError,c2] <;> omega
  ·split at h
   ·rename_i h1;simp only[Bool.and_eq_true] at h1;have c1:=hc 2 h1.2;split at h
    ·rename_i hv;simp only[Bool.and_eq_true] at hv;have:=v _ hv.2;subst h; simp only[]; omega
    ·subst h; simp only[Utf8.runeError]; omega
   ·split at h
    ·rename_i h1;simp only[Bool.and_eq_true] at h1;have c1:=hc 3 h1.2;split at h
     ·rename_i hv;simp only[Bool.and_eq_true] at hv;have:=v _ hv.2;subst h; simp only[]; omega
     ·subst h; simp only[Utf8.runeError]; omega
    ·subst h; simp only[Utf8.runeError]; omega
theorem ZF (s:List UInt8) (h:s≠[]):1≤(dec s 0).2∧(dec s 0).2≤s.length∧(dec s 0).2≤4∧(dec s 0).1≤1114111∧((dec s 0).1 < 55296∨57343 < (dec s 0).1):=by
 have hl:0 < s.length:=List.length_pos_iff.2 h
 have hsz:(ByteArray.mk s.toArray).size=s.length:=by simp[ByteArray.size]
 have:=qg4 ⟨s.toArray⟩ 0 (by omega) _ rfl;rw[hsz,Nat.zero_add] at this;exact this
theorem jF {b:UInt8} {s:List UInt8} (h:b.toNat < 128):dec (b :: s) 0=(b.toNat,1):=by
 unfold dec Utf8.decode;have e:((ByteArray.mk (b :: s).toArray).get! (0 + 0))=b:=rfl;simp only[e];rw[if_pos h]
def qow (r:Int):Int:=if r < 0 then -1 else if r≤127 then 1 else if r≤2047 then 2 else if 55296≤r∧r≤57343 then -1 else if r≤65535 then 3 else if r≤1114111 then 4 else -1
theorem qfu {r:Int}:d6 T0 X0 qdj [.d (.int .i32 r)] []=some (.ret [.d (.int .i64 (qow r))] []):=by
 rw[c9 (af:=wX) rfl rfl rfl]
 have cases:r < 0∨(0≤r∧r≤127)∨(127 < r∧r≤2047)∨(2047 < r∧r < 55296)∨(55296≤r∧r≤57343)∨(57343 < r∧r≤65535)∨(65535 < r∧r≤1114111)∨1114111 < r:=by omega
 rcases cases with h | h | h | h | h | h | h | h <;>
  simp -implicitDefEqProofs (disch:=omega) [wX,qow]
theorem WX (s:List UInt8) (hs:s.length≤1100000):d6 T0 X0 vq [.d (.str s)] []=some (.ret [.d (.int .i32 (wU s).1),.d (.int .i64 (wU s).2)] []):=by
 rw[c9 (af:=B7) rfl rfl rfl]
 have sx:∀ s,d6 T0 X0 V2 [.d (.str s)] []=some (.ret [.d (.int .i32 (wU s).1),.d (.int .i64 (wU s).2)] []):=fun s=>xU (n:=1) rfl
 cases s with
 | nil=>simp -implicitDefEqProofs (disch:=omega) [B7,sx]
 | cons b s=>
   by_cases h:b.toNat < 128
   ·have e:wU (b :: s)=(b.toNat,1):=by unfold wU; rw[if_neg (by simp),jF h]
    rw[e];simp at hs;simp -implicitDefEqProofs (disch:=omega) [B7]
   ·have hb:=UInt8.toNat_lt b;simp at hs;simp -implicitDefEqProofs (disch:=omega) [B7,sx]
structure Pl where
 b:Int
 g:Int
 l:Int
 c:Int
 deriving DecidableEq
def Pl.cs (p:Pl):List D:=[.int .i64 p.b,.int .i64 p.g,.int .i64 p.l,.int .i64 p.c]
def start:Pl:=⟨0,0,1,1⟩
def Wu (p:Pl) (r:Int):Pl:=if r=10 then ⟨p.b + qow r,p.g + 1,p.l + 1,1⟩ else ⟨p.b + qow r,p.g + 1,p.l,p.c + 1⟩
def Pl.small (p:Pl) (n:Nat):Prop:=-4294967296≤p.b - 4 * n∧p.b + 4 * n≤4294967296∧0≤p.g∧p.g + n≤4294967296∧0≤p.l∧p.l + n≤4294967296∧0≤p.c∧p.c + n≤4294967296
theorem qq5 (r:Int):-1≤qow r∧qow r≤4:=by
 unfold qow;split
 ·omega
 split
 ·omega
 split
 ·omega
 split
 ·omega
 split
 ·omega
 split <;> omega
theorem qhx {p:Pl} {n:Nat} (r:Int) (h:p.small (n + 1)):(Wu p r).small n:=by
 have:=qq5 r;unfold Wu Pl.small at *
 split <;> simp only[] <;> omega
theorem qom:d6 T0 X0 qe9 [] []=some (.ret [.d (.agg start.cs)] []):=by
 rw[c9 (af:=Qo) rfl rfl rfl];simp -implicitDefEqProofs (disch:=omega) [Qo,start,Pl.cs]
theorem qnm {p:Pl} {n:Nat} (r:Int) (h:p.small (n + 1)):d6 T0 X0 qdp [.d (.agg p.cs),.d (.int .i32 r)] []=some (.ret [.d (.agg (Wu p r).cs)] []):=by
 rw[c9 (af:=jp) rfl rfl rfl];have h1:=qq5 r;unfold Pl.small at h
 by_cases hr:r=10
 ·subst hr;simp -implicitDefEqProofs (disch:=omega) [jp,qfu,Wu,Pl.cs]
 ·simp -implicitDefEqProofs (disch:=omega) [jp,qfu,Wu,Pl.cs,hr]
def L8 (s:List UInt8) (r:Int):Bool:=r == 65533 && decide (((wU s).2:Int)=1)
theorem qng {s:List UInt8} {r:Int} (hs:s.length≤1100000):d6 T0 X0 qdo [.d (.str s),.d (.int .i32 r)] []=some (.ret [.d (.bool (L8 s r))] []):=by
 rw[c9 (af:=jo) rfl rfl rfl];have s1:=WX s hs;unfold L8
 by_cases hr:r=65533
 ·subst hr;simp -implicitDefEqProofs (disch:=omega) [jo,s1]
 ·have e:(r == 65533)=false:=by simp[hr]
  rw[e,Bool.false_and];simp -implicitDefEqProofs (disch:=omega) [jo]
structure Sc where
 rest:List UInt8
 pos:Pl
 code:Int
 bad:Pl
def Sc.cs (s:Sc):List D:=[.str s.rest,.int .i64 s.pos.b,.int .i64 s.pos.g,.int .i64 s.pos.l,.int .i64 s.pos.c,.int .i64 s.code,.int .i64 s.bad.b,.int .i64 s.bad.g,.int .i64 s.bad.l,.int .i64 s.bad.c]
def Sc.obj (s:Sc):Obj:=.arr [.d (.agg s.cs)] ⟨10,0⟩
def Sc.ok (s:Sc):Prop:=s.rest.length≤4096∧s.pos.small s.rest.length
def Sc.fail (s:Sc) (e:Int) (p:Pl):Sc:=if s.code=0 then { s with code:=e,bad:=p } else s
def Sc.early (s:Sc) (e:Int) (p:Pl):Sc:={ s with code:=e,bad:=p }
def Sc.next (s:Sc):Int × Sc:=
 if s.rest=[] then (-1,s) else if L8 s.rest (dec s.rest 0).1 then (-1,s.fail 40 s.pos) else ((dec s.rest 0).1,s)
def Sc.cls (s:Sc):Int × Sc:=if s.next.1 < 0 then (-1,s.next.2) else (Rf.cls s.next.1,s.next.2)
def Sc.pass (s:Sc):Sc:={ s with pos:=Wu s.pos (wU s.rest).1,rest:=s.rest.drop (wU s.rest).2 }
theorem qgw (s:Sc) (e:Int) (p:Pl):d6 T0 X0 Ja [.ptr (.b 0) 0 0,.d (.int .i64 e),.d (.agg p.cs)] [s.obj]=some (.ret [] [(s.fail e p).obj]):=by
 rw[c9 (af:=R7) rfl rfl rfl]
 by_cases h:s.code=0
 ·simp -implicitDefEqProofs (disch:=omega) [R7,Sc.obj,Sc.cs,Pl.cs,Sc.fail,h]
 ·simp -implicitDefEqProofs (disch:=omega) [R7,Sc.obj,Sc.cs,Pl.cs,Sc.fail,h]
theorem Kz (s:Sc) (e:Int) (p:Pl):d6 T0 X0 Xc [.ptr (.b 0) 0 0,.d (.int .i64 e),.d (.agg p.cs)] [s.obj]=some (.ret [] [(s.early e p).obj]):=by
 rw[c9 (af:=Z3) rfl rfl rfl];simp -implicitDefEqProofs (disch:=omega) [Z3,Sc.obj,Sc.cs,Pl.cs,Sc.early]
theorem QF {s:Sc} (h:s.ok):d6 T0 X0 XZ [.ptr (.b 0) 0 0] [s.obj]=some (.ret [.d (.int .i64 s.next.1)] [s.next.2.obj]):=by
 rw[c9 (af:=R6) rfl rfl rfl];have hl:=h.1;unfold Sc.next
 by_cases he:s.rest=[]
 ·rw[if_pos he];simp -implicitDefEqProofs (disch:=omega) [R6,Sc.obj,Sc.cs,he];rw[d5 (l:=U6) rfl];simp -implicitDefEqProofs (disch:=omega) [L6]
 ·rw[if_neg he];have hp:0 < s.rest.length:=List.length_pos_iff.2 he;have d1:=ZF s.rest he;have s1:=qng (s:=s.rest) (r:=(dec s.rest 0).1) (by omega);simp -implicitDefEqProofs (disch:=omega) [R6,Sc.obj,Sc.cs];rw[d5 (l:=U6) rfl];cases hb:L8 s.rest (dec s.rest 0).1
  ·rw[hb] at s1;simp -implicitDefEqProofs (disch:=omega) [L6,s1]
  ·rw[hb] at s1;have s2:=qgw s 40 s.pos;simp only[Sc.obj,Sc.cs,Pl.cs] at s2;simp -implicitDefEqProofs (disch:=omega) [L6,s1,s2]
theorem qzt (c:Int):d6 T0 X0 qfa [.d (.int .i64 c)] []=some (.ret [.d (.int .i64 (cls c))] []):=by
 rw[c9 (af:=N7) rfl rfl rfl];have s1:=ql1 c;have s2:=qto c;unfold cls
 by_cases h1:c=9∨c=10∨c=13∨c=32∨c=160∨c=12288
 ·rcases h1 with rfl | rfl | rfl | rfl | rfl | rfl <;> simp -implicitDefEqProofs (disch:=omega) [N7,qa5]
 have e1:qa5 c=false:=by
  unfold qa5;simp;omega
 rw[e1];cases e2:Yh c
 ·rw[e2] at s1
  by_cases h3:48≤c∧c≤57
  ·simp -implicitDefEqProofs (disch:=omega) [N7,s1]
  have h3':c < 48∨57 < c:=by omega
  by_cases h4:c=95∨c=176∨c=8242∨(8320≤c∧c≤8329)
  ·have e4:qc2 c=true:=by
    unfold qc2;simp;omega
   rw[e4];rcases h3' with h3' | h3'
   ·omega
   rcases h4 with rfl | rfl | rfl | h4 <;> simp -implicitDefEqProofs (disch:=omega) [N7,s1,h3]
  have e4:qc2 c=false:=by
   unfold qc2;simp;omega
  rw[e4]
  have h4':c < 48∨(57 < c∧c < 8320)∨8329 < c:=by omega
  by_cases h5:c=35
  ·subst h5;simp -implicitDefEqProofs (disch:=omega) [N7,s1]
  cases e6:Wg c <;> rw[e6] at s2 <;> rcases h4' with h4' | h4' | h4' <;>
   simp -implicitDefEqProofs (disch:=omega) [N7,s1,s2,h3,h5]
 ·rw[e2] at s1;simp -implicitDefEqProofs (disch:=omega) [N7,s1]
theorem Sc.fail_rest (s:Sc) (e p):(s.fail e p).rest=s.rest∧(s.fail e p).pos=s.pos:=by unfold Sc.fail; split <;> exact ⟨rfl,rfl⟩
theorem Sc.next_rest (s:Sc):s.next.2.rest=s.rest∧s.next.2.pos=s.pos:=by
 unfold Sc.next;split
 ·exact ⟨rfl,rfl⟩
 ·split
  ·exact s.fail_rest _ _
  ·exact ⟨rfl,rfl⟩
theorem Sc.next_same (s:Sc) (h:0≤s.next.1):s.next.2=s∧s.rest≠[]:=by
 unfold Sc.next at *;split
 ·rename_i h0; rw[if_pos h0] at h; exact absurd h (by simp)
 ·rename_i h0;split
  ·rename_i h1; rw[if_neg h0,if_pos h1] at h; exact absurd h (by simp)
  ·exact ⟨rfl,h0⟩
theorem Sc.next_ok {s:Sc} (h:s.ok):s.next.2.ok:=by
 have:=s.next_rest;unfold Sc.ok at *;rw[this.1,this.2];exact h
theorem Sc.next_le (s:Sc):-1≤s.next.1∧s.next.1≤1114111:=by
 unfold Sc.next;split
 ·simp
 ·rename_i h0;have:=ZF s.rest h0
  split <;> simp only[] <;> omega
theorem cls_le (c:Int):0≤Rf.cls c∧Rf.cls c≤6:=by
 unfold Rf.cls
 (repeat' split) <;> omega
theorem Sc.cls_le (s:Sc):-1≤s.cls.1∧s.cls.1≤6:=by
 have:=Rf.cls_le s.next.1;unfold Sc.cls
 split <;> simp only[] <;> omega
theorem Sc.cls_ok {s:Sc} (h:s.ok):s.cls.2.ok:=by
 unfold Sc.cls
 split <;> exact Sc.next_ok h
theorem Sc.cls_rest (s:Sc):s.cls.2.rest=s.rest∧s.cls.2.pos=s.pos:=by
 unfold Sc.cls
 split <;> exact s.next_rest
theorem Sc.cls_same (s:Sc) (h:0≤s.cls.1):s.cls.2=s∧s.rest≠[]:=by
 unfold Sc.cls at *
 by_cases h0:s.next.1 < 0
 ·rw[if_pos h0] at h; exact absurd h (by simp)
 ·rw[if_neg h0]; exact s.next_same (by omega)
theorem T8 {s:List UInt8} (h:s≠[]):wU s=dec s 0:=by
 unfold wU;rw[if_neg];intro e;exact h (List.eq_nil_of_length_eq_zero e)
theorem Sc.pass_len {s:Sc} (h:s.rest≠[]):s.pass.rest.length < s.rest.length:=by
 have:=ZF s.rest h;unfold Sc.pass;simp only[T8 h,List.length_drop];omega
theorem Pl.small_le {p:Pl} {m n:Nat} (h:p.small n) (hm:m≤n):p.small m:=by unfold Pl.small at *; omega
theorem Sc.pass_ok {s:Sc} (h:s.ok) (hr:s.rest≠[]):s.pass.ok:=by
 have hl:=Sc.pass_len hr;refine ⟨by have:=h.1; omega,?_⟩;obtain ⟨n,hn⟩:∃ n,s.rest.length=n + 1:=⟨s.rest.length - 1,by omega⟩;have h2:=h.2;rw[hn] at h2;exact Pl.small_le (qhx _ h2) (by omega)
theorem Sc.fail_ok {s:Sc} (h:s.ok) (e p):(s.fail e p).ok:=by
 have:=s.fail_rest e p;unfold Sc.ok at *;rw[this.1,this.2];exact h
theorem Sc.early_ok {s:Sc} (h:s.ok) (e p):(s.early e p).ok:=h
theorem ZH {s:Sc} (h:s.ok):d6 T0 X0 Xd [.ptr (.b 0) 0 0] [s.obj]=some (.ret [.d (.int .i64 s.cls.1)] [s.cls.2.obj]):=by
 rw[c9 (af:=P4) rfl rfl rfl];have s1:=QF h;have h1:=s.next_le;unfold Sc.cls;simp only[Sc.obj,Sc.cs] at s1 ⊢
 by_cases h0:s.next.1 < 0
 ·simp -implicitDefEqProofs (disch:=omega) [P4,s1]
 ·simp -implicitDefEqProofs (disch:=omega) [P4,s1,qzt]
theorem QB {s:Sc} (h:s.ok) (hr:s.rest≠[]):d6 T0 X0 XY [.ptr (.b 0) 0 0] [s.obj]=some (.ret [] [s.pass.obj]):=by
 rw[c9 (af:=qS) rfl rfl rfl];have h1:=h.1;have h2:=h.2;have hp:0 < s.rest.length:=List.length_pos_iff.2 hr;have d1:=ZF s.rest hr;have s1:=WX s.rest (by omega);rw[T8 hr] at s1;have s2:=qnm (p:=s.pos) (n:=0) (dec s.rest 0).1 (Pl.small_le h2 hp);simp only[Sc.obj,Sc.cs,Sc.pass,T8 hr,Pl.cs] at *;simp -implicitDefEqProofs (disch:=omega) [qS,s1,s2];rw[List.take_of_length_le (by simp)]
def ZX:Nat→Sc→Sc
 | 0,s=>s
 | f + 1,s=>if 0≤s.next.1∧s.next.1≠10 then ZX f s.pass else s.next.2
theorem Yd:∀ f {s:Sc},s.ok→(ZX f s).ok∧(ZX f s).rest.length≤s.rest.length
 | 0,s,h=>⟨h,Nat.le_refl _⟩
 | f + 1,s,h=>by
   unfold ZX;split
   ·rename_i hc;have hr:=(s.next_same hc.1).2;have hp:=Sc.pass_len hr;have:=Yd f (Sc.pass_ok h hr);exact ⟨this.1,by omega⟩
   ·exact ⟨Sc.next_ok h,by rw[s.next_rest.1]; exact Nat.le_refl _⟩
theorem qud:∀ f {s:Sc},s.ok→s.rest.length < f→
 j6 T0 X0 1 P8 (some (.nrm,⟨[(0,.ptr (.b 0) 0 0),(2,.d (.int .i64 s.next.1))],[s.next.2.obj]⟩))=some (.exit 3,⟨[(0,.ptr (.b 0) 0 0)],[(ZX f s).obj]⟩):=by
 intro f
 induction f with
 | zero=>intro s _ h; omega
 | succ f ih=>
   intro s h hf;rw[d5 (l:=P8) rfl];have hl:=s.next_le;unfold ZX
   by_cases hc:0≤s.next.1∧s.next.1≠10
   ·rw[if_pos hc];obtain ⟨e,hr⟩:=s.next_same hc.1;have hp:=Sc.pass_len hr;have s1:=QB h hr;have s2:=QF (Sc.pass_ok h hr);have s3:=ih (s:=s.pass) (Sc.pass_ok h hr) (by omega);rw[e];simp only[Sc.obj,Sc.cs] at s1 s2 s3 ⊢;simp -implicitDefEqProofs (disch:=omega) [J2,s1,s2,s3]
   ·rw[if_neg hc];simp only[Sc.obj,Sc.cs]
    by_cases h0:s.next.1 < 0
    ·simp -implicitDefEqProofs (disch:=omega) [J2]
    ·simp -implicitDefEqProofs (disch:=omega) [J2]
def R1:Nat→Sc→Sc
 | 0,s=>s
 | f + 1,s=>if s.cls.1=1 then R1 f s.pass else if s.cls.1=6 then R1 f (ZX (s.rest.length + 1) s) else s.cls.2
theorem qyv {s:Sc} (h:s.ok) (hc:s.cls.1=6):(ZX (s.rest.length + 1) s).rest.length < s.rest.length:=by
 unfold Sc.cls at hc
 have h0:¬ s.next.1 < 0:=by intro h0; rw[if_pos h0] at hc; exact absurd hc (by simp)
 rw[if_neg h0] at hc;simp only[] at hc
 have h10:s.next.1≠10:=by
  intro e;rw[e] at hc;exact absurd hc (by decide)
 obtain ⟨_,hr⟩:=s.next_same (by omega);unfold ZX;rw[if_pos ⟨by omega,h10⟩];have:=(Yd s.rest.length (Sc.pass_ok h hr)).2;have:=Sc.pass_len hr;omega
theorem xl:∀ f {s:Sc},s.ok→(R1 f s).ok∧(R1 f s).rest.length≤s.rest.length
 | 0,s,h=>⟨h,Nat.le_refl _⟩
 | f + 1,s,h=>by
   unfold R1;split
   ·rename_i hc;have hr:=(s.cls_same (by omega)).2;have hp:=Sc.pass_len hr;have:=xl f (Sc.pass_ok h hr);exact ⟨this.1,by omega⟩
   ·split
    ·rename_i hc;have h1:=Yd (s.rest.length + 1) h;have h2:=xl f h1.1;exact ⟨h2.1,by omega⟩
    ·exact ⟨Sc.cls_ok h,by rw[s.cls_rest.1]; exact Nat.le_refl _⟩
theorem qnj:∀ f {s:Sc},s.ok→s.rest.length < f→
 j6 T0 X0 1 P7 (some (.nrm,⟨[(0,.ptr (.b 0) 0 0)],[s.obj]⟩))=some (.ret,⟨[(0,.ptr (.b 0) 0 0),(9,.d (.bool false))],[(R1 f s).obj]⟩):=by
 intro f
 induction f with
 | zero=>intro s _ h; omega
 | succ f ih=>
   intro s h hf;rw[d5 (l:=P7) rfl];have hl:=s.cls_le;have s0:=ZH h;unfold R1
   by_cases hc:s.cls.1=1
   ·rw[if_pos hc];obtain ⟨e,hr⟩:=s.cls_same (by omega);have hp:=Sc.pass_len hr;have s1:=QB h hr;have s3:=ih (s:=s.pass) (Sc.pass_ok h hr) (by omega);rw[e] at s0;simp only[Sc.obj,Sc.cs] at s0 s1 s3 ⊢;simp -implicitDefEqProofs (disch:=omega) [J1,s0,s1,s3]
   ·rw[if_neg hc]
    by_cases hc:s.cls.1=6
    ·rw[if_pos hc];obtain ⟨e,hr⟩:=s.cls_same (by omega);have hp:=qyv h hc;have s1:=QF h;have s2:=qud (s.rest.length + 1) h (by omega);have s3:=ih (Yd (s.rest.length + 1) h).1 (by omega);rw[e] at s0;simp only[Sc.obj,Sc.cs] at s0 s1 s2 s3 ⊢;simp -implicitDefEqProofs (disch:=omega) [J1,s0,s1,s2,s3]
    ·rw[if_neg hc];simp only[Sc.obj,Sc.cs] at s0 ⊢;simp -implicitDefEqProofs (disch:=omega) [J1,s0]
def Sc.blanks (s:Sc):Sc:=R1 (s.rest.length + 1) s
theorem qni {s:Sc} (h:s.ok):d6 T0 X0 ZB [.ptr (.b 0) 0 0] [s.obj]=some (.ret [] [s.blanks.obj]):=by
 rw[c9 (af:=W9) rfl rfl rfl];have s1:=qnj (s.rest.length + 1) h (by omega);simp only[Sc.obj,Sc.cs,Sc.blanks] at s1 ⊢;simp -implicitDefEqProofs (disch:=omega) [W9,s1]
def x7 (c:Int):Bool:=c == 2 || c == 3 || c == 4
def z8 (c:Int):Bool:=c == 3
theorem qhq (c:Int):d6 T0 X0 L3 [.d (.int .i64 c)] []=some (.ret [.d (.bool (x7 c))] []):=by
 rw[c9 (af:=L5) rfl rfl rfl]
 by_cases h:c=2∨c=3∨c=4
 ·rcases h with rfl | rfl | rfl <;> simp -implicitDefEqProofs (disch:=omega) [L5,x7]
 ·simp -implicitDefEqProofs (disch:=omega) [L5,x7]
theorem qhp (c:Int):d6 T0 X0 L2 [.d (.int .i64 c)] []=some (.ret [.d (.bool (z8 c))] []):=by
 rw[c9 (af:=U5) rfl rfl rfl];simp -implicitDefEqProofs (disch:=omega) [U5,z8]
def I2 (p:Int→Bool):Nat→Sc→Sc
 | 0,s=>s
 | f + 1,s=>if 0≤s.cls.1∧p s.cls.1=true then I2 p f s.pass else s.cls.2
theorem Qq (p:Int→Bool):∀ f {s:Sc},s.ok→(I2 p f s).ok∧(I2 p f s).rest.length≤s.rest.length
 | 0,s,h=>⟨h,Nat.le_refl _⟩
 | f + 1,s,h=>by
   unfold I2;split
   ·rename_i hc;have hr:=(s.cls_same (by omega)).2;have hp:=Sc.pass_len hr;have:=Qq p f (Sc.pass_ok h hr);exact ⟨this.1,by omega⟩
   ·exact ⟨Sc.cls_ok h,by rw[s.cls_rest.1]; exact Nat.le_refl _⟩
section
variable {p:Int→Bool} {g:FuncId} (hg:∀ c,d6 T0 X0 g [.d (.int .i64 c)] []=some (.ret [.d (.bool (p c))] [])) (hb:g < fB)
include hg hb
theorem qn5 (from_:List UInt8) (hf:from_.length≤4096):∀ f {s:Sc},s.ok→s.rest.length < f→
 j6 T0 X0 1 S5 (some (.nrm,⟨[(0,.ptr (.b 0) 0 0),(1,.d (.fn g [])),(5,.d (.str from_)),(6,.d (.int .i64 s.cls.1))],[s.cls.2.obj]⟩))=some (.exit 0,⟨[(0,.ptr (.b 0) 0 0),(5,.d (.str from_))],[(I2 p f s).obj]⟩):=by
 intro f
 induction f with
 | zero=>intro s _ h; omega
 | succ f ih=>
   intro s h hf;rw[d5 (l:=S5) rfl];have hl:=s.cls_le;unfold I2
   by_cases h0:0≤s.cls.1
   ·obtain ⟨e,hr⟩:=s.cls_same h0;have hg1:=hg s.cls.1;cases hp:p s.cls.1
    ·rw[if_neg (by simp)];rw[hp] at hg1;simp only[Sc.obj,Sc.cs];simp -implicitDefEqProofs (disch:=omega) [K3,hg1,qr6 hb,qgr hb]
    ·rw[if_pos ⟨h0,rfl⟩];rw[hp] at hg1;have hp:=Sc.pass_len hr;have s1:=QB h hr;have s2:=ZH (Sc.pass_ok h hr);have s3:=ih (s:=s.pass) (Sc.pass_ok h hr) (by omega);rw[e];simp only[Sc.obj,Sc.cs] at s1 s2 s3 ⊢;simp -implicitDefEqProofs (disch:=omega) [K3,hg1,s1,s2,s3,qr6 hb,qgr hb]
   ·rw[if_neg (fun x=>h0 x.1)];simp only[Sc.obj,Sc.cs];simp -implicitDefEqProofs (disch:=omega) [K3]
theorem qbd {s:Sc} (h:s.ok):d6 T0 X0 Y6 [.ptr (.b 0) 0 0,.d (.fn g [])] [s.obj] =
 some (.ret [.d (.str (s.rest.take (s.rest.length - (I2 p (s.rest.length + 1) s).rest.length)))] [(I2 p (s.rest.length + 1) s).obj]):=by
 rw[c9 (af:=Z2) rfl rfl rfl];have h1:=h.1;have s1:=qn5 hg hb s.rest h.1 (s.rest.length + 1) h (by omega);have s2:=ZH h;have hw:=(Qq p (s.rest.length + 1) h).2;have hr:=s.cls_rest.1;simp only[Sc.obj,Sc.cs] at s1 s2 ⊢;simp -implicitDefEqProofs (disch:=omega) [Z2,s1,s2]
end
def cmp (a b:Int):Int:=if a < b then -1 else if b < a then 1 else 0
theorem qzs (xs ys:List Int) (hs:xs.length≤1099511627776) (hl:ys.length=xs.length) (hx:n9 xs) (hy:n9 ys):∀ k,k≤xs.length→
 j6 T0 X0 0 jf (some (.nrm,⟨[(0,.d (.sl (L xs))),(1,.d (.sl (L ys))),(5,.d (.int .i64 ((k:Int) - 1)))],[]⟩)) =
  if nv (xs.take k) < nv (ys.take k) then some (.ret,⟨[(4,.d (.int .i64 (-1)))],[]⟩) else if nv (ys.take k) < nv (xs.take k) then some (.ret,⟨[(4,.d (.int .i64 1))],[]⟩) else some (.exit 0,⟨[],[]⟩):=by
 intro k
 induction k with
 | zero=>
   intro h;rw[d5 (l:=jf) rfl];simp -implicitDefEqProofs (disch:=omega) [qI,nv]
 | succ k ih=>
   intro h;rw[d5 (l:=jf) rfl];rw[qV (xs:=xs) (by omega),qV (xs:=ys) (by omega)];obtain ⟨b1,b2⟩:=d8 (hx.take k);obtain ⟨b3,b4⟩:=d8 (hy.take k);rw[List.length_take,Nat.min_eq_left (by omega)] at b2 b4;have hp:=T4 k;have c1:=hx.nth k;have c2:=hy.nth k;rcases Int.lt_trichotomy (nth xs k) (nth ys k) with hlt | heq | hgt
   ·have m:pw k * (nth xs k + 1)≤pw k * nth ys k:=Int.mul_le_mul_of_nonneg_left (by omega) (by omega);rw[Int.mul_add,Int.mul_one] at m;rw[if_pos (by omega)];simp -implicitDefEqProofs (disch:=omega) [qI]
   ·rw[heq]
    have e1:(nv (xs.take k) + pw k * nth ys k < nv (ys.take k) + pw k * nth ys k)=(nv (xs.take k) < nv (ys.take k)):=by apply propext; omega
    have e2:(nv (ys.take k) + pw k * nth ys k < nv (xs.take k) + pw k * nth ys k)=(nv (ys.take k) < nv (xs.take k)):=by apply propext; omega
    simp only[e1,e2];rw[← ih (by omega)];simp -implicitDefEqProofs (disch:=omega) [qI,heq]
   ·have m:pw k * (nth ys k + 1)≤pw k * nth xs k:=Int.mul_le_mul_of_nonneg_left (by omega) (by omega);rw[Int.mul_add,Int.mul_one] at m;rw[if_neg (by omega),if_pos (by omega)];simp -implicitDefEqProofs (disch:=omega) [qI]
theorem Jw {xs ys:List Int} (hy:n9 ys) (hc:Can xs) (h:ys.length < xs.length):nv ys < nv xs:=by
 have h1:=(d8 hy).2;rcases hc with hc | hc
 ·rw[hc] at h; simp at h
 ·have:=Qz (show ys.length≤xs.length - 1 by omega);omega
theorem qm8 {xs ys:List Int} (hx:n9 xs) (hy:n9 ys) (hs:xs.length≤1099511627776) (hs':ys.length≤1099511627776) :
 d6 T0 X0 qmo [.d (.sl (L xs)),.d (.sl (L ys))] []=some (.ret [.d (.int .i64 (cmp (nv xs) (nv ys)))] []):=by
 rw[c9 (af:=qJ) rfl rfl rfl];have h1:=o9 (d8 hx).1;have h2:=o9 (d8 hy).1;have l1:(d7 (nv xs)).length≤xs.length:=o6 (d8 hx).1 (d8 hx).2;have l2:(d7 (nv ys)).length≤ys.length:=o6 (d8 hy).1 (d8 hy).2;have g1:=g8 (nv xs);have g2:=g8 (nv ys);have c1:=Q1 (nv xs);have c2:=Q1 (nv ys);generalize ha:d7 (nv xs)=c8 at *;generalize hb:d7 (nv ys)=bs at *;rw[← h1,← h2];rcases Nat.lt_trichotomy c8.length bs.length with h | h | h
 ·have:=Jw g1 c2 h;simp -implicitDefEqProofs (disch:=omega) [qJ,n0 hx hs,n0 hy hs',ha,hb,cmp]
 ·have hloop:=qzs c8 bs (by omega) h.symm g1 g2 c8.length (Nat.le_refl _);rw[List.take_length,h,List.take_length] at hloop;unfold cmp;split at hloop
  ·rename_i hc;rw[if_pos hc];simp -implicitDefEqProofs (disch:=omega) [qJ,n0 hx hs,n0 hy hs',ha,hb,h,hloop]
  ·rename_i hc;rw[if_neg hc];split at hloop
   ·rename_i hc2;rw[if_pos hc2];simp -implicitDefEqProofs (disch:=omega) [qJ,n0 hx hs,n0 hy hs',ha,hb,h,hloop]
   ·rename_i hc2;rw[if_neg hc2];simp -implicitDefEqProofs (disch:=omega) [qJ,n0 hx hs,n0 hy hs',ha,hb,h,hloop]
 ·have:=Jw g2 c1 h;simp -implicitDefEqProofs (disch:=omega) [qJ,n0 hx hs,n0 hy hs',ha,hb,cmp]
theorem xN {xs:List Int} {i:Nat} (h:xs.length≤i):nth xs i=0:=by simp[nth,List.getD_eq_getElem?_getD,List.getElem?_eq_none h]
theorem C9 (xs:List Int) (i:Nat):nv (xs.take (i + 1))=nv (xs.take i) + pw i * nth xs i:=by
 by_cases h:i < xs.length
 ·exact qV h
 ·rw[List.take_of_length_le (by omega),List.take_of_length_le (by omega),xN (by omega)]; simp
theorem xI (i:Nat) (c:Int):pw i * (c % 4294967296) + pw (i + 1) * (c / 4294967296)=pw i * c:=by
 have h:c=c % 4294967296 + 4294967296 * (c / 4294967296):=by omega
 have e:pw i * c=pw i * (c % 4294967296 + 4294967296 * (c / 4294967296)):=by rw[← h]
 rw[e,Int.mul_add,pw]
 congr 1
 rw[Int.mul_comm 4294967296 (pw i),Int.mul_assoc]
theorem S7 {xs:List Int} {k:Nat} (h:k < xs.length) (y:Int) (j:Nat):nth (xs.set k y) j=if j=k then y else nth xs j:=by
 unfold nth;simp only[List.getD_eq_getElem?_getD,List.getElem?_set]
 by_cases e:k=j
 ·subst e; simp[h]
 ·rw[if_neg e,if_neg (Ne.symm e)]
theorem Zm:∀ {xs:List Int} {k:Nat},k < xs.length→∀ y,nv (xs.set k y)=nv xs + pw k * (y - nth xs k)
 | x :: xs,0,_,y=>by simp only[List.set_cons_zero,nv,vZ,pw]; omega
 | x :: xs,k + 1,h,y=>by
   simp only[List.set_cons_succ,nv,Qa,pw,Zm (Nat.lt_of_succ_lt_succ h) y,Int.mul_add,Int.mul_assoc];omega
theorem T5 {xs:List Int} (hg:n9 xs) (k:Nat) {y:Int} (h:0≤y∧y < 4294967296):n9 (xs.set k y):=by
 intro x hx;rcases List.mem_or_eq_of_mem_set hx with hx | hx
 ·exact hg x hx
 ·subst hx; exact h
theorem QH (n:Nat):n9 (List.replicate n 0):=by
 intro x hx;rw[(List.mem_replicate.1 hx).2]
 decide
theorem q73 (n:Nat):nv (List.replicate n 0)=0:=by
 induction n with
 | zero=>rfl
 | succ n ih=>simp only[List.replicate_succ,nv,ih]; rfl
theorem vE {xs:List Int} {i:Nat} (h:i < xs.length) (y:Int):nv ((xs.set i y).take (i + 1))=nv (xs.take i) + pw i * y:=by
 rw[qV (by simpa using h),List.take_set_of_le (Nat.le_refl _),S7 h,if_pos rfl]
theorem qcr {x y:Int} (hx:0≤x∧x < 4294967296) (hy:0≤y∧y < 4294967296):0≤x * y∧x * y≤18446744065119617025:=by
 refine ⟨Int.mul_nonneg hx.1 hy.1,?_⟩;have h1:x * y≤4294967295 * y:=Int.mul_le_mul_of_nonneg_right (by omega) hy.1;omega
theorem qnu (c8 bs:List Int) (hs:c8.length≤1099511627776) (hs':bs.length≤c8.length) (ha:n9 c8) (hb:n9 bs):∀ d i (out:List Int) (c:Int),d + i=c8.length→out.length=i→n9 out→0≤c→c≤1→
 nv out + pw i * c=nv (c8.take i) + nv (bs.take i)→
 ∃ out' c',j6 T0 X0 0 jg (some (.nrm,⟨[(0,.d (.sl (L c8))),(1,.d (.sl (L bs))),(5,.ref (.b 0) ⟨1,4⟩ 0 out.length),(6,.d (.int .u64 c)),(24,.d (.int .i64 c8.length)),(25,.d (.int .i64 i))],[.arr (LV out) ⟨1,4⟩]⟩))=some (.exit 0,⟨[(5,.ref (.b 0) ⟨1,4⟩ 0 out'.length),(6,.d (.int .u64 c'))],[.arr (LV out') ⟨1,4⟩]⟩) ∧
   out'.length=c8.length∧n9 out'∧0≤c'∧c'≤1∧nv out' + pw c8.length * c'=nv c8 + nv (bs.take c8.length):=by
 intro d
 induction d with
 | zero=>
   intro i out c hi ho hg hc hc1 hv
   have:i=c8.length:=by omega
   subst this;refine ⟨out,c,?_,ho,hg,hc,hc1,by rw[hv,List.take_length]⟩;rw[d5 (l:=jg) rfl];simp -implicitDefEqProofs (disch:=omega) [jh]
 | succ d ih=>
   intro i out c hi ho hg hc hc1 hv;have n1:=ha.nth i;have n2:=hb.nth i;rw[d5 (l:=jg) rfl]
   have step:=ih (i + 1) (out++[(c + nth c8 i + nth bs i) % 4294967296]) ((c + nth c8 i + nth bs i) / 4294967296) (by omega) (by simp[ho]) (qc6.2 ⟨hg,T6.2 ⟨by omega,n9.nil⟩⟩) (by omega) (by omega) (by
    rw[C9,C9,qa0,ho];have:=xI i (c + nth c8 i + nth bs i);simp only[Int.mul_add] at this ⊢
    omega)
   obtain ⟨out',c',h1,h2⟩:=step;refine ⟨out',c',?_,h2⟩;rw[← h1]
   by_cases hb':i < bs.length
   ·simp -implicitDefEqProofs (disch:=omega) [jh]
   ·have e:=xN (xs:=bs) (i:=i) (by omega);simp -implicitDefEqProofs (disch:=omega) [jh,e]
theorem qsw {c8 bs out:List Int} {c:Int} (c1:Can c8) (hbn:0≤nv bs) (ho:out.length=c8.length) (hg:n9 out) (hc:c=0∨c=1)
 (hv:nv out + pw c8.length * c=nv c8 + nv bs):d7 (nv c8 + nv bs)=if c=0 then out else out++[1]:=by
 have hbd:=d8 hg;rcases hc with rfl | rfl
 ·have hv':nv c8 + nv bs=nv out:=by omega
  rw[hv',if_pos rfl,← Ye hg];rcases c1 with c1 | c1
  ·left; rw[c1] at ho; exact List.eq_nil_of_length_eq_zero ho
  ·right; rw[ho]; omega
 ·have hv':nv c8 + nv bs=nv (out++[1]):=by rw[qa0,ho]; omega
  rw[hv',if_neg (by decide),← Ye (qc6.2 ⟨hg,T6.2 ⟨by decide,n9.nil⟩⟩)];right;rw[qa0,List.length_append,List.length_singleton,Nat.add_sub_cancel];omega
theorem qz8 {xs ys:List Int} (hx:n9 xs) (hy:n9 ys) (hs:xs.length < 1099511627776) (hs':ys.length < 1099511627776) :
 d6 T0 X0 qmp [.d (.sl (L xs)),.d (.sl (L ys))] []=some (.ret [.d (.sl (L (d7 (nv xs + nv ys))))] []):=by
 rw[c9 (af:=xx) rfl rfl rfl];have h1:=o9 (d8 hx).1;have h2:=o9 (d8 hy).1;have l1:(d7 (nv xs)).length≤xs.length:=o6 (d8 hx).1 (d8 hx).2;have l2:(d7 (nv ys)).length≤ys.length:=o6 (d8 hy).1 (d8 hy).2;have g1:=g8 (nv xs);have g2:=g8 (nv ys);have c1:=Q1 (nv xs);have c2:=Q1 (nv ys);have s1:=n0 hx (by omega);have s2:=n0 hy (by omega);generalize ha:d7 (nv xs)=c8 at *;generalize hb:d7 (nv ys)=bs at *;rw[← h1,← h2];have hn1:=(d8 g1).1;have hn2:=(d8 g2).1
 by_cases hle:c8.length < bs.length
 ·obtain ⟨out,c,hl,ho,hg,hc0,hc1,hv⟩:=qnu bs c8 (by omega) (by omega) g2 g1 bs.length 0 [] 0 (by omega) rfl n9.nil (by omega) (by omega) rfl;rw[List.take_of_length_le (by omega)] at hv;rw[Int.add_comm,qsw c2 hn1 ho hg (by omega) hv];simp only[List.length_nil,qqv,Int.cast_ofNat_Int] at hl
  by_cases hc:c=0
  ·subst hc;simp -implicitDefEqProofs (disch:=omega) [xx,s1,s2,hl]
  ·have hc:c=1:=by omega
   subst hc;simp -implicitDefEqProofs (disch:=omega) [xx,s1,s2,hl]
 ·obtain ⟨out,c,hl,ho,hg,hc0,hc1,hv⟩:=qnu c8 bs (by omega) (by omega) g1 g2 c8.length 0 [] 0 (by omega) rfl n9.nil (by omega) (by omega) rfl;rw[List.take_of_length_le (by omega)] at hv;rw[qsw c1 hn2 ho hg (by omega) hv];simp only[List.length_nil,qqv,Int.cast_ofNat_Int] at hl
  by_cases hc:c=0
  ·subst hc;simp -implicitDefEqProofs (disch:=omega) [xx,s1,s2,hl]
  ·have hc:c=1:=by omega
   subst hc;simp -implicitDefEqProofs (disch:=omega) [xx,s1,s2,hl]
theorem qwg (c8 bs:List Int) (hs:c8.length≤1099511627776) (hs':bs.length≤c8.length) (ha:n9 c8) (hb:n9 bs):∀ d i (out:List Int) (c:Int),d + i=c8.length→out.length=c8.length→n9 out→0≤c→c≤1→
 nv (out.take i) - pw i * c=nv (c8.take i) - nv (bs.take i)→
 ∃ out' c',j6 T0 X0 0 ja (some (.nrm,⟨[(0,.d (.sl (L c8))),(1,.d (.sl (L bs))),(6,.ref (.b 0) ⟨1,4⟩ 0 c8.length),(7,.d (.int .u64 c)),(22,.d (.int .i64 c8.length)),(23,.d (.int .i64 i))],[.arr (LV out) ⟨1,4⟩]⟩))=some (.exit 0,⟨[(6,.ref (.b 0) ⟨1,4⟩ 0 c8.length)],[.arr (LV out') ⟨1,4⟩]⟩) ∧
   out'.length=c8.length∧n9 out'∧0≤c'∧c'≤1∧nv out' - pw c8.length * c'=nv c8 - nv (bs.take c8.length):=by
 intro d
 induction d with
 | zero=>
   intro i out c hi ho hg hc hc1 hv
   have:i=c8.length:=by omega
   subst this;refine ⟨out,c,?_,ho,hg,hc,hc1,by rw[← ho,List.take_length] at hv; rw[ho] at hv; rw[hv,List.take_length]⟩;rw[d5 (l:=ja) rfl];simp -implicitDefEqProofs (disch:=omega) [jc]
 | succ d ih=>
   intro i out c hi ho hg hc hc1 hv;have n1:=ha.nth i;have n2:=hb.nth i;rw[d5 (l:=ja) rfl]
   have step:=ih (i + 1) (out.set i ((nth c8 i - c - nth bs i) % 4294967296)) (-((nth c8 i - c - nth bs i) / 4294967296)) (by omega) (by simp[ho]) (T5 hg _ (by omega)) (by omega) (by omega) (by
    rw[vE (by omega),C9,C9];have:=xI i (nth c8 i - c - nth bs i);simp only[Int.mul_sub,Int.mul_neg] at this ⊢
    omega)
   obtain ⟨out',c',h1,h2⟩:=step;refine ⟨out',c',?_,h2⟩;rw[← h1]
   by_cases hb':i < bs.length
   ·have e2:(nth c8 i - c - nth bs i) % 18446744073709551616 / 9223372036854775808 = -((nth c8 i - c - nth bs i) / 4294967296):=by omega
    simp -implicitDefEqProofs (disch:=omega) [jc,xA,e2]
   ·have e:=xN (xs:=bs) (i:=i) (by omega)
    have e2:(nth c8 i - c) % 18446744073709551616 / 9223372036854775808 = -((nth c8 i - c) / 4294967296):=by omega
    simp -implicitDefEqProofs (disch:=omega) [jc,e,xA,e2]
theorem qkj {xs ys:List Int} (hx:n9 xs) (hy:n9 ys) (hs:xs.length < 1099511627776) (hs':ys.length < 1099511627776) :
 d6 T0 X0 qml [.d (.sl (L xs)),.d (.sl (L ys))] []=some (.ret (if nv xs < nv ys then [.d (.sl []),.d (.bool false)] else [.d (.sl (L (d7 (nv xs - nv ys)))),.d (.bool true)]) []):=by
 rw[c9 (af:=vS) rfl rfl rfl];have h1:=o9 (d8 hx).1;have h2:=o9 (d8 hy).1;have l1:(d7 (nv xs)).length≤xs.length:=o6 (d8 hx).1 (d8 hx).2;have l2:(d7 (nv ys)).length≤ys.length:=o6 (d8 hy).1 (d8 hy).2;have g1:=g8 (nv xs);have g2:=g8 (nv ys);have c1:=Q1 (nv xs);have c2:=Q1 (nv ys);have s1:=n0 hx (by omega);have s2:=n0 hy (by omega);generalize ha:d7 (nv xs)=c8 at *;generalize hb:d7 (nv ys)=bs at *;rw[← h1,← h2];have s3:=qm8 g1 g2 (by omega) (by omega)
 by_cases hlt:nv c8 < nv bs
 ·rw[cmp,if_pos hlt] at s3;simp -implicitDefEqProofs (disch:=omega) [vS,s1,s2,s3]
 ·have hle:bs.length≤c8.length:=by
   by_cases h:bs.length≤c8.length
   ·exact h
   ·have:=Jw g1 c2 (show c8.length < bs.length by omega);omega
  have h3:¬ cmp (nv c8) (nv bs) < 0:=by
   unfold cmp;rw[if_neg hlt]
   split <;> omega
  obtain ⟨out,c,hl,ho,hg,hc0,hc1,hv⟩:=qwg c8 bs (by omega) (by omega) g1 g2 c8.length 0 (List.replicate c8.length 0) 0 (by omega) (by simp) (QH _) (by omega) (by omega) (by simp[nv]);rw[List.take_of_length_le (by omega)] at hv;have hb1:=d8 hg;rw[ho] at hb1
  have hc:c=0:=by
   rcases (show c=0∨c=1 by omega) with h | h
   ·exact h
   ·subst h; omega
  subst hc;have s4:=n0 hg (by omega)
  have hv':nv out=nv c8 - nv bs:=by omega
  rw[hv'] at s4;simp only[Int.cast_ofNat_Int] at hl;have ht:out.take c8.length=out:=List.take_of_length_le (by omega);simp -implicitDefEqProofs (disch:=omega) [vS,s1,s2,s3,s4,hl,ht]
theorem q8g (c8 out0 bs:List Int) (i:Nat) (x:Int) (hs:out0.length≤1099511627776) (hi:i + bs.length < out0.length) (hx:0≤x∧x < 4294967296) (hb:n9 bs):∀ d j (out:List Int) (c:Int),d + j=bs.length→out.length=out0.length→n9 out→0≤c→c < 4294967296→
 (∀ k,i + bs.length≤k→nth out k=nth out0 k)→
 nv out + pw (i + j) * c=nv out0 + pw i * (x * nv (bs.take j))→
 ∃ out' c',j6 T0 X0 0 je (some (.nrm,⟨[(1,.d (.sl (L bs))),(5,.ref (.b 0) ⟨1,4⟩ 0 out0.length),(6,.d (.int .i64 i)),(7,.d (.int .u32 x)),(8,.d (.int .u64 c)),(29,.d (.sl (L c8))),(30,.d (.int .i64 c8.length)),(31,.d (.int .i64 i)),(36,.d (.sl (L bs))),(37,.d (.int .i64 bs.length)),(38,.d (.int .i64 j))],[.arr (LV out) ⟨1,4⟩]⟩)) =
  some (.exit 2,⟨[(1,.d (.sl (L bs))),(5,.ref (.b 0) ⟨1,4⟩ 0 out0.length),(6,.d (.int .i64 i)),(8,.d (.int .u64 c')),(29,.d (.sl (L c8))),(30,.d (.int .i64 c8.length)),(31,.d (.int .i64 i))],[.arr (LV out') ⟨1,4⟩]⟩) ∧
   out'.length=out0.length∧n9 out'∧0≤c'∧c' < 4294967296∧(∀ k,i + bs.length≤k→nth out' k=nth out0 k)∧nv out' + pw (i + bs.length) * c'=nv out0 + pw i * (x * nv bs):=by
 intro d
 induction d with
 | zero=>
   intro j out c hd ho hg hc hc1 hk hv
   have:j=bs.length:=by omega
   subst this;refine ⟨out,c,?_,ho,hg,hc,hc1,hk,by rw[hv,List.take_length]⟩;rw[d5 (l:=je) rfl];simp -implicitDefEqProofs (disch:=omega) [ve]
 | succ d ih=>
   intro j out c hd ho hg hc hc1 hk hv;have n1:=hb.nth j;have n2:=hg.nth (i + j);have n3:=qcr hx n1
   have hm:0≤c + (x * nth bs j + nth out (i + j))∧c + (x * nth bs j + nth out (i + j))≤18446744073709551615:=by omega
   rw[d5 (l:=je) rfl]
   have step:=ih (j + 1) (out.set (i + j) ((c + (x * nth bs j + nth out (i + j))) % 4294967296)) ((c + (x * nth bs j + nth out (i + j))) / 4294967296) (by omega) (by simp[ho]) (T5 hg _ (by omega)) (by omega) (by omega) (by
    intro k hk';rw[S7 (by omega),if_neg (by omega)]
    exact hk k hk') (by
    rw[C9,Zm (by omega)];have e1:=xI (i + j) (c + (x * nth bs j + nth out (i + j)))
    have e2:pw i * (x * (nv (bs.take j) + pw j * nth bs j))=pw i * (x * nv (bs.take j)) + pw (i + j) * (x * nth bs j):=by
     rw[Zf j i,Int.mul_add,Int.mul_add,← Int.mul_assoc x (pw j),Int.mul_comm x (pw j)];simp only[Int.mul_assoc]
    rw[e2,← Nat.add_assoc];simp only[Int.mul_sub,Int.mul_add] at e1 ⊢
    omega)
   obtain ⟨out',c',h1,h2⟩:=step;refine ⟨out',c',?_,h2⟩;rw[← h1];simp -implicitDefEqProofs (disch:=omega) [ve]
theorem q1x (c8 bs:List Int) (hs:c8.length + bs.length≤1099511627776) (ha:n9 c8) (hb:n9 bs):∀ d i (out:List Int),d + i=c8.length→out.length=c8.length + bs.length→n9 out→
 (∀ k,i + bs.length≤k→nth out k=0)→nv out=nv (c8.take i) * nv bs→
 ∃ out',j6 T0 X0 0 jd (some (.nrm,⟨[(1,.d (.sl (L bs))),(5,.ref (.b 0) ⟨1,4⟩ 0 out.length),(29,.d (.sl (L c8))),(30,.d (.int .i64 c8.length)),(31,.d (.int .i64 i))],[.arr (LV out) ⟨1,4⟩]⟩)) =
  some (.exit 0,⟨[(5,.ref (.b 0) ⟨1,4⟩ 0 out'.length)],[.arr (LV out') ⟨1,4⟩]⟩) ∧
   out'.length=c8.length + bs.length∧n9 out'∧nv out'=nv c8 * nv bs:=by
 intro d
 induction d with
 | zero=>
   intro i out hd ho hg hk hv
   have:i=c8.length:=by omega
   subst this;refine ⟨out,?_,ho,hg,by rw[hv,List.take_length]⟩;rw[d5 (l:=jd) rfl];simp -implicitDefEqProofs (disch:=omega) [wZ]
 | succ d ih=>
   intro i out hd ho hg hk hv;have n1:=ha.nth i;rw[d5 (l:=jd) rfl];obtain ⟨out1,c,h1,ho1,hg1,hc0,hc1,hk1,hv1⟩:=q8g c8 out bs i (nth c8 i) (by omega) (by omega) n1 hb bs.length 0 out 0 (by omega) rfl hg (by omega) (by omega) (fun _ _=>rfl) (by simp[nv])
   have step:=ih (i + 1) (out1.set (i + bs.length) c) (by omega) (by simp[ho1,ho]) (T5 hg1 _ (by omega)) (by
    intro k hk';rw[S7 (by omega),if_neg (by omega),hk1 k (by omega)]
    exact hk k (by omega)) (by
    rw[C9,Zm (by omega),hk1 _ (Nat.le_refl _),hk _ (Nat.le_refl _),Int.sub_zero,Int.add_mul,Int.mul_assoc,← hv]
    omega)
   obtain ⟨out',h3,h4⟩:=step;refine ⟨out',?_,h4⟩;rw[← h3];simp only[Int.cast_ofNat_Int] at h1;simp -implicitDefEqProofs (disch:=omega) [wZ,h1,ho1]
theorem qls {xs ys:List Int} (hx:n9 xs) (hy:n9 ys) (hs:xs.length + ys.length < 1099511627776) :
 d6 T0 X0 qmm [.d (.sl (L xs)),.d (.sl (L ys))] []=some (.ret [.d (.sl (L (d7 (nv xs * nv ys))))] []):=by
 rw[c9 (af:=ku) rfl rfl rfl];have h1:=o9 (d8 hx).1;have h2:=o9 (d8 hy).1;have l1:(d7 (nv xs)).length≤xs.length:=o6 (d8 hx).1 (d8 hx).2;have l2:(d7 (nv ys)).length≤ys.length:=o6 (d8 hy).1 (d8 hy).2;have g1:=g8 (nv xs);have g2:=g8 (nv ys);have s1:=n0 hx (by omega);have s2:=n0 hy (by omega);generalize ha:d7 (nv xs)=c8 at *;generalize hb:d7 (nv ys)=bs at *;rw[← h1,← h2]
 by_cases za:c8.length=0
 ·have za':=List.eq_nil_of_length_eq_zero za;rw[show nv c8=0 by rw[za']; rfl,Int.zero_mul];simp -implicitDefEqProofs (disch:=omega) [ku,s1,s2,-List.length_eq_zero_iff]
 by_cases zb:bs.length=0
 ·have zb':=List.eq_nil_of_length_eq_zero zb;rw[show nv bs=0 by rw[zb']; rfl,Int.mul_zero];simp -implicitDefEqProofs (disch:=omega) [ku,s1,s2,-List.length_eq_zero_iff]
 obtain ⟨out,hl,ho,hg,hv⟩:=q1x c8 bs (by omega) g1 g2 c8.length 0 (List.replicate (c8.length + bs.length) 0) (by omega) (by simp) (QH _) (by intro k _; simp[nth,List.getD_eq_getElem?_getD,List.getElem?_replicate]; split <;> rfl) (by simp[nv,q73]);have s4:=n0 hg (by omega);rw[hv] at s4;simp only[Int.cast_ofNat_Int,List.length_replicate] at hl;simp -implicitDefEqProofs (disch:=omega) [ku,s1,s2,s4,hl,-List.length_eq_zero_iff]
def xz (n:Int):Int:=if n≤0 then 0 else Nat.log2 n.toNat + 1
theorem qyn {n k:Nat} (h:2 ^ k≤n):Nat.log2 n=k + Nat.log2 (n / 2 ^ k):=by
 have hp:0 < 2 ^ k:=Nat.two_pow_pos k
 have hq:n / 2 ^ k≠0:=by
  have:=Nat.div_pos h hp;omega
 apply (Nat.log2_eq_iff (by omega)).2;have h1:=(Nat.log2_eq_iff hq).1 rfl;generalize Nat.log2 (n / 2 ^ k)=m at h1;rw[Nat.pow_add,show k + m + 1=k + (m + 1) from rfl,Nat.pow_add];refine ⟨?_,?_⟩
 ·exact Nat.le_trans (Nat.mul_le_mul_left _ h1.1) (Nat.mul_div_le n _)
 ·rw[Nat.mul_comm]; exact (Nat.div_lt_iff_lt_mul hp).1 h1.2
theorem qd6 {n:Int} {k:Nat} {p:Int} (hp:p=2 ^ k) (h:p≤n):xz n=k + xz (n / p):=by
 subst hp;obtain ⟨m,rfl⟩:=Int.eq_ofNat_of_zero_le (Int.le_trans (by have:=Int.pow_pos (n:=2) (m:=k) (by decide); omega) h)
 have h':2 ^ k≤m:=by exact_mod_cast h
 have hp:0 < 2 ^ k:=Nat.two_pow_pos k;have hq:=Nat.div_pos h' hp
 have e:((m:Int) / 2 ^ k)=((m / 2 ^ k:Nat):Int):=by simp
 unfold xz;rw[e,if_neg (by omega),if_neg (by omega),Int.toNat_natCast,Int.toNat_natCast,qyn h'];omega
theorem len8:∀ i:Fin 256,([0,1,2,2,3,3,3,3,4,4,4,4,4,4,4,4]++List.replicate 16 5++List.replicate 32 6++List.replicate 64 7++List.replicate 128 8:List UInt8)[i.val]? = some (UInt8.ofNat (if i.val=0 then 0 else Nat.log2 i.val + 1)):=by decide +kernel
theorem zix {tab:List UInt8} (ht:tab=[0,1,2,2,3,3,3,3,4,4,4,4,4,4,4,4]++List.replicate 16 5++List.replicate 32 6++List.replicate 64 7++List.replicate 128 8) {n:Int} (h:0≤n∧n < 256):tab[n.toNat]? = some (UInt8.ofNat (xz n).toNat):=by
 have:=len8 ⟨n.toNat,by omega⟩;rw[ht,this];unfold xz
 by_cases h0:n=0
 ·subst h0; rfl
 ·rw[if_neg (by show ¬ n.toNat=0; omega),if_neg (by omega)]
  congr 1
theorem qrp {n:Int} (h:0≤n∧n < 256):zf4[n.toNat]? = some (UInt8.ofNat (xz n).toNat):=zix (by decide +kernel) h
theorem V3 (n:Int):0≤xz n:=by unfold xz; split <;> omega
theorem YD {n:Int} {k:Nat} (h:n < 2 ^ k):xz n≤k:=by
 unfold xz;split
 ·omega
 ·have h':n.toNat < 2 ^ k:=by
   have:(n.toNat:Int) < ((2 ^ k:Nat):Int):=by rw[Int.toNat_of_nonneg (by omega)]; exact_mod_cast h
   exact_mod_cast this
  have:=(Nat.log2_lt (by omega)).2 h';omega
theorem qu8 {n:Int} (h:0 < n):(2:Int) ^ ((xz n).toNat - 1)≤n∧n < 2 ^ (xz n).toNat:=by
 unfold xz;rw[if_neg (by omega)];have h1:=(Nat.log2_eq_iff (n:=n.toNat) (by omega)).1 rfl
 have e:((n.toNat.log2:Int) + 1).toNat=n.toNat.log2 + 1:=by omega
 rw[e,Nat.add_sub_cancel];obtain ⟨m,rfl⟩:=Int.eq_ofNat_of_zero_le (Int.le_of_lt h);rw[Int.toNat_natCast] at *;refine ⟨by exact_mod_cast h1.1,by exact_mod_cast h1.2⟩
theorem qcz {x:Int} (h:0≤x∧x < 4294967296):d6 T0 X0 qjl [.d (.int .u32 x)] []=some (.ret [.d (.int .i64 (xz x))] []):=by
 rw[c9 (af:=zm) rfl rfl rfl]
 have b8:∀ {y:Int},0≤y→y < 256→xz y≤8:=fun _ hy=>YD (k:=8) (by omega)
 by_cases h1:65536≤x
 ·have e1:=qd6 (n:=x) (k:=16) (p:=65536) rfl h1
  by_cases h2:256≤x / 65536
  ·have e2:=qd6 (n:=x / 65536) (k:=8) (p:=256) rfl h2;have e3:=b8 (y:=x / 65536 / 256) (by omega) (by omega);have e4:=V3 (x / 65536 / 256);rw[e1,e2];simp -implicitDefEqProofs (disch:=omega) [zm,qrp];omega
  ·have e3:=b8 (y:=x / 65536) (by omega) (by omega);have e4:=V3 (x / 65536);rw[e1];simp -implicitDefEqProofs (disch:=omega) [zm,qrp];omega
 ·by_cases h2:256≤x
  ·have e2:=qd6 (n:=x) (k:=8) (p:=256) rfl h2;have e3:=b8 (y:=x / 256) (by omega) (by omega);have e4:=V3 (x / 256);rw[e2];simp -implicitDefEqProofs (disch:=omega) [zm,qrp];omega
  ·have e3:=b8 (y:=x) (by omega) (by omega);have e4:=V3 x;simp -implicitDefEqProofs (disch:=omega) [zm,qrp];omega
theorem quf {x:Int} (h:0≤x∧x < 4294967296):d6 T0 X0 Xe [.d (.int .u32 x)] []=some (.ret [.d (.int .i64 (32 - xz x))] []):=by
 rw[c9 (af:=Z4) rfl rfl rfl];have e3:=YD (n:=x) (k:=32) (by omega);have e4:=V3 x;have s1:=qcz h;simp -implicitDefEqProofs (disch:=omega) [Z4,s1]
theorem Za {n:Int} (h:0≤n∧n < 18446744073709551616):d6 T0 X0 qe5 [.d (.int .u64 n)] []=some (.ret [.d (.sl (L (d7 n)))] []):=by
 rw[c9 (af:=Ql) rfl rfl rfl];have s1:=n0 (xs:=[n % 4294967296,n / 4294967296]) (T6.2 ⟨by omega,T6.2 ⟨by omega,n9.nil⟩⟩) (by simp)
 have e:nv [n % 4294967296,n / 4294967296]=n:=by simp only[nv]; omega
 rw[e] at s1;simp only[zE,kz] at s1;have w:=JY [n % 4294967296,n / 4294967296];simp only[zE,kz] at w;simp -implicitDefEqProofs (disch:=omega) [Ql,s1,w]
def qx6 (n:Int):Int:=(d7 n).length
theorem Wt {xs:List Int} (hg:n9 xs) (hs:xs.length≤1099511627776):d6 T0 X0 Yt [.d (.sl (L xs))] [] =
 some (.ret [.d (.int .i64 (if nv xs=0 then 0 else 32 * (qx6 (nv xs) - 1) + xz (nth (d7 (nv xs)) ((d7 (nv xs)).length - 1))))] []):=by
 rw[c9 (af:=wh) rfl rfl rfl];have s1:=n0 hg hs;have l1:(d7 (nv xs)).length≤xs.length:=o6 (d8 hg).1 (d8 hg).2
 by_cases h0:nv xs=0
 ·rw[if_pos h0];rw[h0,wM] at s1;simp -implicitDefEqProofs (disch:=omega) [wh,s1]
 ·rw[if_neg h0]
  have hn:(d7 (nv xs)).length≠0:=by
   intro h;exact h0 ((xp (d8 hg).1).1 (List.eq_nil_of_length_eq_zero h))
  have g:=(g8 (nv xs)).nth ((d7 (nv xs)).length - 1);have s2:=qcz g;have e3:=YD (n:=nth (d7 (nv xs)) ((d7 (nv xs)).length - 1)) (k:=32) (by omega);have e4:=V3 (nth (d7 (nv xs)) ((d7 (nv xs)).length - 1));unfold qx6;generalize d7 (nv xs)=c8 at *;simp -implicitDefEqProofs (disch:=omega) [wh,s1,s2,-List.length_eq_zero_iff]
theorem quj (m:Int) (hm:0≤m∧m < 4294967296) (k:Nat) (hk:k≤1099511627776):∀ d i (xs:List Int) (c:Int),d + i=xs.length→xs.length=k→n9 xs→0≤c→c < 4294967296→
 ∃ xs' c',j6 T0 X0 1 zT (some (.nrm,⟨[(0,.ref (.b 0) ⟨1,4⟩ 0 k),(1,.d (.int .u32 m)),(7,.d (.int .u64 c)),(12,.d (.int .i64 k)),(13,.d (.int .i64 i))],[.arr (LV xs) ⟨1,4⟩]⟩))=some (.exit 0,⟨[(0,.ref (.b 0) ⟨1,4⟩ 0 k),(7,.d (.int .u64 c'))],[.arr (LV xs') ⟨1,4⟩]⟩) ∧
   xs'.length=k∧n9 xs'∧0≤c'∧c' < 4294967296∧nv xs' + pw k * c'=nv (xs.take i) + pw i * (c + m * nv (xs.drop i)):=by
 intro d
 induction d with
 | zero=>
   intro i xs c hd hl hg hc hc1
   have:i=k:=by omega
   subst this;refine ⟨xs,c,?_,hl,hg,hc,hc1,?_⟩
   ·rw[d5 (l:=zT) rfl];simp -implicitDefEqProofs (disch:=omega) [kH]
   ·rw[← hl,List.take_length,List.drop_length];simp[nv]
 | succ d ih=>
   intro i xs c hd hl hg hc hc1;have n1:=hg.nth i;have n2:=qcr n1 hm;rw[d5 (l:=zT) rfl];obtain ⟨xs',c',h1,h2,h3,h4,h5,h6⟩:=ih (i + 1) (xs.set i ((c + nth xs i * m) % 4294967296)) ((c + nth xs i * m) / 4294967296) (by simp; omega) (by simp[hl]) (T5 hg _ (by omega)) (by omega) (by omega);refine ⟨xs',c',?_,h2,h3,h4,h5,?_⟩
   ·rw[← h1];simp -implicitDefEqProofs (disch:=omega) [kH]
   ·rw[h6,vE (by omega)]
    have e1:xs.drop i=nth xs i :: xs.drop (i + 1):=by
     rw[List.drop_eq_getElem_cons (by omega)];simp[nth,show i < xs.length by omega]
    have e2:(xs.set i ((c + nth xs i * m) % 4294967296)).drop (i + 1)=xs.drop (i + 1):=by
     rw[List.drop_set_of_lt (by omega)]
    rw[e1,e2,nv];have e3:=xI i (c + nth xs i * m)
    have e4:pw i * (m * (4294967296 * nv (xs.drop (i + 1))))=pw (i + 1) * (m * nv (xs.drop (i + 1))):=by
     rw[pw,Int.mul_left_comm m,← Int.mul_assoc (pw i),Int.mul_comm (pw i)]
    have e5:m * nth xs i=nth xs i * m:=Int.mul_comm ..;simp only[Int.mul_add,e4,e5] at e3 ⊢;omega
theorem qgn {m n:Int} (hm:0≤m∧m < 4294967296) (hn:0≤n∧n < 4294967296) {xs:List Int} (hk:xs.length < 1099511627775) (hg:n9 xs) :
 ∃ xs',n9 xs'∧nv xs'=n + m * nv xs∧((xs'.length=xs.length ∧
 d6 T0 X0 Ys [.ref (.b 0) ⟨1,4⟩ 0 xs.length,.d (.int .u32 m),.d (.int .u32 n)] [.arr (LV xs) ⟨1,4⟩]=some (.ret [.ref (.b 0) ⟨1,4⟩ 0 xs.length] [.arr (LV xs') ⟨1,4⟩])) ∨
 (xs'.length=xs.length + 1∧d6 T0 X0 Ys [.ref (.b 0) ⟨1,4⟩ 0 xs.length,.d (.int .u32 m),.d (.int .u32 n)] [.arr (LV xs) ⟨1,4⟩]=some (.ret [.ref (.b 1) ⟨1,4⟩ 0 (xs.length + 1)] [.dead,.arr (LV xs') ⟨1,4⟩]))):=by
 rw[c9 (af:=wf) rfl rfl rfl];obtain ⟨xs',c',h1,h2,h3,h4,h5,h6⟩:=quj m hm xs.length (by omega) xs.length 0 xs n (by omega) rfl hg hn.1 hn.2;simp only[Int.cast_ofNat_Int,List.take_zero,List.drop_zero,nv,pw,Int.zero_add,Int.one_mul] at h1 h6
 by_cases hc:c'=0
 ·subst hc;refine ⟨xs',h3,by omega,.inl ⟨h2,?_⟩⟩;simp -implicitDefEqProofs (disch:=omega) [wf,h1]
 ·refine ⟨xs'++[c'],qc6.2 ⟨h3,T6.2 ⟨⟨h4,h5⟩,n9.nil⟩⟩,by rw[qa0,h2]; exact h6,.inr ⟨by simp[h2],?_⟩⟩;have ht:xs'.take xs.length=xs':=List.take_of_length_le (by omega);simp -implicitDefEqProofs (disch:=omega) [wf,h1,ht]
theorem Yy {s:List UInt8} {i:Nat} (h:i < s.length):1≤(dec s i).2∧i + (dec s i).2≤s.length∧(dec s i).2≤4∧(dec s i).1≤1114111:=by
 have hsz:(ByteArray.mk s.toArray).size=s.length:=by simp[ByteArray.size]
 have:=qg4 ⟨s.toArray⟩ i (by omega) _ rfl;rw[hsz] at this;exact ⟨this.1,this.2.1,this.2.2.1,this.2.2.2.1⟩
def qdw (s:List UInt8):Nat→Nat→Int→Option Int
 | 0,_,v=>some v
 | f + 1,i,v=>if i < s.length then (if (dec s i).1 < 48∨57 < (dec s i).1 then none else qdw s f (i + (dec s i).2) (10 * v + ((dec s i).1 - 48:Int))) else some v
theorem WZ (s:List UInt8):∀ f i v w,0≤v→qdw s f i v=some w→0≤w
 | 0,_,v,w,h,e=>by cases e; exact h
 | f + 1,i,v,w,h,e=>by
   unfold qdw at e;split at e
   ·split at e
    ·cases e
    ·exact WZ s f _ _ _ (by omega) e
   ·cases e; exact h
theorem qo6 (s:List UInt8) (hs:s.length≤5120):∀ f i (xs:List Int) (n m:Int) (e:List (Nat × V)),s.length - i < f→i≤s.length→n9 xs→xs.length≤i→
 (m=1∨m=10∨m=100∨m=1000∨m=10000∨m=100000∨m=1000000∨m=10000000∨m=100000000)→0≤n→n < m→
 (qdw s f i (nv xs * m + n)=none∧j6 T0 X0 0 zj (some (.nrm,⟨(4,.ref (.b 0) ⟨1,4⟩ 0 xs.length) :: (5,.d (.int .u32 n)) :: (6,.d (.int .u32 m)) :: (20,.iter (.b 1)) :: e,[.arr (LV xs) ⟨1,4⟩,.iter s i]⟩))=some (.ret,⟨[(2,.d (.sl [])),(3,.d (.int .i64 10))],[]⟩)) ∨
 (∃ xs' n' m',qdw s f i (nv xs * m + n)=some (nv xs' * m' + n')∧n9 xs'∧xs'.length≤s.length∧0≤n'∧n' < m'∧m'≤100000000 ∧
  j6 T0 X0 0 zj (some (.nrm,⟨(4,.ref (.b 0) ⟨1,4⟩ 0 xs.length) :: (5,.d (.int .u32 n)) :: (6,.d (.int .u32 m)) :: (20,.iter (.b 1)) :: e,[.arr (LV xs) ⟨1,4⟩,.iter s i]⟩))=some (.exit 0,⟨[(4,.ref (.b 0) ⟨1,4⟩ 0 xs'.length),(5,.d (.int .u32 n')),(6,.d (.int .u32 m'))],[.arr (LV xs') ⟨1,4⟩]⟩)):=by
 intro f
 induction f with
 | zero=>intros; omega
 | succ f ih=>
   intro i xs n m e hf hi hg hx hm hn hnm;rw[d5 (l:=zj) rfl];unfold qdw
   by_cases hlt:i < s.length
   ·rw[if_pos hlt];obtain ⟨d1,d2,d3,d4⟩:=Yy hlt
    by_cases hbad:(dec s i).1 < 48∨57 < (dec s i).1
    ·rw[if_pos hbad];refine .inl ⟨rfl,?_⟩
     rcases hbad with hbad | hbad <;> simp -implicitDefEqProofs (disch:=omega) [J9]
    ·rw[if_neg hbad]
     by_cases hb:m=100000000
     ·subst hb;obtain ⟨xs1,g1,v1,g2⟩:=qgn (m:=1000000000) (n:=10 * n + ((dec s i).1 - 48)) (by omega) (by omega) (xs:=xs) (by omega) hg;have:=ih (i + (dec s i).2) xs1 0 1 [] (by omega) (by omega) g1 (by omega) (by omega) (by omega) (by omega)
      have ev:nv xs1 * 1 + 0=10 * (nv xs * 100000000 + n) + ((dec s i).1 - 48):=by omega
      rw[ev] at this;rcases this with ⟨h1,h2⟩ | ⟨xs',n',m',h1,h2,h3,h4,h5,h6,h7⟩
      ·refine .inl ⟨h1,?_⟩;rw[← h2]
       rcases g2 with ⟨g2,g3⟩ | ⟨g2,g3⟩ <;> rw[g2] <;> simp -implicitDefEqProofs (disch:=omega) [J9,g3]
      ·refine .inr ⟨xs',n',m',h1,h2,h3,h4,h5,h6,?_⟩;rw[← h7]
       rcases g2 with ⟨g2,g3⟩ | ⟨g2,g3⟩ <;> rw[g2] <;> simp -implicitDefEqProofs (disch:=omega) [J9,g3]
     ·have:=ih (i + (dec s i).2) xs (10 * n + ((dec s i).1 - 48)) (10 * m) [(39,.d (.bool false))] (by omega) (by omega) hg (by omega) (by omega) (by omega) (by omega)
      have ev:nv xs * (10 * m) + (10 * n + (((dec s i).1:Int) - 48))=10 * (nv xs * m + n) + ((dec s i).1 - 48):=by
       rw[Int.mul_left_comm,Int.mul_add];omega
      rw[ev] at this;rcases this with ⟨h1,h2⟩ | ⟨xs',n',m',h1,h2,h3,h4,h5,h6,h7⟩
      ·refine .inl ⟨h1,?_⟩;rw[← h2];simp -implicitDefEqProofs (disch:=omega) [J9]
      ·refine .inr ⟨xs',n',m',h1,h2,h3,h4,h5,h6,?_⟩;rw[← h7];simp -implicitDefEqProofs (disch:=omega) [J9]
   ·rw[if_neg hlt];refine .inr ⟨xs,n,m,rfl,hg,by omega,hn,hnm,by omega,?_⟩;simp -implicitDefEqProofs (disch:=omega) [J9]
def Xv (s:List UInt8):Option Int:=if s=[] then none else qdw s (s.length + 1) 0 0
theorem qb4 {s:List UInt8} (hs:s.length≤5120):d6 T0 X0 JV [.d (.str s)] [] =
 some (.ret (match Xv s with | none=>[.d (.sl []),.d (.int .i64 10)] | some v=>[.d (.sl (L (d7 v))),.d (.int .i64 0)]) []):=by
 rw[c9 (af:=Y0) rfl rfl rfl];unfold Xv
 by_cases h0:s=[]
 ·rw[if_pos h0];subst h0;simp -implicitDefEqProofs (disch:=omega) [Y0]
 ·rw[if_neg h0]
  have he:s.isEmpty=false:=by simp[h0]
  have:=qo6 s hs (s.length + 1) 0 [] 0 1 [] (by omega) (by omega) n9.nil (by simp) (by omega) (by omega) (by omega);simp only[List.length_nil,qqv,nv] at this;rcases this with ⟨h1,h2⟩ | ⟨xs',n',m',h1,h2,h3,h4,h5,h6,h7⟩
  ·rw[show (0:Int) * 1 + 0=0 from rfl] at h1;rw[h1];simp -implicitDefEqProofs (disch:=omega) [Y0,h2,he]
  ·rw[show (0:Int) * 1 + 0=0 from rfl] at h1;rw[h1];obtain ⟨xs1,g1,v1,g2⟩:=qgn (m:=m') (n:=n') (by omega) (by omega) (xs:=xs') (by omega) h2;have s1:=n0 g1 (by omega);have l1:(d7 (nv xs1)).length≤xs1.length:=o6 (d8 g1).1 (d8 g1).2
   have ev:nv xs1=nv xs' * m' + n':=by rw[v1,Int.mul_comm m']; omega
   rw[ev] at s1 l1;rcases g2 with ⟨g2,g3⟩ | ⟨g2,g3⟩
   ·have ht:xs1.take xs'.length=xs1:=List.take_of_length_le (by omega);simp -implicitDefEqProofs (disch:=omega) [Y0,h7,he,g3,s1,ht]
   ·have ht:xs1.take (xs'.length + 1)=xs1:=List.take_of_length_le (by omega);simp -implicitDefEqProofs (disch:=omega) [Y0,h7,he,g3,s1,ht]
end Go.Rf
