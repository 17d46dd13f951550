/- Parts of the proof: SpZI, SpZJ, SpZL, SpZK, SpZM, SpZN. -/
import Derived.Test.YtjlnfdabdhkgcaaGreatDoorRb2
import Derived.Test.YtjlnfdabdhkgcaaGreatDoorSp17
import Derived.Test.YtjlnfdabdhkgcaaGreatDoorSp27
import Derived.Test.YtjlnfdabdhkgcaaGreatDoorSp16
import Derived.Test.YtjlnfdabdhkgcaaGreatDoorSp12

set_option linter.unusedSimpArgs false
set_option linter.unusedVariables false
set_option linter.unnecessarySimpa false
set_option linter.unusedSectionVars false
set_option linter.all false
namespace Go.Rf
set_option maxHeartbeats 16000000
theorem q9n {n:Nat} {g:Gb} (h:Gin n g) (x:Int):Gin n { g with ex:=x }:=⟨h.ed,h.lg,h.o,h.i⟩
structure Gvb (vs:List (List UInt8)) (bs:List Bg) (g:Gb):Prop where
 i:Gin vs.length g
 v:g.vs=vs
 b:g.bs=bs
theorem quq (vs bs):Keeps vs.length (Gvb vs bs) where
 pt g h:=⟨(vD _).pt g h.i,h.v,h.b⟩
 ed g e h a b c d f k:=⟨(vD _).ed g e h.i a b c d f k,h.v,h.b⟩
 lg g b h:=⟨(vD _).lg g b h.i,h.v,h.b⟩
 mr g s a h p q:=⟨(vD _).mr g s a h.i p q,h.v,h.b⟩
 st g s a h p q:=⟨(vD _).st g s a h.i p q,h.v,h.b⟩
 hd g s a h:=⟨(vD _).hd g s a h.i,h.v,h.b⟩
theorem q2m {g:Pg} (h:Pok g) (hb:g.bld.big=false):Gmo g.bld:=by
 have hn8:=h.n
 have hvl:g.vs.length=g.bs.length:=by simp[Pg.vs]
 have hsz:=h.sz;have k0:=qqt (vs:=g.vs) (bs:=g.bs);have k:=V5 g.vs.length g.body k0 (a:=0) (by omega) (by simp[Gb.point,gb0]);have i0:Gvb g.vs g.bs (gb0 g.vs g.bs).point:=⟨⟨fun e he=>by simp[Gb.point,gb0] at he,fun _ e he=>by simp[Gb.point,gb0] at he,fun i j hj=>by cases i <;> simp[Gb.point,gb0] at hj,fun i j hj=>by cases i <;> simp[Gb.point,gb0] at hj⟩,rfl,rfl⟩;have i1:=va (quq g.vs g.bs) g.body h.fit k0 i0 (a:=0) (by omega) (by simp[Gb.point,gb0]);have le:=k.le;have hol:=k.ok.ol;have hel:=k.ok.el;have hgl:(gb0 g.vs g.bs).point.out.length=1:=rfl;unfold Gb.big at hb;rw[Bool.or_eq_false_iff] at hb;obtain ⟨b1,b2⟩:=hb;have b2:=of_decide_eq_false b2;unfold Pg.bld at b1 b2 ⊢;generalize Sms.bld g.vs.length g.body (gb0 g.vs g.bs).point 0=r at *;simp only[] at b1 b2 ⊢;have i2:=q9n i1.i r.2
 exact {
  gin:=(congrArg List.length i1.v) ▸ i2
  n:=by show r.1.vs.length≤8; rw[i1.v]; omega
  lg:=b1
  pt:=⟨by show 1≤r.1.out.length; omega,by show r.1.out.length≤64; have:¬ 64 < r.1.out.length:=b2; omega⟩
  il:=k.ok.il
  el:=by show r.1.edges.length≤_; omega
  os:=fun i=>by have:=k.ok.os i; show (r.1.out.getD i []).length≤_; omega
  is:=fun i=>by have:=k.ok.is i; show (r.1.inn.getD i []).length≤_; omega
  bl:=by show r.1.bs.length=r.1.vs.length; rw[i1.v,i1.b,hvl]
  bs:=fun b hm=>by
   change b∈r.1.bs at hm;rw[i1.b] at hm;have:=h.bs b hm;have:=this.name.l
   exact ⟨(h.bs b hm).val,by omega⟩ }
theorem qs0 {k:Nat} (hk:2≤k):∀ (bs:List Bg) (m:Mc),(∀ b∈bs,nl b.n≤k)→(∀ n∈m.st,nl n≤k)→m.used≤m.ch.length→(∀ x∈m.ch,-9223372036854775808≤x∧x≤9223372036854775807)→
 (bs.foldl Mc.beg m).g=m.g∧(bs.foldl Mc.beg m).ch=m.ch∧(bs.foldl Mc.beg m).p=m.p∧(bs.foldl Mc.beg m).steps=m.steps∧(bs.foldl Mc.beg m).st.length=m.st.length + bs.length∧(∀ n∈(bs.foldl Mc.beg m).st,nl n≤k)∧(bs.foldl Mc.beg m).used≤m.ch.length
 | [],m,_,h,hu,_=>⟨rfl,rfl,rfl,rfl,rfl,h,hu⟩
 | b :: bs,m,hb,h,hu,hv=>by
   have hb1:=hb b (List.mem_cons_self ..)
   have app:∀ y,nl y≤k→∀ n∈m.st++[y],nl n≤k:=fun y hy n hn=>by
    rcases List.mem_append.1 hn with hn | hn
    ·exact h n hn
    ·rw[List.mem_singleton.1 hn]; exact hy
   have one:(m.beg b).p=m.p∧(m.beg b).steps=m.steps∧(∀ n∈(m.beg b).st,nl n≤k)∧(m.beg b).used≤m.ch.length:=by
    unfold Mc.beg;split
    ·split
     ·rename_i x hx;have:=qju (hv x (List.mem_of_getElem? hx));exact ⟨rfl,rfl,app x (by omega),(List.getElem?_eq_some_iff.1 hx).1⟩
     ·exact ⟨rfl,rfl,app _ hb1,hu⟩
    ·exact ⟨rfl,rfl,app _ hb1,hu⟩
   obtain ⟨o1,o2,o3,o4⟩:=one;have c:=qk5 m b;obtain ⟨a1,a2,a3,a4,a5,a6,a7⟩:=qs0 hk bs (m.beg b) (fun x hx=>hb x (List.mem_cons_of_mem _ hx)) o3 (by rw[c]; exact o4) (by rw[c]; exact hv);simp only[List.foldl_cons];exact ⟨a1.trans (zlg m b),a2.trans c,a3.trans o1,a4.trans o2,by rw[a5,qz3]; simp; omega,a6,by rw[c] at a7; exact a7⟩
theorem jM {g:Gb} {ch:List Int} (hg:Gmo g) (hv:∀ x∈ch,-9223372036854775808≤x∧x≤9223372036854775807):Mi g ch (Mc.begin g ch)∧(Mc.begin g ch).steps=0∧(Mc.begin g ch).p=0:=by
 obtain ⟨a1,a2,a3,a4,a5,a6,a7⟩:=qs0 (k:=512) (by decide) g.bs { g:=g,ch:=ch } (fun b hb=>by have:=(hg.bs b hb).1; omega) (fun n hn=>by cases hn) (Nat.zero_le _) hv;have hpt:=hg.pt;exact ⟨⟨a1,a2,by show ((g.bs.foldl Mc.beg _).st).length=_; rw[a5,← hg.bl]; simp,a6,by show 0≤(g.bs.foldl Mc.beg _).p∧(g.bs.foldl Mc.beg _).p < _; rw[a3]; simp only[]; omega,by show 0≤(g.bs.foldl Mc.beg _).steps; rw[a4]; exact Int.le_refl _,a7⟩,a4,a3⟩
end Go.Rf

namespace Go.Rf
set_option maxHeartbeats 16000000
theorem Wu {m:Mc} (h:m.steps < 65536→m.look.k≠0):∀ n,m.goF n=(0,m)
 | 0=>rfl
 | n + 1=>by
   unfold Mc.goF;split
   ·rename_i h1;rw[if_neg (h h1)]
   ·rfl
theorem qj4 (b:Nat):∀ (a:Nat) (m:Mc),m.goF (a + b)=((m.goF a).1 + ((m.goF a).2.goF b).1,((m.goF a).2.goF b).2)
 | 0,m=>by simp[Mc.goF]
 | a + 1,m=>by
   by_cases h:m.steps < 65536∧m.look.k=0
   ·have e:∀ n,m.goF (n + 1)=((m.step.goF n).1 + 1,(m.step.goF n).2):=fun n=>by
     show (if m.steps < 65536 then _ else _)=_;rw[if_pos h.1,if_pos h.2]
    rw[show a + 1 + b=(a + b) + 1 by omega,e,e,qj4 b a m.step];simp only[Prod.mk.injEq,and_true];omega
   ·have s:=Wu (m:=m) fun h1 h2=>h ⟨h1,h2⟩
    rw[s,s];simp[s]
theorem zL:∀ (n:Nat) (m:Mc),(m.goF n).2.steps=m.steps + (m.goF n).1
 | 0,m=>by simp[Mc.goF]
 | n + 1,m=>by
   unfold Mc.goF;split
   ·split
    ·have:=zL n m.step;have e:m.step.steps=m.steps + 1:=rfl;simp only[];omega
    ·simp
   ·simp
theorem qax:∀ (n:Nat) (m:Mc),(m.goF n).1≤n
 | 0,m=>by simp[Mc.goF]
 | n + 1,m=>by
   unfold Mc.goF;split
   ·split
    ·have:=qax n m.step;simp only[];omega
    ·simp
   ·simp
theorem qsf:∀ (n:Nat) (m:Mc),(m.goF n).1 < n→(m.goF n).2.steps < 65536→(m.goF n).2.look.k≠0
 | 0,m,h,_=>by simp at h
 | n + 1,m,h,h2=>by
   unfold Mc.goF at h h2 ⊢;split at h
   ·rename_i h1;split at h
    ·rename_i h3;rw[if_pos h1,if_pos h3] at h2 ⊢;exact qsf n m.step (by simp only[] at h; omega) h2
    ·rename_i h3;rw[if_pos h1,if_neg h3] at h2 ⊢;exact h3
   ·rename_i h1;rw[if_neg h1] at h2;exact absurd h2 h1
structure Sd where
 p:Int
 st:List Int
 s:Int
 u:Int
 w:Int
 c:Int
 deriving DecidableEq
def Sd.cs (x:Sd):List D:=[.int .i64 x.p,.sl (WL x.st),.int .i64 x.s,.int .i64 x.u,.int .i64 x.w,.int .i64 x.c]
def Mc.sd (m:Mc):Sd:=⟨m.p,m.st,m.steps,m.used,m.look.k,m.look.w⟩
theorem qwu (m:Mc):m.tell=m.sd.cs:=rfl
theorem ql4 (a b:Sd) (ha:a.st.length≤16 ∧ ∀ n∈a.st,nl n≤512) (hb:b.st.length≤16 ∧ ∀ n∈b.st,nl n≤512) :
 d5 T0 X0 jo [.d (.agg a.cs),.d (.agg b.cs)] []=some (.ret [.d (.bool (decide (a=b)))] []):=by
 have s1:=wa (f:=a.st) (g:=b.st) (by omega) (by omega) (fun i=>Nat.le_trans (kR ha.2 i) (by decide)) (fun i=>Nat.le_trans (kR hb.2 i) (by decide));obtain ⟨a1,a2,a3,a4,a5,a6⟩:=a;obtain ⟨b1,b2,b3,b4,b5,b6⟩:=b;have ha1:=ha.1;have hb1:=hb.1;simp only[Sd.mk.injEq,Sd.cs] at s1 ha1 hb1 ⊢;rw[c8 (af:=q9) rfl rfl rfl]
 by_cases h1:a1=b1
 ·by_cases h2:a2=b2
  ·subst h2;simp only[decide_true] at s1
   by_cases h3:a3=b3
   ·by_cases h4:a4=b4
    ·by_cases h5:a5=b5
     ·by_cases h6:a6=b6
      ·simp (maxSteps:=4000000) -implicitDefEqProofs (disch:=omega) [q9,s1,h1,h3,h4,h5,h6]
      ·simp (maxSteps:=4000000) -implicitDefEqProofs (disch:=omega) [q9,s1,h1,h3,h4,h5,h6]
     ·simp (maxSteps:=4000000) -implicitDefEqProofs (disch:=omega) [q9,s1,h1,h3,h4,h5]
    ·simp (maxSteps:=4000000) -implicitDefEqProofs (disch:=omega) [q9,s1,h1,h3,h4]
   ·simp (maxSteps:=4000000) -implicitDefEqProofs (disch:=omega) [q9,s1,h1,h3]
  ·rw[decide_eq_false h2] at s1;simp (maxSteps:=4000000) -implicitDefEqProofs (disch:=omega) [q9,s1,h1,h2]
 ·simp (maxSteps:=4000000) -implicitDefEqProofs (disch:=omega) [q9,h1]
end Go.Rf

namespace Go.Rf
set_option maxHeartbeats 16000000
theorem qhi {m n:Mc} (hg:m.g=n.g) (hp:m.p=n.p) (hs:m.st=n.st) (hc:m.ch[m.used]? = n.ch[n.used]?):m.look=n.look:=by
 obtain ⟨g,p,s,u,st,ch⟩:=m;obtain ⟨g2,p2,s2,u2,st2,ch2⟩:=n;simp only at hg hp hs hc;subst hg;subst hp;subst hs
 have h1:∀ e,Kh ⟨g,p,s,u,st,ch⟩ e=Kh ⟨g,p,s2,u2,st,ch2⟩ e:=fun e=>by unfold Kh; simp only[hc]
 have h2:∀ o,wg ⟨g,p,s,u,st,ch⟩ o=wg ⟨g,p,s2,u2,st,ch2⟩ o:=fun o=>by unfold wg; simp only[hc]
 unfold Mc.look;show (match g.outN p with | []=>_ | i :: r=>_)=(match g.outN p with | []=>_ | i :: r=>_)
 cases g.outN p with
 | nil=>rfl
 | cons i r=>
   simp only[h1,h2];rfl
theorem qhj {m:Mc} (h:m.look.c=0) (hk:m.look.k≠2) (ch:List Int) (u:Nat) (s:Int):({ m with ch:=ch,used:=u,steps:=s }:Mc).look=m.look:=by
 obtain ⟨g,p,s0,u0,st,ch0⟩:=m;unfold Mc.look at h hk ⊢;change (match g.outN p with | []=>_ | i :: r=>_:Look).c=0 at h;change (match g.outN p with | []=>_ | i :: r=>_:Look).k≠2 at hk;show (match g.outN p with | []=>_ | i :: r=>_)=(match g.outN p with | []=>_ | i :: r=>_)
 cases hh:g.outN p with
 | nil=>rfl
 | cons i r=>
   rw[hh] at h hk;simp only[] at h hk ⊢
   cases he:g.edges[i.toNat]? with
   | none=>rfl
   | some e=>
     rw[he] at h hk;simp only[] at h hk ⊢;split
     ·rfl
     rename_i c1;rw[if_neg c1] at h hk;split
     ·rfl
     rename_i c2;rw[if_neg c2] at h hk;split
     ·rename_i c3;rw[if_pos c3] at h hk;unfold Kh at h hk
      split at h <;> simp_all
     rename_i c3;rw[if_neg c3] at h hk;split
     ·rfl
     rename_i c4;rw[if_neg c4] at h hk;split
     ·rename_i c5;rw[if_pos c5] at h hk;unfold wg at h hk
      split at h <;> simp_all
     ·rfl
theorem qyk {m:Mc}:m.look.c=0∨m.look.c=1:=by
 unfold Mc.look;split
 ·exact .inl rfl
 split
 ·exact .inl rfl
 split
 ·exact .inl rfl
 split
 ·unfold qab; split <;> exact .inl rfl
 split
 ·unfold Kh; split <;> simp
 split
 ·unfold XT; split <;> exact .inl rfl
 split
 ·unfold wg; split <;> simp
 ·unfold XO; split <;> exact .inl rfl
theorem qej:∀ (n:Nat) (m:Mc),m.used≤(m.goF n).2.used
 | 0,m=>Nat.le_refl _
 | n + 1,m=>by
   unfold Mc.goF;split
   ·split
    ·have:=qej n m.step;have e:m.step.used=m.used + m.look.c.toNat:=rfl;simp only[];omega
    ·exact Nat.le_refl _
   ·exact Nat.le_refl _
def Mc.with (m:Mc) (ch:List Int):Mc:={ m with ch:=ch }
theorem qei (ch:List Int):∀ (n:Nat) (m:Mc),(∀ i,i < (m.goF n).2.used→m.ch[i]? = ch[i]?)→(m.with ch).goF (m.goF n).1=((m.goF n).1,(m.goF n).2.with ch)
 | 0,m,_=>rfl
 | n + 1,m,h=>by
   by_cases hc:m.steps < 65536∧m.look.k=0
   ·have e:m.goF (n + 1)=((m.step.goF n).1 + 1,(m.step.goF n).2):=by
     show (if m.steps < 65536 then _ else _)=_;rw[if_pos hc.1,if_pos hc.2]
    rw[e] at h ⊢;simp only[] at h ⊢;have hu:=qej n m.step;have hu2:m.step.used=m.used + m.look.c.toNat:=rfl
    have hl:(m.with ch).look=m.look:=by
     rcases qyk (m:=m) with h0 | h1
     ·exact qhj h0 (by rw[hc.2]; decide) ch m.used m.steps
     ·exact (qhi (m:=m) (n:=m.with ch) rfl rfl rfl (h _ (by rw[h1] at hu2; simp at hu2; omega))).symm
    have hst:(m.with ch).step=m.step.with ch:=by
     unfold Mc.step;rw[hl];rfl
    have hcs:m.step.ch=m.ch:=rfl;have ih:=qei ch n m.step (by rw[hcs]; exact h);show (if (m.with ch).steps < 65536 then _ else _)=_;rw[if_pos (show (m.with ch).steps < 65536 from hc.1),if_pos (by rw[hl]; exact hc.2),hst,ih]
   ·have s:=Wu (m:=m) fun h1 h2=>hc ⟨h1,h2⟩
    rw[s];rfl
structure Late (S:Int) (U:Nat) (m n:Mc):Prop where
 g:n.g=m.g
 p:n.p=m.p
 st:n.st=m.st
 s:n.steps + S=m.steps
 u:n.used + U=m.used
 ch:n.ch=m.ch.drop U
theorem Late.look {S U m n} (h:Late S U m n):n.look=m.look:=
 qhi h.g h.p h.st (by rw[h.ch,List.getElem?_drop,← h.u,Nat.add_comm])
theorem qnj {S:Int} {U:Nat} (hS:0≤S):∀ (k:Nat) (m n:Mc),Late S U m n→m.steps + k≤65536→(n.goF k).1=(m.goF k).1∧Late S U (m.goF k).2 (n.goF k).2
 | 0,m,n,h,_=>⟨rfl,h⟩
 | k + 1,m,n,h,hk=>by
   have hl:=h.look;have hs:=h.s;unfold Mc.goF;rw[if_pos (show n.steps < 65536 by omega),if_pos (show m.steps < 65536 by omega),hl];split
   ·have h2:Late S U m.step n.step:=⟨h.g,by show n.look.e.t=m.look.e.t; rw[hl],by
     show (Mc.take n n.look).st=(Mc.take m m.look).st;unfold Mc.take
     simp only[hl,h.st],by
     show n.steps + 1 + S=m.steps + 1
     omega,by
     show n.used + n.look.c.toNat + U=m.used + m.look.c.toNat;rw[hl,← h.u]
     omega,h.ch⟩
    obtain ⟨a,b⟩:=qnj hS k m.step n.step h2 (by show m.steps + 1 + k≤_; omega);exact ⟨by rw[a],b⟩
   ·exact ⟨rfl,h⟩
end Go.Rf

namespace Go.Rf
set_option maxHeartbeats 16000000
def oGb:Option Gb→D
 | none=>.nilp
 | some g=>g.d
def jb (s:List UInt8):Option Gb:=match (wc s).1 with
 | none=>none
 | some g=>if g.bld.big=true then none else some g.bld
theorem kH {s:List UInt8} {g:Gb} (h:jb s=some g):Gmo g:=by
 unfold jb at h;split at h
 ·cases h
 ·rename_i p hp;split at h
  ·cases h
  ·rename_i hb;cases h;exact q2m (qde hp) (by simpa using hb)
theorem q7z:d5 T0 X0 qew [.d .nilp] []=some (.ret [.d .nilp,.d (.int .i64 1)] []):=by
 rw[c8 (af:=Qh) rfl rfl rfl];simp -implicitDefEqProofs (disch:=omega) [Qh]
theorem ja (s:List UInt8) (hs:s.length≤1100000):d5 T0 X0 KR [.d (.str s)] []=some (.ret [.d (oGb (jb s))] []):=by
 have s1:=qjf s hs;rw[c8 (af:=P3) rfl rfl rfl];unfold jb
 have hp:=fun g=>qde (s:=s) (g:=g)
 generalize wc s=q at *;obtain ⟨o,e,p⟩:=q
 cases o with
 | none=>
   have s2:=q7z;simp only[oG,oGb,Pl.cs] at s1 ⊢;simp (maxSteps:=4000000) -implicitDefEqProofs (disch:=omega) [P3,s1,s2]
 | some g=>
   have s2:=q1s (hp g rfl);unfold Pg.d at s2;simp only[oG,Pl.cs] at s1 ⊢
   by_cases hb:g.bld.big=true
   ·simp only[if_pos hb,oGb] at s2 ⊢;simp (maxSteps:=4000000) -implicitDefEqProofs (disch:=omega) [P3,s1,s2]
   ·simp only[if_neg hb,oGb] at s2 ⊢;simp (maxSteps:=4000000) -implicitDefEqProofs (disch:=omega) [P3,s1,s2]
end Go.Rf

namespace Go.Rf
set_option maxHeartbeats 16000000
def q11:List UInt8:=[118,97,114,115,32,120,32,61,32,53,59,32,108,111,111,112,32,123,32,120,32,58,61,32,50,32,42,32,120,59,32,125]
theorem zis:(jb q11).map (fun g=>((Mc.begin g [1,3,-2]).goF 99).2.sd)=some ⟨4,[20],8,3,1,0⟩:=by decide +kernel
theorem qhc {l:List Int} (h:∀ n∈l,nl n≤512) (i:Nat):nl (nth l i)≤1073741824:=Nat.le_trans (kR h i) (by decide)
theorem ji:d5 T0 X0 KT [] []=some (.ret [.d (.bool true)] []):=by
 have s1:=ja q11 (by decide);have k:=zis
 cases hb:jb q11 with
 | none=>rw[hb] at k; cases k
 | some g=>
   rw[hb] at k s1;have hg:=kH hb
   have hv:∀ x∈[(1:Int),3,-2],-9223372036854775808≤x∧x≤9223372036854775807:=by decide
   have I:=wF hg (ch:=[1,3,-2]) (by decide) hv;have b1:=(jM hg hv).1;have hn:=hg.n;have s2:=ql9 I g [1,3,-2] b1 99 (by have:=hg.bl; omega) (fun b hb=>by have:=hg.bs b hb; omega) (by decide) hv;simp only[Option.map_some,Option.some.injEq] at k;rw[qwu,show (99:Int).toNat=99 from rfl,k] at s2;have s3:=qvd (ns:=[20]) (by decide) (fun i=>by match i with | 0=>decide | i + 1=>simp[nth]);have s4:=wa (f:=[20]) (g:=[20]) (by decide) (by decide) (fun i=>by match i with | 0=>decide | i + 1=>simp[nth]) (fun i=>by match i with | 0=>decide | i + 1=>simp[nth]);rw[c8 (af:=xn) rfl rfl rfl];have hD:∃ D,g.d = .box D:=⟨_,rfl⟩;obtain ⟨D,hD⟩:=hD;simp only[q11,oGb,Sd.cs,IL,List.map,decide_true,hD,LD,inL] at s1 s2 s3 s4;have hw:wl [Rf.D.int .i64 1,Rf.D.int .i64 3,Rf.D.int .i64 (-2)]=8:=rfl;have hw2:wl [Rf.D.int .i64 20]=8:=rfl;have hw3:(wl (WL [20])≤D2)=True:=eq_true (Nat.le_trans (by simp:wl (WL [20])≤32) (by decide));simp (maxSteps:=4000000) -implicitDefEqProofs (disch:=omega) [xn,s1,s2,s3,s4,hw,hw2,hw3]
def m62 (a:Int):Int:=IntKind.i64.wrap ((BitVec.ofInt 64 a &&& BitVec.ofInt 64 4611686018427387903).toNat:Nat)
theorem q8h (a:Int):0≤m62 a∧m62 a < 4611686018427387904:=by
 unfold m62
 have h:(BitVec.ofInt 64 a &&& BitVec.ofInt 64 4611686018427387903).toNat≤4611686018427387903:=by
  rw[BitVec.toNat_and];exact Nat.le_trans Nat.and_le_right (by decide)
 generalize (BitVec.ofInt 64 a &&& BitVec.ofInt 64 4611686018427387903).toNat=n at *
 have:IntKind.i64.wrap (n:Int)=n:=by
  simp (disch:=omega)
 omega
theorem qz8 (a:Int):I7 .and .i64 a 4611686018427387903=some (.int .i64 (m62 a)):=rfl
def T2 (a:Int):Int:=(m62 a).tmod 200
theorem qcd (a:Int):0≤T2 a∧T2 a < 200:=by
 have h:=q8h a;unfold T2;rw[Int.tmod_eq_emod_of_nonneg h.1];omega
structure Mst (m:Mc):Prop where
 n:m.st.length≤16
 v:∀ n∈m.st,nl n≤512
 t:d5 T0 X0 jG [.ptr (.b 0) 0 0] (MH m)=some (.ret [.d (.agg m.sd.cs)] (MH m))
 e:d5 T0 X0 jo [.d (.agg m.sd.cs),.d (.agg m.sd.cs)] []=some (.ret [.d (.bool true)] [])
theorem wE {I:Mc→Prop} (hI:Inv I) {m:Mc} (h:I m):Mst m:=by
 have k:=hI.ok m h
 exact ⟨k.s.n,k.s.v,qv9 m k (hI.l m h),by
  have:=ql4 m.sd m.sd ⟨k.s.n,k.s.v⟩ ⟨k.s.n,k.s.v⟩
  simpa using this⟩
theorem qlz (s:List UInt8) (ch:List Int) (a b:Int) (hs:s.length≤1100000) (hc:ch.length≤1100000) (hv:∀ x∈ch,-9223372036854775808≤x∧x≤9223372036854775807) :
 d5 T0 X0 vh [.d (.str s),.d (.sl (LD inL ch)),.d (.int .i64 a),.d (.int .i64 b)] []=some (.ret [.d (.bool true)] []):=by
 have s0:=ji;have s1:=ja s hs
 have hg:=fun g=>kH (s:=s) (g:=g)
 rw[c8 (af:=B5) rfl rfl rfl];generalize jb s=o at *
 cases o with
 | none=>
   simp only[oGb] at s1;simp (maxSteps:=4000000) -implicitDefEqProofs (disch:=omega) [B5,s0,s1]
 | some g=>
   have hg:=hg g rfl;have I:=wF hg hc hv;obtain ⟨b1,b2,b3⟩:=jM hg hv;have hn:=hg.n;have s2:=WR g ch (by have:=hg.bl; omega) (fun b hb=>by have:=hg.bs b hb; omega) hc hv;have hx:=qcd a;have hy:=qcd b;have ea:(m62 a).tmod 200=T2 a:=rfl;have eb:(m62 b).tmod 200=T2 b:=rfl;generalize Mc.begin g ch=m0 at *;have t1:=Wt I m0 b1 (T2 a);have i1:=jD I (T2 a).toNat m0 b1;have t2:=Wt I _ i1 (-T2 b);rw[show (-T2 b).toNat=0 by omega] at t2;have t3:=Wt I _ i1 (T2 b);have i2:=jD I (T2 b).toNat _ i1;have t4:=Wt I m0 b1 (T2 a + T2 b);rw[show (T2 a + T2 b).toNat=(T2 a).toNat + (T2 b).toNat by omega,qj4] at t4;have q1:=zL (T2 a).toNat m0;have q2:=zL (T2 b).toNat (m0.goF (T2 a).toNat).2;have q3:=qax ((T2 a).toNat + (T2 b).toNat) m0;have q4:=qsf ((T2 a).toNat + (T2 b).toNat) m0;rw[qj4] at q3 q4;have t5:=wE I i2;have t6:=Wt I _ i2 9;have q5:=Wu (m:=((m0.goF (T2 a).toNat).2.goF (T2 b).toNat).2);have tl:=t5.t;have te:=t5.e;have hst:=t5.n;simp only[] at t1 t2 t3 t4 t6 q1 q2 q3 q4 q5;generalize m0.goF (T2 a).toNat=r1 at *;generalize r1.2.goF (T2 b).toNat=r2 at *;generalize T2 a=x at *;generalize T2 b=y at *;obtain ⟨c1,m1⟩:=r1;obtain ⟨c2,m2⟩:=r2;simp only[Mc.goF,Int.natCast_add] at t1 t2 t3 t4 t6 q1 q2 q3 q4 q5 tl te hst
   have hsteps:m2.steps=c1 + c2:=by omega
   have hcc:(c1:Int) + c2=m2.steps:=by omega
   have hc0:(c1:Int) + 0 + c2=m2.steps:=by omega
   have l1:m2.steps≤400∧0≤m2.steps:=by omega
   have l2:m2.steps=x + y∨m2.look.k≠0:=by
    by_cases h:m2.steps=x + y
    ·exact .inl h
    ·exact .inr (q4 (by omega) (by omega))
   have t7:m2.look.k≠0→m2.goF 9=(0,m2):=fun h=>q5 (fun _=>h) 9
   rw[show (9:Int).toNat=9 from rfl] at t6;have hD:∃ D,g.d = .box D:=⟨_,rfl⟩;obtain ⟨D,hD⟩:=hD;have hW:=hst;clear q1 q2 q3 q4 q5 i1 i2 t5 b1 hg hv I;simp only[MH,Mc.sd,Sd.cs,hcc,oGb,hD] at s1 s2 t1 t2 t3 t4 t6 tl te ⊢
   by_cases hk:m2.look.k=0
   ·have hxy:=l2.resolve_right (fun h=>h hk);simp only[hk] at tl te;simp (maxSteps:=4000000) -implicitDefEqProofs (disch:=omega) [qz8,ea,eb,B5,s0,s1,s2,t1,t2,t3,t4,tl,te,hc0,hcc]
   ·have t7:=t7 hk;simp only[t7] at t6;simp (maxSteps:=4000000) -implicitDefEqProofs (disch:=omega) [qz8,ea,eb,B5,s0,s1,s2,t1,t2,t3,t4,t6,tl,te,hc0,hcc,hk]
end Go.Rf

namespace Go.Rf
set_option maxHeartbeats 16000000
theorem qgr (f:Int) (h:-9223372036854775808≤f∧f≤9223372036854775807):d5 T0 X0 YB [.d (.int .i64 f)] []=some (.ret [.d (.int .i64 (f.tmod 3000))] []):=by
 rw[c8 (af:=jd) rfl rfl rfl];have b1:=Int.tmod_lt_of_pos f (b:=3000) (by decide);have b2:=Int.lt_tmod_of_pos f (b:=3000) (by decide);simp -implicitDefEqProofs (disch:=omega) [jd]
theorem q16 {m:Mc} (h:m.look.k≠0):m.look.c=0:=by
 unfold Mc.look at h ⊢;split
 ·rfl
 split
 ·rfl
 rename_i i r ho x e he;rw[ho] at h;simp only[he] at h;split
 ·rfl
 rename_i c1;rw[if_neg c1] at h;split
 ·unfold qab; split <;> rfl
 rename_i c2;rw[if_neg c2] at h;split
 ·rename_i c3;rw[if_pos c3] at h;unfold Kh at h ⊢;split
  ·rename_i x hx;rw[hx] at h;exact absurd rfl h
  ·rfl
 rename_i c3;rw[if_neg c3] at h;split
 ·unfold XT; split <;> rfl
 rename_i c4;rw[if_neg c4] at h;split
 ·rename_i c5;rw[if_pos c5] at h;unfold wg at h ⊢;split
  ·rename_i x hx;rw[hx] at h;exact absurd rfl h
  ·rfl
 ·unfold XO; split <;> rfl
theorem quf {m:Mc} (k:Mok m) (hp:m.g.pure=true):m.look.k≠3∧m.look.w=0∨m.look.k=3∧m.look.w=2:=by
 have hp:∀ e∈m.g.edges,e.k≠4∧e.k≠6:=fun e he=>by
  have:=List.all_eq_true.1 hp e he;unfold Ed.pure at this
  simpa using this
 unfold Mc.look;split
 ·exact .inl ⟨by simp,rfl⟩
 split
 ·exact .inl ⟨by simp,rfl⟩
 rename_i i r ho x e he;have hk:=hp e (List.mem_of_getElem? he);have hr:=k.k e (List.mem_of_getElem? he);split
 ·exact .inl ⟨by simp,rfl⟩
 split
 ·unfold qab;split
  ·exact .inr ⟨rfl,rfl⟩
  ·exact .inl ⟨by simp,rfl⟩
 split
 ·unfold Kh; split <;> exact .inl ⟨by simp,rfl⟩
 split
 ·omega
 split
 ·unfold wg; split <;> exact .inl ⟨by simp,rfl⟩
 ·omega
theorem qxj (s:List UInt8) (ch:List Int) (f:Int) (hs:s.length≤1100000) (hc:ch.length≤1100000) (hv:∀ x∈ch,-9223372036854775808≤x∧x≤9223372036854775807) (hf:-9223372036854775808≤f∧f≤9223372036854775807) :
 d5 T0 X0 Qo [.d (.str s),.d (.sl (LD inL ch)),.d (.int .i64 f)] []=some (.ret [.d (.bool true)] []):=by
 have s0:=ji;have s1:=ja s hs
 have hg:=fun g=>kH (s:=s) (g:=g)
 have s4:=qgr f hf;rw[c8 (af:=B3) rfl rfl rfl];generalize jb s=o at *
 cases o with
 | none=>
   simp only[oGb] at s1;simp (maxSteps:=4000000) -implicitDefEqProofs (disch:=omega) [B3,s0,s1]
 | some g=>
   have hg:=hg g rfl;have I:=wF hg hc hv;have b1:=(jM hg hv).1;have hel:=hg.el;have hn:=hg.n;have s2:=ql9 I g ch b1 (f.tmod 3000) (by have:=hg.bl; omega) (fun b hb=>by have:=hg.bs b hb; omega) hc hv;have s3:=q7e g (by omega);have i2:=jD I (f.tmod 3000).toNat _ b1;have k2:=I.ok _ i2;have hst:=k2.s.n;have eg:=i2.gg;generalize ((Mc.begin g ch).goF (f.tmod 3000).toNat).2=m at *;have hD:∃ D,g.d = .box D:=⟨_,rfl⟩;obtain ⟨D,hD⟩:=hD
   cases hp:g.pure with
   | false=>
     simp only[oGb,hD,hp] at s1 s3;simp (maxSteps:=4000000) -implicitDefEqProofs (disch:=omega) [B3,s0,s1,s3]
   | true=>
     have lk:=quf k2 (by rw[eg]; exact hp);simp only[oGb,hD,hp] at s1 s2 s3;rw[qwu] at s2;clear k2 i2 b1 I hg hv;simp only[Mc.sd,Sd.cs] at s2;generalize f.tmod 3000=f2 at *;rcases lk with ⟨h1,h2⟩ | ⟨h1,h2⟩
     ·simp only[h2] at s2;simp (maxSteps:=4000000) -implicitDefEqProofs (disch:=omega) [B3,s0,s1,s2,s3,s4,h1]
     ·simp only[h1,h2] at s2;simp (maxSteps:=4000000) -implicitDefEqProofs (disch:=omega) [B3,s0,s1,s2,s3,s4]
end Go.Rf
