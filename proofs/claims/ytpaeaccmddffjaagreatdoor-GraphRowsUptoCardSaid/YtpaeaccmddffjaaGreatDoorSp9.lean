/- Parts of the proof. -/
import Derived.Test.YtpaeaccmddffjaaGreatDoorRb2
import Derived.Test.YtpaeaccmddffjaaGreatDoorSp8
import Derived.Test.YtpaeaccmddffjaaGreatDoorSp6
set_option linter.all false
namespace Go.Rf
theorem qfp:∀ f (s:Sc) (out l:List Tok) e p,(∀ t∈out,t.kind=2→∃ v:Int,0≤v∧(d7 v).length≤32∧t.text=B2 456 v)→s.ok→E4 f s out=(some l,e,p)→
 ∀ t∈l,t.kind=2→∃ v:Int,0≤v∧(d7 v).length≤32∧t.text=B2 456 v
 | 0,s,out,l,e,p,h,_,hs=>by unfold E4 at hs; cases hs; exact h
 | f + 1,s,out,l,e,p,h,hok,hs=>by
   have hb:=xl (s.rest.length + 1) hok;change s.blanks.ok∧s.blanks.rest.length≤s.rest.length at hb;have hto:=Xh hb.1;unfold E4 at hs;split at hs
   ·cases hs
   rename_i hc;have hc:s.blanks.token.2.code=0:=Classical.not_not.1 hc
   have key:s.blanks.token.1.kind=2→∃ v:Int,0≤v∧(d7 v).length≤32∧s.blanks.token.1.text=B2 456 v:=by
    intro hk;generalize s.blanks=z at *;unfold Sc.token at hk hc ⊢
    by_cases c2:z.cls.1=2
    ·rw[if_pos c2] at hk; cases hk
    ·rw[if_neg c2] at hk hc ⊢
     by_cases c3:z.cls.1=3
     ·rw[if_pos c3] at hk hc ⊢
      have h3:(z.ran z8).length≤4096:=by have:=hb.1.1; unfold Sc.ran; rw[List.length_take]; omega
      have hn:=Jt h3
      by_cases h32:32 < (d7 (qW (z.ran z8))).length
      ·simp only[if_pos h32] at hc;cases hc
      ·exact ⟨_,hn.1,by omega,rfl⟩
     ·rw[if_neg c3] at hk
      by_cases c5:z.cls.1=5
      ·rw[if_pos c5] at hk; cases hk
      ·rw[if_neg c5] at hk
       by_cases c1:z.cls.1 = -1
       ·rw[if_pos c1] at hk; cases hk
       ·rw[if_neg c1] at hk; cases hk
   have hout:∀ t∈out++[s.blanks.token.1],t.kind=2→∃ v:Int,0≤v∧(d7 v).length≤32∧t.text=B2 456 v:=by
    intro t ht;rcases List.mem_append.1 ht with ht | ht
    ·exact h t ht
    ·rw[List.mem_singleton.1 ht]; exact key
   split at hs
   ·cases hs; exact hout
   ·exact qfp f _ _ l e p hout hto.1 hs
theorem qwt {s:List UInt8} {ts e p} (h:wD s=(some ts,e,p)):∀ t∈ts,t.kind=2→∃ v:Int,0≤v∧(d7 v).length≤32∧t.text=B2 456 v:=by
 unfold wD at h;split at h
 ·cases h
 rename_i hl;have hok:Sc.ok ⟨s,start,0,g9⟩:=⟨by show s.length≤4096; omega,by show Pl.small start s.length; unfold Pl.small start; simp only[]; omega⟩;exact qfp _ _ _ _ _ _ (fun t ht=>by cases ht) hok h
def QOk (Q:Nd→Prop):Rs→Prop
 | .ok x _=>Q x
 | .bad _ _ _=>True
def Md.q (Q:Nd→Prop):Md→Prop
 | .lp x=>Q x
 | .ls x=>Q x
 | _=>True
theorem q7o {vs:List (List UInt8)} {ts:List Tok} (Q:Nd→Prop) (hnum:∀ t∈ts,t.kind=2→qi t.text) (qn:∀ t∈ts,t.kind=2→Q (.num (qW t.text))) (qv:∀ w,0≤zF vs w vs.length 0→Y2 w=false→Q (.name (zF vs w vs.length 0) w))
 (qm:∀ x,Q x→Q (.minus x)) (qt:∀ op x y,(op=43∨op=45∨op=42∨op=47∨op=37)→Q x→Q y→Q (.two op x y)) :
 ∀ n m (r:Rd),r.ok→r.ts=ts→r.vs=vs→m.fine vs.length→m.q Q→QOk Q (rd n m r):=by
 intro n
 induction n with
 | zero=>intro m r _ _ _ _ _; trivial
 | succ n ih=>
   intro m r h hts hvs hf hm;have kn:=Kept.next h
   have rk:=fun (md:Md) (r2:Rd) (h2:r2.ok) (e1:r2.ts=ts) (e2:r2.vs=vs) (hf2:md.fine vs.length)=>qxi n md r2 h2 (by rw[e1]; exact hnum) (by rw[e2]; exact hf2)
   have bnd:∀ (md:Md) (r2:Rd) (f:Nd→Rd→Rs),r2.ok→r2.ts=ts→r2.vs=vs→md.fine vs.length→md.q Q→(∀ x r3,Kept r2 r3→x.fine vs.length→Q x→QOk Q (f x r3))→QOk Q ((rd n md r2).bind f):=by
    intro md r2 f h2 e1 e2 hf2 hq2 g;have a:=ih md r2 h2 e1 e2 hf2 hq2;have b:=rk md r2 h2 e1 e2 hf2
    cases hb:rd n md r2 with
    | bad e p r3=>trivial
    | ok x r3=>
      rw[hb] at a b;exact g x r3 b.1 (by rw[← e2]; exact b.2.1) a
   have two:∀ (op:Int) (x:Nd) (md:Md) (m2:Nd→Md),(op=43∨op=45∨op=42∨op=47∨op=37)→md.fine vs.length→md.q Q→x.fine vs.length→Q x→(∀ y,(∀ k,y.fine k→(m2 y).fine k)∧(Q y→(m2 y).q Q))→
    QOk Q ((rd n md r.next).bind fun y r=>rd n (m2 (.two op x y)) r):=by
    intro op x md m2 hop hf2 hq2 hx hqx h2
    refine bnd md r.next _ kn.ok (kn.ts.trans hts) (kn.vs.trans hvs) hf2 hq2 fun y r3 k3 fy qy=>?_
    exact ih _ r3 k3.ok (k3.ts.trans (kn.ts.trans hts)) (k3.vs.trans (kn.vs.trans hvs)) ((h2 _).1 _ ⟨hop,hx,fy⟩) ((h2 _).2 (qt op x y hop hqx qy))
   have seq:∀ (md:Md) (m2:Nd→Md),md.fine vs.length→md.q Q→(∀ y,(∀ k,y.fine k→(m2 y).fine k)∧(Q y→(m2 y).q Q))→QOk Q ((rd n md r).bind fun y r=>rd n (m2 y) r):=by
    intro md m2 hf2 hq2 h2
    refine bnd md r _ h hts hvs hf2 hq2 fun y r3 k3 fy qy=>?_
    exact ih _ r3 k3.ok (k3.ts.trans hts) (k3.vs.trans hvs) ((h2 _).1 _ fy) ((h2 _).2 qy)
   cases m with
   | p=>unfold rd; exact seq .u .lp trivial trivial (fun _=>⟨fun _ h=>h,fun h=>h⟩)
   | s=>unfold rd; exact seq .p .ls trivial trivial (fun _=>⟨fun _ h=>h,fun h=>h⟩)
   | lp x=>
     unfold rd;split
     ·exact two 42 x .u .lp (by omega) trivial trivial hf hm (fun _=>⟨fun _ h=>h,fun h=>h⟩)
     split
     ·exact two 47 x .u .lp (by omega) trivial trivial hf hm (fun _=>⟨fun _ h=>h,fun h=>h⟩)
     split
     ·exact two 37 x .u .lp (by omega) trivial trivial hf hm (fun _=>⟨fun _ h=>h,fun h=>h⟩)
     exact hm
   | ls x=>
     unfold rd;split
     ·exact two 43 x .p .ls (by omega) trivial trivial hf hm (fun _=>⟨fun _ h=>h,fun h=>h⟩)
     split
     ·exact two 45 x .p .ls (by omega) trivial trivial hf hm (fun _=>⟨fun _ h=>h,fun h=>h⟩)
     exact hm
   | u=>
     unfold rd;split
     ·exact bnd .u r.next _ kn.ok (kn.ts.trans hts) (kn.vs.trans hvs) trivial trivial fun y r3 _ _ qy=>qm y qy
     split
     ·rename_i c;exact qn _ (hts ▸ QV h) c
     split
     ·rename_i c;split
      ·rename_i c2;unfold Rd.isName at c;simp only[Bool.and_eq_true,Bool.not_eq_true'] at c;unfold Rd.var at c2 ⊢;rw[hvs] at c2 ⊢;exact qv _ c2 c.2
      ·trivial
     split
     ·trivial
     ·rename_i hin
      have hop:r.op < 16:=by
       unfold Rd.into at hin;split at hin
       ·split at hin
        ·assumption
        ·cases hin
       ·cases hin
      have ho:=Rd.opened_ok h hop;have kn2:=Kept.next ho
      refine bnd .s r.opened.next _ kn2.ok (kn2.ts.trans hts) (kn2.vs.trans hvs) trivial trivial fun y r3 _ _ qy=>?_
      split
      ·exact qy
      ·trivial
theorem qux {w:List UInt8} {r n:Nat} (h:w≠[]) (e:dec w 0=(r,n)) (hb:¬ (r=65533∧n=1)) (h1:128≤(w.getD 0 0).toNat):∀ k,k < n→128≤(w.getD k 0).toNat:=by
 have hl:0 < w.length:=List.length_pos_iff.2 h
 have g:∀ k,(ByteArray.mk w.toArray).get! (0 + k)=w.getD k 0:=by
  intro k;simp only[ByteArray.get!,Nat.zero_add]
  by_cases hk:k < w.length
  ·simp[hk]
  ·simp[List.getD_eq_getElem?_getD,List.getElem?_eq_none (Nat.le_of_not_lt hk),Array.getElem!_eq_getD,Array.getD,hk];rfl
 unfold dec Utf8.decode at e
 extract_lets a1 c1 b1 x1 x2 x3 at e
 have ha:∀ k,a1 k=(w.getD k 0).toNat:=fun k=>congrArg UInt8.toNat (g k)
 have hc:∀ k,c1 k=true→128≤(w.getD k 0).toNat:=by
  intro k hk;simp only[c1,Bool.and_eq_true,decide_eq_true_eq,beq_iff_eq] at hk;rw[ha k] at hk;omega
 have hb1:b1=(w.getD 0 0).toNat:=ha 0
 clear_value x1 x2 x3
 clear_value c1 b1
 rw[if_neg (by omega)] at e
 have fin1:∀ {q:Nat},(q,1)=(r,n)→q=Utf8.runeError→∀ k,k < n→128≤(w.getD k 0).toNat:=fun hq hv=>by
  cases hq;exact absurd ⟨hv,rfl⟩ hb
 split at e
 ·rename_i k1;simp only[Bool.and_eq_true] at k1;split at e
  ·cases e;intro k hk;rcases (show k=0∨k=1 by omega) with rfl | rfl
   ·exact h1
   ·exact hc 1 k1.2
  ·exact fin1 e rfl
 split at e
 ·rename_i k1;simp only[Bool.and_eq_true] at k1;split at e
  ·cases e;intro k hk;rcases (show k=0∨k=1∨k=2 by omega) with rfl | rfl | rfl
   ·exact h1
   ·exact hc 1 k1.1.2
   ·exact hc 2 k1.2
  ·exact fin1 e rfl
 split at e
 ·rename_i k1;simp only[Bool.and_eq_true] at k1;split at e
  ·cases e;intro k hk;rcases (show k=0∨k=1∨k=2∨k=3 by omega) with rfl | rfl | rfl | rfl
   ·exact h1
   ·exact hc 1 k1.1.1.2
   ·exact hc 2 k1.1.2
   ·exact hc 3 k1.2
  ·exact fin1 e rfl
 ·exact fin1 e rfl
theorem qsc {w t:List UInt8} {r n:Nat} (h:w≠[]) (e:dec (w++t) 0=(r,n)) (hn:n≤w.length) (hb:¬ (r=65533∧n=1)):dec w 0=(r,n):=by
 unfold dec Utf8.decode at *
 have hsz:(ByteArray.mk w.toArray).size=w.length:=by simp[ByteArray.size]
 have hsz2:(ByteArray.mk (w++t).toArray).size=w.length + t.length:=by simp[ByteArray.size]
 have hl:0 < w.length:=List.length_pos_iff.2 h
 have g:∀ k,k < w.length→(ByteArray.mk (w++t).toArray).get! (0 + k)=(ByteArray.mk w.toArray).get! (0 + k):=by
  intro k hk;simp only[ByteArray.get!,Nat.zero_add];simp[hk,List.getElem?_append_left]
 extract_lets a2 c2 b2 y1 y2 y3 at e
 extract_lets a1 c1 b1 x1 x2 x3
 have ha:∀ k,k < w.length→a2 k=a1 k:=fun k hk=>congrArg UInt8.toNat (g k hk)
 have hc:∀ k,c1 k=true→c2 k=true:=by
  intro k hk;simp only[c1,Bool.and_eq_true,decide_eq_true_eq,hsz] at hk;simp only[c2,Bool.and_eq_true,decide_eq_true_eq,hsz2];refine ⟨by omega,?_⟩;rw[ha k (by omega)];exact hk.2
 have hc':∀ k,k < w.length→c2 k=true→c1 k=true:=by
  intro k hk hk2;simp only[c2,Bool.and_eq_true,decide_eq_true_eq] at hk2;simp only[c1,Bool.and_eq_true,decide_eq_true_eq,hsz];refine ⟨by omega,?_⟩;rw[← ha k hk];exact hk2.2
 have hb0:b2=b1:=ha 0 hl
 have hx1:1 < w.length→y1=x1:=fun h=>by simp only[y1,x1,hb0,ha 1 h]
 have hx2:2 < w.length→y2=x2:=fun h=>by simp only[y2,x2,hb0,ha 1 (by omega),ha 2 h]
 have hx3:3 < w.length→y3=x3:=fun h=>by simp only[y3,x3,hb0,ha 1 (by omega),ha 2 (by omega),ha 3 h]
 clear_value y1 y2 y3 x1 x2 x3
 clear_value c1 c2
 clear_value b1 b2
 subst hb0
 by_cases k0:b2 < 128
 ·rw[if_pos k0] at e ⊢;exact e
 rw[if_neg k0] at e ⊢
 by_cases k1:(b2 / 32 == 6 && c2 1)=true
 ·rw[if_pos k1] at e;simp only[Bool.and_eq_true] at k1
  have hn2:n=2∨n=1:=by split at e <;> (cases e; omega)
  rcases hn2 with rfl | rfl
  ·rw[if_pos (by simp[k1.1,hc' 1 (by omega) k1.2]),← hx1 (by omega)];exact e
  ·split at e
   ·cases e
   ·cases e; exact absurd ⟨rfl,rfl⟩ hb
 rw[if_neg k1] at e
 have m1:¬ (b2 / 32 == 6 && c1 1)=true:=fun hh=>k1 (by simp only[Bool.and_eq_true] at hh ⊢; exact ⟨hh.1,hc 1 hh.2⟩)
 by_cases k2:(b2 / 16 == 14 && c2 1 && c2 2)=true
 ·rw[if_pos k2] at e;simp only[Bool.and_eq_true] at k2
  have hn2:n=3∨n=1:=by split at e <;> (cases e; omega)
  rcases hn2 with rfl | rfl
  ·rw[if_neg m1,if_pos (by simp[k2.1.1,hc' 1 (by omega) k2.1.2,hc' 2 (by omega) k2.2]),← hx2 (by omega)];exact e
  ·split at e
   ·cases e
   ·cases e; exact absurd ⟨rfl,rfl⟩ hb
 rw[if_neg k2] at e
 have m2:¬ (b2 / 16 == 14 && c1 1 && c1 2)=true:=fun hh=>k2 (by simp only[Bool.and_eq_true] at hh ⊢; exact ⟨⟨hh.1.1,hc 1 hh.1.2⟩,hc 2 hh.2⟩)
 by_cases k3:(b2 / 8 == 30 && c2 1 && c2 2 && c2 3)=true
 ·rw[if_pos k3] at e;simp only[Bool.and_eq_true] at k3
  have hn2:n=4∨n=1:=by split at e <;> (cases e; omega)
  rcases hn2 with rfl | rfl
  ·rw[if_neg m1,if_neg m2,if_pos (by simp[k3.1.1.1,hc' 1 (by omega) k3.1.1.2,hc' 2 (by omega) k3.1.2,hc' 3 (by omega) k3.2]),← hx3 (by omega)];exact e
  ·split at e
   ·cases e
   ·cases e; exact absurd ⟨rfl,rfl⟩ hb
 rw[if_neg k3] at e;cases e;exact absurd ⟨rfl,rfl⟩ hb
theorem qkw {p:Int→Bool}:∀ (F:Nat) (s:Sc),s.ok→wE p F (s.rest.take (s.rest.length - (I2 p F s).rest.length))=true
 | 0,s,_=>by
   unfold I2;simp[wE]
 | F + 1,s,hok=>by
   unfold I2;split
   ·rename_i c;have hr:=(s.cls_same (by omega)).2
    have hn:0≤s.next.1:=by
     unfold Sc.cls at c
     by_cases h0:s.next.1 < 0
     ·rw[if_pos h0] at c; exact absurd c.1 (by simp)
     ·omega
    have hnx:L8 s.rest (dec s.rest 0).1=false∧s.next.1=(dec s.rest 0).1:=by
     unfold Sc.next at hn ⊢;rw[if_neg hr] at hn ⊢
     by_cases hb:L8 s.rest (dec s.rest 0).1=true
     ·rw[if_pos hb] at hn; exact absurd hn (by simp)
     ·rw[if_neg hb];exact ⟨by simpa using hb,rfl⟩
    have hcl:s.cls.1=cls (dec s.rest 0).1:=by
     unfold Sc.cls;rw[if_neg (by omega),hnx.2]
    have hp:s.pass.rest=s.rest.drop (dec s.rest 0).2:=by
     unfold Sc.pass;rw[T8 hr]
    have hd:=ZF s.rest hr;have ih:=qkw (p:=p) F s.pass (Sc.pass_ok hok hr);have hle:=(Qq p F (Sc.pass_ok hok hr)).2;generalize (I2 p F s.pass).rest.length=m at *;rw[hp,List.length_drop] at hle ih;have hsp:s.rest=s.rest.take (s.rest.length - m)++s.rest.drop (s.rest.length - m):=(List.take_append_drop ..).symm
    have hw:(s.rest.take (s.rest.length - m)).length=s.rest.length - m:=by rw[List.length_take]; omega
    have hdr:(s.rest.take (s.rest.length - m)).drop (dec s.rest 0).2=(s.rest.drop (dec s.rest 0).2).take (s.rest.length - (dec s.rest 0).2 - m):=by
     rw[List.drop_take]
     congr 1
     omega
    generalize hgw:s.rest.take (s.rest.length - m)=w at *
    have hne:¬ ((dec s.rest 0).1=65533∧(dec s.rest 0).2=1):=by
     intro hc;have:=hnx.1;unfold L8 at this;rw[T8 hr] at this;simp[hc.1,hc.2] at this
    have hw0:w≠[]:=fun e=>by rw[e] at hw; simp at hw; omega
    have e:=qsc (w:=w) (t:=s.rest.drop (s.rest.length - m)) hw0 (r:=(dec s.rest 0).1) (n:=(dec s.rest 0).2) (by rw[← hsp]) (by omega) hne;rw[← hdr] at ih
    cases hww:w with
    | nil=>exact absurd hww hw0
    | cons b v=>
      rw[hww] at e ih;unfold wE;rw[e];simp only[];rw[ih,← hcl,c.2]
      have:L8 (b :: v) (dec s.rest 0).1=false:=by
       unfold L8;rw[T8 (by simp),e];simp only[Bool.and_eq_false_iff,beq_eq_false_iff_ne,decide_eq_false_iff_not]
       by_cases h1:(dec s.rest 0).1=65533
       ·right; exact fun h2=>hne ⟨h1,by omega⟩
       ·left; omega
      rw[this];rfl
   ·rw[s.cls_rest.1];simp
    cases F <;> rfl
theorem qxm {z:Sc} (hok:z.ok) (h2:z.cls.1=2) (h16:rc (z.ran x7)≤16):NameOk (z.ran x7):=by
 have hr:=(z.cls_same (by omega)).2
 have hn:0≤z.next.1:=by
  unfold Sc.cls at h2
  by_cases h0:z.next.1 < 0
  ·rw[if_pos h0] at h2; cases h2
  ·omega
 have hnx:L8 z.rest (dec z.rest 0).1=false∧z.next.1=(dec z.rest 0).1:=by
  unfold Sc.next at hn ⊢;rw[if_neg hr] at hn ⊢
  by_cases hb:L8 z.rest (dec z.rest 0).1=true
  ·rw[if_pos hb] at hn; exact absurd hn (by simp)
  ·rw[if_neg hb];exact ⟨by simpa using hb,rfl⟩
 have hcl:z.cls.1=cls (dec z.rest 0).1:=by
  unfold Sc.cls;rw[if_neg (by omega),hnx.2]
 have hd:=ZF z.rest hr;have hrun:=qkw (p:=x7) (z.rest.length + 1) z hok
 have hm:(I2 x7 (z.rest.length + 1) z).rest.length≤z.rest.length - (dec z.rest 0).2:=by
  unfold I2;rw[if_pos ⟨by omega,by rw[h2]; rfl⟩];have:=(Qq x7 z.rest.length (Sc.pass_ok hok hr)).2
  have hp:z.pass.rest=z.rest.drop (dec z.rest 0).2:=by
   unfold Sc.pass;rw[T8 hr]
  rw[hp,List.length_drop] at this;exact this
 have hw:(z.ran x7).length=z.rest.length - (I2 x7 (z.rest.length + 1) z).rest.length:=by
  unfold Sc.ran Sc.run;rw[List.length_take]; omega
 have hw0:z.ran x7≠[]:=fun e=>by rw[e] at hw; simp at hw; omega
 have hsp:z.rest=z.ran x7++z.rest.drop (z.rest.length - (I2 x7 (z.rest.length + 1) z).rest.length):=(List.take_append_drop ..).symm
 have hne:¬ ((dec z.rest 0).1=65533∧(dec z.rest 0).2=1):=by
  intro hc;have:=hnx.1;unfold L8 at this;rw[T8 hr] at this;simp[hc.1,hc.2] at this
 have e:=qsc hw0 (t:=z.rest.drop (z.rest.length - (I2 x7 (z.rest.length + 1) z).rest.length)) (r:=(dec z.rest 0).1) (n:=(dec z.rest 0).2) (by rw[← hsp]) (by omega) hne;have:=hok.1;exact ⟨hw0,by rw[e]; rw[hcl] at h2; exact h2,⟨_,hrun⟩,h16,by omega⟩
theorem qbl:∀ f (s:Sc) (out l:List Tok) e p,(∀ t∈out,t.kind=1→NameOk t.text)→s.ok→E4 f s out=(some l,e,p)→∀ t∈l,t.kind=1→NameOk t.text
 | 0,s,out,l,e,p,h,_,hs=>by unfold E4 at hs; cases hs; exact h
 | f + 1,s,out,l,e,p,h,hok,hs=>by
   have hb:=xl (s.rest.length + 1) hok;change s.blanks.ok∧s.blanks.rest.length≤s.rest.length at hb;have hto:=Xh hb.1;unfold E4 at hs;split at hs
   ·cases hs
   rename_i hc;have hc:s.blanks.token.2.code=0:=Classical.not_not.1 hc
   have key:s.blanks.token.1.kind=1→NameOk s.blanks.token.1.text:=by
    intro hk;generalize s.blanks=z at *;unfold Sc.token at hk hc ⊢
    by_cases c2:z.cls.1=2
    ·rw[if_pos c2] at hk hc ⊢
     by_cases h16:16 < rc (z.ran x7)
     ·simp only[if_pos h16] at hc;cases hc
     ·exact qxm hb.1 c2 (by omega)
    ·rw[if_neg c2] at hk
     by_cases c3:z.cls.1=3
     ·rw[if_pos c3] at hk; cases hk
     ·rw[if_neg c3] at hk
      by_cases c5:z.cls.1=5
      ·rw[if_pos c5] at hk; cases hk
      ·rw[if_neg c5] at hk
       by_cases c1:z.cls.1 = -1
       ·rw[if_pos c1] at hk; cases hk
       ·rw[if_neg c1] at hk; cases hk
   have hout:∀ t∈out++[s.blanks.token.1],t.kind=1→NameOk t.text:=by
    intro t ht;rcases List.mem_append.1 ht with ht | ht
    ·exact h t ht
    ·rw[List.mem_singleton.1 ht]; exact key
   split at hs
   ·cases hs; exact hout
   ·exact qbl f _ _ l e p hout hto.1 hs
theorem qtq {s:List UInt8} {ts e p} (h:wD s=(some ts,e,p)):∀ t∈ts,t.kind=1→NameOk t.text:=by
 unfold wD at h;split at h
 ·cases h
 rename_i hl;have hok:Sc.ok ⟨s,start,0,g9⟩:=⟨by show s.length≤4096; omega,by show Pl.small start s.length; unfold Pl.small start; simp only[]; omega⟩;exact qbl _ _ _ _ _ _ (fun t ht=>by cases ht) hok h
theorem qfq {q:UInt8} (hq:q.toNat < 128∧x7 (cls q.toNat)=false):∀ (f:Nat) (w:List UInt8),wE x7 f w=true→∀ c∈w,c≠q
 | _,[],_,c,h=>by cases h
 | 0,b :: w,h,_,_=>by simp[wE] at h
 | f + 1,b :: w,h,c,hm=>by
   unfold wE at h;simp only[Bool.and_eq_true,Bool.not_eq_true'] at h;have ih:=qfq hq f _ h.2;have hl:=ZF (b :: w) (by simp)
   by_cases hb:b.toNat < 128
   ·rw[jF hb] at h ih;rcases List.mem_cons.1 hm with e | e
    ·subst e;intro e;subst e;rw[hq.2] at h;exact absurd h.1.2 (by decide)
    ·exact ih c (by simpa using e)
   ·have hne:¬ ((dec (b :: w) 0).1=65533∧(dec (b :: w) 0).2=1):=by
     intro hc;have:=h.1.1;unfold L8 at this;rw[T8 (by simp)] at this;simp[hc.1,hc.2] at this
    have hby:=qux (w:=b :: w) (by simp) (show dec (b :: w) 0=((dec (b :: w) 0).1,(dec (b :: w) 0).2) from rfl) hne (by simpa using hb);rw[← List.take_append_drop (dec (b :: w) 0).2 (b :: w)] at hm;rcases List.mem_append.1 hm with e | e
    ·obtain ⟨k,hk,rfl⟩:=List.getElem_of_mem e;rw[List.length_take] at hk;have:=hby k (by omega)
     have e2:((b :: w).take (dec (b :: w) 0).2)[k]=(b :: w).getD k 0:=by
      rw[List.getElem_take,List.getD_eq_getElem?_getD,List.getElem?_eq_getElem (by omega)];rfl
     rw[e2];intro e;rw[e] at this;have:=hq.1;omega
    ·exact ih c e
theorem NameOk.no10 {w:List UInt8} (h:NameOk w):∀ c∈w,c≠10:=by
 obtain ⟨f,hf⟩:=h.r;exact qfq (by decide) f w hf
def Nd.sz:Nd→Nat
 | .num _=>1
 | .name _ _=>1
 | .minus x=>x.sz + 1
 | .two _ x y=>x.sz + y.sz + 1
def qei (r:Rd) (a:Nat):Rs→Prop
 | .ok x r'=>Kept r r'∧x.fine r.vs.length∧x.sz + r.i≤a + r'.i
 | .bad _ _ _=>True
theorem qei.bind {r r0:Rd} {a c:Nat} {b:Rs} {f:Nd→Rd→Rs} (h:qei r0 a b) (g:∀ x r',Kept r0 r'→x.fine r0.vs.length→x.sz + r0.i≤a + r'.i→qei r c (f x r')):qei r c (b.bind f):=by
 cases b with
 | bad e p r'=>trivial
 | ok x r'=>exact g x r' h.1 h.2.1 h.2.2
theorem qei.from {r r':Rd} {a c:Nat} {b:Rs} (h:qei r' c b) (k:Kept r r') (hw:c + r.i≤a + r'.i):qei r a b:=by
 cases b with
 | bad e p r2=>trivial
 | ok x r2=>
   obtain ⟨h1,h2,h3⟩:=h;exact ⟨k.trans h1,by rw[← k.vs]; exact h2,by omega⟩
def Md.sz:Md→Nat
 | .lp x=>x.sz
 | .ls x=>x.sz
 | _=>0
theorem zg4:∀ n m r,Rd.ok r→(∀ t∈r.ts,t.kind=2→qi t.text)→m.fine r.vs.length→qei r m.sz (rd n m r):=by
 intro n
 induction n with
 | zero=>intro m r _ _ _; trivial
 | succ n ih=>
   intro m r h hnum hm;have hno:=r.next_op;have kn:=Kept.next h
   have two:∀ (op:Int) (x:Nd) (md:Md) (m2:Nd→Md),(op=43∨op=45∨op=42∨op=47∨op=37)→r.tok.kind≠0→md.sz=0→md.fine r.vs.length→x.fine r.vs.length→(∀ y,(m2 y).sz=y.sz ∧ ∀ k,y.fine k→(m2 y).fine k)→
    qei r x.sz ((rd n md r.next).bind fun y r=>rd n (m2 (.two op x y)) r):=by
    intro op x md m2 hop hk h0 hf hx h2;have hi:=F8 hk;have a:=ih md r.next (Rd.next_ok h) (by rw[hno.2.1]; exact hnum) (by rw[hno.2.2]; exact hf);rw[h0] at a
    refine a.bind fun y r' k1 fy wy=>?_
    have k2:=kn.trans k1;have b:=ih (m2 (.two op x y)) r' k1.ok (by rw[k2.ts]; exact hnum) ((h2 _).2 _ (by rw[k2.vs]; exact ⟨hop,hx,by rw[← hno.2.2]; exact fy⟩));rw[(h2 _).1] at b;exact b.from k2 (by show x.sz + y.sz + 1 + _≤_; omega)
   have seq:∀ (md:Md) (m2:Nd→Md),md.sz=0→md.fine r.vs.length→(∀ y,(m2 y).sz=y.sz ∧ ∀ k,y.fine k→(m2 y).fine k)→qei r 0 ((rd n md r).bind fun y r=>rd n (m2 y) r):=by
    intro md m2 h0 hf h2;have a:=ih md r h hnum hf;rw[h0] at a
    refine a.bind fun y r' k1 fy wy=>?_
    have b:=ih (m2 y) r' k1.ok (by rw[k1.ts]; exact hnum) ((h2 _).2 _ (by rw[k1.vs]; exact fy));rw[(h2 _).1] at b;exact b.from k1 (by omega)
   have self:∀ x:Nd,x.fine r.vs.length→qei r x.sz (.ok x r):=fun x hx=>⟨Kept.refl h,hx,Nat.le_refl _⟩
   cases m with
   | p=>unfold rd; exact seq .u .lp rfl trivial (fun _=>⟨rfl,fun _ h=>h⟩)
   | s=>unfold rd; exact seq .p .ls rfl trivial (fun _=>⟨rfl,fun _ h=>h⟩)
   | lp x=>
     unfold rd;split
     ·rename_i c; exact two 42 x .u .lp (by omega) (A4 c) rfl trivial hm (fun _=>⟨rfl,fun _ h=>h⟩)
     split
     ·rename_i c; exact two 47 x .u .lp (by omega) (A4 c) rfl trivial hm (fun _=>⟨rfl,fun _ h=>h⟩)
     split
     ·rename_i c; exact two 37 x .u .lp (by omega) (A4 c) rfl trivial hm (fun _=>⟨rfl,fun _ h=>h⟩)
     exact self x hm
   | ls x=>
     unfold rd;split
     ·rename_i c; exact two 43 x .p .ls (by omega) (A4 c) rfl trivial hm (fun _=>⟨rfl,fun _ h=>h⟩)
     split
     ·rename_i c; exact two 45 x .p .ls (by omega) (A4 c) rfl trivial hm (fun _=>⟨rfl,fun _ h=>h⟩)
     exact self x hm
   | u=>
     unfold rd;split
     ·rename_i c;have hi:=F8 (A4 c);have a:=ih .u r.next (Rd.next_ok h) (by rw[hno.2.1]; exact hnum) trivial
      refine a.bind fun y r' k1 fy wy=>?_
      refine ⟨kn.trans k1,by rw[← hno.2.2]; exact fy,?_⟩;show y.sz + 1 + _≤_;have:Md.sz .u=0:=rfl;omega
     split
     ·rename_i c;have hi:=F8 (r:=r) (by omega);refine ⟨kn,trivial,?_⟩;show 1 + _≤0 + _;omega
     split
     ·rename_i c
      have hk:r.tok.kind=1:=by
       unfold Rd.isName at c;simp only[Bool.and_eq_true,decide_eq_true_eq] at c;exact c.1
      have hi:=F8 (r:=r) (by omega);split
      ·rename_i c2;have hv:=qat r.vs r.tok.text r.vs.length 0 (by omega);refine ⟨kn,⟨c2,by unfold Rd.var; omega,Q3 h⟩,?_⟩;show 1 + _≤0 + _;omega
      ·trivial
     split
     ·trivial
     ·rename_i hin
      have hop:r.op < 16:=by
       unfold Rd.into at hin;split at hin
       ·split at hin
        ·assumption
        ·cases hin
       ·cases hin
      have ho:=Rd.opened_ok h hop;have kn2:=Kept.next ho;have hno2:=r.opened.next_op;have a:=ih .s r.opened.next (Rd.next_ok ho) (by rw[hno2.2.1]; exact hnum) trivial
      refine a.bind fun y r' k1 fy wy=>?_
      have k3:=kn2.trans k1;split
      ·have kn4:=Kept.next k3.ok
       have hpos:0 < r'.next.op:=by
        rw[kn4.op,k3.op];have:=h.op;show 0 < r.op + 1;omega
       have hi4:=kn4.i;have hi5:r.i≤r.opened.next.i:=kn2.i;have hi6:=k1.i;refine ⟨⟨Rd.closed_ok kn4.ok hpos,?_,?_,?_,?_,kn4.ly.trans k3.ly,kn4.ms.trans k3.ms⟩,?_,?_⟩
       ·exact kn4.ts.trans k3.ts
       ·exact kn4.vs.trans k3.vs
       ·show r'.next.op - 1=r.op;rw[kn4.op,k3.op];show r.op + 1 - 1=r.op;omega
       ·show r.i≤r'.next.i;omega
       ·have:r.opened.next.vs=r.vs:=hno2.2.2;rw[← this]; exact fy
       ·have:Md.sz .s=0:=rfl;show y.sz + _≤0 + r'.next.i;omega
      ·trivial
theorem Qt {v:Int}:(B2 456 v).length≤4104:=by
 unfold B2;split
 ·simp
 ·rw[List.length_reverse];exact Nat.le_trans (JD 456 _) (by omega)
theorem kA {vs:List (List UInt8)}:∀ x:Nd,x.pr vs→(wr x).length≤4110 * x.sz:=by
 have brk:∀ (b:Bool) (w:List UInt8),(wrB b w).length≤w.length + 2:=by
  intro b w
  cases b <;> simp[wrB]
 intro x
 induction x with
 | num k=>intro _; have:=Qt (v:=k); show (B2 456 k).length≤4110 * 1; omega
 | name v s=>intro h; have:=h.1.l; show s.length≤4110 * 1; omega
 | minus x ih=>
   intro h;have:=ih h;have:=brk (!x.single) (wr x);show (45 :: wrB (!x.single) (wr x)).length≤4110 * (x.sz + 1);rw[List.length_cons];omega
 | two op x y ih1 ih2=>
   intro h;have a1:=ih1 h.2.1;have a2:=ih2 h.2.2;have b1:=brk (!C2 op && x.adds) (wr x);have b2:=brk (C2 op && y.adds || !C2 op && !y.single) (wr y);show (wrB (!C2 op && x.adds) (wr x)++32 :: opc op :: 32 :: wrB (C2 op && y.adds || !C2 op && !y.single) (wr y)).length≤4110 * (x.sz + y.sz + 1);rw[List.length_append,List.length_cons,List.length_cons,List.length_cons];omega
theorem qqe (b:Bool) (d:Nat):d≤dpB b d∧dpB b d≤d + 1:=by cases b <;> simp[dpB]
theorem qnt (x:Nd) (h:x.adds=true):x.single=false:=by cases x <;> first | rfl | cases h
theorem q24 (x:Nd):dpB x.adds (dp x)≤dpB (!x.single) (dp x):=by
 cases h:x.adds with
 | false=>exact (qqe _ _).1
 | true=>rw[qnt x h]; exact Nat.le_refl _
theorem zal {op:Int} (h:C2 op=false) (x y:Nd):dpB (Nd.two op x y).adds (dp (.two op x y))=max (dpB x.adds (dp x)) (dpB (!y.single) (dp y)):=by
 rw[show (Nd.two op x y).adds=false from h,dp,h];simp[dpB]
theorem zam {op:Int} (h:C2 op=true) (x y:Nd):dp (.two op x y)=max (dp x) (dpB y.adds (dp y)):=by
 rw[dp,h];simp[dpB]
def Md.bnd:Md→Nd→Nat
 | .u,x=>dpB (!x.single) (dp x)
 | .p,x=>dpB x.adds (dp x)
 | .lp _,x=>dpB x.adds (dp x)
 | _,x=>dp x
def Md.dp (r:Rd):Md→Prop
 | .lp x=>((dpB x.adds (Rf.dp x):Nat):Int) + r.op≤16
 | .ls x=>((Rf.dp x:Nat):Int) + r.op≤16
 | _=>True
def qqx (r:Rd) (m:Md):Rs→Prop
 | .ok x _=>((m.bnd x:Nat):Int) + r.op≤16
 | .bad _ _ _=>True
theorem q4e:∀ n m (r:Rd),r.ok→(∀ t∈r.ts,t.kind=2→qi t.text)→m.fine r.vs.length→m.dp r→qqx r m (rd n m r):=by
 intro n
 induction n with
 | zero=>intro m r _ _ _ _; trivial
 | succ n ih=>
   intro m r h hnum hf hm;have kn:=Kept.next h;have hno:=r.next_op;have hop:=h.op
   have bnd:∀ (md:Md) (r2:Rd) (m3:Md) (f:Nd→Rd→Rs),r2.ok→r2.ts=r.ts→r2.vs=r.vs→md.fine r.vs.length→md.dp r2→(∀ x r3,Kept r2 r3→x.fine r.vs.length→((md.bnd x:Nat):Int) + r2.op≤16→qqx r m3 (f x r3))→qqx r m3 ((rd n md r2).bind f):=by
    intro md r2 m3 f h2 e1 e2 hf2 hq2 g;have a:=ih md r2 h2 (by rw[e1]; exact hnum) (by rw[e2]; exact hf2) hq2;have b:=qxi n md r2 h2 (by rw[e1]; exact hnum) (by rw[e2]; exact hf2)
    cases hb:rd n md r2 with
    | bad e p r3=>trivial
    | ok x r3=>
      rw[hb] at a b;exact g x r3 b.1 (by rw[← e2]; exact b.2.1) a
   have to:∀ {m2:Md} {r2:Rd} {m3:Md} {rs:Rs},qqx r2 m2 rs→r2.op=r.op→(∀ x,m3.bnd x≤m2.bnd x)→qqx r m3 rs:=by
    intro m2 r2 m3 rs a e le
    cases rs with
    | bad e p r3=>trivial
    | ok x r3=>
      have:=le x;have a:((m2.bnd x:Nat):Int) + r2.op≤16:=a;show ((m3.bnd x:Nat):Int) + r.op≤16;omega
   have mul:∀ (op:Int) (x:Nd),(op=42∨op=47∨op=37)→x.fine r.vs.length→((dpB x.adds (dp x):Nat):Int) + r.op≤16→
    qqx r (.lp x) ((rd n .u r.next).bind fun y r=>rd n (.lp (.two op x y)) r):=by
    intro op x ho hx hdx
    refine bnd .u r.next (.lp x) _ kn.ok kn.ts kn.vs trivial trivial fun y r3 k3 fy qy=>?_
    have k:=kn.trans k3;have e:=zal (op:=op) (by rcases ho with rfl | rfl | rfl <;> rfl) x y;have qy:((dpB (!y.single) (dp y):Nat):Int) + r.next.op≤16:=qy;rw[hno.1] at qy;refine to (m2:=.lp (.two op x y)) (ih _ r3 k3.ok (by rw[k.ts]; exact hnum) (by rw[k.vs]; exact ⟨by omega,hx,fy⟩) ?_) k.op (fun _=>Nat.le_refl _);show ((dpB (Nd.two op x y).adds (dp (.two op x y)):Nat):Int) + r3.op≤16;rw[e,k.op];omega
   have add:∀ (op:Int) (x:Nd),(op=43∨op=45)→x.fine r.vs.length→((dp x:Nat):Int) + r.op≤16→
    qqx r (.ls x) ((rd n .p r.next).bind fun y r=>rd n (.ls (.two op x y)) r):=by
    intro op x ho hx hdx
    refine bnd .p r.next (.ls x) _ kn.ok kn.ts kn.vs trivial trivial fun y r3 k3 fy qy=>?_
    have k:=kn.trans k3;have e:=zam (op:=op) (by rcases ho with rfl | rfl <;> rfl) x y;have qy:((dpB y.adds (dp y):Nat):Int) + r.next.op≤16:=qy;rw[hno.1] at qy;refine to (m2:=.ls (.two op x y)) (ih _ r3 k3.ok (by rw[k.ts]; exact hnum) (by rw[k.vs]; exact ⟨by omega,hx,fy⟩) ?_) k.op (fun _=>Nat.le_refl _);show ((dp (.two op x y):Nat):Int) + r3.op≤16;rw[e,k.op];omega
   cases m with
   | p=>
     unfold rd
     refine bnd .u r .p _ h rfl rfl trivial trivial fun y r3 k3 fy qy=>?_
     have:=q24 y;have qy:((dpB (!y.single) (dp y):Nat):Int) + r.op≤16:=qy;refine to (m2:=.lp y) (ih _ r3 k3.ok (by rw[k3.ts]; exact hnum) (by rw[k3.vs]; exact fy) ?_) k3.op (fun _=>Nat.le_refl _);show ((dpB y.adds (dp y):Nat):Int) + r3.op≤16;rw[k3.op];omega
   | s=>
     unfold rd
     refine bnd .p r .s _ h rfl rfl trivial trivial fun y r3 k3 fy qy=>?_
     have:=(qqe y.adds (dp y)).1;have qy:((dpB y.adds (dp y):Nat):Int) + r.op≤16:=qy;refine to (m2:=.ls y) (ih _ r3 k3.ok (by rw[k3.ts]; exact hnum) (by rw[k3.vs]; exact fy) ?_) k3.op (fun _=>Nat.le_refl _);show ((dp y:Nat):Int) + r3.op≤16;rw[k3.op];omega
   | lp x=>
     unfold rd;split
     ·exact mul 42 x (by omega) hf hm
     split
     ·exact mul 47 x (by omega) hf hm
     split
     ·exact mul 37 x (by omega) hf hm
     exact hm
   | ls x=>
     unfold rd;split
     ·exact add 43 x (by omega) hf hm
     split
     ·exact add 45 x (by omega) hf hm
     exact hm
   | u=>
     unfold rd;split
     ·refine bnd .u r.next .u _ kn.ok kn.ts kn.vs trivial trivial fun y r3 k3 fy qy=>?_
      rw[hno.1] at qy;exact qy
     split
     ·show ((0:Nat):Int) + r.op≤16;omega
     split
     ·split
      ·show ((0:Nat):Int) + r.op≤16;omega
      ·trivial
     split
     ·trivial
     ·rename_i hin
      have hlt:r.op < 16:=by
       unfold Rd.into at hin;split at hin
       ·split at hin
        ·assumption
        ·cases hin
       ·cases hin
      have ho:=Rd.opened_ok h hlt;have kn2:=Kept.next ho
      refine bnd .s r.opened.next .u _ kn2.ok kn2.ts kn2.vs trivial trivial fun y r3 _ _ qy=>?_
      split
      ·have e:r.opened.next.op=r.op + 1:=r.opened.next_op.1;have qy:((dp y:Nat):Int) + r.opened.next.op≤16:=qy;rw[e] at qy;have:=(qqe (!y.single) (dp y)).2;show ((dpB (!y.single) (dp y):Nat):Int) + r.op≤16;omega
      ·trivial
mutual
inductive Sm where
 | set (p:Pl) (v:Int) (s:List UInt8) (e:Option Nd)
 | skip (p:Pl)
 | stop (p:Pl)
 | mark (p:Pl) (s:List UInt8)
 | choose (p:Pl) (bs:List Bl)
 | loop (p:Pl) (b:List Sm)
 | ifs (p:Pl) (x y:Nd) (q:Bool) (b:List Sm)
 | ife (p:Pl) (x y:Nd) (q:Bool) (b:List Sm) (pe:Pl) (e:List Sm)
 | while (p:Pl) (x y:Nd) (q:Bool) (b:List Sm)
inductive Bl where
 | mk (p:Pl) (b:List Sm)
end
mutual
def Sm.d:Sm→D
 | .set p v s e=>.iface qk (.agg [.int .i64 p.b,.int .i64 p.g,.int .i64 p.l,.int .i64 p.c,.int .i64 v,.str s,oD e])
 | .skip p=>.iface U9 (.agg [.int .i64 p.b,.int .i64 p.g,.int .i64 p.l,.int .i64 p.c])
 | .stop p=>.iface U8 (.agg [.int .i64 p.b,.int .i64 p.g,.int .i64 p.l,.int .i64 p.c])
 | .mark p s=>.iface V0 (.agg [.int .i64 p.b,.int .i64 p.g,.int .i64 p.l,.int .i64 p.c,.str s])
 | .choose p bs=>.iface x8 (.agg [.int .i64 p.b,.int .i64 p.g,.int .i64 p.l,.int .i64 p.c,.sl (Bls.d bs)])
 | .loop p b=>.iface Q5 (.agg [.int .i64 p.b,.int .i64 p.g,.int .i64 p.l,.int .i64 p.c,.sl (Sms.d b)])
 | .ifs p x y q b=>.iface T3 (.agg [.int .i64 p.b,.int .i64 p.g,.int .i64 p.l,.int .i64 p.c,x.d,y.d,.bool q,.sl (Sms.d b),.nilp])
 | .ife p x y q b pe e=>.iface T3 (.agg [.int .i64 p.b,.int .i64 p.g,.int .i64 p.l,.int .i64 p.c,x.d,y.d,.bool q,.sl (Sms.d b),.box (.agg [.int .i64 pe.b,.int .i64 pe.g,.int .i64 pe.l,.int .i64 pe.c,.sl (Sms.d e)])])
 | .while p x y q b=>.iface Q4 (.agg [.int .i64 p.b,.int .i64 p.g,.int .i64 p.l,.int .i64 p.c,x.d,y.d,.bool q,.sl (Sms.d b)])
def Bl.d:Bl→D
 | .mk p b=>.agg [.int .i64 p.b,.int .i64 p.g,.int .i64 p.l,.int .i64 p.c,.sl (Sms.d b)]
def Sms.d:List Sm→List D
 | []=>[]
 | s :: l=>s.d :: Sms.d l
def Bls.d:List Bl→List D
 | []=>[]
 | s :: l=>s.d :: Bls.d l
end
theorem Sms.d_map:∀ l,Sms.d l=l.map Sm.d
 | []=>by simp[Sms.d]
 | s :: l=>by simp[Sms.d,Sms.d_map l]
theorem Bls.d_map:∀ l,Bls.d l=l.map Bl.d
 | []=>by simp[Bls.d]
 | s :: l=>by simp[Bls.d,Bls.d_map l]
theorem Sm.wt (s:Sm):wt s.d=16:=by cases s <;> simp only[Sm.d,Rf.wt]
theorem Sm.cells (s:Sm):s.d.cells=[s.d]:=by cases s <;> simp only[Sm.d,D.cells]
theorem Bl.wt (s:Bl):wt s.d=56:=by cases s; simp[Bl.d,Rf.wt,Rf.wts,IntKind.bits]
theorem Sm.vcells (s:Sm):V.cells (.d s.d)=[.d s.d]:=by cases s <;> simp only[Sm.d,V.cells]
theorem Bl.vcells (s:Bl):(V.cells (.d s.d)).length=5:=by cases s; simp[Bl.d,V.cells]
attribute [simp] Sm.vcells Bl.vcells
structure Lst (α:Type) where
 d:α→D
 w:W
 wt:∀ x,wt (d x)≤w.w
 cells:∀ x,(V.cells (.d (d x))).length=w.c
 pos:1≤w.w
def smL:Lst Sm:=⟨Sm.d,⟨1,16⟩,fun x=>by rw[Sm.wt]; exact Nat.le_refl _,fun x=>by simp,by decide⟩
def blL:Lst Bl:=⟨Bl.d,⟨5,56⟩,fun x=>by rw[Bl.wt]; exact Nat.le_refl _,fun x=>by simp,by decide⟩
def LD {α:Type} (k:Lst α) (l:List α):List D:=l.map k.d
def LW {α:Type} (k:Lst α) (l:List α):List V:=l.map fun x=>.d (k.d x)
section
variable {α:Type} (k:Lst α) (l:List α)
@[simp] theorem LW_len:(LW k l).length=l.length:=by simp[LW]
@[simp] theorem LD_len:(LD k l).length=l.length:=by simp[LD]
@[simp] theorem q0d:(LD k l).map V.d=LW k l:=by simp[LD,LW,Function.comp_def]
@[simp] theorem qen:LW k []=[]:=rfl
@[simp] theorem qjy:LD k []=[]:=rfl
@[simp] theorem LW_take (n):(LW k l).take n=LW k (l.take n):=by simp[LW,List.map_take]
theorem wq (x:α):LW k l++[.d (k.d x)]=LW k (l++[x]):=by simp[LW]
@[simp] theorem rens_LW (al:Loc→Bool) (m:List Loc):qo al (LW k l) m=(LW k l,m):=by rw[← q0d]; exact wF ..
@[simp] theorem zij (f:Loc→Loc):X5 f (LW k l)=LW k l:=by
  induction l with
  | nil=>rfl
  | cons x xs ih=>
    show V.mapL f (.d _) :: X5 f (LW k xs)=_;rw[ih];rfl
@[simp] theorem frzL_LW (h:Loc→Option Obj) (n:Nat):ju (frz h (n + 1)) (LW k l)=some (LD k l,[]):=by rw[← q0d]; exact qme ..
@[simp] theorem q0c:(∀ x∈LW k l,x.cells.length=k.w.c)=True:=eq_true (by
  intro x hx;obtain ⟨n,_,rfl⟩:=List.mem_map.1 hx
  exact k.cells n)
theorem qkc:wl (LD k l)≤k.w.w:=by
 induction l with
 | nil=>exact k.pos
 | cons x xs ih=>
   show max (Rf.wt (k.d x)) (wl (LD k xs))≤_;have:=k.wt x;omega
@[simp] theorem QT:(wl (LD k l)≤k.w.w)=True:=eq_true (qkc k l)
@[simp] theorem qdf {n:Nat} (hw:k.w.w≤64) (h:n≤1099511627776):(n * wl (LD k l)≤w8)=True:=eq_true (Nat.le_trans (Nat.mul_le_mul h (qkc k l)) (by unfold w8; have:=Nat.mul_le_mul (Nat.le_refl 1099511627776) hw; omega))
theorem jM {i:Nat} (h:i < l.length):(LD k l)[i]? = some (k.d (l[i])):=by simp[LD,h]
end
theorem Sms.d_LD (l:List Sm):Sms.d l=LD smL l:=Sms.d_map l
theorem Bls.d_LD (l:List Bl):Bls.d l=LD blL l:=Bls.d_map l
@[simp] theorem wl_sm (l):(wl (LD smL l)≤16)=True:=QT smL l
@[simp] theorem wl_bl (l):(wl (LD blL l)≤56)=True:=QT blL l
@[simp] theorem fit_sm {n:Nat} (l) (h:n≤1099511627776):(n * wl (LD smL l)≤w8)=True:=qdf smL l (by decide) h
@[simp] theorem fit_bl {n:Nat} (l) (h:n≤1099511627776):(n * wl (LD blL l)≤w8)=True:=qdf blL l (by decide) h
@[simp] theorem zfm (l s):LW smL l++[.d (Sm.d s)]=LW smL (l++[s]):=wq smL l s
structure KeptS (r r':Rd):Prop where
 ok:r'.ok
 ts:r'.ts=r.ts
 vs:r'.vs=r.vs
 op:r'.op=r.op
 i:r.i≤r'.i
 ly:r'.ly=r.ly
theorem Kept.s {r r':Rd} (h:Kept r r'):KeptS r r':=⟨h.ok,h.ts,h.vs,h.op,h.i,h.ly⟩
theorem KeptS.refl {r:Rd} (h:r.ok):KeptS r r:=(Kept.refl h).s
theorem KeptS.trans {a b c:Rd} (h:KeptS a b) (k:KeptS b c):KeptS a c:=⟨k.ok,k.ts.trans h.ts,k.vs.trans h.vs,k.op.trans h.op,Nat.le_trans h.i k.i,k.ly.trans h.ly⟩
def Rz.fineS {α:Type} (r:Rd) (d:Nat):Rz α→Prop
 | .ok _ r'=>KeptS r r'∧r.i + d≤r'.i
 | .bad _ _ r'=>r'.ly=r.ly
theorem Rz.fineS_ly {α:Type} {r:Rd} {d:Nat} {b:Rz α} (h:b.fineS r d):b.st.ly=r.ly:=by
 cases b with
 | ok x r'=>exact h.1.ly
 | bad e p r'=>exact h
theorem Rz.fineS_kept {α:Type} {r r':Rd} {d d':Nat} {b:Rz α} (h:b.fineS r' d') (k:KeptS r r') (l:r.i + d≤r'.i + d'):b.fineS r d:=by
 cases b with
 | bad e p r2=>exact Eq.trans h k.ly
 | ok x r2=>exact ⟨k.trans h.1,by have:=h.2; omega⟩
theorem Rz.fine.s {α:Type} {r:Rd} {d:Nat} {b:Rz α} (h:b.fine r d):b.fineS r d:=by
 cases b with
 | ok x r'=>exact ⟨h.1.s,h.2⟩
 | bad e p r'=>exact h
def Rd.semi {α:Type} (r:Rd) (x:α):Rz α:=if r.isT [59]=true then .ok x r.next else .bad 80 r.tok.pos r
theorem Jp {α:Type} {r:Rd} (h:r.ok) (x:α):(r.semi x).fineS r 1:=by
 unfold Rd.semi;split
 ·rename_i c;exact ⟨(Kept.next h).s,by rw[F8 (A4 c)]; omega⟩
 ·rfl
def Rd.expr (r:Rd):Rz (Option Nd):=if r.isT [97,110,121]=true then .ok none r.next else r.sum.bind fun x r=>.ok (some x) r
def Rd.assign (r:Rd) (p:Pl):Rz Sm:=
 if r.var r.tok.text < 0 then .bad 81 r.tok.pos r
 else if r.next.isT [58,61]=true then r.next.next.expr.bind fun e r3=>r3.semi (.set p (r.var r.tok.text) r.tok.text e)
 else .bad 80 r.next.tok.pos r.next
def smO (s:Sm):List V:=[.d s.d]
set_option maxHeartbeats 4000000 in
theorem qnp {r:Rd} (h:r.ok) (hk:r.tok.kind≠0) (hnum:∀ t∈r.ts,t.kind=2→qi t.text) (p:Pl) :
 d6 T0 X0 kj [.ptr (.b 0) 0 0,.d (.agg p.cs)] r.heap=(r.assign p).out smO∧(r.assign p).fineS r 1:=by
 have s0:=r9 h;have htx:=Q3 h;have s3:=KD h _ htx;have hno:=r.next_op;have l1:=(lys r).1;have hr:=qat r.vs r.tok.text r.vs.length 0 (by omega);have hv:=h.vs
 have hr1:-1≤r.var r.tok.text∧r.var r.tok.text≤16:=by unfold Rd.var; omega
 rw[c9 (af:=x4) rfl rfl rfl];unfold Rd.assign
 by_cases c1:r.var r.tok.text < 0
 ·rw[if_pos c1];refine ⟨?_,rfl⟩;have n1:=F9 h 81;cases hly:r.ly
  all_goals
   simp only[Rd.heap,hly,Rz.out,Tok.cs,Pl.cs,i9] at s0 s3 n1 ⊢;generalize r.tok=t at *;simp -implicitDefEqProofs (disch:=omega) [x4,s0,s3,n1]
 rw[if_neg c1];have n1:=C3 r 81;have s4:=V7 h;have h1:=Rd.next_ok h;have i1:=F8 hk
 by_cases c2:r.next.isT [58,61]=true
 case neg=>
  rw[if_neg c2];refine ⟨?_,l1⟩;have n2:=S0 h1 (s:=[58,61]) (by simp) (by simpa using c2);cases hly:r.ly
  all_goals
   simp only[Rd.heap,hly,l1,Rz.out,Tok.cs,Pl.cs,i9] at s0 s3 s4 n1 n2 ⊢;generalize r.next.tok=t2 at *;generalize r.tok=t at *;simp -implicitDefEqProofs (disch:=omega) [x4,s0,s3,s4,n1,n2]
 rw[if_pos c2];have n2:=X9 h1 (by simp) c2;have h2:=Rd.next_ok h1;have k2:=(Kept.next h).trans (Kept.next h1);have i2:=F8 (A4 c2);have l2:=k2.ly;have a1:=n7 h2 [97,110,121] (by simp)
 have k3:∀ e (r3:Rd),KeptS r.next.next r3→(r3.semi (Sm.set p (r.var r.tok.text) r.tok.text e)).fineS r 1:=fun e r3 k=>
  Rz.fineS_kept (Jp k.ok _) (k2.s.trans k) (by have:=k.i; omega)
 generalize hq:r.next.next=q at *;unfold Rd.expr
 by_cases c3:q.isT [97,110,121]=true
 ·rw[if_pos c3];rw[c3,if_pos rfl] at a1;have h3:=Rd.next_ok h2;refine ⟨?_,k3 _ _ (Kept.next h2).s⟩;have l3:=(lys q).1.trans l2;simp only[Rz.bind];unfold Rd.semi
  by_cases c4:q.next.isT [59]=true
  ·rw[if_pos c4];have n3:=X9 h3 (by simp) c4;have l4:=(lys q.next).1.trans l3;cases hly:r.ly
   all_goals
    simp only[Rd.heap,hly,l1,l2,l3,l4,Rz.out,smO,Sm.d,oD,Tok.cs,Pl.cs] at s0 s3 s4 n1 n2 n3 a1 ⊢;generalize r.tok=t at *;simp -implicitDefEqProofs (disch:=omega) [x4,s0,s3,s4,n1,n2,n3,a1]
  ·rw[if_neg c4];have n3:=S0 h3 (s:=[59]) (by simp) (by simpa using c4);cases hly:r.ly
   all_goals
    simp only[Rd.heap,hly,l1,l2,l3,Rz.out,Tok.cs,Pl.cs,i9] at s0 s3 s4 n1 n2 n3 a1 ⊢;generalize q.next.tok=t2 at *;generalize r.tok=t at *;simp -implicitDefEqProofs (disch:=omega) [x4,s0,s3,s4,n1,n2,n3,a1]
 rw[if_neg c3];rw[show q.isT [97,110,121]=false by simpa using c3,if_neg (by simp)] at a1;obtain ⟨s5,f5⟩:=YO h2 (by rw[k2.ts]; exact hnum);have e5:=(Rz.fine_ly f5).trans l2
 have f6:((q.sum.bind fun x r=>(.ok (some x) r:Rz (Option Nd))).bind fun e r3=>r3.semi (Sm.set p (r.var r.tok.text) r.tok.text e)).fineS r 1:=by
  rcases hb:q.sum with ⟨x,r3⟩ | ⟨e,p',r3⟩ <;> rw[hb] at f5
  ·exact k3 _ _ f5.1.s
  ·exact Eq.trans f5 l2
 refine ⟨?_,f6⟩;clear f6 k3;rcases hb:q.sum with ⟨x,r3⟩ | ⟨e,p',r3⟩
 all_goals
  rw[hb] at s5 e5 f5;have e5:r3.ly=r.ly:=e5
 case bad=>
  cases hly:r.ly
  all_goals
   simp only[Rd.heap,hly,l1,l2,e5,Rz.bind,Rz.out,Tok.cs,Pl.cs,i9] at s0 s3 s4 s5 n1 n2 a1 ⊢;generalize r.tok=t at *;simp -implicitDefEqProofs (disch:=omega) [x4,s0,s3,s4,s5,n1,n2,a1]
 simp only[Rz.bind];unfold Rd.semi
 by_cases c4:r3.isT [59]=true
 ·rw[if_pos c4];have n3:=X9 f5.1.ok (by simp) c4;have l4:=(lys r3).1.trans e5;cases hly:r.ly
  all_goals
   simp only[Rd.heap,hly,l1,l2,l4,e5,Rz.out,smO,Sm.d,oD,Tok.cs,Pl.cs] at s0 s3 s4 s5 n1 n2 n3 a1 ⊢;generalize r.tok=t at *;simp -implicitDefEqProofs (disch:=omega) [x4,s0,s3,s4,s5,n1,n2,n3,a1]
 ·rw[if_neg c4];have n3:=S0 f5.1.ok (s:=[59]) (by simp) (by simpa using c4);cases hly:r.ly
  all_goals
   simp only[Rd.heap,hly,l1,l2,e5,Rz.out,Tok.cs,Pl.cs,i9] at s0 s3 s4 s5 n1 n2 n3 a1 ⊢;generalize r3.tok=t2 at *;generalize r.tok=t at *;simp -implicitDefEqProofs (disch:=omega) [x4,s0,s3,s4,s5,n1,n2,n3,a1]
def Rd.named (r:Rd) (s:List UInt8):Rd:={ r with ms:=r.ms++[s] }
theorem KY {r:Rd} (h:r.ok) (s):(r.named s).ok:=⟨h.i,h.n,h.mid,h.fin,h.vs,h.op,h.tx,h.tv,h.ly⟩
def Rd.mark (r:Rd) (p:Pl):Rz Sm:=
 if r.isName=false then .bad 80 r.tok.pos r else if zq r.tok.text=false then .bad 42 r.tok.pos r else if r.tok.text∈r.ms then .bad 82 r.tok.pos r
 else (r.named r.tok.text).next.semi (.mark p r.tok.text)
set_option maxHeartbeats 4000000 in
theorem qt9 {r:Rd} (h:r.ok) (p:Pl) :
 d6 T0 X0 wQ [.ptr (.b 0) 0 0,.d (.agg p.cs)] r.heap=(r.mark p).out smO∧(r.mark p).fineS r 1:=by
 have s0:=r9 h;have htx:=Q3 h;have s1:=B3 h;have s2:=XI _ htx;have n1:=C3 r 80;have n2:=C3 r 42;have n3:=C3 r 82;rw[c9 (af:=D9) rfl rfl rfl];unfold Rd.mark
 by_cases c1:r.isName=false
 ·rw[if_pos c1];refine ⟨?_,rfl⟩;have n4:=F9 h 80;rw[c1] at s1;cases hly:r.ly
  all_goals
   simp only[Rd.heap,hly,i9,Rz.out,Pl.cs] at s1 n4 ⊢;simp -implicitDefEqProofs (disch:=omega) [D9,s1,n4]
 rw[if_neg c1]
 have c1':r.isName=true:=by simpa using c1
 rw[c1'] at s1
 by_cases c2:zq r.tok.text=false
 ·rw[if_pos c2];refine ⟨?_,rfl⟩;have n4:=F9 h 42;rw[c2] at s2;cases hly:r.ly
  all_goals
   simp only[Rd.heap,hly,i9,Tok.cs,Rz.out,Pl.cs] at s0 s1 n1 n4 ⊢;generalize r.tok=t at *;simp -implicitDefEqProofs (disch:=omega) [D9,s0,s1,s2,n1,n4]
 rw[if_neg c2];rw[show zq r.tok.text=true by simpa using c2] at s2
 by_cases c3:r.tok.text∈r.ms
 ·rw[if_pos c3];refine ⟨?_,rfl⟩;have n4:=F9 h 82;cases hly:r.ly
  all_goals
   simp only[Rd.heap,hly,i9,Tok.cs,Rz.out,Pl.cs] at s0 s1 n1 n2 n4 ⊢;generalize r.tok=t at *;simp -implicitDefEqProofs (disch:=omega) [D9,s0,s1,s2,n1,n2,n4,c3]
 rw[if_neg c3];have hN:=KY h r.tok.text;have s4:=V7 hN;have htk:(r.named r.tok.text).tok=r.tok:=rfl;have h1:=Rd.next_ok hN;have i1:(r.named r.tok.text).next.i=r.i + 1:=F8 (r:=r.named r.tok.text) (by rw[htk]; unfold Rd.isName at c1'; simp at c1'; omega);have k1:KeptS r (r.named r.tok.text).next:=⟨h1,(Rd.next_op _).2.1,(Rd.next_op _).2.2,(Rd.next_op _).1,by omega,(lys _).1⟩;refine ⟨?_,Rz.fineS_kept (Jp h1 _) k1 (by omega)⟩;have hp:=q1o c3;have l0:(r.named r.tok.text).ly=r.ly:=rfl;have l1:=k1.ly;rw[htk] at s4;have hm:(r.named r.tok.text).ms=r.ms++[r.tok.text]:=rfl;have hm2:(r.named r.tok.text).ts=r.ts∧(r.named r.tok.text).i=r.i∧(r.named r.tok.text).vs=r.vs∧(r.named r.tok.text).op=r.op:=⟨rfl,rfl,rfl,rfl⟩;generalize r.named r.tok.text=q at *;unfold Rd.semi
 by_cases c4:q.next.isT [59]=true
 ·rw[if_pos c4];have n4:=X9 h1 (by simp) c4;have l4:=(lys q.next).1.trans l1;cases hly:r.ly
  all_goals
   simp only[Rd.heap,hly,l0,l1,l4,hm,hm2,Rz.out,smO,Sm.d,Tok.cs,Pl.cs] at s0 s1 s4 n1 n2 n3 n4 ⊢;generalize r.tok=t at *;simp -implicitDefEqProofs (disch:=omega) [D9,s0,s1,s2,s4,n1,n2,n3,n4,c3,hp]
 ·rw[if_neg c4];have n4:=S0 h1 (s:=[59]) (by simp) (by simpa using c4);cases hly:r.ly
  all_goals
   simp only[Rd.heap,hly,l0,l1,hm,hm2,Rz.out,i9,Tok.cs,Pl.cs] at s0 s1 s4 n1 n2 n3 n4 ⊢;generalize q.next.tok=t2 at *;generalize r.tok=t at *;simp -implicitDefEqProofs (disch:=omega) [D9,s0,s1,s2,s4,n1,n2,n3,n4,c3,hp]
mutual
def qT:Nat→Rd→Rz (List Sm)
 | 0,r=>.bad 80 g9 r
 | n + 1,r=>if r.tok.kind=1 then (kC n r).bind fun o r1=>(match o with
   | none=>.ok [] r1
   | some s=>(qT n r1).bind fun l r2=>.ok (s :: l) r2) else .ok [] r
def jH:Nat→Rd→Rz (List Sm)
 | 0,r=>.bad 80 g9 r
 | n + 1,r=>match r.into [123] with
   | some e=>.bad e r.tok.pos r
   | none=>(qT n r.opened.next).bind fun l r1=>if r1.isT [125]=true then .ok l r1.next.closed else .bad 80 r1.tok.pos r1
def vY:Nat→Rd→Rz (List Bl)
 | 0,r=>.bad 80 g9 r
 | n + 1,r=>if r.isT [111,114]=true then (jH n r.next).bind fun l r1=>(vY n r1).bind fun bs r2=>.ok (.mk r.tok.pos l :: bs) r2 else .ok [] r
def kC:Nat→Rd→Rz (Option Sm)
 | 0,r=>.bad 80 g9 r
 | n + 1,r=>
   if r.isName=true then (r.assign r.tok.pos).bind fun s r1=>.ok (some s) r1
   else if r.isT [115,107,105,112]=true then r.next.semi (some (.skip r.tok.pos))
   else if r.isT [115,116,111,112]=true then r.next.semi (some (.stop r.tok.pos))
   else if r.isT [109,97,114,107]=true then (r.next.mark r.tok.pos).bind fun s r1=>.ok (some s) r1
   else if r.isT [99,104,111,111,115,101]=true then (jH n r.next).bind fun l r1=>(vY n r1).bind fun bs r2=>.ok (some (.choose r.tok.pos (.mk r.tok.pos l :: bs))) r2
   else if r.isT [108,111,111,112]=true then (jH n r.next).bind fun l r1=>.ok (some (.loop r.tok.pos l)) r1
   else if r.isT [105,102]=true then r.next.cond.bind fun c r1=>(jH n r1).bind fun l r2=>
    if r2.isT [101,108,115,101]=true then (jH n r2.next).bind fun e r3=>.ok (some (.ife r.tok.pos c.1 c.2.1 c.2.2 l r2.tok.pos e)) r3 else .ok (some (.ifs r.tok.pos c.1 c.2.1 c.2.2 l)) r2
   else if r.isT [119,104,105,108,101]=true then r.next.cond.bind fun c r1=>(jH n r1).bind fun l r2=>.ok (some (.while r.tok.pos c.1 c.2.1 c.2.2 l)) r2
   else .ok none r
end
def lsO (l:List Sm):List V:=[.d (.sl (LD smL l))]
def osO:Option Sm→List V
 | some s=>[.d s.d,.d (.bool true)]
 | none=>[.d .nili,.d (.bool false)]
def Xn (k:Nat) (acc:List Sm):Rz (List Sm)→Option (Ex × St)
 | .ok l r=>some (.exit 0,⟨[(3,.ref (.b k) ⟨1,16⟩ 0 (acc++l).length)],r.heap++[.arr (LW smL (acc++l)) ⟨1,16⟩]⟩)
 | .bad e p r=>some (.pan (.d (i9 e p)),⟨[],r.heap⟩)
def ROk (n:Nat) (ts:List Tok):Prop:=∀ r:Rd,r.ok→r.ts=ts→4 * (ts.length - r.i) + 2≤n→
 (∀ acc:List Sm,acc.length≤r.i→j6 T0 X0 r.heap.length F1 (some (.nrm,⟨[(0,.ptr (.b 0) 0 0),(3,.ref (.b r.heap.length) ⟨1,16⟩ 0 acc.length)],r.heap++[.arr (LW smL acc) ⟨1,16⟩]⟩))=Xn r.heap.length acc (qT n r))∧(qT n r).fineS r 0
def SOk (n:Nat) (ts:List Tok):Prop:=∀ r:Rd,r.ok→r.ts=ts→4 * (ts.length - r.i) + 1≤n→
 d6 T0 X0 o7 [.ptr (.b 0) 0 0] r.heap=(kC n r).out osO∧(kC n r).fineS r 0 ∧ ∀ s r',kC n r = .ok (some s) r'→r.i + 1≤r'.i
set_option maxHeartbeats 4000000 in
theorem qw6 {n:Nat} {ts:List Tok} (ihS:SOk n ts) (ihR:ROk n ts):ROk (n + 1) ts:=by
 intro r h ht hn;have hi:r.i < ts.length:=ht ▸ h.i;have hl:=h.n;have s0:=r9 h;unfold qT
 by_cases c1:r.tok.kind=1
 case neg=>
  rw[if_neg c1];refine ⟨fun acc ha=>?_,KeptS.refl h,Nat.le_refl _⟩;rw[d5 (l:=F1) rfl];cases hly:r.ly
  all_goals
   simp only[Rd.heap,hly,Xn,Tok.cs,List.append_nil,List.length_cons,List.length_nil,List.cons_append,List.nil_append,Nat.reduceAdd] at s0 ⊢;generalize r.tok=t at *;simp -implicitDefEqProofs (disch:=omega) [K8,s0]
 rw[if_pos c1];obtain ⟨s1,f1,g1⟩:=ihS r h ht (by omega);have e1:=Rz.fineS_ly f1;rcases hb:kC n r with ⟨o,r1⟩ | ⟨e,p,r1⟩
 all_goals
  rw[hb] at s1 f1 e1;have e0:r1.ly=r.ly:=e1;clear e1
 case bad=>
  refine ⟨fun acc ha=>?_,f1⟩;rw[d5 (l:=F1) rfl];cases hly:r.ly
  all_goals
   simp only[Rd.heap,hly,e0,Rz.bind,Rz.out,Xn,i9,Tok.cs,List.append_nil,List.length_cons,List.length_nil,List.cons_append,List.nil_append,Nat.reduceAdd] at s0 s1 ⊢;generalize r.tok=t at *;simp -implicitDefEqProofs (disch:=omega) [K8,s0,s1]
 cases o with
 | none=>
   refine ⟨fun acc ha=>?_,f1⟩;rw[d5 (l:=F1) rfl];cases hly:r.ly
   all_goals
    simp only[Rd.heap,hly,e0,Rz.bind,Rz.out,osO,Xn,Tok.cs,List.append_nil,List.length_cons,List.length_nil,List.cons_append,List.nil_append,Nat.reduceAdd] at s0 s1 ⊢;generalize r.tok=t at *;simp -implicitDefEqProofs (disch:=omega) [K8,s0,s1]
 | some s=>
   have gi:=g1 s r1 hb;obtain ⟨lp,f2⟩:=ihR r1 f1.1.ok (f1.1.ts.trans ht) (by omega)
   have f3:((qT n r1).bind fun l r2=>(.ok (s :: l) r2:Rz (List Sm))).fineS r 0:=by
    have f4:=Rz.fineS_kept f2 f1.1 (d:=0) (by omega)
    rcases hq:qT n r1 with ⟨l,r2⟩ | ⟨e,p,r2⟩ <;> rw[hq] at f4 <;> exact f4
   refine ⟨fun acc ha=>?_,f3⟩;clear f3;have lp:=lp (acc++[s]) (by simp; omega);have e2:=(Rz.fineS_ly f2).trans e0
   have hre:Xn r1.heap.length (acc++[s]) (qT n r1)=Xn r1.heap.length acc ((qT n r1).bind fun l r2=>(.ok (s :: l) r2:Rz (List Sm))):=by
    rcases qT n r1 with ⟨l,r2⟩ | ⟨e,p,r2⟩
    ·simp[Xn,Rz.bind]
    ·rfl
   rw[hre] at lp
   have hlen:r1.heap.length=r.heap.length:=by unfold Rd.heap; rw[e0]; cases r.ly <;> rfl
   rw[hlen] at lp;refine Eq.trans ?_ lp;clear lp hre
   have ha2:acc.length≤5000:=by rw[ht] at hl; omega
   rw[d5 (l:=F1) rfl];cases hly:r.ly
   all_goals
    simp only[Rd.heap,hly,e0,Rz.out,osO,Tok.cs,List.length_append,List.length_cons,List.length_nil,List.cons_append,List.nil_append,Nat.reduceAdd] at s0 s1 ⊢;generalize r.tok=t at *;simp -implicitDefEqProofs (disch:=omega) [K8,s0,s1]
theorem qkz {n:Nat} {ts:List Tok} (ih:ROk n ts) {r:Rd} (h:r.ok) (ht:r.ts=ts) (hn:4 * (ts.length - r.i) + 2≤n) :
 d6 T0 X0 Yu [.ptr (.b 0) 0 0] r.heap=(qT n r).out lsO:=by
 obtain ⟨lp,f1⟩:=ih r h ht hn;have lp:=lp [] (by simp);have e1:=Rz.fineS_ly f1;have hl:=h.n;rw[c9 (af:=ji) rfl rfl rfl];rcases hb:qT n r with ⟨l,r1⟩ | ⟨e,p,r1⟩
 all_goals
  rw[hb] at lp e1;have e0:r1.ly=r.ly:=e1;clear e1;cases hly:r.ly
  all_goals
   simp only[Rd.heap,hly,e0,Xn,Rz.out,lsO,i9,List.append_nil,List.length_cons,List.length_nil,List.cons_append,List.nil_append,Nat.reduceAdd,qen] at lp ⊢;simp -implicitDefEqProofs (disch:=omega) [ji,lp]
def BOk (n:Nat) (ts:List Tok):Prop:=∀ r:Rd,r.ok→r.ts=ts→4 * (ts.length - r.i) + 1≤n→
 d6 T0 X0 B9 [.ptr (.b 0) 0 0] r.heap=(jH n r).out lsO∧(jH n r).fineS r 1
theorem qc3 {r:Rd} {s} (hin:r.into s=none):r.tok.kind=3∧r.op < 16:=by
 unfold Rd.into at hin;split at hin
 ·rename_i hk;split at hin
  ·rename_i ho; exact ⟨hk.1,ho⟩
  ·cases hin
 ·cases hin
set_option maxHeartbeats 4000000 in
theorem qz0 {n:Nat} {ts:List Tok} (ih:ROk n ts):BOk (n + 1) ts:=by
 intro r h ht hn;have hi:r.i < ts.length:=ht ▸ h.i;have hl:=h.n;rw[c9 (af:=I1) rfl rfl rfl];unfold jH
 cases hin:r.into [123] with
 | some e=>
   have s1:=qgk h (by simp) hin;refine ⟨?_,rfl⟩;cases hly:r.ly
   all_goals
    simp only[Rd.heap,hly,Rz.out,i9] at s1 ⊢;simp -implicitDefEqProofs (disch:=omega) [I1,s1]
 | none=>
   have s1:=qgl h (by simp) hin;obtain ⟨hk,ho⟩:=qc3 hin;have hop:=Rd.opened_ok h ho;have hni:r.opened.next.i=r.i + 1:=F8 (r:=r.opened) (by rw[show r.opened.tok=r.tok from rfl]; omega);have hno:=r.opened.next_op;have l1:r.opened.next.ly=r.ly:=(lys r.opened).1;have h1:=Rd.next_ok hop;have ht1:r.opened.next.ts=ts:=hno.2.1.trans ht;have s2:=qkz ih h1 ht1 (by omega);have f2:=(ih _ h1 ht1 (by omega)).2;have e2:=(Rz.fineS_ly f2).trans l1;simp only[];generalize r.opened.next=q at *;rcases hb:qT n q with ⟨l,r1⟩ | ⟨e,p,r1⟩
   all_goals
    rw[hb] at s2 f2 e2;have e0:r1.ly=r.ly:=e2;clear e2
   case bad=>
    refine ⟨?_,e0⟩;cases hly:r.ly
    all_goals
     simp only[Rd.heap,hly,l1,e0,Rz.bind,Rz.out,i9] at s1 s2 ⊢;simp -implicitDefEqProofs (disch:=omega) [I1,s1,s2]
   obtain ⟨k2,k3⟩:=f2;simp only[Rz.bind]
   by_cases c:r1.isT [125]=true
   ·rw[if_pos c];have s3:=qlf k2.ok (by simp) c;have hni':=F8 (A4 c);have hno':=r1.next_op;have hop':r1.next.op=r.op + 1:=hno'.1.trans (k2.op.trans hno.1);have h16:=h.op;have l3:r1.next.closed.ly=r.ly:=(lys r1.next).2.2.trans ((lys r1).1.trans e0);refine ⟨?_,⟨Rd.closed_ok (Rd.next_ok k2.ok) (by omega),hno'.2.1.trans (k2.ts.trans (ht1.trans ht.symm)),hno'.2.2.trans (k2.vs.trans hno.2.2),by show r1.next.op - 1=r.op; omega,?_,l3⟩,?_⟩
    ·cases hly:r.ly
     all_goals
      simp only[Rd.heap,hly,l1,l3,e0,Rz.out,lsO] at s1 s2 s3 ⊢;simp -implicitDefEqProofs (disch:=omega) [I1,s1,s2,s3]
    ·show r.i≤r1.next.i;omega
    ·show r.i + 1≤r1.next.i;omega
   ·rw[if_neg c];have s3:=qf4 k2.ok (s:=[125]) (by simp) (by simpa using c);refine ⟨?_,e0⟩;cases hly:r.ly
    all_goals
     simp only[Rd.heap,hly,l1,e0,Rz.out,lsO,i9] at s1 s2 s3 ⊢;generalize r1.tok=t at *;simp -implicitDefEqProofs (disch:=omega) [I1,s1,s2,s3]
end Go.Rf
