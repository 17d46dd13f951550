/- Parts of the proof. -/
import Derived.Test.YtpaeaccmddffjaaGreatDoorRb2
import Derived.Test.YtpaeaccmddffjaaGreatDoorSp6
import Derived.Test.YtpaeaccmddffjaaGreatDoorSp5
set_option linter.all false
namespace Go.Rf
theorem qqr {w t:List UInt8} (h:w≠[]) (hb:L8 w (dec w 0).1=false):dec (w++t) 0=dec w 0∧L8 (w++t) (dec w 0).1=false:=by
 have hne:¬ ((dec w 0).1=65533∧(dec w 0).2=1):=by
  intro hc;unfold L8 at hb;rw[T8 h] at hb;simp[hc.1,hc.2] at hb
 have e:=q26 (t:=t) h (show dec w 0=((dec w 0).1,(dec w 0).2) from rfl) hne;refine ⟨e,?_⟩;unfold L8 at *;rw[T8 (by simp[h]),e];rw[T8 h] at hb;exact hb
theorem qi0 {s:Sc} {w t:List UInt8} (hr:s.rest=w++t) (h:w≠[]) (hb:L8 w (dec w 0).1=false) :
 s.next=(((dec w 0).1:Int),s)∧s.cls=(cls (dec w 0).1,s)∧s.pass.rest=w.drop (dec w 0).2++t∧s.pass.code=s.code∧s.pass.bad=s.bad:=by
 obtain ⟨e1,e2⟩:=qqr (t:=t) h hb
 have hn:s.rest≠[]:=by rw[hr]; simp[h]
 have hnext:s.next=(((dec w 0).1:Int),s):=by
  unfold Sc.next;rw[if_neg hn,hr,e1,e2];simp
 refine ⟨hnext,?_,?_,rfl,rfl⟩
 ·unfold Sc.cls;rw[hnext];rw[if_neg (by simp only[]; omega)]
 ·unfold Sc.pass;simp only[];rw[T8 hn,hr,e1];have hl:=ZF w h;rw[List.drop_append_of_le_length hl.2.1]
theorem ki {s:Sc} {b:UInt8} {t:List UInt8} (hr:s.rest=b :: t) (hb:b.toNat < 128):s.next=((b.toNat:Int),s)∧s.cls=(cls b.toNat,s)∧s.pass.rest=t∧s.pass.code=s.code∧s.pass.bad=s.bad:=by
 have e:=jF (s:=[]) hb
 have hbr:L8 [b] (dec [b] 0).1=false:=by
  rw[e];unfold L8
  have:¬ ((b.toNat:Int)=65533):=by omega
  simp[this]
 have:=qi0 (w:=[b]) (t:=t) hr (by simp) hbr;rw[e] at this
 simpa using this
theorem qgp {s:Sc} (hr:s.rest=[]):s.cls=(-1,s):=by
 have:s.next=(-1,s):=by unfold Sc.next; rw[if_pos hr]
 unfold Sc.cls;rw[this];rfl
theorem qoj {p:Int→Bool} {s:Sc} (h:Jn p s.rest) (f:Nat):I2 p f s=s:=by
 cases f with
 | zero=>rfl
 | succ f=>
   unfold I2
   cases hr:s.rest with
   | nil=>
     rw[qgp hr,if_neg (by simp)]
   | cons b t=>
     rw[hr] at h;obtain ⟨_,e,_⟩:=ki hr h.1;rw[e];rw[if_neg (by simp[h.2])]
theorem qbe {p:Int→Bool} {t:List UInt8} (ht:Jn p t):∀ (f F:Nat) (w:List UInt8) (s:Sc),wE p f w=true→w.length < F→s.rest=w++t→(I2 p F s).rest=t∧(I2 p F s).code=s.code∧(I2 p F s).bad=s.bad
 | f,F,[],s,_,_,hr=>by
   rw[qoj (by rw[hr]; exact ht)];exact ⟨by simpa using hr,rfl,rfl⟩
 | 0,F,b :: w,s,h,_,_=>by simp[wE] at h
 | f + 1,0,b :: w,s,_,hF,_=>by omega
 | f + 1,F + 1,b :: w,s,h,hF,hr=>by
   unfold wE at h;simp only[Bool.and_eq_true,Bool.not_eq_true'] at h;obtain ⟨_,e2,e3,e4,e5⟩:=qi0 hr (by simp) h.1.1;have hl:=ZF (b :: w) (by simp);unfold I2;rw[e2]
   have hc:-1≤cls (dec (b :: w) 0).1∧0≤cls (dec (b :: w) 0).1:=by unfold cls; (repeat' split) <;> omega
   rw[if_pos ⟨hc.2,h.1.2⟩];have:=qbe ht f F _ s.pass h.2 (by rw[List.length_drop]; simp only[List.length_cons] at *; omega) e3;rw[e4,e5] at this;exact this
theorem qk8 {p:Int→Bool} {t w:List UInt8} {s:Sc} {f:Nat} (ht:Jn p t) (h:wE p f w=true) (hr:s.rest=w++t):s.ran p=w∧(s.run p).rest=t∧(s.run p).code=s.code:=by
 have:=qbe ht f (s.rest.length + 1) w s h (by rw[hr]; simp; omega) hr;refine ⟨?_,this.1,this.2.1⟩;unfold Sc.ran Sc.run;rw[this.1,hr];simp
theorem qoa {w t:List UInt8} {s:Sc} {f:Nat} (h0:s.code=0) (hw:w≠[]) (hc:cls (dec w 0).1=2) (h:wE x7 f w=true) (hrc:rc w≤16) (ht:Jn x7 t) (hr:s.rest=w++t) :
 s.blanks=s∧s.token.1.kind=1∧s.token.1.text=w∧s.token.2.rest=t∧s.token.2.code=0:=by
 have hbr:L8 w (dec w 0).1=false:=by
  cases w with
  | nil=>exact absurd rfl hw
  | cons b w=>
    cases f with
    | zero=>simp[wE] at h
    | succ f=>
      unfold wE at h;simp only[Bool.and_eq_true,Bool.not_eq_true'] at h;exact h.1.1
 obtain ⟨_,e2,_⟩:=qi0 hr hw hbr;obtain ⟨r1,r2,r3⟩:=qk8 ht h hr;refine ⟨?_,?_⟩
 ·unfold Sc.blanks R1;rw[e2];simp[hc]
 ·have e:s.token=(⟨1,w,s.pos⟩,s.run x7):=by
   unfold Sc.token;rw[e2];simp only[hc,if_true,r1];rw[if_neg (by omega)]
  rw[e];exact ⟨rfl,rfl,r2,by rw[r3,h0]⟩
theorem qn9 {w t:List UInt8} {s:Sc} {f:Nat} (h0:s.code=0) (hw:w≠[]) (hc:cls (dec w 0).1=3) (h:wE z8 f w=true) (hv:B2 456 (qW w)=w) (hl:(d7 (qW w)).length≤32) (ht:Jn z8 t) (hr:s.rest=w++t) :
 s.blanks=s∧s.token.1.kind=2∧s.token.1.text=w∧s.token.2.rest=t∧s.token.2.code=0:=by
 have hbr:L8 w (dec w 0).1=false:=by
  cases w with
  | nil=>exact absurd rfl hw
  | cons b w=>
    cases f with
    | zero=>simp[wE] at h
    | succ f=>
      unfold wE at h;simp only[Bool.and_eq_true,Bool.not_eq_true'] at h;exact h.1.1
 obtain ⟨_,e2,_⟩:=qi0 hr hw hbr;obtain ⟨r1,r2,r3⟩:=qk8 ht h hr;refine ⟨?_,?_⟩
 ·unfold Sc.blanks R1;rw[e2];simp[hc]
 ·have e:s.token=(⟨2,B2 456 (qW w),s.pos⟩,s.run z8):=by
   unfold Sc.token;rw[e2];simp only[hc,r1];rw[if_neg (by decide),if_pos trivial,if_neg (by omega)]
  rw[e];exact ⟨rfl,hv,r2,by rw[r3,h0]⟩
def qkm:List UInt8:=[43,45,42,47,37,40,41,61,123,125,44,59,63,64]
theorem qn8 {c:UInt8} {t:List UInt8} {s:Sc} (h0:s.code=0) (hc:c∈qkm) (hr:s.rest=c :: t) :
 s.blanks=s∧s.token.1.kind=3∧s.token.1.text=[c]∧s.token.2.rest=t∧s.token.2.code=0:=by
 have h128:c.toNat < 128:=by
  simp only[qkm,List.mem_cons,List.not_mem_nil,or_false] at hc
  rcases hc with rfl | rfl | rfl | rfl | rfl | rfl | rfl | rfl | rfl | rfl | rfl | rfl | rfl | rfl <;> decide
 obtain ⟨e1,e2,e3,e4,_⟩:=ki hr h128
 have hcl:cls c.toNat=5∧qi1 c.toNat=c.toNat∧enc c.toNat=[c] ∧ ¬ ((c.toNat:Int)=58∨(c.toNat:Int)=33):=by
  simp only[qkm,List.mem_cons,List.not_mem_nil,or_false] at hc
  rcases hc with rfl | rfl | rfl | rfl | rfl | rfl | rfl | rfl | rfl | rfl | rfl | rfl | rfl | rfl <;> decide
 refine ⟨?_,?_⟩
 ·unfold Sc.blanks R1;rw[e2];simp[hcl.1]
 ·have es:s.sign=([c],s.pass):=by
   unfold Sc.sign;rw[e1];simp only[];rw[if_neg (by omega),if_neg (by omega),if_neg hcl.2.2.2,hcl.2.1,hcl.2.2.1]
  have e:s.token=(⟨3,[c],s.pos⟩,s.pass):=by
   unfold Sc.token;rw[e2];simp only[hcl.1];rw[if_neg (by decide),if_neg (by decide),if_pos trivial,es]
  rw[e];exact ⟨rfl,rfl,e3,by rw[e4,h0]⟩
theorem qob {c:UInt8} {t:List UInt8} {s:Sc} (h0:s.code=0) (hc:c=33∨c=58) (hr:s.rest=c :: 61 :: t) :
 s.blanks=s∧s.token.1.kind=3∧s.token.1.text=[c,61]∧s.token.2.rest=t∧s.token.2.code=0:=by
 have h128:c.toNat < 128:=by rcases hc with rfl | rfl <;> decide
 obtain ⟨e1,e2,e3,e4,_⟩:=ki hr h128;obtain ⟨f1,f2,f3,f4,_⟩:=ki (s:=s.pass) e3 (by decide)
 have hcl:cls c.toNat=5∧enc c.toNat=[c]∧((c.toNat:Int)=58∨(c.toNat:Int)=33):=by
  rcases hc with rfl | rfl <;> decide
 have f61:(((61:UInt8).toNat:Nat):Int)=61:=rfl;rw[f61] at f1;refine ⟨?_,?_⟩
 ·unfold Sc.blanks R1;rw[e2];simp[hcl.1]
 ·have es:s.sign=([c,61],s.pass.pass):=by
   unfold Sc.sign;rw[e1];simp only[];rw[if_neg (by omega),if_neg (by omega),if_pos hcl.2.2,f1,hcl.2.1];simp
  have e:s.token=(⟨3,[c,61],s.pos⟩,s.pass.pass):=by
   unfold Sc.token;rw[e2];simp only[hcl.1];rw[if_neg (by decide),if_neg (by decide),if_pos trivial,es]
  rw[e];exact ⟨rfl,rfl,f3,by rw[f4,e4,h0]⟩
theorem qte {s:Sc} (h0:s.code=0) (hr:s.rest=[]):s.blanks=s∧s.token.1.kind=0∧s.token.1.text=[]∧s.token.2.code=0:=by
 have e:=qgp hr;refine ⟨?_,?_⟩
 ·unfold Sc.blanks R1;rw[e];simp
 ·unfold Sc.token;rw[e];simp[h0]
theorem q3h {s:Sc} {c:UInt8} {t:List UInt8} (hc:c=32∨c=10) (hr:s.rest=c :: t):s.blanks=s.pass.blanks∧s.pass.rest=t∧s.pass.code=s.code:=by
 have hb:c.toNat < 128:=by rcases hc with rfl | rfl <;> decide
 have this:cls (c.toNat)=1:=by rcases hc with rfl | rfl <;> decide
 obtain ⟨_,e2,e3,e4,_⟩:=ki hr hb;refine ⟨?_,e3,e4⟩;unfold Sc.blanks;rw[hr]
 conv=>lhs; unfold R1
 rw[e2,e3];rw[if_pos this];rfl
def kt (t:Tok):Int × List UInt8:=(t.kind,t.text)
inductive RendX (m:List UInt8) (L:List (Int × List UInt8)):List UInt8→List (Int × List UInt8)→Prop where
 | nil:RendX m L m L
 | space {t l}:RendX m L t l→RendX m L (32 :: t) l
 | feed {t l}:RendX m L t l→RendX m L (10 :: t) l
 | sign {c t l}:c∈qkm→RendX m L t l→RendX m L (c :: t) ((3,[c]) :: l)
 | mark {c t l}:c=33∨c=58→RendX m L t l→RendX m L (c :: 61 :: t) ((3,[c,61]) :: l)
 | num {w f t l}:w≠[]→cls (dec w 0).1=3→wE z8 f w=true→B2 456 (qW w)=w→(d7 (qW w)).length≤32→Jn z8 t→RendX m L t l→RendX m L (w++t) ((2,w) :: l)
 | name {w f t l}:w≠[]→cls (dec w 0).1=2→wE x7 f w=true→rc w≤16→Jn x7 t→RendX m L t l→RendX m L (w++t) ((1,w) :: l)
abbrev zlm:=RendX [] []
theorem KL {F:Nat} {s:Sc} {out:List Tok} {k:Int} {w t m:List UInt8} {L l:List (Int × List UInt8)} (hk:k≠0) (h:s.blanks=s∧s.token.1.kind=k∧s.token.1.text=w∧s.token.2.rest=t∧s.token.2.code=0)
 (ih:∃ F' s' ts,E4 F s.token.2 (out++[s.token.1])=E4 F' s' (out++[s.token.1]++ts)∧s'.rest=m∧s'.code=0∧m.length < F'∧ts.map kt++L=l) :
 ∃ F' s' ts,E4 (F + 1) s out=E4 F' s' (out++ts)∧s'.rest=m∧s'.code=0∧m.length < F'∧ts.map kt++L=(k,w) :: l:=by
 obtain ⟨F',s',ts,e1,e2,e3,e4,e5⟩:=ih;refine ⟨F',s',s.token.1 :: ts,?_,e2,e3,e4,?_⟩
 ·conv=>lhs; unfold E4
  rw[h.1];rw[if_neg (by rw[h.2.2.2.2]; simp),if_neg (by rw[h.2.1]; exact hk),e1];simp
 ·simp[kt,h.2.1,h.2.2.1,e5]
theorem qbx {m:List UInt8} {L:List (Int × List UInt8)} {t:List UInt8} {l:List (Int × List UInt8)} (h:RendX m L t l):∀ (F:Nat) (s:Sc) (out:List Tok),s.rest=t→s.code=0→t.length < F→
 ∃ F' s' ts,E4 F s out=E4 F' s' (out++ts)∧s'.rest=m∧s'.code=0∧m.length < F'∧ts.map kt++L=l:=by
 have bl:∀ {c:UInt8} {t l} (_:c=32∨c=10) (_:∀ (F:Nat) (s:Sc) (out:List Tok),s.rest=t→s.code=0→t.length < F→∃ F' s' ts,E4 F s out=E4 F' s' (out++ts)∧s'.rest=m∧s'.code=0∧m.length < F'∧ts.map kt++L=l),
  ∀ (F:Nat) (s:Sc) (out:List Tok),s.rest=c :: t→s.code=0→(c :: t).length < F→∃ F' s' ts,E4 F s out=E4 F' s' (out++ts)∧s'.rest=m∧s'.code=0∧m.length < F'∧ts.map kt++L=l:=by
  intro c t l hc ih F s out hr h0 hF;obtain ⟨F,rfl⟩:∃ n,F=n + 1:=⟨F - 1,by simp at hF; omega⟩;obtain ⟨e1,e2,e3⟩:=q3h hc hr;obtain ⟨F',s',ts,e4,e5⟩:=ih (F + 1) s.pass out e2 (by rw[e3,h0]) (by simp at hF; omega);refine ⟨F',s',ts,?_,e5⟩;rw[← e4];unfold E4;rw[e1]
 induction h with
 | nil=>exact fun F s out hr h0 hF=>⟨F,s,[],by simp,hr,h0,hF,rfl⟩
 | space _ ih=>exact bl (.inl rfl) ih
 | feed _ ih=>exact bl (.inr rfl) ih
 | sign hc _ ih=>
   intro F s out hr h0 hF;obtain ⟨F,rfl⟩:∃ n,F=n + 1:=⟨F - 1,by simp at hF; omega⟩;have h:=qn8 h0 hc hr;exact KL (by decide) h (ih F _ _ h.2.2.2.1 h.2.2.2.2 (by simp at hF; omega))
 | mark hc _ ih=>
   intro F s out hr h0 hF;obtain ⟨F,rfl⟩:∃ n,F=n + 1:=⟨F - 1,by simp at hF; omega⟩;have h:=qob h0 hc hr;exact KL (by decide) h (ih F _ _ h.2.2.2.1 h.2.2.2.2 (by simp at hF; omega))
 | num hw hc hrun hv hl hs _ ih=>
   intro F s out hr h0 hF;obtain ⟨F,rfl⟩:∃ n,F=n + 1:=⟨F - 1,by omega⟩;have h:=qn9 h0 hw hc hrun hv hl hs hr;have:=List.length_pos_iff.2 hw;exact KL (by decide) h (ih F _ _ h.2.2.2.1 h.2.2.2.2 (by rw[List.length_append] at hF; omega))
 | name hw hc hrun hrc hs _ ih=>
   intro F s out hr h0 hF;obtain ⟨F,rfl⟩:∃ n,F=n + 1:=⟨F - 1,by omega⟩;have h:=qoa h0 hw hc hrun hrc hs hr;have:=List.length_pos_iff.2 hw;exact KL (by decide) h (ih F _ _ h.2.2.2.1 h.2.2.2.2 (by rw[List.length_append] at hF; omega))
theorem qtx {t:List UInt8} {l:List (Int × List UInt8)} (h:zlm t l) (F:Nat) (s:Sc) (out:List Tok) (hr:s.rest=t) (h0:s.code=0) (hF:t.length < F):∃ ts p,E4 F s out=(some (out++ts),0,p)∧ts.map kt=l++[(0,[])]:=by
 obtain ⟨F',s',ts,e1,e2,e3,e4,e5⟩:=qbx h F s out hr h0 hF;obtain ⟨F',rfl⟩:∃ n,F'=n + 1:=⟨F' - 1,by simp at e4; omega⟩;have h:=qte e3 e2;refine ⟨ts++[s'.token.1],⟨0,0,0,0⟩,?_,?_⟩
 ·rw[e1];unfold E4;rw[h.1,if_neg (by rw[h.2.2.2]; simp),if_pos h.2.1];simp
 ·rw[List.append_nil] at e5; rw[← e5]; simp[kt,h.2.1,h.2.2.1]
theorem qxc {t:List UInt8} {l:List (Int × List UInt8)} (h:zlm t l) (hl:t.length≤4096):∃ ts p,wD t=(some ts,0,p)∧ts.map kt=l++[(0,[])]:=by
 unfold wD;rw[if_neg (by omega)];obtain ⟨ts,p,e1,e2⟩:=qtx h (t.length + 1) ⟨t,start,0,g9⟩ [] rfl rfl (by omega);exact ⟨ts,p,by simpa using e1,e2⟩
def zbs (w:List UInt8):Prop:=∀ c∈w,48≤c.toNat∧c.toNat≤57
theorem qsj {c:Int} (h:48≤c∧c≤57):cls c=3:=by
 have:c=48∨c=49∨c=50∨c=51∨c=52∨c=53∨c=54∨c=55∨c=56∨c=57:=by omega
 rcases this with rfl | rfl | rfl | rfl | rfl | rfl | rfl | rfl | rfl | rfl <;> decide
theorem qju {b:UInt8} {w:List UInt8} (h:b.toNat < 128):L8 (b :: w) (dec (b :: w) 0).1=false:=by
 rw[jF h];unfold L8
 have:¬ ((b.toNat:Int)=65533):=by omega
 simp[this]
theorem qfr:∀ (f:Nat) (w:List UInt8),zbs w→w.length≤f→wE z8 f w=true
 | f,[],_,_=>by cases f <;> rfl
 | 0,b :: w,_,h=>by simp at h
 | f + 1,b :: w,h,hf=>by
   have hb:=h b (List.mem_cons_self ..);unfold wE;rw[qju (by omega),jF (by omega)];rw[qsj (by simp only[]; omega)];have:=qfr f w (fun c hc=>h c (List.mem_cons_of_mem _ hc)) (by simp only[List.length_cons] at hf; omega);simp only[List.drop_succ_cons,List.drop_zero,this]
   decide
def qdu:Int→List UInt8→Int
 | v,[]=>v
 | v,c :: r=>qdu (10 * v + ((c.toNat:Int) - 48)) r
def Wa:List UInt8→Int
 | []=>0
 | c :: r=>((c.toNat:Int) - 48) + 10 * Wa r
theorem qg3:∀ (a b:List UInt8) (v:Int),qdu v (a++b)=qdu (qdu v a) b
 | [],_,_=>rfl
 | _ :: a,b,v=>qg3 a b _
theorem qg2:∀ l:List UInt8,qdu 0 l.reverse=Wa l
 | []=>rfl
 | c :: r=>by
   rw[List.reverse_cons,qg3,qg2 r];show 10 * Wa r + _=_ + 10 * Wa r;omega
theorem zap {s:List UInt8} {i:Nat} (h:i < s.length) (hb:(s.getD i 0).toNat < 128):dec s i=((s.getD i 0).toNat,1):=by
 unfold dec Utf8.decode
 have e:((ByteArray.mk s.toArray).get! (i + 0))=s.getD i 0:=by
  simp only[ByteArray.get!,Nat.add_zero];simp[h]
 simp only[e];rw[if_pos hb]
theorem qg5 {s:List UInt8} (hs:zbs s):∀ (f i:Nat) (v:Int),s.length - i < f→i≤s.length→qdw s f i v=some (qdu v (s.drop i))
 | 0,i,v,h,_=>by omega
 | f + 1,i,v,h,hi=>by
   unfold qdw
   by_cases c:i < s.length
   ·have hg:s.getD i 0=s[i]:=by simp[c]
    have hd:=hs s[i] (List.getElem_mem c);rw[if_pos c,zap c (by rw[hg]; omega),hg,if_neg (by omega),List.drop_eq_getElem_cons c];exact qg5 hs f (i + 1) _ (by omega) (by omega)
   ·rw[if_neg c,List.drop_eq_nil_of_le (by omega)];rfl
theorem qlt:∀ a b:List UInt8,Wa (a++b)=Wa a + 10 ^ a.length * Wa b
 | [],b=>by simp[Wa]
 | c :: a,b=>by
   show _ + 10 * Wa (a++b)=_;rw[qlt a b,List.length_cons,Int.pow_succ];show _=_ + 10 * Wa a + _;rw[Int.mul_add,Int.mul_comm (10 ^ a.length) 10,Int.mul_assoc];omega
theorem qrv:∀ (f:Nat) (r:Int) (more:Bool),0≤r→r < 10 ^ f→Wa (inF f r more)=r∧(more=true→(inF f r more).length=f)
 | 0,r,more,h0,h=>by
   simp at h;exact ⟨by show (0:Int)=r; omega,fun _=>rfl⟩
 | f + 1,r,more,h0,h=>by
   unfold inF;have hd:=qzn h0;have ih:=qrv f (r / 10) more (by omega) (by rw[Int.pow_succ] at h; omega);split
   ·refine ⟨?_,fun hm=>by rw[List.length_cons,ih.2 hm]⟩;show ((dig r).toNat:Int) - 48 + 10 * Wa (inF f (r / 10) more)=r;rw[ih.1]; omega
   ·rename_i c;exact ⟨by show (0:Int)=r; omega,fun hm=>absurd (.inr hm) c⟩
theorem Wv:∀ (f:Nat) (n:Int),0≤n→n < kB f→Wa (qD f n)=n
 | 0,n,h0,h=>by
   have:n < 1:=h;show (0:Int)=n;omega
 | f + 1,n,h0,h=>by
   unfold qD;split
   ·show (0:Int)=n; omega
   ·rw[kB] at h
    have hm:n % 1000000000 < 10 ^ 9:=by omega
    have i1:=qrv 9 (n % 1000000000) (decide (0 < n / 1000000000)) (by omega) hm;have i2:=Wv f (n / 1000000000) (by omega) (by omega);rw[qlt,i1.1,i2]
    by_cases c:0 < n / 1000000000
    ·rw[i1.2 (by simp[c])]
     have:(10:Int) ^ 9=1000000000:=by decide
     rw[this]; omega
    ·have:n / 1000000000=0:=by omega
     rw[this]; omega
theorem QY {f:Nat} {n:Int}:zbs (B2 f n):=fun c hc=>YI f n c hc
theorem QE {v:Int} (h0:0≤v) (h:v < kB 456):B2 456 v≠[]∧qW (B2 456 v)=v:=by
 have hd:qdu 0 (B2 456 v)=v:=by
  unfold B2;split
  ·rename_i e; rw[e]; rfl
  ·rw[qg2,Wv _ _ h0 h]
 have hne:B2 456 v≠[]:=by
  unfold B2;split
  ·simp
  ·rename_i e;intro hc
   have:qD 456 v=[]:=by simpa using hc
   have h2:=Wv 456 v h0 h;rw[this] at h2;exact e h2.symm
 refine ⟨hne,?_⟩;unfold qW Xv;rw[if_neg hne,qg5 QY _ _ _ (by omega) (by omega),List.drop_zero,hd];rfl
theorem Zp {v:Int} (h0:0≤v) (h:(d7 v).length≤32):v < kB 456:=by
 have h1:=(d8 (g8 v)).2;rw[o9 h0] at h1;have h2:=Qz h;have h3:=zg5
 have h4:kB 35≤kB 456:=by
  rw[KG,KG];exact qxt (by decide)
 omega
theorem qbv {m:List UInt8} {L:List (Int × List UInt8)} {v:Int} {t:List UInt8} {l:List (Int × List UInt8)} (h0:0≤v) (h:(d7 v).length≤32) (hs:Jn z8 t) (hr:RendX m L t l):RendX m L (B2 456 v++t) ((2,B2 456 v) :: l):=by
 obtain ⟨hne,hv⟩:=QE h0 (Zp h0 h);refine .num hne ?_ (qfr _ _ QY (Nat.le_refl _)) (by rw[hv]) (by rw[hv]; exact h) hs hr
 cases hw:B2 456 v with
 | nil=>exact absurd hw hne
 | cons b w=>
   have:=QY (f:=456) (n:=v) b (by rw[hw]; exact List.mem_cons_self ..);rw[jF (by omega)];exact qsj (by simp only[]; omega)
structure NameOk (w:List UInt8):Prop where
 ne:w≠[]
 c:cls (dec w 0).1=2
 r:∃ f,wE x7 f w=true
 n:rc w≤16
 l:w.length≤4096
theorem WD:∀ (F:Nat) (s:Sc) (out l:List Tok) (e:Int) (p:Pl),E4 F s out=(some l,e,p)→∃ r,l=out++r
 | 0,s,out,l,e,p,h=>by unfold E4 at h; cases h; exact ⟨[],by simp⟩
 | F + 1,s,out,l,e,p,h=>by
   unfold E4 at h;split at h
   ·cases h
   split at h
   ·cases h; exact ⟨_,rfl⟩
   ·obtain ⟨r,hr⟩:=WD F _ _ _ _ _ h;exact ⟨_,by rw[hr,List.append_assoc]⟩
theorem wz {m:List UInt8} {L:List (Int × List UInt8)} {w t:List UInt8} {l:List (Int × List UInt8)} (h:NameOk w) (hs:Jn x7 t) (hr:RendX m L t l):RendX m L (w++t) ((1,w) :: l):=by
 obtain ⟨f,hf⟩:=h.r;exact .name h.ne h.c hf h.n hs hr
theorem Xw (s:Nat):0 < (2:Int) ^ s:=Int.pow_pos (by decide)
theorem qrf {s:Nat} (h:s < 32):(2:Int) ^ s≤2147483648:=by
 have h1:(2:Nat) ^ s≤2 ^ 31:=Nat.pow_le_pow_right (by decide) (by omega)
 have h2:((2 ^ s:Nat):Int)=(2:Int) ^ s:=by simp
 omega
theorem zhg {c a:Int} {s:Nat} (hs:s < 32) (hc:0≤c∧c < 2 ^ s) (ha:0≤a∧a < 4294967296):orK .u64 c (a * 2 ^ s)=c + a * 2 ^ s:=by
 obtain ⟨x,rfl⟩:=Int.eq_ofNat_of_zero_le hc.1;obtain ⟨y,rfl⟩:=Int.eq_ofNat_of_zero_le ha.1;have hp:=qrf hs
 have h2:((2 ^ s:Nat):Int)=(2:Int) ^ s:=by simp
 have h3:(y:Int) * 2 ^ s≤4294967295 * 2 ^ s:=Int.mul_le_mul_of_nonneg_right (by omega) (by have:=Xw s; omega)
 have h5:2 ^ s * y≤9223372034707292160:=by
  have:((2 ^ s * y:Nat):Int)≤9223372034707292160:=by
   rw[Int.natCast_mul,h2,Int.mul_comm]; omega
  omega
 unfold orK;rw[BitVec.toNat_or]
 have e1:(BitVec.ofInt IntKind.u64.bits ((y:Int) * 2 ^ s)).toNat=2 ^ s * y:=by
  rw[show ((y:Int) * 2 ^ s)=((2 ^ s * y:Nat):Int) by rw[Int.natCast_mul,h2,Int.mul_comm],BitVec.ofInt_natCast,BitVec.toNat_ofNat];exact Nat.mod_eq_of_lt (by show _ < 2 ^ 64; omega)
 have e2:(BitVec.ofInt IntKind.u64.bits (x:Int)).toNat=x:=by
  rw[BitVec.ofInt_natCast,BitVec.toNat_ofNat];exact Nat.mod_eq_of_lt (by show _ < 2 ^ 64; omega)
 rw[e1,e2,Nat.or_comm,← Nat.two_pow_add_eq_or_of_lt (by omega),qbb ⟨by omega,by omega⟩,Int.natCast_add,Int.natCast_mul,h2,Int.mul_comm,Int.add_comm]
theorem qxw (k:IntKind) (x y:Int):orK k x y=orK k y x:=by
 unfold orK;rw[BitVec.or_comm]
theorem qpp (c8:List Int) (s n:Nat) (hs:s < 32) (hn:n≤1099511627776) (ha:n9 c8) (hl:c8.length≤n):∀ d i (out:List Int) (c:Int),d + i=n→out.length=n→n9 out→0≤c→c < 2 ^ s→
 nv (out.take i) + pw i * c=nv (c8.take i) * 2 ^ s→
 ∃ out' c',j6 T0 X0 0 ze (some (.nrm,⟨[(0,.d (.sl (L c8))),(1,.d (.int .i64 s)),(7,.ref (.b 0) ⟨1,4⟩ 0 n),(8,.d (.int .u64 c)),(13,.d (.int .i64 n)),(14,.d (.int .i64 i))],[.arr (LV out) ⟨1,4⟩]⟩)) =
  some (.exit 0,⟨[(7,.ref (.b 0) ⟨1,4⟩ 0 n)],[.arr (LV out') ⟨1,4⟩]⟩) ∧
   out'.length=n∧n9 out'∧0≤c'∧nv out' + pw n * c'=nv c8 * 2 ^ s:=by
 have p0:=Xw s;have p1:=qrf hs
 have hm:min s 64=s:=by omega
 intro d
 induction d with
 | zero=>
   intro i out c hd ho hg hc hc1 hv
   have:i=n:=by omega
   subst this;refine ⟨out,c,?_,ho,hg,hc,by rw[List.take_of_length_le (by omega),List.take_of_length_le (by omega)] at hv; exact hv⟩;rw[d5 (l:=ze) rfl];simp -implicitDefEqProofs (disch:=omega) [zf]
 | succ d ih=>
   intro i out c hd ho hg hc hc1 hv;have n1:=ha.nth i;rw[d5 (l:=ze) rfl];have hy:0≤nth c8 i * 2 ^ s∧nth c8 i * 2 ^ s≤4294967295 * 2 ^ s:=⟨Int.mul_nonneg n1.1 (by omega),Int.mul_le_mul_of_nonneg_right (by omega) (by omega)⟩;have ho1:=zhg hs ⟨hc,hc1⟩ n1
   obtain ⟨out',c',h1,h2⟩:=ih (i + 1) (out.set i ((c + nth c8 i * 2 ^ s) % 4294967296)) ((c + nth c8 i * 2 ^ s) / 4294967296) (by omega) (by simp[ho]) (T5 hg _ (by omega)) (by omega) (by omega) (by
    rw[vE (by omega),C9,Int.add_mul,← hv,Int.mul_assoc];have s1:=xI i (c + nth c8 i * 2 ^ s);rw[Int.mul_add (pw i) c] at s1
    omega)
   refine ⟨out',c',?_,h2⟩;rw[← h1]
   by_cases hi:i < c8.length
   ·generalize hz:nth c8 i * 2 ^ s=z at *;simp -implicitDefEqProofs (disch:=omega) [zf,hm,hz,ho1]
   ·have e:nth c8 i=0:=xN (by omega)
    have ec:c % 4294967296=c:=by omega
    simp -implicitDefEqProofs (disch:=omega) [zf,e,ec]
theorem qcs {c8:List Int} {s n:Nat} (hs:s < 32) (hn:n≤1099511627776) (ha:n9 c8) (hl:c8.length≤n) (hb:nv c8 * 2 ^ s < pw n) :
 ∃ out,d6 T0 X0 qe4 [.d (.sl (L c8)),.d (.int .i64 s),.d (.int .i64 n)] []=some (.ret [.ref (.b 0) ⟨1,4⟩ 0 n] [.arr (LV out) ⟨1,4⟩])∧out.length=n∧n9 out∧nv out=nv c8 * 2 ^ s:=by
 obtain ⟨out,c,h1,ho,hg,hc,hv⟩:=qpp c8 s n hs hn ha hl n 0 (List.replicate n 0) 0 (by omega) (by simp) (QH _) (by omega) (Xw s) (by simp[nv]);rw[c9 (af:=Qk) rfl rfl rfl];have h0:=(d8 hg).1
 have hc0:c=0:=by
  by_cases h:c=0
  ·exact h
  ·have:=T4 n;have:pw n * 1≤pw n * c:=Int.mul_le_mul_of_nonneg_left (by omega) (by omega);omega
 subst hc0;refine ⟨out,?_,ho,hg,by omega⟩;simp only[Int.cast_ofNat_Int] at h1;simp -implicitDefEqProofs (disch:=omega) [Qk,h1]
theorem qoz {a b:Int} {s:Nat} (hs:s < 32) (ha:0≤a∧a < 4294967296) (hb:0≤b∧b < 4294967296):2 ^ s * (((b * 4294967296 + a) / 2 ^ s) % 4294967296)=a - a % 2 ^ s + 4294967296 * (b % 2 ^ s):=by
 obtain ⟨t,ht⟩:∃ t:Nat,s + t=32:=⟨32 - s,by omega⟩;have p0:=Xw s
 have hQ:(2:Int) ^ s * 2 ^ t=4294967296:=by rw[← Int.pow_add,ht]; rfl
 have q0:=Xw t;generalize (2:Int) ^ s=P at *;generalize (2:Int) ^ t=Q at *;have e1:=Int.mul_ediv_add_emod a P;have e2:=Int.mul_ediv_add_emod b P;have r1:=Int.emod_nonneg a (show P≠0 by omega);have r2:=Int.emod_lt_of_pos a p0;have t1:=Int.emod_nonneg b (show P≠0 by omega);have t2:=Int.emod_lt_of_pos b p0;have u0:0≤a / P:=Int.ediv_nonneg ha.1 (by omega);have u1:a / P < Q:=Int.ediv_lt_of_lt_mul p0 (by rw[Int.mul_comm,hQ]; exact ha.2);generalize a / P=u at *;generalize a % P=r at *;generalize b / P=w at *;generalize b % P=t at *
 have ex:b * 4294967296 + a=r + P * (u + Q * t + 4294967296 * w):=by
  rw[← e1,← e2,Int.mul_add P,Int.mul_add P,← Int.mul_assoc P Q,hQ,Int.add_mul,Int.mul_comm t,Int.mul_comm (P * w),Int.mul_left_comm P];omega
 have ey:(b * 4294967296 + a) / P=u + Q * t + 4294967296 * w:=by
  rw[ex,Int.add_mul_ediv_left _ _ (by omega),Int.ediv_eq_zero_of_lt r1 r2,Int.zero_add]
 have hq:Q * t≤Q * (P - 1):=Int.mul_le_mul_of_nonneg_left (by omega) (by omega);rw[Int.mul_sub,Int.mul_comm Q P,hQ,Int.mul_one] at hq;have hq0:0≤Q * t:=Int.mul_nonneg (by omega) t1
 have em:(u + Q * t + 4294967296 * w) % 4294967296=u + Q * t:=by rw[Int.add_mul_emod_self_left]; exact Int.emod_eq_of_lt (by omega) (by omega)
 rw[ey,em,Int.mul_add,← Int.mul_assoc,hQ];omega
theorem qoy (c8:List Int) (s:Nat) (hs:s < 32) (hn:c8.length≤1099511627776) (ha:n9 c8):∀ d i (out:List Int),d + i=c8.length→out.length=c8.length→n9 out→
 2 ^ s * nv (out.take i) + nth c8 0 % 2 ^ s=nv (c8.take i) + pw i * (nth c8 i % 2 ^ s)→
 ∃ out',j6 T0 X0 0 zh (some (.nrm,⟨[(0,.d (.sl (L c8))),(1,.d (.int .i64 s)),(6,.ref (.b 0) ⟨1,4⟩ 0 c8.length),(26,.d (.int .i64 c8.length)),(27,.d (.int .i64 i))],[.arr (LV out) ⟨1,4⟩]⟩)) =
  some (.exit 0,⟨[(6,.ref (.b 0) ⟨1,4⟩ 0 c8.length)],[.arr (LV out') ⟨1,4⟩]⟩) ∧
   out'.length=c8.length∧n9 out'∧2 ^ s * nv out' + nth c8 0 % 2 ^ s=nv c8:=by
 have p0:=Xw s;have p1:=qrf hs
 have hm:min s 64=s:=by omega
 have hsm:(s:Int) % 32=s:=by omega
 intro d
 induction d with
 | zero=>
   intro i out hd ho hg hv
   have:i=c8.length:=by omega
   subst this;refine ⟨out,?_,ho,hg,?_⟩
   ·rw[d5 (l:=zh) rfl];simp -implicitDefEqProofs (disch:=omega) [zi]
   ·rw[xN (Nat.le_refl _),List.take_of_length_le (by omega),List.take_of_length_le (by omega)] at hv
    simpa using hv
 | succ d ih=>
   intro i out hd ho hg hv;have n1:=ha.nth i;have n2:=ha.nth (i + 1);rw[d5 (l:=zh) rfl];have hr:=qoz hs n1 n2
   obtain ⟨out',h1,h2⟩:=ih (i + 1) (out.set i (((nth c8 (i + 1) * 4294967296 + nth c8 i) / 2 ^ s) % 4294967296)) (by omega) (by simp[ho]) (T5 hg _ (by omega)) (by
    rw[vE (by omega),C9,Int.mul_add,Int.mul_left_comm,hr,vB];simp only[Int.mul_add,Int.mul_sub];rw[Int.mul_left_comm (pw i),Int.mul_assoc]
    omega)
   refine ⟨out',?_,h2⟩;rw[← h1]
   have ho1:orK .u64 (nth c8 i) (nth c8 (i + 1) * 4294967296)=nth c8 (i + 1) * 4294967296 + nth c8 i:=by rw[qxw]; exact qxx n2.1 n1 n2.2
   by_cases hi:i + 1 < c8.length
   ·simp -implicitDefEqProofs (disch:=omega) [zi,hm,hsm,ho1]
   ·have e:nth c8 (i + 1)=0:=xN (by omega);simp -implicitDefEqProofs (disch:=omega) [zi,hm,hsm,e]
theorem qox {xs:List Int} {s:Nat} (hs:s < 32) (hn:xs.length≤1099511627776) (hx:n9 xs) :
 d6 T0 X0 qe6 [.d (.sl (L xs)),.d (.int .i64 s)] []=some (.ret [.d (.sl (L (d7 (nv xs / 2 ^ s)))),.d (.int .i64 0)] []):=by
 rw[c9 (af:=jV) rfl rfl rfl];have s1:=n0 hx (by omega);have h1:=o9 (d8 hx).1;have l1:(d7 (nv xs)).length≤xs.length:=o6 (d8 hx).1 (d8 hx).2;have hg:=g8 (nv xs);generalize d7 (nv xs)=c8 at *;rw[← h1]
 have hd:(s:Int) / 32=0:=by omega
 by_cases h0:c8.length=0
 ·have:c8=[]:=List.length_eq_zero_iff.1 h0;subst this
  have e:(nv [] / 2 ^ s:Int)=0:=by simp[nv]
  rw[e];simp -implicitDefEqProofs (disch:=omega) [jV,s1,hd]
 ·obtain ⟨out,l2,ho,hgo,hv⟩:=qoy c8 s hs (by omega) hg c8.length 0 (List.replicate c8.length 0) (by omega) (by simp) (QH _) (by simp[nv,pw]);have s2:=n0 hgo (by omega);have p0:=Xw s
  have e:nv c8 / 2 ^ s=nv out:=by
   rw[← hv,Int.add_comm,Int.add_mul_ediv_left _ _ (by omega),Int.ediv_eq_zero_of_lt (Int.emod_nonneg _ (by omega)) (Int.emod_lt_of_pos _ p0),Int.zero_add]
  rw[e];have ht:out.take c8.length=out:=List.take_of_length_le (by omega);simp only[Int.cast_ofNat_Int] at l2;simp -implicitDefEqProofs (disch:=omega) [-List.length_eq_zero_iff,jV,s1,hd,l2,s2,ht]
theorem ql8 {Vv W Bn f1 f2 top u2:Int} (hBn:0 < Bn) (hf1:1≤f1) (hf2:0≤f2∧f2 < 4294967296) (hu2:0≤u2∧u2 < 4294967296) (ht:0≤top)
 (hV1:(f1 * 4294967296 + f2) * Bn≤Vv) (hV2:Vv < (f1 * 4294967296 + f2 + 1) * Bn) (hW1:(top * 4294967296 + u2) * Bn≤W) (hW2:W < (top * 4294967296 + u2 + 1) * Bn) (hWB:W < 4294967296 * Vv) :
 (∀ g rest,g * f1 + rest=top→0≤g→g < 4294967296→(4294967296≤rest∨g * f2≤rest * 4294967296 + u2)→(g - 1) * Vv≤W) ∧
 (∀ g rest,g * f1 + rest=top→0≤g→(4294967296≤g∨rest * 4294967296 + u2 < g * f2)→W < g * Vv) ∧
 (∀ g rest,g * f1 + rest=top→4294967296≤g→rest < 4294967296)∧W < (top / f1 + 1) * Vv:=by
 have hm:∀ g rest:Int,g * f1 + rest=top→g * (f1 * 4294967296 + f2)=(top - rest) * 4294967296 + g * f2:=fun g rest h=>by
  rw[Int.mul_add,← Int.mul_assoc,← h,Int.add_sub_cancel]
 have hV0:0 < Vv:=Int.lt_of_lt_of_le (Int.mul_pos (by omega) hBn) hV1
 have key:∀ g,0≤g→top * 4294967296 + u2 < g * (f1 * 4294967296 + f2)→W < g * Vv:=fun g h0 h=>by
  have e1:(top * 4294967296 + u2 + 1) * Bn≤g * (f1 * 4294967296 + f2) * Bn:=Int.mul_le_mul_of_nonneg_right (by omega) (by omega);have e2:g * ((f1 * 4294967296 + f2) * Bn)≤g * Vv:=Int.mul_le_mul_of_nonneg_left hV1 h0;rw[← Int.mul_assoc] at e2;omega
 refine ⟨fun g rest h h0 h1 hc=>?_,fun g rest h h0 hc=>?_,fun g rest h hc=>?_,?_⟩
 ·have hc2:g * f2≤rest * 4294967296 + u2:=by
   rcases hc with hc | hc
   ·have:=qcr ⟨h0,h1⟩ hf2;omega
   ·exact hc
  have e0:=hm g rest h;have e1:g * Vv≤g * ((f1 * 4294967296 + f2 + 1) * Bn):=Int.mul_le_mul_of_nonneg_left (by omega) h0
  have e2:g * ((f1 * 4294967296 + f2 + 1) * Bn)=g * (f1 * 4294967296 + f2) * Bn + g * Bn:=by
   rw[← Int.mul_assoc,Int.mul_add g _ 1,Int.mul_one,Int.add_mul]
  have e3:g * (f1 * 4294967296 + f2) * Bn≤(top * 4294967296 + u2) * Bn:=Int.mul_le_mul_of_nonneg_right (by omega) (by omega);have e4:g * Bn≤(f1 * 4294967296 + f2) * Bn:=Int.mul_le_mul_of_nonneg_right (by omega) (by omega);rw[Int.sub_mul,Int.one_mul];omega
 ·rcases hc with hc | hc
  ·have:4294967296 * Vv≤g * Vv:=Int.mul_le_mul_of_nonneg_right hc (by omega);omega
  ·exact key g h0 (by rw[hm g rest h]; omega)
 ·have e1:(top * 4294967296 + u2) * Bn < 4294967296 * (f1 * 4294967296 + f2 + 1) * Bn:=by
   rw[Int.mul_assoc 4294967296];omega
  have e2:=Int.lt_of_mul_lt_mul_right e1 (by omega);have e3:4294967296 * f1≤g * f1:=Int.mul_le_mul_of_nonneg_right hc (by omega);omega
 ·have e0:=Int.lt_ediv_add_one_mul_self top (show 0 < f1 by omega);have e1:0≤top / f1:=Int.ediv_nonneg ht (by omega);refine key _ (by omega) ?_;have e2:0≤(top / f1 + 1) * f2:=Int.mul_nonneg (by omega) hf2.1;rw[Int.mul_add,← Int.mul_assoc];omega
theorem qpy (us qs vs:List Int) (s j:Nat) {Vv W f1 f2 top:Int} (hl:us.length≤1099511627776) (hj:j + vs.length < us.length) (hv:2≤vs.length) (hq:qs.length≤1099511627776) (hu:n9 us)
 (hf1:1≤f1∧f1 < 4294967296) (hf2:0≤f2∧f2 < 4294967296) (ht:0≤top∧top < 18446744073709551616)
 (k1:∀ g rest,g * f1 + rest=top→0≤g→g < 4294967296→(4294967296≤rest∨g * f2≤rest * 4294967296 + nth us (j + vs.length - 2))→(g - 1) * Vv≤W)
 (k2:∀ g rest,g * f1 + rest=top→0≤g→(4294967296≤g∨rest * 4294967296 + nth us (j + vs.length - 2) < g * f2)→W < g * Vv)
 (k3:∀ g rest,g * f1 + rest=top→4294967296≤g→rest < 4294967296) :
 ∀ m g rest,(4294967296 - rest).toNat=m→g * f1 + rest=top→0≤g→g < 18446744073709551616→0≤rest→rest < 8589934592→W < (g + 1) * Vv→
 ∃ g',j6 T0 X0 0 zS (some (.nrm,⟨[(4,.ref (.b 0) ⟨1,4⟩ 0 qs.length),(6,.d (.int .i64 s)),(7,.ref (.b 1) ⟨1,4⟩ 0 us.length),(8,.ref (.b 2) ⟨1,4⟩ 0 vs.length),(9,.d (.int .i64 vs.length)),(10,.d (.int .u64 f1)),(11,.d (.int .u64 f2)),(12,.d (.int .i64 j)),(14,.d (.int .u64 g)),(15,.d (.int .u64 rest))],[.arr (LV qs) ⟨1,4⟩,.arr (LV us) ⟨1,4⟩,.arr (LV vs) ⟨1,4⟩]⟩)) =
  some (.exit 2,⟨[(4,.ref (.b 0) ⟨1,4⟩ 0 qs.length),(6,.d (.int .i64 s)),(7,.ref (.b 1) ⟨1,4⟩ 0 us.length),(8,.ref (.b 2) ⟨1,4⟩ 0 vs.length),(9,.d (.int .i64 vs.length)),(10,.d (.int .u64 f1)),(11,.d (.int .u64 f2)),(12,.d (.int .i64 j)),(14,.d (.int .u64 g'))],[.arr (LV qs) ⟨1,4⟩,.arr (LV us) ⟨1,4⟩,.arr (LV vs) ⟨1,4⟩]⟩) ∧
   0≤g'∧g' < 4294967296∧(g' - 1) * Vv≤W∧W < (g' + 1) * Vv:=by
 intro m
 induction m using Nat.strongRecOn with
 | _ m ih=>
   intro g rest hm hg h0 h64 hr0 hr1 hW;have n2:=hu.nth (j + vs.length - 2);rw[d5 (l:=zS) rfl]
   by_cases hr:rest < 4294967296
   ·have hor:=qxx hr0 n2 hr
    have hdec:∀ hc:4294967296≤g∨rest * 4294967296 + nth us (j + vs.length - 2) < g * f2,1≤g→
     ∃ g',j6 T0 X0 0 zS (some (.nrm,⟨[(4,.ref (.b 0) ⟨1,4⟩ 0 qs.length),(6,.d (.int .i64 s)),(7,.ref (.b 1) ⟨1,4⟩ 0 us.length),(8,.ref (.b 2) ⟨1,4⟩ 0 vs.length),(9,.d (.int .i64 vs.length)),(10,.d (.int .u64 f1)),(11,.d (.int .u64 f2)),(12,.d (.int .i64 j)),(14,.d (.int .u64 (g - 1))),(15,.d (.int .u64 (rest + f1)))],[.arr (LV qs) ⟨1,4⟩,.arr (LV us) ⟨1,4⟩,.arr (LV vs) ⟨1,4⟩]⟩)) =
      some (.exit 2,⟨[(4,.ref (.b 0) ⟨1,4⟩ 0 qs.length),(6,.d (.int .i64 s)),(7,.ref (.b 1) ⟨1,4⟩ 0 us.length),(8,.ref (.b 2) ⟨1,4⟩ 0 vs.length),(9,.d (.int .i64 vs.length)),(10,.d (.int .u64 f1)),(11,.d (.int .u64 f2)),(12,.d (.int .i64 j)),(14,.d (.int .u64 g'))],[.arr (LV qs) ⟨1,4⟩,.arr (LV us) ⟨1,4⟩,.arr (LV vs) ⟨1,4⟩]⟩) ∧
       0≤g'∧g' < 4294967296∧(g' - 1) * Vv≤W∧W < (g' + 1) * Vv:=fun hc h1=>
     ih _ (by omega) (g - 1) (rest + f1) rfl (by rw[Int.sub_mul,Int.one_mul]; omega) (by omega) (by omega) (by omega) (by omega) (by rw[Int.sub_add_cancel]; exact k2 g rest hg h0 hc)
    by_cases hb:4294967296≤g
    ·obtain ⟨g',e,h⟩:=hdec (.inl hb) (by omega);refine ⟨g',?_,h⟩;rw[← e];simp -implicitDefEqProofs (disch:=omega) [X7,hor]
    ·have hm2:=qcr (x:=g) (y:=f2) ⟨h0,by omega⟩ hf2
     by_cases hc:rest * 4294967296 + nth us (j + vs.length - 2) < g * f2
     ·have h1:1≤g:=by
       by_cases h:1≤g
       ·exact h
       ·have:g=0:=by omega
        subst this;omega
      obtain ⟨g',e,h⟩:=hdec (.inr hc) h1;refine ⟨g',?_,h⟩;rw[← e];simp -implicitDefEqProofs (disch:=omega) [X7,hor]
     ·refine ⟨g,?_,h0,by omega,k1 g rest hg h0 (by omega) (.inr (by omega)),hW⟩;simp -implicitDefEqProofs (disch:=omega) [X7,hor]
   ·have hb:g < 4294967296:=by
     by_cases h:g < 4294967296
     ·exact h
     ·exact absurd (k3 g rest hg (by omega)) hr
    refine ⟨g,?_,h0,hb,k1 g rest hg h0 hb (.inl (by omega)),hW⟩;simp -implicitDefEqProofs (disch:=omega) [X7]
@[simp] theorem q57 (h:Loc→Option Obj) (m:List Loc) (l:Loc):O9 h m l=if l∈m then none else h l:=rfl
theorem qin {l:List Int} (h:∀ i,nth l i=0):nv l=0:=by
 induction l with
 | nil=>rfl
 | cons x l ih=>
   have h0:=h 0;rw[vZ] at h0;have h1:=ih (fun i=>by have:=h (i + 1); rwa [Qa] at this);simp only[nv,h0,h1];rfl
theorem qlp (xs:List Int) (k i:Nat):nth (xs.drop k) i=nth xs (k + i):=by simp[nth,List.getD_eq_getElem?_getD,List.getElem?_drop]
theorem quc (vs:List Int) (s m:Nat) (hv:n9 vs) (hv2:2≤vs.length) (hf:1≤nth vs (vs.length - 1)) (hl:m + vs.length≤1099511627776):∀ k (us qs:List Int),k≤m→us.length=m + vs.length→qs.length=m→n9 us→n9 qs→nv us < pw k * nv vs→(∀ i,i < k→nth qs i=0)→
 ∃ us' qs',j6 T0 X0 0 zR (some (.nrm,⟨[(4,.ref (.b 0) ⟨1,4⟩ 0 m),(6,.d (.int .i64 s)),(7,.ref (.b 1) ⟨1,4⟩ 0 us.length),(8,.ref (.b 2) ⟨1,4⟩ 0 vs.length),(9,.d (.int .i64 vs.length)),(10,.d (.int .u64 (nth vs (vs.length - 1)))),(11,.d (.int .u64 (nth vs (vs.length - 2)))),(12,.d (.int .i64 ((k:Int) - 1)))],[.arr (LV qs) ⟨1,4⟩,.arr (LV us) ⟨1,4⟩,.arr (LV vs) ⟨1,4⟩]⟩)) =
  some (.exit 0,⟨[(4,.ref (.b 0) ⟨1,4⟩ 0 m),(6,.d (.int .i64 s)),(7,.ref (.b 1) ⟨1,4⟩ 0 us.length),(9,.d (.int .i64 vs.length))],[.arr (LV qs') ⟨1,4⟩,.arr (LV us') ⟨1,4⟩]⟩) ∧
   us'.length=us.length∧qs'.length=m∧n9 us'∧n9 qs'∧nv us' < nv vs∧nv us + nv qs * nv vs=nv us' + nv qs' * nv vs:=by
 intro k
 induction k with
 | zero=>
   intro us qs hk hu hq gu gq hlt hz;refine ⟨us,qs,?_,rfl,hq,gu,gq,by simpa [pw] using hlt,rfl⟩;rw[d5 (l:=zR) rfl];simp -implicitDefEqProofs (disch:=omega) [kG]
 | succ j ih=>
   intro us qs hk hu hq gu gq hlt hz
   have hn:j + vs.length < us.length:=by omega
   have pj:=T4 j;have vb:=d8 hv
   have hlt2:nv us < pw (j + 1 + vs.length):=by
    rw[Nat.add_comm,Zf];have:=Int.mul_le_mul_of_nonneg_left (Int.le_of_lt vb.2) (Int.le_of_lt (T4 (j + 1)));rw[Int.mul_comm (pw vs.length)];omega
   have zz:=WJ gu hlt2;have f1b:=hv.nth (vs.length - 1);have f2b:=hv.nth (vs.length - 2);have u0b:=gu.nth (j + vs.length);have u1b:=gu.nth (j + vs.length - 1);have u2b:=gu.nth (j + vs.length - 2)
   have hVd:nv vs=nv (vs.take (vs.length - 2)) + pw (vs.length - 2) * (nth vs (vs.length - 1) * 4294967296 + nth vs (vs.length - 2)):=by
    rw[Q7 (xs:=vs) (j:=vs.length - 2) (by omega),M0 (by omega),show vs.length - 2 + 1=vs.length - 1 by omega,M0 (by omega),show vs.length - 1 + 1=vs.length by omega,List.drop_length];simp only[nv];rw[Int.mul_zero,Int.add_zero,Int.add_comm (nth vs (vs.length - 2)),Int.mul_comm 4294967296]
   have vl:=d8 (hv.take (vs.length - 2));rw[List.length_take,Nat.min_eq_left (by omega)] at vl
   have hWd:nv (us.drop j)=nv ((us.drop j).take (vs.length - 2)) + pw (vs.length - 2) * ((nth us (j + vs.length) * 4294967296 + nth us (j + vs.length - 1)) * 4294967296 + nth us (j + vs.length - 2)):=by
    rw[Q7 (xs:=us.drop j) (j:=vs.length - 2) (by simp; omega),List.drop_drop,show j + (vs.length - 2)=j + vs.length - 2 by omega,M0 (xs:=us) (i:=j + vs.length - 2) (by omega),show j + vs.length - 2 + 1=j + vs.length - 1 by omega,M0 (xs:=us) (i:=j + vs.length - 1) (by omega),show j + vs.length - 1 + 1=j + vs.length by omega,M0 (xs:=us) (i:=j + vs.length) (by omega)];have e:nv (us.drop (j + vs.length + 1))=0:=qin (fun i=>by rw[qlp]; exact zz _ (by omega));simp only[nv,e];rw[Int.mul_zero,Int.add_zero]
    congr 2
    omega
   have wl:=d8 ((gu.drop j).take (vs.length - 2));rw[List.length_take,Nat.min_eq_left (by simp; omega)] at wl;have hUd:=Q7 (xs:=us) (j:=j) (by omega);have ul:=d8 (gu.take j);rw[List.length_take,Nat.min_eq_left (by omega)] at ul
   have hWB:nv (us.drop j) < 4294967296 * nv vs:=by
    have:pw j * nv (us.drop j) < pw j * (4294967296 * nv vs):=by
     rw[vB,Int.mul_comm 4294967296,Int.mul_assoc] at hlt;omega
    exact Int.lt_of_mul_lt_mul_left this (by omega)
   generalize hf1:nth vs (vs.length - 1)=f1 at *;generalize hf2:nth vs (vs.length - 2)=f2 at *;have hb:=T4 (vs.length - 2);generalize hBn:pw (vs.length - 2)=Bn at *
   have htop:0≤nth us (j + vs.length) * 4294967296 + nth us (j + vs.length - 1)∧nth us (j + vs.length) * 4294967296 + nth us (j + vs.length - 1) < 18446744073709551616:=by omega
   have hor:=qxx u0b.1 u1b u0b.2;generalize htp:nth us (j + vs.length) * 4294967296 + nth us (j + vs.length - 1)=top at *;obtain ⟨k1,k2,k3,k4⟩:=ql8 (Vv:=nv vs) (W:=nv (us.drop j)) hb hf f2b u2b htop.1 (by rw[hVd,Int.mul_comm]; omega) (by rw[hVd,Int.add_mul,Int.one_mul,Int.mul_comm Bn]; omega) (by rw[hWd,Int.mul_comm]; omega) (by rw[hWd,Int.add_mul _ 1,Int.one_mul,Int.mul_comm Bn]; omega) hWB;have t1:=Int.mul_ediv_add_emod top f1;rw[Int.mul_comm] at t1;have t2:0≤top / f1:=Int.ediv_nonneg htop.1 (by omega);have t3:top / f1≤top:=Int.ediv_le_self _ htop.1;have t4:=Int.emod_nonneg top (show f1≠0 by omega);have t5:=Int.emod_lt_of_pos top (show 0 < f1 by omega);obtain ⟨g,l1,g0,g1,g2,g3⟩:=qpy us qs vs s j (W:=nv (us.drop j)) (Vv:=nv vs) (by omega) hn hv2 (by omega) gu ⟨hf,f1b.2⟩ f2b htop k1 k2 k3 _ (top / f1) (top % f1) rfl t1 t2 (by omega) t4 (by omega) k4
   have hV0:0 < nv vs:=by
    have:0 < Bn * (f1 * 4294967296 + f2):=Int.mul_pos hb (by omega);omega
   obtain ⟨us2,l2,hu2,gu2,hnu⟩:=qth (us:=us) (j:=j) (by omega) hn hv gu ⟨g0,g1⟩ (fun i hi=>zz i (by omega)) hV0 g2 g3;have q0:0≤nv (us.drop j) / nv vs:=Int.ediv_nonneg (d8 (gu.drop j)).1 (by omega);have q1:nv (us.drop j) / nv vs < 4294967296:=Int.ediv_lt_of_lt_mul hV0 hWB;have d1:=Int.mul_ediv_add_emod (nv (us.drop j)) (nv vs);have d2:=Int.emod_lt_of_pos (nv (us.drop j)) hV0
   have hlt3:nv us2 < pw j * nv vs:=by
    have e1:pw j * (nv (us.drop j) - nv (us.drop j) / nv vs * nv vs)≤pw j * (nv vs - 1):=Int.mul_le_mul_of_nonneg_left (by rw[Int.mul_comm (nv (us.drop j) / nv vs)]; omega) (by omega);rw[Int.mul_sub,Int.mul_sub,Int.mul_one] at e1;omega
   obtain ⟨us3,qs3,l3,h1,h2,h3,h4,h5,h6⟩:=ih us2 (qs.set j (nv (us.drop j) / nv vs)) (by omega) (by omega) (by simp[hq]) gu2 (T5 gq _ ⟨q0,q1⟩) hlt3 (fun i hi=>by
    rw[S7 (by omega),if_neg (by omega)]
    exact hz i (by omega))
   refine ⟨us3,qs3,?_,by omega,h2,h3,h4,h5,?_⟩
   ·rw[d5 (l:=zR) rfl];rw[hu2] at l3;rw[← l3];rw[hq] at l1;generalize nv (us.drop j) / nv vs=Q at *
    have hsl:j + vs.length + 1 - j=vs.length + 1:=by omega
    have htk:(LV vs).take vs.length=LV vs:=by rw[q3o,List.take_length]
    have hvt:vs.take vs.length=vs:=List.take_length;simp -implicitDefEqProofs (disch:=omega) [kG,hor,htp,l1,l2,hsl,htk,hvt]
   ·rw[← h6,Zm (by omega),hz j (by omega),Int.sub_zero,hnu,Int.add_mul,Int.mul_assoc];omega
theorem qub {c8 bs:List Int} (ha:n9 c8) (hb:n9 bs) (hs:c8.length + bs.length < 1099511627776) (h2:2≤bs.length) (hab:bs.length≤c8.length) (ht:nth bs (bs.length - 1)≠0) :
 d6 T0 X0 qi9 [.d (.sl (L c8)),.d (.sl (L bs))] []=some (.ret [.d (.sl (L (d7 (nv c8 / nv bs)))),.d (.sl (L (d7 (nv c8 % nv bs))))] []):=by
 have tb:=hb.nth (bs.length - 1);have s1:=quf tb;have b1:=YD (n:=nth bs (bs.length - 1)) (k:=32) (by omega);have b3:=qu8 (n:=nth bs (bs.length - 1)) (by omega)
 have b2:1≤xz (nth bs (bs.length - 1)):=by
  have:=V3 (nth bs (bs.length - 1))
  by_cases h:xz (nth bs (bs.length - 1))=0
  ·rw[h] at b3;have:(2:Int) ^ (0:Int).toNat=1:=rfl;omega
  ·omega
 obtain ⟨s,hs32⟩:∃ s:Nat,32 - xz (nth bs (bs.length - 1))=s:=⟨(32 - xz (nth bs (bs.length - 1))).toNat,by omega⟩;rw[hs32] at s1
 have hlt:s < 32:=by omega
 have p0:=Xw s;have p1:=qrf hlt;have ab:=d8 ha
 have hbtop:nv bs=nv (bs.take (bs.length - 1)) + pw (bs.length - 1) * nth bs (bs.length - 1):=by
  conv=>lhs; rw[Q7 (xs:=bs) (j:=bs.length - 1) (by omega),M0 (by omega),show bs.length - 1 + 1=bs.length by omega,List.drop_length]
  simp only[nv];rw[Int.mul_zero,Int.add_zero]
 have lb:=d8 (hb.take (bs.length - 1));rw[List.length_take,Nat.min_eq_left (by omega)] at lb;have pb:=T4 (bs.length - 1)
 have hpl:pw bs.length=4294967296 * pw (bs.length - 1):=by
  have:=vB (bs.length - 1)
  rwa [show bs.length - 1 + 1=bs.length by omega] at this
 have hPP:(2:Int) ^ (xz (nth bs (bs.length - 1))).toNat * 2 ^ s=4294967296:=by
  rw[← Int.pow_add,show (xz (nth bs (bs.length - 1))).toNat + s=32 by omega]; rfl
 have hub:nv bs * 2 ^ s < pw bs.length:=by
  have e1:pw (bs.length - 1) * (nth bs (bs.length - 1) + 1)≤pw (bs.length - 1) * 2 ^ (xz (nth bs (bs.length - 1))).toNat:=Int.mul_le_mul_of_nonneg_left (by omega) (by omega);rw[Int.mul_add,Int.mul_one] at e1
  have e2:nv bs < pw (bs.length - 1) * 2 ^ (xz (nth bs (bs.length - 1))).toNat:=by omega
  have e3:=Int.mul_lt_mul_of_pos_right e2 p0;rw[Int.mul_assoc,hPP] at e3;omega
 have hbl:pw (bs.length - 1)≤nv bs:=by
  have:pw (bs.length - 1) * 1≤pw (bs.length - 1) * nth bs (bs.length - 1):=Int.mul_le_mul_of_nonneg_left (by omega) (by omega);omega
 have hua:nv c8 * 2 ^ s < pw (c8.length + 1):=by
  have e:=Int.mul_lt_mul_of_pos_right ab.2 p0;have e2:pw c8.length * 2 ^ s≤pw c8.length * 2147483648:=Int.mul_le_mul_of_nonneg_left p1 (Int.le_of_lt (T4 _));have e3:=T4 c8.length;rw[vB];omega
 obtain ⟨us,m1,lu,gu,vu⟩:=qcs (c8:=c8) (s:=s) (n:=c8.length + 1) hlt (by omega) ha (by omega) hua;obtain ⟨vs,m2,lv,gv,vv⟩:=qcs (c8:=bs) (s:=s) (n:=bs.length) hlt (by omega) hb (Nat.le_refl _) hub
 have vlow:nv bs≤nv vs:=by
  rw[vv];have:nv bs * 1≤nv bs * 2 ^ s:=Int.mul_le_mul_of_nonneg_left (by omega) (by omega);omega
 have f1:1≤nth vs (vs.length - 1):=by
  have b:=gv.nth (vs.length - 1)
  by_cases h:nth vs (vs.length - 1)=0
  ·exfalso
   have:=qcp gv (k:=vs.length - 1) (fun i hi=>by
    by_cases e:i=vs.length - 1
    ·rw[e]; exact h
    ·exact xN (by omega))
   rw[lv] at this;omega
  ·omega
 obtain ⟨us2,qs,l1,lu2,lq,gu2,gq,hlt2,hval⟩:=quc vs s (c8.length + 1 - bs.length) gv (by omega) f1 (by omega) (c8.length + 1 - bs.length) us (List.replicate (c8.length + 1 - bs.length) 0) (Nat.le_refl _) (by omega) (by simp) gu (QH _) (by
  rw[vu];have e1:=Int.mul_lt_mul_of_pos_right ab.2 p0;have e2:pw (c8.length + 1 - bs.length) * (pw (bs.length - 1) * 2 ^ s)≤pw (c8.length + 1 - bs.length) * nv vs:=Int.mul_le_mul_of_nonneg_left (by rw[vv]; exact Int.mul_le_mul_of_nonneg_right hbl (by omega)) (Int.le_of_lt (T4 _));rw[← Int.mul_assoc,← Zf,show c8.length + 1 - bs.length + (bs.length - 1)=c8.length by omega] at e2
  omega) (fun i _=>by simp[nth,List.getD_eq_getElem?_getD,List.getElem?_replicate]; split <;> rfl)
 have z0:nv (List.replicate (c8.length + 1 - bs.length) 0)=0:=qin (fun i=>by simp[nth,List.getD_eq_getElem?_getD,List.getElem?_replicate]; split <;> rfl);rw[z0,Int.zero_mul,Int.add_zero] at hval;have b0:0≤nv us2:=(d8 gu2).1
 have hVp:0 < nv vs:=by omega
 have q1:nv c8 * 2 ^ s / nv vs=nv qs:=by
  rw[← vu,hval,Int.add_mul_ediv_right _ _ (by omega),Int.ediv_eq_zero_of_lt b0 hlt2,Int.zero_add]
 have r1:nv c8 * 2 ^ s % nv vs=nv us2:=by
  rw[← vu,hval,Int.add_mul_emod_self_right,Int.emod_eq_of_lt b0 hlt2]
 have q2:nv c8 / nv bs=nv qs:=by rw[← q1,vv,Int.mul_ediv_mul_of_pos_left _ _ p0]
 have r2:nv us2 / 2 ^ s=nv c8 % nv bs:=by
  rw[← r1,vv,Int.mul_comm _ (2 ^ s),Int.mul_comm (nv bs),Int.mul_emod_mul_of_pos _ _ p0,Int.mul_ediv_cancel_left _ (by omega)]
 have hlow:nv (us2.take vs.length)=nv us2:=by
  have hz:=WJ gu2 (k:=vs.length) (Int.lt_trans hlt2 (d8 gv).2);have e:=Q7 (xs:=us2) (j:=vs.length) (by omega);rw[qin (l:=us2.drop vs.length) (fun i=>by rw[qlp]; exact hz _ (by omega)),Int.mul_zero,Int.add_zero] at e;exact e.symm
 have s3:=qox (xs:=us2.take vs.length) (s:=s) hlt (by simp; omega) (gu2.take _);rw[hlow,r2] at s3;have s4:=n0 gq (by omega);rw[q2];rw[c9 (af:=ZR) rfl rfl rfl];rw[lu,lv] at l1;rw[lv] at s3
 have hm:c8.length + 1 - bs.length + bs.length=c8.length + 1:=by omega
 have hqt:qs.take (c8.length + 1 - bs.length)=qs:=List.take_of_length_le (by omega)
 have hc:((c8.length:Int) + 1 - (bs.length:Int))=((c8.length + 1 - bs.length:Nat):Int):=by omega
 have htn:((c8.length:Int) + 1 - (bs.length:Int)).toNat=c8.length + 1 - bs.length:=by omega
 simp only[Int.natCast_add,Int.cast_ofNat_Int] at m1;have f1b:=gv.nth (vs.length - 1);have f2b:=gv.nth (vs.length - 2);rw[lv] at f1b f2b;generalize hM:c8.length + 1 - bs.length=M at *;simp -implicitDefEqProofs (disch:=omega) [ZR,s1,m1,m2,hc,l1,s3,s4,hqt]
theorem WW {xs ys:List Int} (hx:n9 xs) (hy:n9 ys) (hs:xs.length + ys.length < 1073741824) :
 d6 T0 X0 wO [.d (.sl (L xs)),.d (.sl (L ys))] []=some (.ret (if nv ys=0 then [.d (.sl []),.d (.sl []),.d (.bool false)] else [.d (.sl (L (d7 (nv xs / nv ys)))),.d (.sl (L (d7 (nv xs % nv ys)))),.d (.bool true)]) []):=by
 rw[c9 (af:=U3) rfl rfl rfl];have s1:=n0 hx (by omega);have s2:=n0 hy (by omega);have h1:=o9 (d8 hx).1;have h2:=o9 (d8 hy).1;have l1:(d7 (nv xs)).length≤xs.length:=o6 (d8 hx).1 (d8 hx).2;have l2:(d7 (nv ys)).length≤ys.length:=o6 (d8 hy).1 (d8 hy).2;have g1:=g8 (nv xs);have g2:=g8 (nv ys);have c1:=Q1 (nv xs);have c2:=Q1 (nv ys);generalize d7 (nv xs)=c8 at *;generalize d7 (nv ys)=bs at *;rw[← h1,← h2];have n1:=d8 g1;have n2:=d8 g2
 by_cases h0:nv bs=0
 ·have e:bs=[]:=by
   rcases c2 with h | h
   ·exact h
   ·have:=T4 (bs.length - 1);omega
  subst e;rw[if_pos (show nv []=0 from rfl)];simp -implicitDefEqProofs (disch:=omega) [U3,s1,s2]
 ·rw[if_neg h0]
  have hbl:bs.length≠0:=fun h=>h0 (by rw[List.length_eq_zero_iff.1 h]; rfl)
  have s3:=qm8 g1 g2 (by omega) (by omega)
  by_cases hlt:nv c8 < nv bs
  ·have e1:nv c8 / nv bs=0:=Int.ediv_eq_zero_of_lt n1.1 hlt;have e2:nv c8 % nv bs=nv c8:=Int.emod_eq_of_lt n1.1 hlt;have s4:=Qs g1 (by omega);rw[e1,e2];unfold cmp at s3;rw[if_pos hlt] at s3;simp -implicitDefEqProofs (disch:=omega) [-List.length_eq_zero_iff,U3,s1,s2,s3,s4]
  ·have h3:¬ cmp (nv c8) (nv bs) < 0:=by
    unfold cmp;rw[if_neg hlt]
    split <;> omega
   by_cases hl1:bs.length=1
   ·obtain ⟨y,rfl⟩:=List.length_eq_one_iff.1 hl1
    have hy0:nv [y]=y:=by simp[nv]
    have gy:=(T6.1 g2).1;rw[hy0] at h0 h3 s3 ⊢;have s4:=qag (b:=y) g1 (by omega) (by omega);have m0:=Int.emod_nonneg (nv c8) h0;have m1:=Int.emod_lt_of_pos (nv c8) (show 0 < y by omega);have s5:=Za (n:=nv c8 % y) (by omega);simp only[zE,kz] at s2 s3
    have hw:wl [D.int .u32 y]≤w8:=by
     have:=JY [y];simp only[zE,kz] at this;unfold w8; omega
    simp -implicitDefEqProofs (disch:=omega) [U3,s1,s2,s3,s4,s5,h3,hw]
   ·have hbl2:bs.length≤c8.length:=by
     by_cases h:bs.length≤c8.length
     ·exact h
     ·have:=Jw g1 c2 (show c8.length < bs.length by omega);omega
    have htop:nth bs (bs.length - 1)≠0:=fun h=>by
     rcases c2 with c | c
     ·exact hbl (by rw[c]; rfl)
     ·have:=qcp g2 (k:=bs.length - 1) (fun i hi=>by
       by_cases e:i=bs.length - 1
       ·rw[e]; exact h
       ·exact xN (by omega))
      omega
    have s4:=qub g1 g2 (by omega) (by omega) hbl2 htop;simp -implicitDefEqProofs (disch:=omega) [-List.length_eq_zero_iff,U3,s1,s2,s3,s4,h3]
theorem Jy {m n q r:Int} (hn:n≠0) (h:m=q * n + r) (h0:0≤r) (h1:r < n.natAbs):m / n=q∧m % n=r:=by
 have e:m % n=r:=by
  rw[h,Int.add_comm,Int.add_mul_emod_self_right];rcases Int.lt_or_gt_of_ne hn with hn | hn
  ·rw[← Int.emod_neg];exact Int.emod_eq_of_lt h0 (by omega)
  ·exact Int.emod_eq_of_lt h0 (by omega)
 refine ⟨?_,e⟩;have d:=Int.mul_ediv_add_emod m n;rw[e] at d
 have:n * (m / n)=n * q:=by rw[Int.mul_comm n q]; omega
 exact Int.eq_of_mul_eq_mul_left hn this
def q0 (m n:Int):Int:=sg (decide (m < 0) != decide (n < 0)) ((m.natAbs:Int) / n.natAbs)
def r0 (m n:Int):Int:=sg (decide (m < 0)) ((m.natAbs:Int) % n.natAbs)
theorem qr0 (m n:Int) (hn:n≠0):m=q0 m n * n + r0 m n∧(r0 m n).natAbs < n.natAbs∧(q0 m n).natAbs≤m.natAbs:=by
 have d:=Int.mul_ediv_add_emod (m.natAbs:Int) n.natAbs;have m0:=Int.emod_nonneg (m.natAbs:Int) (show (n.natAbs:Int)≠0 by omega);have m1:=Int.emod_lt_of_pos (m.natAbs:Int) (show 0 < (n.natAbs:Int) by omega);have q1:(m.natAbs:Int) / n.natAbs≤m.natAbs:=Int.ediv_le_self _ (by omega);have q2:0≤(m.natAbs:Int) / n.natAbs:=Int.ediv_nonneg (by omega) (by omega);unfold q0 r0 sg;generalize (m.natAbs:Int) / n.natAbs=q at *;generalize (m.natAbs:Int) % n.natAbs=r at *
 have e:(n.natAbs:Int)=if n < 0 then -n else n:=by split <;> omega
 rw[e] at d
 by_cases hm:m < 0 <;> by_cases hn2:n < 0 <;> simp only[hm,hn2,decide_true,decide_false,if_true,if_false,bne_self_eq_false,Bool.false_eq_true,Bool.true_bne,Bool.false_bne,Bool.not_false] at d ⊢ <;> refine ⟨?_,by omega,by omega⟩
 ·rw[Int.neg_mul,Int.mul_comm] at d; omega
 ·rw[Int.mul_comm] at d; rw[Int.neg_mul]; omega
 ·rw[Int.neg_mul,Int.mul_comm] at d; rw[Int.neg_mul]; omega
 ·rw[Int.mul_comm] at d; omega
section walk
variable {p pn:Bool} {c8 bs:List Int} {qa ra Q R:Int} (h1:c8.length < 268435456) (h2:bs.length < 268435456) (h3:(d7 qa).length < 536870912) (h4:(d7 ra).length < 536870912) (h5:(d7 Q.natAbs).length < 536870912) (h6:(d7 R.natAbs).length < 536870912)
 (s1:d6 T0 X0 wO [.d (.sl (L c8)),.d (.sl (L bs))] []=some (.ret [.d (.sl (L (d7 qa))),.d (.sl (L (d7 ra))),.d (.bool true)] []))
 (s2:d6 T0 X0 Zy [.d (.bool (!(p == pn))),.d (.sl (L (d7 qa)))] []=some (.ret [.d (.agg [.bool (decide (Q < 0)),.sl (L (d7 Q.natAbs))])] []))
 (s3:d6 T0 X0 Zy [.d (.bool p),.d (.sl (L (d7 ra)))] []=some (.ret [.d (.agg [.bool (decide (R < 0)),.sl (L (d7 R.natAbs))])] []))
include h1 h2 h3 h4 h5 h6 s1 s2 s3
theorem zan (hr:¬ R < 0):d6 T0 X0 xO [.d (.agg [.bool p,.sl (L c8)]),.d (.agg [.bool pn,.sl (L bs)])] []=some (.ret [.d (.agg [.bool (decide (Q < 0)),.sl (L (d7 Q.natAbs))]),.d (.agg [.bool (decide (R < 0)),.sl (L (d7 R.natAbs))]),.d (.bool true)] []):=by
 have _:=h5;have _:=h6;rw[c9 (af:=G2) rfl rfl rfl];simp -implicitDefEqProofs (disch:=omega) [G2,s1,s2,s3]
variable {one l6 l9:List Int} {b6 b9:Bool} {sn:Int} (h7:one.length < 536870912)
 (s4:d6 T0 X0 qdi [.d (.int .i64 1)] []=some (.ret [.d (.agg [.bool false,.sl (L one)])] []))
 (s5:d6 T0 X0 Zz [.d (.agg [.bool pn,.sl (L bs)])] []=some (.ret [.d (.int .i64 sn)] []))
include h7 s4 s5
theorem zkt (hr:R < 0) (hn:sn < 0)
 (s6:d6 T0 X0 vK [.d (.agg [.bool (decide (Q < 0)),.sl (L (d7 Q.natAbs))]),.d (.agg [.bool false,.sl (L one)])] []=some (.ret [.d (.agg [.bool b6,.sl (L l6)])] []))
 (s9:d6 T0 X0 vJ [.d (.agg [.bool true,.sl (L (d7 R.natAbs))]),.d (.agg [.bool pn,.sl (L bs)])] []=some (.ret [.d (.agg [.bool b9,.sl (L l9)])] [])) :
 d6 T0 X0 xO [.d (.agg [.bool p,.sl (L c8)]),.d (.agg [.bool pn,.sl (L bs)])] []=some (.ret [.d (.agg [.bool b6,.sl (L l6)]),.d (.agg [.bool b9,.sl (L l9)]),.d (.bool true)] []):=by
 rw[c9 (af:=G2) rfl rfl rfl];simp -implicitDefEqProofs (disch:=omega) [G2,s1,s2,s3,s4,s5,s6,s9]
theorem zku (hr:R < 0) (hn:¬ sn < 0)
 (s6:d6 T0 X0 vJ [.d (.agg [.bool (decide (Q < 0)),.sl (L (d7 Q.natAbs))]),.d (.agg [.bool false,.sl (L one)])] []=some (.ret [.d (.agg [.bool b6,.sl (L l6)])] []))
 (s9:d6 T0 X0 vK [.d (.agg [.bool true,.sl (L (d7 R.natAbs))]),.d (.agg [.bool pn,.sl (L bs)])] []=some (.ret [.d (.agg [.bool b9,.sl (L l9)])] [])) :
 d6 T0 X0 xO [.d (.agg [.bool p,.sl (L c8)]),.d (.agg [.bool pn,.sl (L bs)])] []=some (.ret [.d (.agg [.bool b6,.sl (L l6)]),.d (.agg [.bool b9,.sl (L l9)]),.d (.bool true)] []):=by
 rw[c9 (af:=G2) rfl rfl rfl];simp -implicitDefEqProofs (disch:=omega) [G2,s1,s2,s3,s4,s5,s6,s9]
end walk
theorem YE {m n:Int} (hm:nl m < 268435456) (hn:nl n < 268435456) :
 d6 T0 X0 xO [.d (Wd m),.d (Wd n)] []=some (.ret (if n=0 then [.d (Wd 0),.d (Wd 0),.d (.bool false)] else [.d (Wd (m / n)),.d (Wd (m % n)),.d (.bool true)]) []):=by
 have s1:=WW (g8 m.natAbs) (g8 n.natAbs) (by unfold nl at hm hn; omega);rw[xM,xM] at s1
 by_cases h0:n=0
 ·subst h0;rw[c9 (af:=G2) rfl rfl rfl];rw[if_pos (show ((Int.natAbs 0:Nat):Int)=0 from rfl)] at s1;rw[if_pos rfl];simp only[nl] at hm;simp only[Wd,Int.natAbs_zero,Int.cast_ofNat_Int,wM,kz] at s1 ⊢;simp -implicitDefEqProofs (disch:=omega) [G2,s1]
 ·rw[if_neg h0];rw[if_neg (by omega)] at s1;obtain ⟨e1,e2,e3⟩:=qr0 m n h0;have lm:=WM m;have ln:=WM n;have nq:nl (q0 m n)≤nl m:=qga (by omega) (by omega);have nr:nl (r0 m n)≤nl n:=qga (by omega) (by omega);have hq0:0≤(m.natAbs:Int) / n.natAbs:=Int.ediv_nonneg (by omega) (by omega);have hr0:=Int.emod_nonneg (m.natAbs:Int) (show (n.natAbs:Int)≠0 by omega);have k1:(d7 ((m.natAbs:Int) / n.natAbs)).length≤nl m:=o6 hq0 (by have:=Int.ediv_le_self (a:=(m.natAbs:Int)) (n.natAbs:Int) (by omega); omega);have k2:(d7 ((m.natAbs:Int) % n.natAbs)).length≤nl n:=o6 hr0 (by have:=Int.emod_lt_of_pos (m.natAbs:Int) (show 0 < (n.natAbs:Int) by omega); omega);have s2:=Q0 (decide (m < 0) != decide (n < 0)) hq0 (by omega);have s3:=Q0 (decide (m < 0)) hr0 (by omega);change _=some (CRes.ret [.d (Wd (q0 m n))] []) at s2;change _=some (CRes.ret [.d (Wd (r0 m n))] []) at s3;have s4:=Xf (n:=1) (by omega);have s5:=KC (m:=n) (by omega)
  by_cases hr:r0 m n < 0
  ·have hrd:decide (r0 m n < 0)=true:=decide_eq_true hr
   by_cases hneg:n < 0
   ·obtain ⟨d1,d2⟩:=Jy (m:=m) (n:=n) (q:=q0 m n + 1) (r:=r0 m n - n) h0 (by rw[Int.add_mul,Int.one_mul]; omega) (by omega) (by omega);rw[d1,d2];have s6:=qn6 (m:=q0 m n) (n:=1) (by omega) (by decide);have s9:=qvr (m:=r0 m n) (n:=n) (by omega) (by omega)
    have hsg:n.sign < 0:=by rw[Int.sign_eq_neg_one_of_neg hneg]; decide
    unfold Wd at s9;rw[hrd] at s9;exact zkt (by unfold nl at hm; omega) (by unfold nl at hn; omega) (by omega) (by omega) (by unfold nl at nq hm; omega) (by unfold nl at nr hn; omega) s1 s2 s3 (by decide) s4 s5 hr hsg s6 s9
   ·obtain ⟨d1,d2⟩:=Jy (m:=m) (n:=n) (q:=q0 m n - 1) (r:=r0 m n + n) h0 (by rw[Int.sub_mul,Int.one_mul]; omega) (by omega) (by omega);rw[d1,d2];have s6:=qvr (m:=q0 m n) (n:=1) (by omega) (by decide);have s9:=qn6 (m:=r0 m n) (n:=n) (by omega) (by omega)
    have hsg:¬ n.sign < 0:=by rw[Int.sign_eq_one_of_pos (by omega)]; decide
    unfold Wd at s9;rw[hrd] at s9;exact zku (by unfold nl at hm; omega) (by unfold nl at hn; omega) (by omega) (by omega) (by unfold nl at nq hm; omega) (by unfold nl at nr hn; omega) s1 s2 s3 (by decide) s4 s5 hr hsg s6 s9
  ·obtain ⟨d1,d2⟩:=Jy (q:=q0 m n) (r:=r0 m n) h0 e1 (by omega) (by omega);rw[d1,d2];exact zan (by unfold nl at hm; omega) (by unfold nl at hn; omega) (by omega) (by omega) (by unfold nl at nq hm; omega) (by unfold nl at nr hn; omega) s1 s2 s3 hr
end Go.Rf
