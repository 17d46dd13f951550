/- Parts of the proof. -/
import Derived.Test.YtpaeaccmddffjaaGreatDoorRb2
import Derived.Test.YtpaeaccmddffjaaGreatDoorSp12
import Derived.Test.YtpaeaccmddffjaaGreatDoorSp9
import Derived.Test.YtpaeaccmddffjaaGreatDoorSp6
import Derived.Test.YtpaeaccmddffjaaGreatDoorSp8
set_option linter.all false
namespace Go.Rf
set_option maxHeartbeats 8000000
theorem qkg {vs:List (List UInt8)} {s:List UInt8}:∀ d i,zF vs s d i < 0→∀ j,i≤j→j < i + d→tx vs j≠s
 | 0,i,_,j,h1,h2=>by omega
 | d + 1,i,h,j,h1,h2=>by
   unfold zF at h;split at h
   ·omega
   ·rename_i c
    by_cases e:j=i
    ·subst e; exact fun x=>c x.symm
    ·exact qkg d (i + 1) h j (by omega) (by omega)
theorem qho {vs:List (List UInt8)} {s:List UInt8}:s∈vs↔0≤zF vs s vs.length 0:=by
 constructor
 ·intro h;obtain ⟨j,hj,e⟩:=List.getElem_of_mem h
  by_cases hn:0≤zF vs s vs.length 0
  ·exact hn
  ·have e2:tx vs j=s:=by simp[tx,hj,e]
   exact absurd e2 (qkg vs.length 0 (by omega) j (by omega) (by omega))
 ·intro h;obtain ⟨j,hj,_,e⟩:=qas vs s vs.length 0 h;rw[← e]
  have hj:j < vs.length:=by omega
  have:tx vs j=vs[j]:=by simp[tx,hj]
  rw[this];exact List.getElem_mem hj
structure Pok2 (g:Pg):Prop where
 ok:Pok g
 tz:Sms.tz g.body≤5000
 dep:Sms.dep g.body≤16
 mks:(Sms.mks g.body).Nodup
 nms:g.vs.Nodup
 sh:∀ b∈g.bs,zq b.name=true
theorem qqh {r r2:Rd} {ts bs b} (h:DOk r ts bs) (hd:r.declare = .ok b r2):b.name ∉ r.vs∧zq b.name=true∧r2.ms=r.ms:=by
 unfold Rd.declare at hd;split at hd
 ·cases hd
 rename_i hn;obtain ⟨h1,h2⟩:=ke hn;have k1:=Kept.next h.ok;have f:=qbf (Jq k1.ok (by rw[k1.vs]; exact h2) (Q3 h.ok)) r.tok.text;rw[KE hd];rw[hd] at f;refine ⟨?_,?_,f.1.ms.trans k1.ms⟩
 ·unfold Rd.newName at hn
  repeat' split at hn
  all_goals first | cases hn | skip
  rename_i c;rw[qho];exact c
 ·unfold Rd.newName at hn
  repeat' split at hn
  all_goals first | cases hn | skip
  rename_i c _
  simpa using c
theorem qm1 {ts:List Tok}:∀ n (r:Rd) (bs bs':List Bg) (r':Rd),DOk r ts bs→(∀ b∈bs,zq b.name=true)→(bs.map Bg.name).Nodup→T7 n r bs = .ok bs' r'→(∀ b∈bs',zq b.name=true)∧(bs'.map Bg.name).Nodup∧r'.ms=r.ms
 | 0,_,_,_,_,_,_,_,e=>by cases e
 | n + 1,r,bs,bs',r',h,h1,h2,e=>by
   unfold T7 at e;have k1:=Kept.next h.ok;have hnx:DOk r.next ts bs:=⟨k1.ok,k1.ts.trans h.ts,by have:=h.own; unfold Rd.own at this ⊢; rw[k1.ly,k1.vs]; exact this,k1.vs.trans h.vs⟩;split at e
   ·cases e; exact ⟨h1,h2,k1.ms⟩
   ·obtain ⟨u,r1,e1,e2⟩:=m8 e
    have hc:DOk r1 ts bs∧r1.ms=r.ms:=by
     unfold Rd.comma at e1;split at e1
     ·cases e1; exact ⟨h,rfl⟩
     ·split at e1
      ·cases e1; exact ⟨hnx,k1.ms⟩
      ·cases e1
    obtain ⟨b,r2,e3,e4⟩:=m8 e2;obtain ⟨a1,a2,a3⟩:=qqh hc.1 e3;obtain ⟨g1,g2,_⟩:=wT hc.1 e3;rw[hc.1.vs] at a1
    obtain ⟨b1,b2,b3⟩:=qm1 n r2 _ bs' r' g1 (fun x hx=>by
     rcases List.mem_append.1 hx with hx | hx
     ·exact h1 x hx
     ·rw[List.mem_singleton.1 hx]; exact a2) (by
     rw[List.map_append,List.nodup_append]
     exact ⟨h2,by simp,fun a ha c hc2=>by
      rw[List.map_cons,List.map_nil,List.mem_singleton] at hc2
      rw[hc2]; exact fun hab=>a1 (hab ▸ ha)⟩) e4
    exact ⟨b1,b2,b3.trans (a3.trans hc.2)⟩
theorem qf1 {s:List UInt8} {g:Pg} (h:(P5 s).1=some g):Pok2 g:=by
 have hok:=Xs h;unfold P5 at h;split at h
 ·cases h
 rename_i ts e p hsc;have ht:=qkp hsc;have hd:=qq3 (jz hsc).2;split at h
 ·cases h
 rename_i g' r' hp;split at h
 case isFalse=>cases h
 cases h;unfold Rd.prog at hp;split at hp
 case isFalse=>cases hp
 have k1:=Kept.next hd.ok;have h1:DOk (rp ts).next ts []:=⟨k1.ok,k1.ts.trans hd.ts,by have:=hd.own; unfold Rd.own at this ⊢; rw[k1.ly,k1.vs]; exact this,k1.vs.trans hd.vs⟩;obtain ⟨bs,r2,e1,e2⟩:=m8 hp;obtain ⟨l,r3,e3,e4⟩:=m8 e2;cases e4;have h4:=Jd _ _ _ _ _ h1 e1;obtain ⟨b1,b2,b3⟩:=qdv ht _ _ _ _ _ h1 (fun _ h=>by cases h) (by simp) e1;obtain ⟨c1,c2,c3⟩:=qm1 _ _ _ _ _ h1 (fun _ h=>by cases h) (by simp) e1
 have hv:∀ w∈bs.map Bg.name,NameOk w:=fun w hw=>by
  obtain ⟨b,hb,rfl⟩:=List.mem_map.1 hw;exact (b1 b hb).name
 have q:=(qy7 ht hv (4 * r2.ts.length + 2)).R r2 h4.ok h4.ts h4.vs (by rw[h4.ts]; omega) _ _ e3
 have hm:r2.ms=[]:=by rw[c3,k1.ms]; rfl
 have hz:=q.z;have hi:=q.k.ok.i;have hn:=q.k.ok.n;have ho:=h4.ok.op;have hdd:=q.d;refine ⟨hok,by show Sms.tz l≤_; omega,by show Sms.dep l≤_; omega,?_,c2,c1⟩;have e5:=q.n (by rw[hm]; simp);rw[q.m,hm] at e5;exact e5
theorem qdx {vs:List (List UInt8)} {x y:Nd} {q:Bool} (hx:Xok vs x) (hy:Xok vs y):(xT x y q).length≤4 + 4110 * (x.sz + y.sz):=by
 have:=kA _ hx.pr;have:=kA _ hy.pr;unfold xT eqs
 split <;> simp <;> omega
mutual
theorem q0n {vs:List (List UInt8)}:∀ (s:Sm) (a:List UInt8),s.fit vs→a.length + 2 * s.dep≤40→((a++s.head)++s.ptl a).length≤4300 * s.tz
 | .set p v n e,a,h,hd=>by
   simp only[Sm.fit] at h;have hn:=h.1.l
   cases e with
   | none=>simp[Sm.head,Sm.ptl,Sm.tz,vA,oSz]; omega
   | some x=>
     have h5:Xok vs x:=h.2.2.2.2;have:=kA _ h5.pr;simp[Sm.head,Sm.ptl,Sm.tz,vA,oSz]; omega
 | .skip p,a,h,hd=>by simp[Sm.head,Sm.ptl,Sm.tz,vA]; omega
 | .stop p,a,h,hd=>by simp[Sm.head,Sm.ptl,Sm.tz,vA]; omega
 | .mark p n,a,h,hd=>by
   simp only[Sm.fit] at h;have hn:=h.1.l;simp[Sm.head,Sm.ptl,Sm.tz,vA]; omega
 | .choose p bs,a,h,hd=>by
   have:=qne bs a true h.2 (by simpa only [Sm.dep] using hd);simp[Sm.head,Sm.ptl,Sm.tz,S2]; omega
 | .loop p b,a,h,hd=>by
   simp only[Sm.dep] at hd;have:=jO b (a++[32,32]) h (by simp; omega);simp[Sm.head,Sm.ptl,Sm.tz,S2,Z7]; omega
 | .ifs p x y q b,a,h,hd=>by
   simp only[Sm.dep] at hd;have:=jO b (a++[32,32]) h.2.2 (by simp; omega);have:=qdx h.1 h.2.1 (q:=q);simp[Sm.head,Sm.ptl,Sm.tz,S2,Z7]; omega
 | .ife p x y q b pe e,a,h,hd=>by
   simp only[Sm.dep] at hd;have:=jO b (a++[32,32]) h.2.2.1 (by simp; omega);have:=jO e (a++[32,32]) h.2.2.2 (by simp; omega);have:=qdx h.1 h.2.1 (q:=q);simp[Sm.head,Sm.ptl,Sm.tz,S2,Z7,kT]; omega
 | .while p x y q b,a,h,hd=>by
   simp only[Sm.dep] at hd;have:=jO b (a++[32,32]) h.2.2 (by simp; omega);have:=qdx h.1 h.2.1 (q:=q);simp[Sm.head,Sm.ptl,Sm.tz,S2,Z7]; omega
theorem jO {vs:List (List UInt8)}:∀ (l:List Sm) (a:List UInt8),Sms.fit vs l→a.length + 2 * Sms.dep l≤40→(Sms.txt a l).length≤4300 * Sms.tz l
 | [],a,h,hd=>by simp[Sms.txt]
 | s :: l,a,h,hd=>by
   simp only[Sms.fit] at h;simp only[Sms.dep] at hd;have h1:=q0n s a h.1 (by omega);have h2:=jO l a h.2 (by omega);simp only[Sms.txt,Sms.tz,List.length_append] at *;omega
theorem qne {vs:List (List UInt8)}:∀ (l:List Bl) (a:List UInt8) (f:Bool),Bls.fit vs l→a.length + 2 * Bls.dep l≤40→(Bls.txt a f l).length≤4300 * Bls.tz l
 | [],a,f,h,hd=>by simp[Bls.txt]
 | .mk p b :: l,a,f,h,hd=>by
   simp only[Bls.fit,Bl.fit] at h;simp only[Bls.dep] at hd;have h1:=jO b (a++[32,32]) h.1 (by simp; omega);have h2:=qne l a false h.2 (by omega)
   cases f <;> simp[Bls.txt,Bls.tz,orT,Z7] at * <;> omega
end
def Pg.txt (g:Pg):List UInt8:=g.first++[59,10]++Sms.txt [] g.body
theorem qb3 {g:Pg} (h:Pok2 g):d6 T0 X0 XV [g.d] []=some (.ret [.d (.str g.txt)] []):=by
 have s1:=qfd h.ok;have hsz:=h.ok.sz;have hb:=xE g.body
 have hfl:g.first.length≤100000:=by
  have:=Yz g.bs true h.ok.bs;have:=h.ok.n;unfold Pg.first; simp; omega
 have s2:=ws0 (g.first++[59,10]) (by simp; omega);have hdp:=h.dep;have htz:=h.tz;have htl:=jO g.body [] h.ok.fit (by simp; omega);have s3:=(psl (Xr g.body h.ok.fit (by omega)) (by omega)).1 [] (g.first++[59,10]) (by simp) (by simp; omega)
 have l1:(g.first++[59,10]).length≤100000000:=by simp; omega
 have l2:(g.first++[59,10]++Sms.txt [] g.body).length≤100000000:=by simp; omega
 have s4:=qhc (s:=g.txt) (by unfold Pg.txt; simp);rw[c9 (af:=qL) rfl rfl rfl];unfold Pg.txt at s4 ⊢;have hg:∃ c1 c2 c3 c4 c5,g.d = .d (.box (.agg [c1,c2,c3,c4,c5,.sl (LD smL g.body)])):=⟨_,_,_,_,_,rfl⟩;obtain ⟨c1,c2,c3,c4,c5,hg⟩:=hg;rw[hg] at s1 ⊢;generalize g.first++[59,10]++Sms.txt [] g.body=u2 at *;generalize hu1:g.first++[59,10]=u1 at *;generalize g.first=fi at *;clear hg
 rcases qo2 g.body u2 with hR | hR <;> rw[hR] at s3
 all_goals
  simp only[JQ,bld,M7,vn] at s2 s3 s4;simp (maxSteps:=4000000) -implicitDefEqProofs (disch:=omega) [qL,qrg,s1,s2,s3,s4,hu1]
abbrev bL:Tk:=(3,[123])
abbrev bR:Tk:=(3,[125])
abbrev sm:Tk:=(3,[59])
def qab (x y:Nd) (q:Bool):List Tk:=pt x++(3,if q then [61] else [33,61]) :: pt y
def Sm.hk:Sm→List Tk
 | .set _ _ s none=>[(1,s),(3,[58,61]),(1,[97,110,121])]
 | .set _ _ s (some x)=>(1,s) :: (3,[58,61]) :: pt x
 | .skip _=>[(1,[115,107,105,112])]
 | .stop _=>[(1,[115,116,111,112])]
 | .mark _ s=>[(1,[109,97,114,107]),(1,s)]
 | .choose _ _=>[(1,[99,104,111,111,115,101])]
 | .loop _ _=>[(1,[108,111,111,112])]
 | .ifs _ x y q _=>(1,[105,102]) :: qab x y q
 | .ife _ x y q _ _ _=>(1,[105,102]) :: qab x y q
 | .while _ x y q _=>(1,[119,104,105,108,101]) :: qab x y q
mutual
def Sm.tk:Sm→List Tk
 | .choose _ bs=>Bls.tk false bs
 | .loop _ b=>bL :: (Sms.tk b++[bR])
 | .ifs _ _ _ _ b=>bL :: (Sms.tk b++[bR])
 | .ife _ _ _ _ b _ e=>bL :: (Sms.tk b++bR :: (1,kT) :: bL :: (Sms.tk e++[bR]))
 | .while _ _ _ _ b=>bL :: (Sms.tk b++[bR])
 | _=>[sm]
def Sms.tk:List Sm→List Tk
 | []=>[]
 | s :: l=>s.hk++(s.tk++Sms.tk l)
def Bls.tk (o:Bool):List Bl→List Tk
 | []=>[]
 | .mk _ b :: l=>(if o then [(1,orT)] else [])++bL :: (Sms.tk b++bR :: Bls.tk true l)
end
def Bg.vk (b:Bg):List Tk:=if b.any then [] else (3,[61]) :: (if b.n < 0 then [(3,[45]),(2,B2 456 b.n.natAbs)] else [(2,B2 456 b.n)])
def JP:Bool→List Bg→List Tk
 | _,[]=>[]
 | f,b :: l=>(if f then [] else [(3,[44])])++(1,b.name) :: (b.vk++JP false l)
def Pg.tk0 (g:Pg):List Tk:=(1,[118,97,114,115]) :: (JP true g.bs++[sm])
theorem qlr {w:List UInt8} (h:w∈qfh):NameOk w:=by
 have k:∀ w∈qfh,w≠[]∧cls (dec w 0).1=2∧wE x7 20 w=true∧rc w≤16∧w.length≤4096:=by decide +kernel
 obtain ⟨a,b,c,d,e⟩:=k w h;exact ⟨a,b,⟨20,c⟩,d,e⟩
theorem Jo (t):Tl (59 :: t):=⟨⟨by decide,by decide⟩,⟨by decide,by decide⟩⟩
theorem qv7 (t):Tl (44 :: t):=⟨⟨by decide,by decide⟩,⟨by decide,by decide⟩⟩
section
variable {m:List UInt8} {L:List Tk}
theorem P9 {w t:List UInt8} {l:List Tk} (h:w∈qfh) (ht:Tl t) (hr:RendX m L t l):RendX m L (w++t) ((1,w) :: l):=wz (qlr h) ht.1 hr
theorem J6 {t:List UInt8} {l:List Tk} (hr:RendX m L t l):∀ a:List UInt8,(∀ c∈a,c=32)→RendX m L (a++t) l
 | [],_=>hr
 | c :: a,h=>by
   have e:=h c (List.mem_cons_self ..);subst e;exact .space (J6 hr a fun x hx=>h x (List.mem_cons_of_mem _ hx))
theorem YQ {vs:List (List UInt8)} {x y:Nd} {q:Bool} (hx:Xok vs x) (hy:Xok vs y) {t:List UInt8} {l:List Tk} (ht:Tl t) (hr:RendX m L t l):RendX m L (xT x y q++t) (qab x y q++l):=by
 have h1:=qaq y hy.pr t l ht hr
 cases q with
 | true=>
   have h2:=qaq x hx.pr (32 :: 61 :: 32 :: (wr y++t)) ((3,[61]) :: (pt y++l)) (X4 _) (.space (.sign (by decide) (.space h1)))
   simpa [xT,eqs,qab] using h2
 | false=>
   have h2:=qaq x hx.pr (32 :: 33 :: 61 :: 32 :: (wr y++t)) ((3,[33,61]) :: (pt y++l)) (X4 _) (.space (.mark (.inl rfl) (.space h1)))
   simpa [xT,eqs,qab] using h2
theorem qU {vs:List (List UInt8)} {s:Sm} (h:s.fit vs) {t:List UInt8} {l:List Tk} (ht:Tl t) (hr:RendX m L t l):RendX m L (s.head++t) (s.hk++l):=by
 cases s with
 | set p v n e=>
   simp only[Sm.fit] at h
   cases e with
   | none=>
     have h1:=P9 (w:=[97,110,121]) (by decide) ht hr;have h2:=wz h.1 (X4 _).1 (.space (.mark (c:=58) (.inr rfl) (.space h1)))
     simpa [Sm.head,Sm.hk] using h2
   | some x=>
     have h5:Xok vs x:=h.2.2.2.2;have h1:=qaq x h5.pr t l ht hr;have h2:=wz h.1 (X4 _).1 (.space (.mark (c:=58) (.inr rfl) (.space h1)))
     simpa [Sm.head,Sm.hk] using h2
 | mark p n=>
   simp only[Sm.fit] at h;have h1:=P9 (w:=[109,97,114,107]) (by decide) (X4 _) (.space (wz h.1 ht.1 hr))
   simpa [Sm.head,Sm.hk] using h1
 | skip p=>exact P9 (w:=[115,107,105,112]) (by decide) ht hr
 | stop p=>exact P9 (w:=[115,116,111,112]) (by decide) ht hr
 | choose p bs=>exact P9 (w:=[99,104,111,111,115,101]) (by decide) ht hr
 | loop p b=>exact P9 (w:=[108,111,111,112]) (by decide) ht hr
 | ifs p x y q b=>exact P9 (w:=[105,102]) (by decide) (X4 _) (.space (YQ h.1 h.2.1 ht hr))
 | ife p x y q b pe e=>exact P9 (w:=[105,102]) (by decide) (X4 _) (.space (YQ h.1 h.2.1 ht hr))
 | «while» p x y q b=>exact P9 (w:=[119,104,105,108,101]) (by decide) (X4 _) (.space (YQ h.1 h.2.1 ht hr))
theorem wG {t:List UInt8} {l:List Tk} (hr:RendX m L t l) {a:List UInt8} (ha:∀ c∈a,c=32):RendX m L (a++S2++t) (bR :: l):=by
 have:=J6 (.sign (c:=125) (by decide) (.feed hr)) a ha
 simpa [S2] using this
theorem jA {t:List UInt8} {l:List Tk} (hr:RendX m L t l):RendX m L (Z7++t) (bL :: l):=.space (.sign (by decide) (.feed hr))
theorem QW (t):Tl (Z7++t):=X4 _
theorem ZL {a:List UInt8} (ha:∀ c∈a,c=32):∀ c∈a++[32,32],c=32:=by
 intro c hc;rcases List.mem_append.1 hc with h | h
 ·exact ha c h
 ·simpa using h
mutual
theorem q1i {vs:List (List UInt8)}:∀ (s:Sm) (a:List UInt8),s.fit vs→(∀ c∈a,c=32)→∀ (t:List UInt8) (l:List Tk),RendX m L t l→RendX m L ((a++s.head)++s.ptl a++t) (s.hk++(s.tk++l))
 | .set p v n e,a,h,ha,t,l,hr=>by
   have h1:=J6 (qU h (Jo _) (.sign (c:=59) (by decide) (.feed hr))) a ha
   simpa [Sm.ptl,Sm.tk,vA] using h1
 | .skip p,a,h,ha,t,l,hr=>by
   have h1:=J6 (qU h (Jo _) (.sign (c:=59) (by decide) (.feed hr))) a ha
   simpa [Sm.ptl,Sm.tk,vA] using h1
 | .stop p,a,h,ha,t,l,hr=>by
   have h1:=J6 (qU h (Jo _) (.sign (c:=59) (by decide) (.feed hr))) a ha
   simpa [Sm.ptl,Sm.tk,vA] using h1
 | .mark p n,a,h,ha,t,l,hr=>by
   have h1:=J6 (qU h (Jo _) (.sign (c:=59) (by decide) (.feed hr))) a ha
   simpa [Sm.ptl,Sm.tk,vA] using h1
 | .choose p [],a,h,ha,t,l,hr=>absurd rfl h.1
 | .choose p (.mk q b :: bs),a,h,ha,t,l,hr=>by
   have h2:=h.2;simp only[Bls.fit,Bl.fit] at h2;have h3:=qk4 bs a h2.2 ha t l hr;have h4:=jA (xH b (a++[32,32]) h2.1 (ZL ha) _ _ h3);have h1:=J6 (qU h (QW _) h4) a ha
   simpa [Sm.ptl,Sm.tk,Bls.txt,Bls.tk] using h1
 | .loop p b,a,h,ha,t,l,hr=>by
   have h4:=jA (xH b (a++[32,32]) h (ZL ha) _ _ (wG hr ha));have h1:=J6 (qU h (QW _) h4) a ha
   simpa [Sm.ptl,Sm.tk] using h1
 | .ifs p x y q b,a,h,ha,t,l,hr=>by
   have h4:=jA (xH b (a++[32,32]) h.2.2 (ZL ha) _ _ (wG hr ha));have h1:=J6 (qU h (QW _) h4) a ha
   simpa [Sm.ptl,Sm.tk] using h1
 | .ife p x y q b pe e,a,h,ha,t,l,hr=>by
   have h2:=jA (xH e (a++[32,32]) h.2.2.2 (ZL ha) _ _ (wG hr ha));have h3:=P9 (w:=kT) (by decide) (QW _) h2;have h4:=J6 (.sign (c:=125) (by decide) (.space h3)) a ha;have h5:=jA (xH b (a++[32,32]) h.2.2.1 (ZL ha) _ _ h4);have h1:=J6 (qU h (QW _) h5) a ha
   simpa [Sm.ptl,Sm.tk] using h1
 | .while p x y q b,a,h,ha,t,l,hr=>by
   have h4:=jA (xH b (a++[32,32]) h.2.2 (ZL ha) _ _ (wG hr ha));have h1:=J6 (qU h (QW _) h4) a ha
   simpa [Sm.ptl,Sm.tk] using h1
theorem xH {vs:List (List UInt8)}:∀ (l:List Sm) (a:List UInt8),Sms.fit vs l→(∀ c∈a,c=32)→∀ (t:List UInt8) (k:List Tk),RendX m L t k→RendX m L (Sms.txt a l++t) (Sms.tk l++k)
 | [],a,h,ha,t,k,hr=>hr
 | s :: l,a,h,ha,t,k,hr=>by
   simp only[Sms.fit] at h;have h1:=q1i s a h.1 ha _ _ (xH l a h.2 ha t k hr)
   simpa [Sms.txt,Sms.tk] using h1
theorem qk4 {vs:List (List UInt8)}:∀ (l:List Bl) (a:List UInt8),Bls.fit vs l→(∀ c∈a,c=32)→∀ (t:List UInt8) (k:List Tk),RendX m L t k→RendX m L (Bls.txt a false l++(a++S2++t)) (bR :: (Bls.tk true l++k))
 | [],a,h,ha,t,k,hr=>wG hr ha
 | .mk q b :: l,a,h,ha,t,k,hr=>by
   simp only[Bls.fit,Bl.fit] at h;have h2:=jA (xH b (a++[32,32]) h.1 (ZL ha) _ _ (qk4 l a h.2 ha t k hr));have h3:=P9 (w:=orT) (by decide) (QW _) h2;have h4:=J6 (.sign (c:=125) (by decide) (.space h3)) a ha
   simpa [Bls.txt,Bls.tk] using h4
end
theorem qxb {b:Bg} (h:BgOk b) {t:List UInt8} {l:List Tk} (ht:Tl t) (hr:RendX m L t l):RendX m L (b.val++t) (b.vk++l):=by
 have hv:(d7 (b.n.natAbs:Int)).length≤32:=h.val;unfold Bg.val Bg.vk;cases b.any
 case true=>exact hr
 unfold WB
 by_cases hn:b.n < 0
 ·have h1:=qbv (v:=(b.n.natAbs:Int)) (by omega) hv ht.2 hr;have h2:=RendX.space (.sign (c:=61) (by decide) (.space (.sign (c:=45) (by decide) h1)))
  simpa [hn] using h2
 ·have e:((b.n.natAbs:Nat):Int)=b.n:=by omega
  rw[e] at hv;have h1:=qbv (v:=b.n) (by omega) hv ht.2 hr;have h2:=RendX.space (.sign (c:=61) (by decide) (.space h1))
  simpa [hn] using h2
theorem q6i {b:Bg} {t:List UInt8} (ht:Tl t):Tl (b.val++t):=by
 unfold Bg.val;cases b.any
 ·exact X4 _
 ·exact ht
theorem qv6:∀ (l:List Bg) {t:List UInt8},Tl t→Tl (ZG false l++t)
 | [],_,h=>h
 | b :: l,_,_=>qv7 _
theorem qk3:∀ (l:List Bg) (f:Bool),(∀ b∈l,BgOk b)→∀ {t:List UInt8} {k:List Tk},Tl t→RendX m L t k→RendX m L (ZG f l++t) (JP f l++k)
 | [],_,_,_,_,_,hr=>hr
 | b :: l,f,h,t,k,ht,hr=>by
   have hb:=h b (List.mem_cons_self ..);have h1:=qk3 l false (fun x hx=>h x (List.mem_cons_of_mem _ hx)) ht hr;have h2:=RendX.space (wz hb.name (q6i (qv6 l ht)).1 (qxb hb (qv6 l ht) h1))
   cases f with
   | true=>simpa [ZG,JP] using h2
   | false=>have h3:=RendX.sign (c:=44) (by decide) h2; simpa [ZG,JP] using h3
theorem qbw {g:Pg} (h:Pok g) {t:List UInt8} {k:List Tk} (hr:RendX m L t k):RendX m L (g.first++59 :: t) (g.tk0++k):=by
 have h1:=qk3 g.bs true h.bs (Jo t) (.sign (c:=59) (by decide) hr)
 have h2:Tl (ZG true g.bs++59 :: t):=by
  cases g.bs with
  | nil=>exact Jo _
  | cons b l=>exact X4 _
 have h3:=P9 (w:=[118,97,114,115]) (by decide) h2 h1
 simpa [Pg.first,Pg.tk0] using h3
theorem qfv {g:Pg} (h:Pok g) {t:List UInt8} {k:List Tk} (hr:RendX m L t k):RendX m L (g.txt++t) (g.tk0++(Sms.tk g.body++k)):=by
 have h1:=qbw h (.feed (xH g.body [] h.fit (by simp) t k hr))
 simpa [Pg.txt] using h1
end
mutual
def Sm.er:Sm→Sm
 | .set _ v s e=>.set g9 v s e
 | .skip _=>.skip g9
 | .stop _=>.stop g9
 | .mark _ s=>.mark g9 s
 | .choose _ bs=>.choose g9 (Bls.er bs)
 | .loop _ b=>.loop g9 (Sms.er b)
 | .ifs _ x y q b=>.ifs g9 x y q (Sms.er b)
 | .ife _ x y q b _ e=>.ife g9 x y q (Sms.er b) g9 (Sms.er e)
 | .while _ x y q b=>.while g9 x y q (Sms.er b)
def Sms.er:List Sm→List Sm
 | []=>[]
 | s :: l=>s.er :: Sms.er l
def Bls.er:List Bl→List Bl
 | []=>[]
 | .mk _ b :: l=>.mk g9 (Sms.er b) :: Bls.er l
end
def nc:List Tk→Prop
 | (k,w) :: _=>¬ ((k=3∨k=1)∧(w=kT∨w=orT))
 | []=>True
theorem qiu (r:Rd):r.kts.length=r.ts.length - r.i:=by simp[Rd.kts]
theorem qiv {r r':Rd} {l rest:List Tk} (h:r.ok) (h':r'.ok) (e:r.kts=l++rest) (e':r'.kts=rest) (ht:r'.ts=r.ts):r'.i=r.i + l.length:=by
 have a:=qiu r;have b:=qiu r';have:=h.i;have:=h'.i;rw[e,List.length_append] at a;rw[e',ht] at b;rw[ht] at *;omega
theorem qra {vs:List (List UInt8)}:∀ x:Nd,x.pr vs→∃ k w l,pt x=(k,w) :: l∧w≠[97,110,121]
 | .num k,h=>⟨2,_,[],rfl,fun e=>by
   have:=QY (f:=456) (n:=k) 97 (by rw[e]; simp)
   exact absurd this (by decide)⟩
 | .name v s,h=>⟨1,s,[],rfl,fun e=>by
   have:=h.2.2.2;rw[e] at this
   exact absurd this (by decide)⟩
 | .minus x,h=>⟨3,[45],_,rfl,by decide⟩
 | .two op x y,h=>by
   obtain ⟨k,w,l,e,hw⟩:=qra x h.2.1;unfold pt;rw[e];cases (!C2 op && x.adds)
   ·exact ⟨k,w,_,rfl,hw⟩
   ·exact ⟨3,[40],_,rfl,by decide⟩
theorem qvv {vs:List (List UInt8)} (hv:∀ w∈vs,NameOk w):∀ w,zF vs w vs.length 0 ≥ 0→w≠[45]:=fun w hw e=>by
 have:=(hv w (qho.2 hw)).c;rw[e] at this;exact absurd this (by decide)
section
variable {vs:List (List UInt8)} (hv:∀ w∈vs,NameOk w)
include hv
theorem qog {x:Nd} (hx:Xok vs x) {r:Rd} {rest:List Tk} (h:r.ok) (h2:r.vs=vs) (hk:r.kts=pt x++rest) (ho:(dp x:Int) + r.op≤16) (h3:nm rest) (h4:ns rest):∃ r',r.sum = .ok x r'∧Kept r r'∧r'.kts=rest:=by
 obtain ⟨n',r',a1,a2,a3,a4,a5⟩:=qy8 (qvv hv) (qq9 x hx.pr).s r rest r.fuel h h2 hk (by omega) h3 (Nat.le_refl _);refine ⟨r',?_,a2,a4⟩;unfold Rd.sum;rw[a1,qyi a2.ok (by omega) (by rw[a4]; exact h4)];rfl
theorem Xi {r:Rd} (h:r.ok) {k:Int} {w:List UInt8} {l:List Tk} (e:r.kts=(k,w) :: l) (hk:k=3∨k=1):(∀ s,r.isT s=decide (w=s))∧r.next.ok∧r.next.kts=l∧Kept r r.next∧r.tok.kind=k∧r.tok.text=w:=by
 obtain ⟨a,b,c⟩:=G1 h e;have k1:=Kept.next h;exact ⟨fun s=>by rw[V8 a b]; simp[hk],k1.ok,(c (by omega)).1,k1,a,b⟩
theorem qjr {x y:Nd} {q:Bool} (hx:Xok vs x) (hy:Xok vs y) {r:Rd} {rest:List Tk} (h:r.ok) (h2:r.vs=vs) (hk:r.kts=qab x y q++rest) (ho:(max (dp x) (dp y):Nat) + r.op≤16) (h3:nm rest) (h4:ns rest):∃ r',r.cond = .ok (x,y,q) r'∧Kept r r'∧r'.kts=rest:=by
 obtain ⟨r1,a1,a2,a3⟩:=qog hv hx (rest:=(3,if q then [61] else [33,61]) :: (pt y++rest)) h h2 (by rw[hk]; simp[qab]) (by omega) (by cases q <;> simp[nm]) (by cases q <;> simp[ns]);obtain ⟨t1,t2,t3,t4,_,_⟩:=Xi hv a2.ok a3 (.inl rfl);have k2:=a2.trans t4;obtain ⟨r2,b1,b2,b3⟩:=qog hv hy t2 (k2.vs.trans h2) t3 (by rw[k2.op]; omega) h3 h4;refine ⟨r2,?_,k2.trans b2,b3⟩;unfold Rd.cond;rw[a1];simp only[Rz.bind]
 cases q with
 | true=>rw[if_pos (by rw[t1]; simp),b1]
 | false=>rw[if_neg (by rw[t1]; simp),if_pos (by rw[t1]; simp),b1]
theorem qaw {α:Type} {r:Rd} (h:r.ok) {rest:List Tk} (hk:r.kts=sm :: rest) (x:α):r.semi x = .ok x r.next∧Kept r r.next∧r.next.kts=rest:=by
 obtain ⟨t1,t2,t3,t4,_,_⟩:=Xi hv h hk (.inl rfl);refine ⟨?_,t4,t3⟩;unfold Rd.semi;rw[if_pos (by rw[t1]; simp)]
theorem qvd {p q:Pl} {v:Int} {s:List UInt8} {e:Option Nd} (hf:(Sm.set q v s e).fit vs) {r:Rd} {rest:List Tk} (h:r.ok) (h2:r.vs=vs) (hk:r.kts=(Sm.set q v s e).hk++sm :: rest) (ho:(oDp e:Int) + r.op≤16) :
 ∃ r',r.assign p = .ok (.set p v s e) r'∧Kept r r'∧r'.kts=rest∧r.isName=true:=by
 simp only[Sm.fit] at hf;obtain ⟨f1,f2,f3,f4,f5⟩:=hf
 have go:∀ l,r.kts=(1,s) :: (3,[58,61]) :: (l++sm :: rest)→(∀ r2:Rd,r2.ok→r2.vs=vs→r2.op=r.op→r2.kts=l++sm :: rest→∃ r3,r2.expr = .ok e r3∧Kept r2 r3∧r3.kts=sm :: rest)→∃ r',r.assign p = .ok (.set p v s e) r'∧Kept r r'∧r'.kts=rest∧r.isName=true:=by
  intro l hk g;obtain ⟨t1,t2,t3,t4,t5,t6⟩:=Xi hv h hk (.inr rfl);obtain ⟨u1,u2,u3,u4,_,_⟩:=Xi hv t2 t3 (.inl rfl);have k2:=t4.trans u4;obtain ⟨r3,g1,g2,g3⟩:=g _ k2.ok (k2.vs.trans h2) k2.op u3;obtain ⟨s1,s2,s3⟩:=qaw hv g2.ok g3 (Sm.set p v s e);refine ⟨_,?_,(k2.trans g2).trans s2,s3,?_⟩
  ·have hvar:r.var s=v:=by unfold Rd.var; rw[h2]; exact f2
   unfold Rd.assign;rw[t6,hvar,if_neg (by omega),if_pos (by rw[u1]; simp),g1];exact s1
  ·unfold Rd.isName;rw[t5,t6,f4];rfl
 cases e with
 | none=>
   refine go [(1,[97,110,121])] (by rw[hk]; rfl) fun r2 o e1 _ hk2=>?_
   obtain ⟨w1,w2,w3,w4,_,_⟩:=Xi hv o hk2 (.inr rfl);exact ⟨_,by unfold Rd.expr; rw[if_pos (by rw[w1]; simp)],w4,w3⟩
 | some x=>
   refine go (pt x) (by rw[hk]; rfl) fun r2 o e1 e2 hk2=>?_
   obtain ⟨r3,a1,a2,a3⟩:=qog hv (rest:=sm :: rest) f5 o e1 hk2 (by rw[e2]; exact ho) (by simp[nm]) (by simp[ns]);refine ⟨r3,?_,a2,a3⟩;obtain ⟨k,w,l,e3,hw⟩:=qra x f5.pr;rw[e3] at hk2;obtain ⟨b1,b2,_⟩:=G1 o hk2;unfold Rd.expr;rw[if_neg (by rw[V8 b1 b2]; simp[hw]),a1];rfl
theorem q10 {p q:Pl} {s:List UInt8} (hf:(Sm.mark q s).fit vs) {r:Rd} {rest:List Tk} (h:r.ok) (hk:r.kts=(1,s) :: sm :: rest) (hm:s ∉ r.ms):∃ r',r.mark p = .ok (.mark p s) r'∧KeptS r r'∧r'.kts=rest∧r'.ms=r.ms++[s]:=by
 simp only[Sm.fit] at hf;obtain ⟨f1,f2,f3⟩:=hf;obtain ⟨t1,t2,t3,t4,t5,t6⟩:=Xi hv h hk (.inr rfl);obtain ⟨u1,u2,u3,u4,u5,u6⟩:=Xi hv (KY h s) hk (.inr rfl);obtain ⟨s1,s2,s3⟩:=qaw hv u2 u3 (Sm.mark p s);have k:=(u4.trans s2);refine ⟨_,?_,⟨k.ok,k.ts,k.vs,k.op,k.i,k.ly⟩,s3,k.ms⟩
 have hn:r.isName=true:=by unfold Rd.isName; rw[t5,t6,f2]; rfl
 unfold Rd.mark;rw[t6,if_neg (by rw[hn]; simp),if_neg (by rw[f3]; simp),if_neg hm];exact s1
end
structure Rto (r r':Rd) (rest:List Tk) (m:List (List UInt8)):Prop where
 k:KeptS r r'
 t:r'.kts=rest
 m:r'.ms=r.ms++m
theorem qrx {vs:List (List UInt8)} {s:Sm} (h:s.fit vs):∃ w l,s.hk=(1,w) :: l∧w≠kT∧w≠orT:=by
 have k:∀ {w},Y2 w=false→w≠kT∧w≠orT:=fun h=>⟨fun e=>by rw[e] at h; exact absurd h (by decide),fun e=>by rw[e] at h; exact absurd h (by decide)⟩
 cases s with
 | set p v n e=>
   simp only[Sm.fit] at h
   cases e <;> exact ⟨_,_,rfl,k h.2.2.2.1⟩
 | _=>exact ⟨_,_,rfl,by decide,by decide⟩
def GoSt (vs:List (List UInt8)) (s:Sm):Prop:=∀ (r:Rd) (rest:List Tk) (n:Nat),r.ok→r.vs=vs→r.kts=s.hk++(s.tk++rest)→(s.dep:Int) + r.op≤16→(r.ms++s.mks).Nodup→nc rest→4 * (r.ts.length - r.i) + 1≤n→
 ∃ s' r',kC n r = .ok (some s') r'∧s'.er=s.er∧Rto r r' rest s.mks
def zlq (vs:List (List UInt8)) (l:List Sm):Prop:=∀ (r:Rd) (rest:List Tk) (n:Nat),r.ok→r.vs=vs→r.kts=Sms.tk l++rest→(Sms.dep l:Int) + r.op≤16→(r.ms++Sms.mks l).Nodup→nc rest→4 * (r.ts.length - r.i) + 2≤n→
 ∃ l' r' n',(qT n r=(qT n' r').bind fun l2 r2=>.ok (l'++l2) r2)∧Sms.er l'=Sms.er l∧Rto r r' rest (Sms.mks l)∧4 * (r'.ts.length - r'.i) + 2≤n'
def GoBk (vs:List (List UInt8)) (b:List Sm):Prop:=∀ (r:Rd) (rest:List Tk) (n:Nat),r.ok→r.vs=vs→r.kts=bL :: (Sms.tk b++bR :: rest)→(1 + Sms.dep b:Int) + r.op≤16→(r.ms++Sms.mks b).Nodup→4 * (r.ts.length - r.i) + 1≤n→
 ∃ b' r',jH n r = .ok b' r'∧Sms.er b'=Sms.er b∧Rto r r' rest (Sms.mks b)
def GoOr (vs:List (List UInt8)) (l:List Bl):Prop:=∀ (r:Rd) (rest:List Tk) (n:Nat),r.ok→r.vs=vs→r.kts=Bls.tk true l++rest→(Bls.dep l:Int) + r.op≤16→(r.ms++Bls.mks l).Nodup→nc rest→4 * (r.ts.length - r.i) + 1≤n→
 ∃ l' r',vY n r = .ok l' r'∧Bls.er l'=Bls.er l∧Rto r r' rest (Bls.mks l)
theorem qyc {r:Rd} (h:r.ok) (hn:nc r.kts) {s:List UInt8} (hs:s=kT∨s=orT):r.isT s=false:=by
 have:=qiu r;have hi:=h.i
 cases hk:r.kts with
 | nil=>rw[hk] at this; simp at this; omega
 | cons p l=>
   obtain ⟨k,w⟩:=p;obtain ⟨a,b,_⟩:=G1 h hk;rw[hk] at hn;rw[V8 a b]
   exact decide_eq_false fun ⟨e,hk⟩=>hn ⟨hk,by rw[e]; exact hs⟩
theorem qbs {r:Rd} {n:Nat} (hn:1≤n) (hk:r.tok.kind≠1):qT n r = .ok [] r:=by
 obtain ⟨n,rfl⟩:∃ m,n=m + 1:=⟨n - 1,by omega⟩;unfold qT;rw[if_neg hk]
section
variable {vs:List (List UInt8)} (hv:∀ w∈vs,NameOk w)
include hv
theorem qd7 {b:List Sm} (hb:zlq vs b):GoBk vs b:=by
 intro r rest n h h2 hk hd hm hn;obtain ⟨n,rfl⟩:∃ m,n=m + 1:=⟨n - 1,by omega⟩;obtain ⟨t1,t2,t3⟩:=G1 h hk;have ho:=h.op
 have hin:r.into [123]=none:=by
  unfold Rd.into;rw[if_pos ⟨t1,t2⟩,if_pos (by omega)]
 have hop:=Rd.opened_ok h (by omega);have hk2:r.opened.kts=bL :: (Sms.tk b++bR :: rest):=hk;obtain ⟨u1,u2,u3,u4,u5,u6⟩:=Xi hv hop hk2 (.inl rfl);have o1:r.opened.next.op=r.op + 1:=u4.op;have hi:=h.i;have hni:=qiv (l:=[bL]) hop u2 hk2 u3 u4.ts;simp only[List.length_cons,List.length_nil] at hni;have hoi:r.opened.i=r.i:=rfl;have hts:r.opened.next.ts=r.ts:=u4.ts;obtain ⟨b',r1,n',a1,a2,a3,a4⟩:=hb r.opened.next (bR :: rest) n u2 (u4.vs.trans h2) u3 (by omega) (by rw[u4.ms]; exact hm) (by simp[nc,kT,orT]) (by rw[hts]; omega);obtain ⟨v1,v2,v3,v4,v5,v6⟩:=Xi hv a3.k.ok a3.t (.inl rfl);refine ⟨b',r1.next.closed,?_,a2,⟨⟨Rd.closed_ok v2 ?_,?_,?_,?_,?_,?_⟩,v3,?_⟩⟩
 ·unfold jH;rw[hin];simp only[];rw[a1,qbs (by omega) (by rw[v5]; decide)];simp only[Rz.bind,List.append_nil];rw[if_pos (by rw[v1]; simp)]
 ·have:=v4.op; have:=a3.k.op; omega
 ·exact (v4.ts.trans a3.k.ts).trans u4.ts
 ·exact (v4.vs.trans a3.k.vs).trans u4.vs
 ·show r1.next.op - 1=r.op; have:=v4.op; have:=a3.k.op; omega
 ·have:=v4.i; have:=a3.k.i; show r.i≤r1.next.i; omega
 ·exact (v4.ly.trans a3.k.ly).trans u4.ly
 ·show r1.next.ms=_; rw[v4.ms,a3.m,u4.ms]; rfl
theorem jN {r:Rd} (h:r.ok) {w:List UInt8} {l:List Tk} (e:r.kts=(1,w) :: l) (hw:Y2 w=true):(∀ s,r.isT s=decide (w=s))∧Rto r r.next l []∧r.next.i=r.i + 1∧r.isName=false:=by
 obtain ⟨t1,t2,t3,t4,t5,t6⟩:=Xi hv h e (.inr rfl);exact ⟨t1,⟨t4.s,t3,by rw[t4.ms]; simp⟩,by have:=qiv (l:=[(1,w)]) h t2 e t3 t4.ts; simpa using this,by unfold Rd.isName; rw[t6,hw]; simp⟩
end
theorem Rto.trans {a b c:Rd} {t t' m m'} (h:Rto a b t m) (k:Rto b c t' m'):Rto a c t' (m++m'):=⟨h.k.trans k.k,k.t,by rw[k.m,h.m,List.append_assoc]⟩
theorem qiq {a b c:List (List UInt8)} (h:(a++(b++c)).Nodup):(a++b).Nodup:=by
 rw[← List.append_assoc] at h;exact (List.nodup_append.1 h).1
section
variable {vs:List (List UInt8)} (hv:∀ w∈vs,NameOk w)
include hv
mutual
theorem zf8:∀ (s:Sm),s.fit vs→GoSt vs s
 | .set p v s e,hf=>by
   intro r rest n h h2 hk hd hm hc hn;obtain ⟨n,rfl⟩:∃ m,n=m + 1:=⟨n - 1,by omega⟩;obtain ⟨r',a1,a2,a3,a4⟩:=qvd hv (p:=r.tok.pos) hf h h2 hk (by simpa only [Sm.dep] using hd);refine ⟨.set r.tok.pos v s e,r',?_,rfl,a2.s,a3,by rw[a2.ms]; simp[Sm.mks]⟩;unfold kC;rw[if_pos a4,a1];rfl
 | .skip p,hf=>by
   intro r rest n h h2 hk hd hm hc hn;obtain ⟨n,rfl⟩:∃ m,n=m + 1:=⟨n - 1,by omega⟩;obtain ⟨t1,t2,t3,t4⟩:=jN hv h (w:=[115,107,105,112]) hk (by decide);obtain ⟨s1,s2,s3⟩:=qaw hv t2.k.ok t2.t (some (Sm.skip r.tok.pos));refine ⟨.skip r.tok.pos,_,?_,rfl,t2.k.trans s2.s,s3,by rw[s2.ms,t2.m]; simp[Sm.mks]⟩;unfold kC;rw[t4,if_neg (by decide),if_pos (by rw[t1]; decide)];exact s1
 | .stop p,hf=>by
   intro r rest n h h2 hk hd hm hc hn;obtain ⟨n,rfl⟩:∃ m,n=m + 1:=⟨n - 1,by omega⟩;obtain ⟨t1,t2,t3,t4⟩:=jN hv h (w:=[115,116,111,112]) hk (by decide);obtain ⟨s1,s2,s3⟩:=qaw hv t2.k.ok t2.t (some (Sm.stop r.tok.pos));refine ⟨.stop r.tok.pos,_,?_,rfl,t2.k.trans s2.s,s3,by rw[s2.ms,t2.m]; simp[Sm.mks]⟩;unfold kC;rw[t4,if_neg (by decide),if_neg (by rw[t1]; decide),if_pos (by rw[t1]; decide)];exact s1
 | .mark p s,hf=>by
   intro r rest n h h2 hk hd hm hc hn;obtain ⟨n,rfl⟩:∃ m,n=m + 1:=⟨n - 1,by omega⟩;obtain ⟨t1,t2,t3,t4⟩:=jN hv h (w:=[109,97,114,107]) hk (by decide)
   have hms:s ∉ r.next.ms:=by
    rw[t2.m];simp only[Sm.mks] at hm;rw[List.nodup_append] at hm;rw[List.append_nil]
    exact fun hs=>hm.2.2 s hs s (by simp) rfl
   obtain ⟨r',s1,s2,s3,s4⟩:=q10 hv (p:=r.tok.pos) hf t2.k.ok t2.t hms;refine ⟨.mark r.tok.pos s,r',?_,rfl,t2.k.trans s2,s3,by rw[s4,t2.m]; simp[Sm.mks]⟩;unfold kC;rw[t4,if_neg (by decide),if_neg (by rw[t1]; decide),if_neg (by rw[t1]; decide),if_pos (by rw[t1]; decide),s1];rfl
 | .choose p [],hf=>absurd rfl hf.1
 | .choose p (.mk q b :: bs),hf=>by
   intro r rest n h h2 hk hd hm hc hn;obtain ⟨n,rfl⟩:∃ m,n=m + 1:=⟨n - 1,by omega⟩;have hf2:=hf.2;simp only[Bls.fit,Bl.fit] at hf2;simp only[Sm.dep,Bls.dep] at hd;simp only[Sm.mks,Bls.mks] at hm;obtain ⟨t1,t2,t3,t4⟩:=jN hv h (w:=[99,104,111,111,115,101]) hk (by decide);have hi:=t2.k.ok.i;have hts:=t2.k.ts;have e1:=t2.t;simp only[Sm.tk,Bls.tk,List.nil_append] at e1;obtain ⟨b',r1,a1,a2,a3⟩:=qd7 hv (KM b hf2.1) r.next (Bls.tk true bs++rest) n t2.k.ok (t2.k.vs.trans h2) (by rw[e1]; simp) (by rw[t2.k.op]; omega) (by rw[t2.m,List.append_nil]; exact qiq hm) (by rw[hts] at hi ⊢; omega);have hi1:=a3.k.i;obtain ⟨bs',r2,c1,c2,c3⟩:=q4m bs hf2.2 r1 rest n a3.k.ok (a3.k.vs.trans (t2.k.vs.trans h2)) a3.t (by rw[a3.k.op,t2.k.op]; omega) (by rw[a3.m,t2.m,List.append_nil,List.append_assoc]; exact hm) hc (by rw[a3.k.ts]; rw[hts] at hi ⊢; omega);refine ⟨.choose r.tok.pos (.mk r.tok.pos b' :: bs'),r2,?_,?_,?_⟩
   ·unfold kC;rw[t4,if_neg (by decide),if_neg (by rw[t1]; decide),if_neg (by rw[t1]; decide),if_neg (by rw[t1]; decide),if_pos (by rw[t1]; decide),a1];simp only[Rz.bind];rw[c1]
   ·simp only[Sm.er,Bls.er,a2,c2]
   ·have:=(t2.trans a3).trans c3
    simpa [Sm.mks,Bls.mks] using this
 | .loop p b,hf=>by
   intro r rest n h h2 hk hd hm hc hn;obtain ⟨n,rfl⟩:∃ m,n=m + 1:=⟨n - 1,by omega⟩;simp only[Sm.dep] at hd;simp only[Sm.mks] at hm;obtain ⟨t1,t2,t3,t4⟩:=jN hv h (w:=[108,111,111,112]) hk (by decide);have hi:=t2.k.ok.i;have hts:=t2.k.ts;obtain ⟨b',r1,a1,a2,a3⟩:=qd7 hv (KM b hf) r.next rest n t2.k.ok (t2.k.vs.trans h2) (by rw[t2.t]; simp[Sm.tk]) (by rw[t2.k.op]; omega) (by rw[t2.m,List.append_nil]; exact hm) (by rw[hts] at hi ⊢; omega);refine ⟨.loop r.tok.pos b',r1,?_,?_,?_⟩
   ·unfold kC;rw[t4,if_neg (by decide),if_neg (by rw[t1]; decide),if_neg (by rw[t1]; decide),if_neg (by rw[t1]; decide),if_neg (by rw[t1]; decide),if_pos (by rw[t1]; decide),a1];rfl
   ·simp only[Sm.er,a2]
   ·have:=t2.trans a3
    simpa [Sm.mks] using this
 | .ifs p x y q b,hf=>by
   intro r rest n h h2 hk hd hm hc hn;obtain ⟨n,rfl⟩:∃ m,n=m + 1:=⟨n - 1,by omega⟩;simp only[Sm.dep] at hd;simp only[Sm.mks] at hm;obtain ⟨t1,t2,t3,t4⟩:=jN hv h (w:=[105,102]) hk (by decide);have hi:=t2.k.ok.i;have hts:=t2.k.ts;obtain ⟨r1,a1,a2,a3⟩:=qjr hv hf.1 hf.2.1 (q:=q) (rest:=bL :: (Sms.tk b++bR :: rest)) t2.k.ok (t2.k.vs.trans h2) (by rw[t2.t]; simp[Sm.tk]) (by rw[t2.k.op]; omega) (by simp[nm]) (by simp[ns]);have i1:=a2.i;have k1:Rto r r1 _ []:=⟨t2.k.trans a2.s,a3,by rw[a2.ms,t2.m]⟩;obtain ⟨b',r2,b1,b2,b3⟩:=qd7 hv (KM b hf.2.2) r1 rest n k1.k.ok (k1.k.vs.trans h2) a3 (by rw[k1.k.op]; omega) (by rw[k1.m,List.append_nil]; exact hm) (by rw[k1.k.ts]; rw[hts] at hi; omega);have hcc:=qyc b3.k.ok (by rw[b3.t]; exact hc) (s:=kT) (.inl rfl);refine ⟨.ifs r.tok.pos x y q b',r2,?_,?_,?_⟩
   ·unfold kC;rw[t4,if_neg (by decide),if_neg (by rw[t1]; decide),if_neg (by rw[t1]; decide),if_neg (by rw[t1]; decide),if_neg (by rw[t1]; decide),if_neg (by rw[t1]; decide),if_pos (by rw[t1]; decide),a1];simp only[Rz.bind];rw[b1];simp only[];rw[if_neg (by show ¬ r2.isT kT=true; rw[hcc]; simp)]
   ·simp only[Sm.er,b2]
   ·have:=k1.trans b3
    simpa [Sm.mks] using this
 | .ife p x y q b pe e,hf=>by
   intro r rest n h h2 hk hd hm hc hn;obtain ⟨n,rfl⟩:∃ m,n=m + 1:=⟨n - 1,by omega⟩;simp only[Sm.dep] at hd;simp only[Sm.mks] at hm;obtain ⟨t1,t2,t3,t4⟩:=jN hv h (w:=[105,102]) hk (by decide);have hi:=t2.k.ok.i;have hts:=t2.k.ts;obtain ⟨r1,a1,a2,a3⟩:=qjr hv hf.1 hf.2.1 (q:=q) (rest:=bL :: (Sms.tk b++bR :: (1,kT) :: bL :: (Sms.tk e++bR :: rest))) t2.k.ok (t2.k.vs.trans h2) (by rw[t2.t]; simp[Sm.tk]) (by rw[t2.k.op]; omega) (by simp[nm]) (by simp[ns]);have i1:=a2.i;have k1:Rto r r1 _ []:=⟨t2.k.trans a2.s,a3,by rw[a2.ms,t2.m]⟩;obtain ⟨b',r2,b1,b2,b3⟩:=qd7 hv (KM b hf.2.2.1) r1 _ n k1.k.ok (k1.k.vs.trans h2) a3 (by rw[k1.k.op]; omega) (by rw[k1.m,List.append_nil]; exact qiq hm) (by rw[k1.k.ts]; rw[hts] at hi; omega);obtain ⟨u1,u2,u3,u4⟩:=jN hv b3.k.ok b3.t (by decide);have k2:=(k1.trans b3).trans u2;have i2:=b3.k.i;have hi2:=k2.k.ok.i;obtain ⟨e',r3,c1,c2,c3⟩:=qd7 hv (KM e hf.2.2.2) r2.next rest n k2.k.ok (k2.k.vs.trans h2) u2.t (by rw[k2.k.op]; omega) (by rw[k2.m]; simpa using hm) (by rw[k2.k.ts]; rw[hts] at hi; omega);refine ⟨.ife r.tok.pos x y q b' r2.tok.pos e',r3,?_,?_,?_⟩
   ·unfold kC;rw[t4,if_neg (by decide),if_neg (by rw[t1]; decide),if_neg (by rw[t1]; decide),if_neg (by rw[t1]; decide),if_neg (by rw[t1]; decide),if_neg (by rw[t1]; decide),if_pos (by rw[t1]; decide),a1];simp only[Rz.bind];rw[b1];simp only[];rw[if_pos (by rw[u1]; decide),c1]
   ·simp only[Sm.er,b2,c2]
   ·have:=k2.trans c3
    simpa [Sm.mks] using this
 | .while p x y q b,hf=>by
   intro r rest n h h2 hk hd hm hc hn;obtain ⟨n,rfl⟩:∃ m,n=m + 1:=⟨n - 1,by omega⟩;simp only[Sm.dep] at hd;simp only[Sm.mks] at hm;obtain ⟨t1,t2,t3,t4⟩:=jN hv h (w:=[119,104,105,108,101]) hk (by decide);have hi:=t2.k.ok.i;have hts:=t2.k.ts;obtain ⟨r1,a1,a2,a3⟩:=qjr hv hf.1 hf.2.1 (q:=q) (rest:=bL :: (Sms.tk b++bR :: rest)) t2.k.ok (t2.k.vs.trans h2) (by rw[t2.t]; simp[Sm.tk]) (by rw[t2.k.op]; omega) (by simp[nm]) (by simp[ns]);have i1:=a2.i;have k1:Rto r r1 _ []:=⟨t2.k.trans a2.s,a3,by rw[a2.ms,t2.m]⟩;obtain ⟨b',r2,b1,b2,b3⟩:=qd7 hv (KM b hf.2.2) r1 rest n k1.k.ok (k1.k.vs.trans h2) a3 (by rw[k1.k.op]; omega) (by rw[k1.m,List.append_nil]; exact hm) (by rw[k1.k.ts]; rw[hts] at hi; omega);refine ⟨.while r.tok.pos x y q b',r2,?_,?_,?_⟩
   ·unfold kC;rw[t4,if_neg (by decide),if_neg (by rw[t1]; decide),if_neg (by rw[t1]; decide),if_neg (by rw[t1]; decide),if_neg (by rw[t1]; decide),if_neg (by rw[t1]; decide),if_neg (by rw[t1]; decide),if_pos (by rw[t1]; decide),a1];simp only[Rz.bind];rw[b1]
   ·simp only[Sm.er,b2]
   ·have:=k1.trans b3
    simpa [Sm.mks] using this
theorem KM:∀ (l:List Sm),Sms.fit vs l→zlq vs l
 | [],hf=>by
   intro r rest n h h2 hk hd hm hc hn;refine ⟨[],r,n,?_,rfl,⟨KeptS.refl h,hk,by simp[Sms.mks]⟩,hn⟩
   cases qT n r <;> rfl
 | s :: l,hf=>by
   intro r rest n h h2 hk hd hm hc hn;obtain ⟨n,rfl⟩:∃ m,n=m + 1:=⟨n - 1,by omega⟩;simp only[Sms.fit] at hf;simp only[Sms.dep] at hd;simp only[Sms.mks] at hm;have hi:=h.i
   have nc2:nc (Sms.tk l++rest):=by
    cases l with
    | nil=>exact hc
    | cons s2 l=>
      simp only[Sms.fit] at hf;obtain ⟨w,l2,e,n1,n2⟩:=qrx hf.2.1;simp[Sms.tk,e,nc,n1,n2]
   obtain ⟨s',r1,a1,a2,a3⟩:=zf8 s hf.1 r (Sms.tk l++rest) n h h2 (by rw[hk]; simp[Sms.tk]) (by omega) (qiq hm) nc2 (by omega);obtain ⟨w,l2,e,_⟩:=qrx hf.1;have ad:=qiv (l:=s.hk++s.tk) h a3.k.ok (by rw[hk]; simp[Sms.tk]) a3.t a3.k.ts
   have hl1:1≤(s.hk++s.tk).length:=by rw[e]; simp
   have hi1:=a3.k.ok.i;obtain ⟨l',r2,n',b1,b2,b3,b4⟩:=KM l hf.2 r1 rest n a3.k.ok (a3.k.vs.trans h2) a3.t (by rw[a3.k.op]; omega) (by rw[a3.m,List.append_assoc]; exact hm) hc (by rw[a3.k.ts] at hi1 ⊢; omega);refine ⟨s' :: l',r2,n',?_,by simp only[Sms.er,a2,b2],by have:=a3.trans b3; simpa [Sms.mks] using this,b4⟩;have hk1:r.tok.kind=1:=(G1 h (by rw[hk]; simp only[Sms.tk,e,List.cons_append]; rfl)).1
   conv=>lhs; unfold qT
   rw[if_pos hk1,a1];simp only[Rz.bind];rw[b1]
   cases qT n' r2 <;> rfl
theorem q4m:∀ (l:List Bl),Bls.fit vs l→GoOr vs l
 | [],hf=>by
   intro r rest n h h2 hk hd hm hc hn;obtain ⟨n,rfl⟩:∃ m,n=m + 1:=⟨n - 1,by omega⟩;have hcc:=qyc h (by rw[hk]; exact hc) (s:=orT) (.inr rfl);refine ⟨[],r,?_,rfl,⟨KeptS.refl h,hk,by simp[Bls.mks]⟩⟩;unfold vY;rw[if_neg (by show ¬ r.isT orT=true; rw[hcc]; simp)]
 | .mk q b :: l,hf=>by
   intro r rest n h h2 hk hd hm hc hn;obtain ⟨n,rfl⟩:∃ m,n=m + 1:=⟨n - 1,by omega⟩;simp only[Bls.fit,Bl.fit] at hf;simp only[Bls.dep] at hd;simp only[Bls.mks] at hm;obtain ⟨t1,t2,t3,t4⟩:=jN hv h (w:=orT) (l:=bL :: (Sms.tk b++bR :: (Bls.tk true l++rest))) (by rw[hk]; simp[Bls.tk]) (by decide);have hi:=t2.k.ok.i;have hts:=t2.k.ts;obtain ⟨b',r1,a1,a2,a3⟩:=qd7 hv (KM b hf.1) r.next (Bls.tk true l++rest) n t2.k.ok (t2.k.vs.trans h2) t2.t (by rw[t2.k.op]; omega) (by rw[t2.m,List.append_nil]; exact qiq hm) (by rw[hts] at hi ⊢; omega);have hi1:=a3.k.i;obtain ⟨bs',r2,c1,c2,c3⟩:=q4m l hf.2 r1 rest n a3.k.ok (a3.k.vs.trans (t2.k.vs.trans h2)) a3.t (by rw[a3.k.op,t2.k.op]; omega) (by rw[a3.m,t2.m,List.append_nil,List.append_assoc]; exact hm) hc (by rw[a3.k.ts]; rw[hts] at hi ⊢; omega);refine ⟨.mk r.tok.pos b' :: bs',r2,?_,?_,?_⟩
   ·unfold vY;rw[if_pos (by rw[t1]; decide),a1];simp only[Rz.bind];rw[c1]
   ·simp only[Bls.er,a2,c2]
   ·have:=(t2.trans a3).trans c3
    simpa [Bls.mks] using this
end
end
structure Eqs (s t:Sc):Prop where
 r:s.rest=t.rest
 c:s.code=t.code
section
variable {s t:Sc} (h:Eqs s t)
include h
theorem qr7 (e:Int) (p q:Pl):Eqs (s.fail e p) (t.fail e q):=by
 unfold Sc.fail;rw[h.c];split
 ·exact ⟨h.r,rfl⟩
 ·exact h
theorem qa2:s.next.1=t.next.1∧Eqs s.next.2 t.next.2:=by
 unfold Sc.next;rw[h.r];split
 ·exact ⟨rfl,h⟩
 ·split
  ·exact ⟨rfl,qr7 h ..⟩
  ·exact ⟨rfl,h⟩
theorem KT:Eqs s.pass t.pass:=⟨by unfold Sc.pass; rw[h.r],h.c⟩
theorem qqn:s.cls.1=t.cls.1∧Eqs s.cls.2 t.cls.2:=by
 obtain ⟨a,b⟩:=qa2 h;unfold Sc.cls;rw[a]
 split <;> exact ⟨rfl,b⟩
theorem q0u:s.sign.1=t.sign.1∧Eqs s.sign.2 t.sign.2:=by
 have hp:=KT h;obtain ⟨a,_⟩:=qa2 h;obtain ⟨b,c⟩:=qa2 hp;have hpp:=KT hp;unfold Sc.sign;rw[a,b]
 repeat' split
 all_goals first | exact ⟨rfl,hp⟩ | exact ⟨rfl,hpp⟩ | exact ⟨rfl,⟨c.r,rfl⟩⟩
end
theorem qro:∀ (f:Nat) {s t:Sc},Eqs s t→Eqs (ZX f s) (ZX f t)
 | 0,_,_,h=>h
 | f + 1,s,t,h=>by
   obtain ⟨a,b⟩:=qa2 h;unfold ZX;rw[a];split
   ·exact qro f (KT h)
   ·exact b
theorem Ws:∀ (f:Nat) {s t:Sc},Eqs s t→Eqs (R1 f s) (R1 f t)
 | 0,_,_,h=>h
 | f + 1,s,t,h=>by
   obtain ⟨a,b⟩:=qqn h;unfold R1;rw[a,h.r]
   repeat' split
   ·exact Ws f (KT h)
   ·exact Ws f (qro _ h)
   ·exact b
theorem qkd (p:Int→Bool):∀ (f:Nat) {s t:Sc},Eqs s t→Eqs (I2 p f s) (I2 p f t)
 | 0,_,_,h=>h
 | f + 1,s,t,h=>by
   obtain ⟨a,b⟩:=qqn h;unfold I2;rw[a];split
   ·exact qkd p f (KT h)
   ·exact b
theorem qv4 {s t:Sc} (h:Eqs s t):kt s.token.1=kt t.token.1∧Eqs s.token.2 t.token.2:=by
 have run:∀ p,Eqs (s.run p) (t.run p):=fun p=>by unfold Sc.run; rw[h.r]; exact qkd p _ h
 have ran:∀ p,s.ran p=t.ran p:=fun p=>by unfold Sc.ran; rw[h.r,(run p).r]
 obtain ⟨a,b⟩:=qqn h;obtain ⟨c,d⟩:=q0u h;unfold Sc.token;rw[a,ran,ran,c]
 repeat' split
 all_goals first | exact ⟨rfl,run _⟩ | exact ⟨rfl,⟨(run _).r,rfl⟩⟩ | exact ⟨rfl,d⟩ | exact ⟨rfl,b⟩ | exact ⟨rfl,qr7 b ..⟩
theorem qze {s t:Sc} (h:Eqs s t) {F G:Nat} (hF:0 < F) (hG:0 < G) {o1 o2 l1 l2:List Tok} {e1 e2:Int} {p1 p2:Pl} (a:E4 F s o1=(some l1,e1,p1)) (b:E4 G t o2=(some l2,e2,p2)) :
 ∃ x y r1 r2,l1=o1++x :: r1∧l2=o2++y :: r2∧kt x=kt y:=by
 have hb:Eqs s.blanks t.blanks:=by unfold Sc.blanks; rw[h.r]; exact Ws _ h
 obtain ⟨k,_⟩:=qv4 hb
 have one:∀ {F:Nat} {s:Sc} {o l:List Tok} {e:Int} {p:Pl},0 < F→E4 F s o=(some l,e,p)→∃ r,l=o++s.blanks.token.1 :: r:=by
  intro F s o l e p hF a;obtain ⟨F,rfl⟩:∃ n,F=n + 1:=⟨F - 1,by omega⟩;unfold E4 at a;split at a
  ·cases a
  split at a
  ·cases a; exact ⟨[],rfl⟩
  ·obtain ⟨r,hr⟩:=WD F _ _ _ _ _ a;exact ⟨r,by rw[hr,List.append_assoc]; rfl⟩
 obtain ⟨r1,e1⟩:=one hF a;obtain ⟨r2,e2⟩:=one hG b;exact ⟨_,_,r1,r2,e1,e2,k⟩
theorem qhr {r:Rd} (h:r.ok) {k:Int} {w:List UInt8} {l:List Tk} (e:r.kts=(k,w) :: l) (hk:k=3∨k=1):(∀ s,r.isT s=decide (w=s))∧r.next.ok∧r.next.kts=l∧Kept r r.next∧r.tok.kind=k∧r.tok.text=w:=
 Xi (vs:=[]) (fun _ h=>by cases h) h e hk
theorem qdt {r:Rd} {ts bs} (h:DOk r ts bs):DOk r.next ts bs:=by
 have k1:=Kept.next h.ok;exact ⟨k1.ok,k1.ts.trans h.ts,by have:=h.own; unfold Rd.own at this ⊢; rw[k1.ly,k1.vs]; exact this,k1.vs.trans h.vs⟩
theorem q6c {q:Rd} (h:q.ok) {b:Bg} (hb:BgOk b) {k:List Tk} {w:List UInt8} (hw:w≠[61]) (hk:q.kts=b.vk++(3,w) :: k):∃ b' r',q.value b.name = .ok b' r'∧Kept q r'∧r'.kts=(3,w) :: k:=by
 unfold Bg.vk at hk
 cases ha:b.any with
 | true=>
   rw[ha] at hk;obtain ⟨t1,_⟩:=qhr h hk (.inl rfl);exact ⟨_,q,by unfold Rd.value; rw[if_neg (by rw[t1]; simp[hw])],Kept.refl h,hk⟩
 | false=>
   rw[ha] at hk
   have num:∀ (r:Rd) (p:Bool) {v:List UInt8},r.ok→r.kts=(2,v) :: (3,w) :: k→∃ b',r.num p b.name = .ok b' r.next∧r.next.kts=(3,w) :: k:=fun r p v h e=>by
    obtain ⟨a,_,c⟩:=G1 h e;exact ⟨_,by unfold Rd.num; rw[if_pos a],(c (by decide)).1⟩
   obtain ⟨t1,t2,t3,t4,_,_⟩:=qhr h (w:=[61]) hk (.inl rfl)
   by_cases hn:b.n < 0
   ·rw[if_pos hn] at t3;obtain ⟨u1,u2,u3,u4,_,_⟩:=qhr t2 t3 (.inl rfl);obtain ⟨b',e1,e2⟩:=num q.next.next true u2 u3;exact ⟨b',_,by unfold Rd.value; rw[if_pos (by rw[t1]; simp),if_pos (by rw[u1]; simp),e1],(t4.trans u4).trans (Kept.next u2),e2⟩
   ·rw[if_neg hn] at t3;obtain ⟨a1,a2,_⟩:=G1 t2 t3;obtain ⟨b',e1,e2⟩:=num q.next false t2 t3;exact ⟨b',_,by unfold Rd.value; rw[if_pos (by rw[t1]; simp),if_neg (by rw[V8 a1 a2]; simp),e1],t4.trans (Kept.next t2),e2⟩
theorem quv (l:List Bg) (k:List Tk):∃ w k',JP false l++sm :: k=(3,w) :: k'∧w≠[61]:=by
 cases l with
 | nil=>exact ⟨[59],k,rfl,by decide⟩
 | cons b l=>exact ⟨[44],_,rfl,by decide⟩
theorem qsb {ts:List Tok}:∀ (l bs:List Bg) (r:Rd) (n:Nat) (k:List Tk),DOk r ts bs→(∀ b∈l,BgOk b∧zq b.name=true)→(bs.map Bg.name++l.map Bg.name).Nodup→bs.length + l.length≤8→r.kts=JP bs.isEmpty l++sm :: k→l.length < n→
 ∃ bs' r',T7 n r bs = .ok bs' r'∧bs'.map Bg.name=bs.map Bg.name++l.map Bg.name∧DOk r' ts bs'∧r'.kts=k∧r'.ms=r.ms∧r'.op=r.op
 | [],bs,r,n,k,h,_,_,_,hk,hn=>by
   obtain ⟨n,rfl⟩:∃ m,n=m + 1:=⟨n - 1,by omega⟩;obtain ⟨t1,t2,t3,t4,_,_⟩:=qhr h.ok (show r.kts=sm :: k from by rw[hk]; simp[JP]) (.inl rfl);exact ⟨bs,r.next,by unfold T7; rw[if_pos (by rw[t1]; simp)],by simp,qdt h,t3,t4.ms,t4.op⟩
 | b :: l,bs,r,n,k,h,hb,hnd,hlen,hk,hn=>by
   obtain ⟨n,rfl⟩:∃ m,n=m + 1:=⟨n - 1,by omega⟩;obtain ⟨hb1,hb2⟩:=hb b (List.mem_cons_self ..)
   have hne:b.name≠[59]:=fun e=>by
    have:=hb1.name.c;rw[e] at this;exact absurd this (by decide)
   have hc:r.isT [59]=false ∧ ∃ r1,r.comma bs = .ok () r1∧DOk r1 ts bs∧r1.kts=(1,b.name) :: (b.vk++(JP false l++sm :: k))∧r1.ms=r.ms∧r1.op=r.op:=by
    cases bs with
    | nil=>
      have e:r.kts=(1,b.name) :: (b.vk++(JP false l++sm :: k)):=by rw[hk]; simp[JP]
      obtain ⟨t1,_⟩:=qhr h.ok e (.inr rfl);exact ⟨by rw[t1]; simp[hne],r,rfl,h,e,rfl,rfl⟩
    | cons c bs=>
      have e:r.kts=(3,[44]) :: ((1,b.name) :: (b.vk++(JP false l++sm :: k))):=by rw[hk]; simp[JP]
      obtain ⟨t1,t2,t3,t4,_,_⟩:=qhr h.ok e (.inl rfl);exact ⟨by rw[t1]; simp,r.next,by unfold Rd.comma; simp only[]; rw[if_pos (by rw[t1]; simp)],qdt h,t3,t4.ms,t4.op⟩
   obtain ⟨c1,r1,c2,c3,c4,c5,c6⟩:=hc;obtain ⟨t1,t2,t3,t4,t5,t6⟩:=qhr c3.ok c4 (.inr rfl)
   have hnew:r1.newName=none:=by
    have hv:¬ 0≤r1.var b.name:=by
     unfold Rd.var;rw[← qho,c3.vs];rw[List.nodup_append] at hnd
     exact fun hm=>hnd.2.2 _ hm b.name (by simp) rfl
    have hl:r1.vs.length < 8:=by rw[c3.vs]; simp at hlen ⊢; omega
    unfold Rd.newName Rd.isName;rw[t5,t6,hb1.word,hb2,if_neg (by simp),if_neg (by simp),if_neg hv,if_pos hl]
   obtain ⟨_,h8⟩:=ke hnew;have hq:=Jq t2 (by rw[t4.vs]; exact h8) (s:=b.name) (by rw[← t6]; exact Q3 c3.ok);obtain ⟨w,k',e1,e2⟩:=quv l k;obtain ⟨b',r2,v1,v2,v3⟩:=q6c hq hb1 e2 (k:=k') (by rw[← e1]; exact t3)
   have hd:r1.declare = .ok b' r2:=by unfold Rd.declare; rw[hnew]; simp only[]; rw[t6]; exact v1
   obtain ⟨d1,_,_⟩:=wT c3 hd;have hnm:b'.name=b.name:=KE v1
   obtain ⟨bs',r',a1,a2,a3,a4,a5,a6⟩:=qsb l (bs++[b']) r2 n k d1 (fun x hx=>hb x (List.mem_cons_of_mem _ hx)) (by simpa [hnm] using hnd) (by simp at hlen ⊢; omega) (by
    rw[v3,← e1]
    have:(bs++[b']).isEmpty=false:=by cases bs <;> rfl
    rw[this]) (by simp at hn; omega)
   refine ⟨bs',r',?_,by rw[a2]; simp[hnm],a3,a4,?_,?_⟩
   ·unfold T7;rw[if_neg (by rw[c1]; simp),c2];simp only[Rz.bind];rw[hd];exact a1
   ·rw[a5,v2.ms,show (r1.next.push b.name).ms=r1.next.ms from rfl,t4.ms,c5]
   ·rw[a6,v2.op,show (r1.next.push b.name).op=r1.next.op from rfl,t4.op,c6]
theorem qm2:∀ (l:List Bg) (f:Bool),l.length≤(JP f l).length
 | [],_=>by simp
 | b :: l,f=>by have:=qm2 l false; simp[JP]; omega
theorem qla {g:Pg} (h:Pok2 g) {ts:List Tok} (ht:TsOk ts) {k:List Tk} (hk:ts.map kt=g.tk0++k) :
 ∃ bs' r2,(rp ts).prog=((qT (4 * r2.ts.length + 2) r2).bind fun l r3=>.ok ⟨(rp ts).tok.pos,bs',l⟩ r3)∧bs'.map Bg.name=g.vs∧DOk r2 ts bs'∧r2.kts=k∧r2.ms=[]∧r2.op=0:=by
 have hd:=qq3 ht
 have hk0:(rp ts).kts=(1,[118,97,114,115]) :: (JP true g.bs++sm :: k):=by show ts.map kt=_; rw[hk]; simp[Pg.tk0]
 obtain ⟨t1,t2,t3,t4,_,_⟩:=qhr hd.ok hk0 (.inr rfl)
 have hlen:g.bs.length < ts.length + 1:=by
  have:=congrArg List.length hk;have e:=qm2 g.bs true;simp[Pg.tk0] at this;omega
 obtain ⟨bs',r',a1,a2,a3,a4,a5,a6⟩:=qsb g.bs [] (rp ts).next (ts.length + 1) k (qdt hd) (fun b hb=>⟨h.ok.bs b hb,h.sh b hb⟩) (show (g.bs.map Bg.name).Nodup from h.nms) (by simpa using h.ok.n) t3 hlen;refine ⟨bs',r',?_,by rw[a2]; rfl,a3,a4,by rw[a5,t4.ms]; rfl,by rw[a6,t4.op]; rfl⟩;unfold Rd.prog;rw[if_pos (by rw[t1]; simp),show (rp ts).ts=ts from rfl,a1];rfl
theorem qt2 {g:Pg} (h:Pok g):∀ w∈g.vs,NameOk w:=fun w hw=>by
 obtain ⟨b,hb,rfl⟩:=List.mem_map.1 hw;exact (h.bs b hb).name
theorem qrb {g:Pg} (h:Pok2 g) {ts:List Tok} (ht:TsOk ts) {k:List Tk} (hk:ts.map kt=g.tk0++(Sms.tk g.body++k)) (hc:nc k) :
 ∃ bs' l' r' n',(rp ts).prog=((qT n' r').bind fun l2 r3=>.ok ⟨(rp ts).tok.pos,bs',l'++l2⟩ r3)∧bs'.map Bg.name=g.vs∧Sms.er l'=Sms.er g.body∧r'.ok∧r'.kts=k∧1≤n':=by
 obtain ⟨bs',r2,a1,a2,a3,a4,a5,a6⟩:=qla h ht hk;have hdp:=h.dep;obtain ⟨l',r',n',b1,b2,b3,b4⟩:=KM (qt2 h.ok) g.body h.ok.fit r2 k (4 * r2.ts.length + 2) a3.ok (a3.vs.trans a2) a4 (by rw[a6]; omega) (by rw[a5]; exact h.mks) hc (by omega);refine ⟨bs',l',r',n',?_,a2,b2,b3.k.ok,b3.t,by omega⟩;rw[a1,b1]
 cases qT n' r' <;> rfl
theorem qld {g:Pg} (h:Pok2 g) (hl:g.txt.length≤4096):∃ q,P5 g.txt=(some q,0,g9)∧q.vs=g.vs∧Sms.er q.body=Sms.er g.body:=by
 have hr:=qfv (m:=[]) (L:=[]) h.ok (t:=[]) (k:=[]) .nil;rw[List.append_nil] at hr;obtain ⟨ts,p,hs,hk⟩:=qxc hr hl;obtain ⟨_,ht⟩:=jz hs;obtain ⟨bs',l',r',n',a1,a2,a3,a4,a5,a6⟩:=qrb h ht (k:=[(0,[])]) (by rw[hk]; simp) (by simp[nc]);obtain ⟨b1,_,_⟩:=G1 a4 a5;rw[qbs a6 (by rw[b1]; decide)] at a1;simp only[Rz.bind,List.append_nil] at a1;refine ⟨⟨(rp ts).tok.pos,bs',l'⟩,?_,a2,a3⟩;unfold P5;rw[hs];simp only[];rw[a1];simp only[];rw[if_pos b1]
theorem qkq {t m:List UInt8} {l:List Tk} (hr:RendX m [] t l) {ts:List Tok} {e:Int} {p:Pl} (hs:wD t=(some ts,e,p)):∃ F s t0,E4 F s t0=(some ts,e,p)∧s.rest=m∧s.code=0∧0 < F∧t0.map kt=l:=by
 unfold wD at hs;split at hs
 ·cases hs
 obtain ⟨F,s,t0,e1,e2,e3,e4,e5⟩:=qbx hr (t.length + 1) ⟨t,start,0,g9⟩ [] rfl rfl (by omega);rw[e1] at hs;exact ⟨F,s,t0,hs,e2,e3,by omega,by simpa using e5⟩
theorem qw7 {r:Rd} (h:r.ok) {w:List UInt8} {k:Int} {l:List Tk} (e:r.kts=(k,w) :: l) (hk:k=3∨k=1) (hw:w=kT∨w=orT) (n:Nat):qT (n + 2) r = .ok [] r:=by
 obtain ⟨t1,_,_,_,t5,t6⟩:=qhr h e hk
 by_cases hk1:k=1
 ·subst hk1
  have hn:r.isName=false:=by
   unfold Rd.isName;rw[t5,t6]
   rcases hw with rfl | rfl <;> decide
  unfold qT;rw[if_pos t5];unfold kC;rw[hn,if_neg (by decide)];rcases hw with rfl | rfl
  all_goals
   repeat rw[if_neg (by rw[t1]; decide)]
   rfl
 ·exact qbs (by omega) (by rw[t5]; exact hk1)
theorem qo5 {g:Pg} (h:Pok2 g) {more:List UInt8} (ha:(P5 (g.first++59 :: more)).2.1=0) {q:Pg} (hq:(P5 (g.txt++more)).1=some q) :
 q.vs=g.vs ∧ ∃ l' l2,q.body=l'++l2∧Sms.er l'=Sms.er g.body:=by
 have r1:=qfv (m:=more) (L:=[]) h.ok (t:=more) (k:=[]) .nil;have r2:=qbw (m:=more) (L:=[]) h.ok (t:=more) (k:=[]) .nil;unfold P5 at hq ha;split at hq
 ·cases hq
 rename_i ts e p hs;split at ha
 ·rename_i e2 p2 hs2;exact absurd ha (qfo hs2)
 rename_i ts2 e2 p2 hs2;obtain ⟨F,s,t0,a1,a2,a3,a4,a5⟩:=qkq r1 hs;obtain ⟨G,s2,t2,b1,b2,b3,b4,b5⟩:=qkq r2 hs2;obtain ⟨x,y,o1,o2,c1,c2,c3⟩:=qze ⟨a2.trans b2.symm,a3.trans b3.symm⟩ a4 b4 a1 b1;have ht:=(jz hs).2;have ht2:=(jz hs2).2
 have k2:ts2.map kt=g.tk0++(kt y :: o2.map kt):=by rw[c2,List.map_append,b5]; simp
 have k1:ts.map kt=g.tk0++(Sms.tk g.body++(kt x :: o1.map kt)):=by rw[c1,List.map_append,a5]; simp
 have hc:nc (kt x :: o1.map kt):=by
  rw[c3]
  rintro ⟨hk,hw⟩
  obtain ⟨bs',r2,d1,_,d3,d4,_,_⟩:=qla h ht2 k2;have hn:=qw7 d3.ok d4 hk hw (4 * r2.ts.length);rw[hn] at d1;simp only[Rz.bind] at d1;rw[d1] at ha;simp only[] at ha;obtain ⟨f1,_,_⟩:=G1 d3.ok d4;rw[if_neg (by rw[f1]; show ¬ (kt y).1=0; rcases hk with e | e <;> rw[show (kt y).1=_ from e] <;> decide)] at ha;exact absurd ha (by show ¬ (80:Int)=0; decide)
 obtain ⟨bs',l',r',n',d1,d2,d3,_,_,_⟩:=qrb h ht k1 hc;split at hq
 ·cases hq
 rename_i g' r3 hp;rw[d1] at hp;obtain ⟨l2,r4,e1,e2⟩:=m8 hp;split at hq
 case isFalse=>cases hq
 cases hq;cases e2;exact ⟨d2,l',l2,rfl,d3⟩
def c0:D:=.agg [.nili,.nili,.bool false]
theorem jD {u:Int} (h:0 < u):d7 u=(u % 4294967296) :: d7 (u / 4294967296):=by
 have q0:0≤u / 4294967296:=by omega
 have hv:nv ((u % 4294967296) :: d7 (u / 4294967296))=u:=by simp only[nv,o9 q0]; omega
 have hc:Can ((u % 4294967296) :: d7 (u / 4294967296)):=by
  right;rw[hv];rcases Q1 (u / 4294967296) with e | e
  ·rw[e]; simp[pw]; omega
  ·by_cases hl:(d7 (u / 4294967296)).length=0
   ·simp[hl,pw]; omega
   ·have:=vB ((d7 (u / 4294967296)).length - 1);rw[show (d7 (u / 4294967296)).length - 1 + 1=(d7 (u / 4294967296)).length by omega] at this;rw[o9 q0] at e;simp only[List.length_cons,Nat.add_sub_cancel];omega
 have:=Ye (T6.2 ⟨by omega,g8 _⟩) hc;rw[hv] at this;exact this.symm
theorem qor (c8 bs:List Int) (hl:c8.length=bs.length) (hs:c8.length≤1099511627):∀ d i (e:List (Nat × V)),d + i=c8.length→
 j6 T0 X0 0 G6 (some (.nrm,⟨(0,.d (.sl (L c8))) :: (1,.d (.sl (L bs))) :: (5,.d (.int .i64 i)) :: e,[]⟩)) =
  some (if c8.drop i=bs.drop i then (.exit 0,⟨[],[]⟩) else (.ret,⟨[(4,.d (.bool false))],[]⟩)):=by
 intro d
 induction d with
 | zero=>
   intro i e hd;rw[d5 (l:=G6) rfl];have h1:c8.drop i=[]:=List.drop_eq_nil_of_le (by omega);have h2:bs.drop i=[]:=List.drop_eq_nil_of_le (by omega);rw[h1,h2];simp -implicitDefEqProofs (disch:=omega) [G7]
 | succ d ih=>
   intro i e hd;rw[d5 (l:=G6) rfl]
   have s1:=fun e=>ih (i + 1) e (by omega)
   rw[M0 (xs:=c8) (i:=i) (by omega),M0 (xs:=bs) (i:=i) (by omega)];simp only[Int.natCast_add,Int.cast_ofNat_Int,List.cons.injEq] at s1 ⊢
   by_cases hc:nth c8 i=nth bs i
   ·simp only[hc,true_and];simp -implicitDefEqProofs (disch:=omega) [G7,s1,hc]
   ·simp only[hc,false_and,if_false];simp -implicitDefEqProofs (disch:=omega) [G7,hc]
theorem qoq {c8 bs:List Int} (ha:c8.length≤1099511627) (hb:bs.length≤1099511627):d6 T0 X0 QM [.d (.sl (L c8)),.d (.sl (L bs))] []=some (.ret [.d (.bool (decide (c8=bs)))] []):=by
 rw[c9 (af:=E9) rfl rfl rfl]
 by_cases hl:c8.length=bs.length
 ·have lp:=fun e=>qor c8 bs hl ha c8.length 0 e rfl
  simp only[Int.cast_ofNat_Int,List.drop_zero] at lp
  by_cases hc:c8=bs
  ·subst hc;simp only[if_true] at lp;simp -implicitDefEqProofs (disch:=omega) [E9,lp]
  ·simp only[if_neg hc] at lp;simp -implicitDefEqProofs (disch:=omega) [E9,lp,hl,hc]
 ·have hc:¬ c8=bs:=fun h=>hl (by rw[h])
  simp -implicitDefEqProofs (disch:=omega) [E9,hl,hc]
theorem qts {p q:Bool} {c8 bs:List Int} (ha:c8.length≤1099511627) (hb:bs.length≤1099511627):d6 T0 X0 xr [.d (.agg [.bool p,.sl (L c8)]),.d (.agg [.bool q,.sl (L bs)])] []=some (.ret [.d (.bool (p == q && decide (c8=bs)))] []):=by
 have s1:=qoq ha hb;rw[c9 (af:=U1) rfl rfl rfl]
 cases p <;> cases q <;> simp -implicitDefEqProofs (disch:=omega) [U1,s1]
theorem q0y {m n:Int} (hm:nl m≤1073741824) (hn:nl n≤1073741824):d6 T0 X0 xr [.d (Wd m),.d (Wd n)] []=some (.ret [.d (.bool (decide (m=n)))] []):=by
 have s1:=qts (p:=decide (m < 0)) (q:=decide (n < 0)) (c8:=d7 m.natAbs) (bs:=d7 n.natAbs) (by unfold nl at hm; omega) (by unfold nl at hn; omega)
 have e:(decide (m < 0) == decide (n < 0) && decide (d7 m.natAbs=d7 n.natAbs))=decide (m=n):=by
  by_cases h:m=n
  ·subst h; simp
  ·have:decide (m=n)=false:=decide_eq_false h;rw[this]
   by_cases h1:d7 m.natAbs=d7 n.natAbs
   ·have h2:=congrArg nv h1;rw[xM,xM] at h2
    by_cases h3:m < 0 <;> by_cases h4:n < 0 <;> simp[h1,h3,h4] <;> omega
   ·simp[h1]
 rw[e] at s1;exact s1
theorem qkt (f g:List Int) (hl:f.length=g.length) (hs:f.length≤1000) (hf:∀ i,nl (nth f i)≤1073741824) (hg:∀ i,nl (nth g i)≤1073741824):∀ d i (e:List (Nat × V)),d + i=f.length→
 j6 T0 X0 0 F3 (some (.nrm,⟨(0,.d (.sl (WL f))) :: (1,.d (.sl (WL g))) :: (5,.d (.int .i64 i)) :: e,[]⟩)) =
  some (if f.drop i=g.drop i then (.exit 0,⟨[],[]⟩) else (.ret,⟨[(4,.d (.bool false))],[]⟩)):=by
 intro d
 induction d with
 | zero=>
   intro i e hd;rw[d5 (l:=F3) rfl];have h1:f.drop i=[]:=List.drop_eq_nil_of_le (by omega);have h2:g.drop i=[]:=List.drop_eq_nil_of_le (by omega);rw[h1,h2];simp -implicitDefEqProofs (disch:=omega) [F4]
 | succ d ih=>
   intro i e hd;rw[d5 (l:=F3) rfl]
   have s1:=fun e=>ih (i + 1) e (by omega)
   have hfi:=hf i;have hgi:=hg i;have s2:=q0y hfi hgi;rw[M0 (xs:=f) (i:=i) (by omega),M0 (xs:=g) (i:=i) (by omega)];simp only[Int.natCast_add,Int.cast_ofNat_Int,List.cons.injEq] at s1 ⊢
   by_cases hc:nth f i=nth g i
   ·rw[decide_eq_true hc] at s2;simp only[hc,true_and];rw[hc] at s2;simp -implicitDefEqProofs (disch:=omega) [F4,s1,s2,hc]
   ·rw[decide_eq_false hc] at s2;simp only[hc,false_and,if_false];simp -implicitDefEqProofs (disch:=omega) [F4,s2,hc]
theorem qks {f g:List Int} (h1:f.length≤1000) (h2:g.length≤1000) (hf:∀ i,nl (nth f i)≤1073741824) (hg:∀ i,nl (nth g i)≤1073741824):d6 T0 X0 Qg [.d (.sl (WL f)),.d (.sl (WL g))] []=some (.ret [.d (.bool (decide (f=g)))] []):=by
 rw[c9 (af:=D3) rfl rfl rfl]
 by_cases hl:f.length=g.length
 ·have lp:=fun e=>qkt f g hl h1 hf hg f.length 0 e rfl
  simp only[Int.cast_ofNat_Int,List.drop_zero] at lp
  by_cases hc:f=g
  ·subst hc;simp only[if_true] at lp;simp -implicitDefEqProofs (disch:=omega) [D3,lp]
  ·simp only[if_neg hc] at lp;simp -implicitDefEqProofs (disch:=omega) [D3,lp,hl,hc]
 ·have hc:¬ f=g:=fun h=>hl (by rw[h])
  simp -implicitDefEqProofs (disch:=omega) [D3,hl,hc]
end Go.Rf
