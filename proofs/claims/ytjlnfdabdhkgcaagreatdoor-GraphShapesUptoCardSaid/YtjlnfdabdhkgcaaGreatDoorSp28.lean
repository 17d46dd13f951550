/- Parts of the proof: SpUA, SpQL, SpQM, SpZ1, SpZ2, SpZ3, SpZ4, SpZ5, SpZ6, SpZ7, SpZ8, SpZ9, SpZA, SpZB, SpZC, SpZD, SpZE, SpZF, SpZH, SpZI, SpZJ, SpZL, SpZK, SpQN, SpQO, SpQZ. -/
import Derived.Test.YtjlnfdabdhkgcaaGreatDoorRb2
import Derived.Test.YtjlnfdabdhkgcaaGreatDoorSp27
import Derived.Test.YtjlnfdabdhkgcaaGreatDoorSp16
import Derived.Test.YtjlnfdabdhkgcaaGreatDoorSp12
import Derived.Test.YtjlnfdabdhkgcaaGreatDoorSp26

set_option linter.unusedSimpArgs false
set_option linter.unusedVariables false
set_option linter.unnecessarySimpa false
set_option linter.unusedSectionVars false
set_option linter.all false
namespace Go.Rf
set_option maxHeartbeats 16000000
theorem qjz {vs:List (List UInt8)} {d:Int} {p:Pl} {bs:List Bl} (h:(Sm.choose p bs).fit vs) (hb:∀ p b,.mk p b∈bs→LnS (d + 1) b) (h0:0≤d) (h9:d≤1000000):Qy d (Sm.choose p bs):=by
 intro pre rest c out h1 h2;have s1:=jZ (Sm.choose p bs);have s2:=wK h;have hl:=QT h;have s3:=Q0 p;have s4:=X1 (Sm.choose p bs).kind d (Sm.choose p bs).head p out hl (by omega);have hget:=WA pre rest (Sm.choose p bs)
 have hlt:pre.length < (pre++Sm.choose p bs :: rest).length:=by simp
 have hfc:jQ (Sm.choose p bs).d=true:=JH _;have hcl:D.cells (Sm.choose p bs).d=[(Sm.choose p bs).d]:=Sm.cells _
 have inv0:=fun T cf i h=>wI T cf i h (Sm.choose p bs)
 simp only[Sm.sz] at h1;have hat:(Sm.choose p bs).at_=p:=rfl
 have e0:out++(⟨(Sm.choose p bs).kind,d,(Sm.choose p bs).head,(Sm.choose p bs).at_⟩:Ln) :: Sm.inner d (Sm.choose p bs)=(out++[⟨(Sm.choose p bs).kind,d,(Sm.choose p bs).head,p⟩])++Bls.lines d true bs:=by rw[hat]; simp[Sm.inner]
 rw[e0]
 have hlen:(out++[(⟨(Sm.choose p bs).kind,d,(Sm.choose p bs).head,p⟩:Ln)]).length=out.length + 1:=by simp
 have hb5:=JM bs;have hll:=KQ d true bs;have s5:=qg2 h0 h9 (pre++Sm.choose p bs :: rest) pre.length bs [] (out++[⟨(Sm.choose p bs).kind,d,(Sm.choose p bs).head,p⟩]) hb (by simp; omega) (by simp; omega) h2;simp only[List.nil_append,List.length_nil,decide_true] at s5
 have hd:(Sm.choose p bs).d = .iface f7 (.agg [.int .i64 p.b,.int .i64 p.g,.int .i64 p.l,.int .i64 p.c,.sl (LD blL bs)]):=by simp only[Sm.d,Sms.d_LD,Bls.d_LD]
 generalize (Sm.choose p bs).kind=k at *;generalize (Sm.choose p bs).head=t at *;rw[hd] at hget s1 s2 hfc hcl
 have inv:∀ T cf i h,qc5 T cf [(qL,c8,none),(f7,c8,some (0,4,true)),(Y0,c8,some (0,4,true)),(l8,c8,some (0,4,true)),(j8,c8,some (0,4,true)),(n7,c8,some (0,4,true)),(p7,c8,some (0,4,true)),(o9,c8,some (0,4,true)),(v8,c8,some (0,4,true)),(p9,c8,some (0,4,true))] i h [] (some (f7,V.d (.agg [.int .i64 p.b,.int .i64 p.g,.int .i64 p.l,.int .i64 p.c,.sl (LD blL bs)])))=vn cf c8 i h (A7 h [(.d (.agg p.cs),true)]):=fun T cf i h=>by
  have:=inv0 T cf i h;rw[hd] at this;exact this
 clear inv0 hd e0 h hat;generalize pre++Sm.choose p bs :: rest=l at *;generalize hN:l.length=N at *;generalize out++[(⟨k,d,t,p⟩:Ln)]=o1 at *;generalize o1++Bls.lines d true bs=o2 at *;cases c
 all_goals
  simp only[lSt,bSt,lH,Pl.cs,hN,hlen,Int.cast_ofNat_Int] at s3 s4 s5 ⊢;simp (maxSteps:=4000000) -implicitDefEqProofs (disch:=omega) [F0,hget,s1,s2,s3,s4,s5,inv,hlen,Pl.cs,hcl,hfc,-wJ,kB,L6]
@[simp] theorem zcz (f l a b l2 a2 b2):qky f [.ptr l a b,.ptr l2 a2 b2] = .fn f [.ptr l a b,.ptr l2 a2 b2]:=rfl
theorem qcy {vs:List (List UInt8)} {d:Int}:∀ (rest pre:List Sm) (c:Bool) (out:List Ln),Sms.fit vs rest→(∀ s∈rest,Qy d s)→out.length + Sms.sz rest≤1000000→(pre++rest).length≤1000000→
 j0 T0 X0 1 xx (some (.nrm,lSt c d (pre++rest) pre.length out))=some (.exit 0,⟨[(3,.ptr (.b 1) 0 0)],(match (c || !rest.isEmpty) with
  | false=>[.arr (LW lnL (out++Sms.lines d rest)) ⟨7,64⟩,.arr [.ref (.b 0) ⟨7,64⟩ 0 (out++Sms.lines d rest).length] ⟨1,0⟩]
  | true=>[.dead,.arr [.ref (.b 2) ⟨7,64⟩ 0 (out++Sms.lines d rest).length] ⟨1,0⟩,.arr (LW lnL (out++Sms.lines d rest)) ⟨7,64⟩])⟩)
 | [],pre,c,out,_,_,h1,h2=>by
   rw[c9 (l:=xx) rfl];simp only[Sms.lines,List.append_nil,List.isEmpty_nil,Bool.not_true,Bool.or_false] at *;cases c
   all_goals
    simp only[lSt,lH];simp -implicitDefEqProofs (disch:=omega) [F0]
 | s :: rest,pre,c,out,hf,hs,h1,h2=>by
   simp only[Sms.fit,Sms.sz] at hf h1;have one:=hs s (List.mem_cons_self ..) pre rest c out (by omega) h2;have hin:=qgc d s;have ih:=qcy (d:=d) rest (pre++[s]) true (out++⟨s.kind,d,s.head,s.at_⟩ :: Sm.inner d s) hf.2 (fun x hx=>hs x (List.mem_cons_of_mem _ hx)) (by rw[List.length_append,List.length_cons]; omega) (by simpa using h2)
   have el:pre++[s]++rest=pre++s :: rest:=by simp
   have e2:(pre++[s]).length=pre.length + 1:=by simp
   rw[el,e2] at ih
   have e4:out++Sms.lines d (s :: rest)=out++(⟨s.kind,d,s.head,s.at_⟩ :: Sm.inner d s)++Sms.lines d rest:=by rw[Sms.lines]; simp
   have e5:(c || !(s :: rest).isEmpty)=(true || !rest.isEmpty):=by simp
   rw[e4,e5,← ih];generalize lSt true d (pre++s :: rest) (pre.length + 1) (out++⟨s.kind,d,s.head,s.at_⟩ :: Sm.inner d s)=st2 at *;clear ih e4 e5;rw[c9 (l:=xx) rfl];generalize hN:(pre++s :: rest).length=N at *;cases c
   all_goals
    simp only[lSt,lH,hN] at one ⊢;simp -implicitDefEqProofs (disch:=omega) [one]
theorem KA {vs:List (List UInt8)} {d:Int} {l:List Sm} (hf:Sms.fit vs l) (hs:∀ s∈l,Qy d s) (h0:0≤d) (h9:d≤1000000):LnS d l:=by
 intro out h1;have hlen:=A9 l;have lp:=qcy (d:=d) l [] false out hf hs h1 (by simp; omega);rw[a8 (af:=wB) rfl rfl rfl];simp only[List.nil_append,List.length_nil,Bool.false_or] at lp
 have hL:(out++Sms.lines d l).length≤2000000:=by have:=F6 d l; rw[List.length_append]; omega
 cases l with
 | nil=>
   generalize out++Sms.lines d []=o2 at *;simp only[lSt,lH,lR,Int.cast_ofNat_Int,List.isEmpty_nil,Bool.not_true,List.length_nil,qjd] at lp ⊢;simp -implicitDefEqProofs (disch:=omega) [wB,lp,wl]
 | cons s l=>
   have e:(!(s :: l).isEmpty)=true:=rfl;rw[e] at lp
   have hR:∀ o,lR (s :: l) o = .ret [.ref (.b 1) ⟨7,64⟩ 0 o.length] [.dead,.arr (LW lnL o) ⟨7,64⟩]:=fun _=>rfl
   rw[hR];generalize out++Sms.lines d (s :: l)=o2 at *;generalize s :: l=l at *;simp only[lSt,lH,Int.cast_ofNat_Int] at lp ⊢;simp -implicitDefEqProofs (disch:=omega) [wB,lp]
mutual
theorem qo2 {vs:List (List UInt8)}:∀ (s:Sm) (d:Int),s.fit vs→0≤d→d + s.sz≤1000000→Qy d s
 | .set p v n e,d,h,_,_=>Zg h (.inl ⟨_,_,_,_,rfl⟩)
 | .skip p,d,h,_,_=>Zg h (.inr (.inl ⟨_,rfl⟩))
 | .stop p,d,h,_,_=>Zg h (.inr (.inr (.inl ⟨_,rfl⟩)))
 | .mark p n,d,h,_,_=>Zg h (.inr (.inr (.inr ⟨_,_,rfl⟩)))
 | .loop p b,d,h,h0,h9=>by
   have hf:=h;simp only[Sm.fit,Sm.sz] at hf h9;exact qrz h (KA hf (W9 b (d + 1) hf (by omega) (by omega)) (by omega) (by omega)) h0 (by omega)
 | .ifs p x y q b,d,h,h0,h9=>by
   have hf:=h;simp only[Sm.fit,Sm.sz] at hf h9;exact quw h (KA hf.2.2 (W9 b (d + 1) hf.2.2 (by omega) (by omega)) (by omega) (by omega)) h0 (by omega)
 | .while p x y q b,d,h,h0,h9=>by
   have hf:=h;simp only[Sm.fit,Sm.sz] at hf h9;exact qnx h (KA hf.2.2 (W9 b (d + 1) hf.2.2 (by omega) (by omega)) (by omega) (by omega)) h0 (by omega)
 | .ife p x y q b pe e,d,h,h0,h9=>by
   have hf:=h;simp only[Sm.fit,Sm.sz] at hf h9;exact qux h (KA hf.2.2.1 (W9 b (d + 1) hf.2.2.1 (by omega) (by omega)) (by omega) (by omega)) (KA hf.2.2.2 (W9 e (d + 1) hf.2.2.2 (by omega) (by omega)) (by omega) (by omega)) h0 (by omega)
 | .choose p bs,d,h,h0,h9=>by
   have hf:=h;simp only[Sm.fit,Sm.sz] at hf h9;exact qjz h (Ys bs d hf.2 h0 (by omega)) h0 (by omega)
theorem Ys {vs:List (List UInt8)}:∀ (l:List Bl) (d:Int),Bls.fit vs l→0≤d→d + 1 + Bls.sz l≤1000000→∀ p b,.mk p b∈l→LnS (d + 1) b
 | [],d,_,_,_,p,b,hs=>by cases hs
 | .mk p' b' :: l,d,h,h0,h9,p,b,hs=>by
   simp only[Bls.fit,Bl.fit,Bls.sz,Bl.sz] at h h9;rcases List.mem_cons.1 hs with e | hs
   ·cases e;exact KA h.1 (W9 b' (d + 1) h.1 (by omega) (by omega)) (by omega) (by omega)
   ·exact Ys l d h.2 h0 (by omega) p b hs
theorem W9 {vs:List (List UInt8)}:∀ (l:List Sm) (d:Int),Sms.fit vs l→0≤d→d + Sms.sz l≤1000000→∀ s∈l,Qy d s
 | [],d,_,_,_,s,hs=>by cases hs
 | x :: l,d,h,h0,h9,s,hs=>by
   simp only[Sms.fit,Sms.sz] at h h9;rcases List.mem_cons.1 hs with e | hs
   ·rw[e]; exact qo2 x d h.1 h0 (by omega)
   ·exact W9 l d h.2 h0 (by omega) s hs
end
def Pg.lines (g:Pg):List Ln:=⟨1,0,g.first,g.at_⟩ :: Sms.lines 0 g.body
theorem qpy {g:Pg} (h:Pok g):d5 T0 X0 Jb [g.d] []=some (.ret [.d (.sl (LD lnL g.lines))] []):=by
 have s1:=qe6 h;have hz:=h.sz;have hl:=A9 g.body;have hd:=qml g.bs true h.bs;have hn:=h.n;have s2:=KA h.fit (W9 g.body 0 h.fit (Int.le_refl _) (by omega)) (Int.le_refl _) (by omega) [⟨1,0,g.first,g.at_⟩] (by simp; omega)
 have hf:g.first.length≤100000000:=by unfold Pg.first; simp; omega
 have hL:=F6 0 g.body;have e1:LW lnL [⟨1,0,g.first,g.at_⟩]=[.d (.agg [.int .i64 1,.int .i64 0,.str g.first,.int .i64 g.at_.b,.int .i64 g.at_.g,.int .i64 g.at_.l,.int .i64 g.at_.c])]:=rfl;rw[e1] at s2;rw[a8 (af:=zd) rfl rfl rfl];unfold Pg.lines;have e2:[(⟨1,0,g.first,g.at_⟩:Ln)]++Sms.lines 0 g.body=⟨1,0,g.first,g.at_⟩ :: Sms.lines 0 g.body:=rfl;rw[e2] at s2
 have hlen:((⟨1,0,g.first,g.at_⟩:Ln) :: Sms.lines 0 g.body).length≤6000:=by simp; omega
 generalize (⟨1,0,g.first,g.at_⟩:Ln) :: Sms.lines 0 g.body=L at *;unfold Pg.d Pg.cs at *;generalize g.first=t at *
 rcases qak g.body L with hR | hR <;> rw[hR] at s2
 all_goals
  simp only[List.length_cons,List.length_nil,Nat.zero_add] at s2;simp (maxSteps:=2000000) -implicitDefEqProofs (disch:=omega) [zd,s1,s2]
end Go.Rf

namespace Go.Rf
set_option maxHeartbeats 4000000
def Y4 (l:Ln):Bool:=decide (l.kind=5)
mutual
theorem qlj (d:Int):∀ s:Sm,(Sm.inner d s).countP Y4 + (if s.kind=5 then 1 else 0)=s.stops
 | .choose _ bs=>by simp only[Sm.inner,Sm.stops,Sm.kind]; have:=YX d true bs; simpa using this
 | .loop _ b=>by simp only[Sm.inner,Sm.stops,Sm.kind]; have:=W8 (d + 1) b; simpa using this
 | .ifs _ _ _ _ b=>by simp only[Sm.inner,Sm.stops,Sm.kind]; have:=W8 (d + 1) b; simpa using this
 | .ife _ _ _ _ b pe e=>by
   simp only[Sm.inner,Sm.stops,Sm.kind];have h1:=W8 (d + 1) b;have h2:=W8 (d + 1) e;rw[List.countP_append,List.countP_cons,h1,h2];simp[Y4]
 | .while _ _ _ _ b=>by simp only[Sm.inner,Sm.stops,Sm.kind]; have:=W8 (d + 1) b; simpa using this
 | .set _ _ _ none=>by simp[Sm.inner,Sm.stops,Sm.kind]
 | .set _ _ _ (some _)=>by simp[Sm.inner,Sm.stops,Sm.kind]
 | .skip _=>by simp[Sm.inner,Sm.stops,Sm.kind]
 | .stop _=>by simp[Sm.inner,Sm.stops,Sm.kind]
 | .mark ..=>by simp[Sm.inner,Sm.stops,Sm.kind]
theorem W8 (d:Int):∀ l:List Sm,(Sms.lines d l).countP Y4=Sms.stops l
 | []=>by simp[Sms.lines,Sms.stops]
 | s :: l=>by
   have h1:=qlj d s;have h2:=W8 d l;simp only[Sms.lines,Sms.stops];rw[List.countP_cons,List.countP_append,h2];simp only[Y4,decide_eq_true_eq];omega
theorem YX (d:Int):∀ (f:Bool) (l:List Bl),(Bls.lines d f l).countP Y4=Bls.stops l
 | f,[]=>by simp[Bls.lines,Bls.stops]
 | f,.mk p b :: l=>by
   have h1:=W8 (d + 1) b;have h2:=YX d false l;simp only[Bls.lines,Bl.lines,Bls.stops];rw[List.countP_append,List.countP_append,h1,h2]
   cases f <;> simp[Y4]
end
theorem qvw (g:Pg):g.lines.countP Y4=Sms.stops g.body:=by
 unfold Pg.lines;rw[List.countP_cons,W8];simp[Y4]
structure Gsh (p:Pg) (g:Gb):Prop where
 w:Grw g
 fk:Gfk g
 ex:0≤g.ex∧g.ex < g.out.length
 ee:g.edges.length≤2 * g.out.length
 al:aln g=1 + Sms.stops p.body
 z:g.inn.getD 0 []=[]
 pu:g.pure=decide (p.w.hard.length=0)
theorem qqs {g:Pg} (h:Pok g):Gsh g g.bld:=by
 have k0:=qib (vs:=g.vs) (bs:=g.bs);have hl:(gb0 g.vs g.bs).point.out.length=1:=rfl;have fk:=q0x h;have i1:=kp (qsw g.vs.length) g.body h.fit k0 ⟨rfl,⟨fun x=>by cases x <;> simp[Gb.point,gb0],fun x j hj=>by cases x <;> simp[Gb.point,gb0] at hj,rfl⟩,⟨fun x=>by cases x <;> simp[Gb.point,gb0],fun x j hj=>by cases x <;> simp[Gb.point,gb0] at hj,rfl⟩⟩ (a:=0) (by omega) (by omega);have b:=Zh g.vs.length g.body h.fit (g:=(gb0 g.vs g.bs).point) (a:=0) (by omega) (j7 (Q8 (by simp[gb0])));have e:=Xr g.vs.length g.body (gb0 g.vs g.bs).point 0;have c:=Xs g.vs.length g.body h.fit (gb0 g.vs g.bs).point 0 rfl;have p:=Xq g.vs.length g.body (gb0 g.vs g.bs).point 0;have ws:=Jt g.vs.length g.body ⟨0,[],n0⟩;unfold Pg.bld at fk ⊢;rw[show ((0:Nat):Int)=0 from rfl] at b
 have hw:decide (g.w.hard.length=0)=Sms.soft g.vs.length g.body:=by
  unfold Pg.w
  cases hs:Sms.soft g.vs.length g.body with
  | true=>rw[hs] at ws; exact decide_eq_true (by rw[ws.2 ⟨rfl,rfl⟩]; rfl)
  | false=>
    rw[hs] at ws
    refine decide_eq_false fun h=>?_
    have:=(ws.1 (List.length_eq_zero_iff.1 h)).2;cases this
 generalize Sms.bld g.vs.length g.body (gb0 g.vs g.bs).point 0=r at *;have h0:=b.b0;have h1:=b.b1;have c1:=c.al;have c2:=c.old 0 (by omega);refine ⟨⟨i1.il,i1.o,i1.i⟩,fk,⟨h0,h1⟩,?_,?_,c2,?_⟩
 ·rw[hl] at e;have:(gb0 g.vs g.bs).point.edges.length=0:=rfl;show r.1.edges.length≤2 * r.1.out.length;omega
 ·show aln r.1=_;rw[c1];rfl
 ·rw[hw];show pur r.1.edges=_;rw[p];rfl
end Go.Rf

namespace Go.Rf
set_option maxHeartbeats 16000000
theorem qi0 {es:List Ed} {i:Nat} (h:i < es.length):(LD eaL es)[i]? = some (.agg (es[i]).a):=zU eaL es h
theorem ziz {st:List Int} {k:Nat} (h:∀ n∈st,nl n≤k) (i:Nat):nl (nth st i)≤k:=by
 by_cases hi:i < st.length
 ·simp[nth,hi]; exact h _ (List.getElem_mem hi)
 ·simp[nth,hi]
theorem qk7 {g:Gb} {o:List Int} {es:List Ed} (hL:o.map (fun j=>g.edges[j.toNat]?)=es.map some) (ho:∀ j∈o,0≤j) {i:Nat} (h:i < o.length) (h2:i < es.length):∃ j:Nat,o[i]=j∧(LD eaL g.edges)[j]? = some (.agg (es[i]).a)∧es[i]∈g.edges∧j < g.edges.length:=by
 obtain ⟨j,hj⟩:=Int.eq_ofNat_of_zero_le (ho _ (List.getElem_mem h));have:=congrArg (fun l=>l[i]?) hL;simp only[List.getElem?_map,List.getElem?_eq_getElem h,List.getElem?_eq_getElem h2,Option.map_some,Option.some.injEq] at this;rw[hj,Int.toNat_natCast] at this;obtain ⟨hl,he⟩:=List.getElem?_eq_some_iff.1 this;exact ⟨j,hj,by rw[qi0 hl,he],by rw[← he]; exact List.getElem_mem hl,hl⟩
section
variable {g:Gb} {o:List Int} {es:List Ed} (hL:o.map (fun j=>g.edges[j.toNat]?)=es.map some) (ho:∀ j∈o,0≤j) (hl:o.length≤900000) (hel:g.edges.length≤900000) (hrow:∀ e∈g.edges,e.row.length≤9 ∧ ∀ x∈e.row,nl x≤32)
include hL ho hl hel hrow
theorem q02 (h5:∀ e∈es,e.k=5∧e.mn=es.length) (w:Int):∀ d k (e:List (Nat × V)),d + k=o.length→
 j0 T0 X0 0 R2 (some (.nrm,⟨(1,.d (.sl (LD inL o))) :: (5,.d (.sl (LD eaL g.edges))) :: (7,.d (.int .i64 w)) :: (8,.d (.int .i64 ((es.take k).filter fun e=>e.tk == w).length)) :: (9,.d (.int .i64 k)) :: e,[]⟩)) =
  some (.exit 3,⟨[(1,.d (.sl (LD inL o))),(5,.d (.sl (LD eaL g.edges))),(7,.d (.int .i64 w)),(8,.d (.int .i64 (es.filter fun e=>e.tk == w).length))],[]⟩):=by
 have hll:o.length=es.length:=by have:=congrArg List.length hL; simpa using this
 intro d
 induction d with
 | zero=>
   intro k e hk
   have:k=o.length:=by omega
   subst this;rw[show es.take o.length=es from List.take_of_length_le (by omega),c9 (l:=R2) rfl];simp -implicitDefEqProofs (disch:=omega) [R3]
 | succ d ih=>
   intro k e hk
   have h1:k < o.length:=by omega
   have h2:k < es.length:=by omega
   obtain ⟨j,e1,e2,e3,e4⟩:=qk7 hL ho h1 h2
   have hget:(LD inL o)[k]? = some (.int .i64 j):=by rw[zU inL o h1,e1]; rfl
   obtain ⟨q1,q2⟩:=h5 _ (List.getElem_mem h2);have hr:=(hrow _ e3).1;have hfl:(((es.take k).filter fun e=>e.tk == w).length)≤k:=Nat.le_trans (List.length_filter_le _ _) (by simp; omega);have s2:=ih (k + 1) [] (by omega)
   have hf:((es.take (k + 1)).filter fun e=>e.tk == w).length=((es.take k).filter fun e=>e.tk == w).length + (if (es[k]).tk=w then 1 else 0):=by
    rw[List.take_succ_eq_append_getElem h2,List.filter_append,List.length_append]
    by_cases c:(es[k]).tk=w
    ·simp[c]
    ·simp[c]
   rw[hf] at s2
   have q2:(es[k]).mn=o.length:=by rw[q2,hll]
   rw[c9 (l:=R2) rfl];generalize es[k]=ed at *;generalize ((es.take k).filter fun e=>e.tk == w).length=c at *;simp only[Ed.a] at e2;push_cast at s2
   by_cases ct:ed.tk=w
   ·simp only[if_pos ct,Int.cast_ofNat_Int] at s2;simp (maxSteps:=4000000) -implicitDefEqProofs (disch:=omega) [R3,hget,e2,q1,q2,ct,s2]
   ·simp only[if_neg ct,Int.cast_ofNat_Int,Int.add_zero] at s2;simp (maxSteps:=4000000) -implicitDefEqProofs (disch:=omega) [R3,hget,e2,q1,q2,ct,s2]
theorem qxg (h5:∀ e∈es,e.k=5∧e.mn=es.length) (hc:∀ w:Int,0≤w→w < es.length→(es.filter fun e=>e.tk == w).length=1):∀ d k (e:List (Nat × V)),d + k=o.length→
 j0 T0 X0 0 R1 (some (.nrm,⟨(1,.d (.sl (LD inL o))) :: (5,.d (.sl (LD eaL g.edges))) :: (7,.d (.int .i64 k)) :: e,[]⟩))=some (.exit 1,⟨[],[]⟩):=by
 have hll:o.length=es.length:=by have:=congrArg List.length hL; simpa using this
 intro d
 induction d with
 | zero=>
   intro k e hk
   have:k=o.length:=by omega
   subst this;rw[c9 (l:=R1) rfl];simp -implicitDefEqProofs (disch:=omega) [qk]
 | succ d ih=>
   intro k e hk;have s1:=q02 hL ho hl hel hrow h5 k o.length 0 [] rfl;rw[hc k (by omega) (by omega)] at s1;simp only[List.take_zero,List.filter_nil,List.length_nil,Int.cast_ofNat_Int] at s1;have s2:=ih (k + 1) [] (by omega);push_cast at s2;rw[c9 (l:=R1) rfl];simp -implicitDefEqProofs (disch:=omega) [qk,s1,s2]
theorem qs1 (hF:FkE es):d5 T0 X0 KD [.d g.d,.d (.sl (LD inL o))] []=some (.ret [.d (.bool true)] []):=by
 have s1:=qiz g (by omega) (fun e he=>⟨by have:=(hrow e he).1; omega,fun n hn=>by have:=(hrow e he).2 n hn; omega⟩)
 have hll:o.length=es.length:=by have:=congrArg List.length hL; simpa using this
 have hw:(wl (LD inL o)≤A5)=True:=eq_true (Nat.le_trans (qbi inL o) (by decide));have hw2:(2 * wl (LD inL o)≤A5)=True:=eq_true (Nat.le_trans (Nat.mul_le_mul_left 2 (qbi inL o)) (by decide));have hD:∃ D,g.d = .box D:=⟨_,rfl⟩;obtain ⟨D,hD⟩:=hD;rw[a8 (af:=F3) rfl rfl rfl];rw[hD] at s1 ⊢
 cases hF with
 | nil=>
   have:o=[]:=List.length_eq_zero_iff.1 hll;subst this;simp -implicitDefEqProofs (disch:=omega) [F3,s1]
 | @one ed k1 k4=>
   obtain ⟨j,e1,e2,e3,e4⟩:=qk7 hL ho (i:=0) (by simp at hll; omega) (by simp)
   have hget:(LD inL o)[0]? = some (.int .i64 j):=by rw[zU inL o (by simp at hll; omega),e1]; rfl
   have hl1:o.length=1:=by simpa using hll
   have hne:o≠[]:=fun h=>by rw[h] at hl1; simp at hl1
   have hr:=(hrow _ e3).1;simp only[List.getElem_cons_zero,Ed.a] at e2 hr
   have n5:ed.k≠5:=by omega
   have n6:ed.k≠6:=by omega
   simp (maxSteps:=4000000) -implicitDefEqProofs (disch:=omega) [F3,s1,hget,e2,hl1,n5,n6,hne,hw]
 | pick hne h5 hc hr=>
   have hpos:0 < es.length:=List.length_pos_iff.2 hne;obtain ⟨j,e1,e2,e3,e4⟩:=qk7 hL ho (i:=0) (by omega) hpos
   have hget:(LD inL o)[0]? = some (.int .i64 j):=by rw[zU inL o (by omega),e1]; rfl
   have hno:o≠[]:=fun h=>by rw[h] at hll; simp at hll; omega
   have hn0:o.length≠0:=by omega
   have q1:=(h5 _ (List.getElem_mem hpos)).1;have s2:=qxg hL ho hl hel hrow h5 hc o.length 0 [] rfl;have hr:=(hrow _ e3).1;generalize es[0]=ed at *;simp only[Ed.a,Int.cast_ofNat_Int] at e2 s2;simp (maxSteps:=4000000) -implicitDefEqProofs (disch:=omega) [F3,s1,s2,hget,e2,q1,hno,hn0]
 | @test a b ka kb ht ht2 hrw hll2 hrr=>
   have hl2:o.length=2:=by simpa using hll
   obtain ⟨j,e1,e2,e3,e4⟩:=qk7 hL ho (i:=0) (by omega) (by simp);obtain ⟨j2,f1,f2,f3,f4⟩:=qk7 hL ho (i:=1) (by omega) (by simp)
   have hget:(LD inL o)[0]? = some (.int .i64 j):=by rw[zU inL o (by omega),e1]; rfl
   have hget2:(LD inL o)[1]? = some (.int .i64 j2):=by rw[zU inL o (by omega),f1]; rfl
   have hno:o≠[]:=fun h=>by rw[h] at hl2; simp at hl2
   have hra:=hrow _ e3;have hrb:=hrow _ f3;simp only[List.getElem_cons_zero,List.getElem_cons_succ,Ed.a] at e2 f2 hra hrb;have s3:=qj5 (f:=a.row) (g:=b.row) (by omega) (by omega) (fun i=>Nat.le_trans (ziz hra.2 i) (by decide)) (fun i=>Nat.le_trans (ziz hrb.2 i) (by decide));rw[hrw,decide_eq_true rfl] at s3;rw[hrw] at e2 hra;have hra:=hra.1;rcases ht2 with h0 | h0
   ·have hb1:b.tk=1:=by omega
    simp only[h0,ka] at e2;simp only[hb1,kb] at f2;simp (maxSteps:=4000000) -implicitDefEqProofs (disch:=omega) [F3,s1,s3,hget,hget2,e2,f2,hno,hl2,hw2]
   ·have hb1:b.tk=0:=by omega
    simp only[h0,ka] at e2;simp only[hb1,kb] at f2;simp (maxSteps:=4000000) -implicitDefEqProofs (disch:=omega) [F3,s1,s3,hget,hget2,e2,f2,hno,hl2,hw2]
end
end Go.Rf

namespace Go.Rf
set_option maxHeartbeats 16000000
structure Mc where
 g:Gb
 p:Int:=0
 steps:Int:=0
 used:Nat:=0
 st:List Int:=[]
 ch:List Int:=[]
def Mc.left (m:Mc):Bool:=decide (m.used < m.ch.length)
structure Lk where
 e:List D:=[.int .i64 0,.int .i64 0,.int .i64 0,.int .i64 0,.int .i64 0,.int .i64 0,.sl [],.int .i64 0,.int .i64 0,.int .i64 0,.int .i64 0]
 v:Int:=0
 c:Int:=0
 k:Int:=0
 w:Int:=0
def Lk.cs (l:Lk):List D:=l.e++[.bool (decide (l.v < 0)),.sl (L (d6 l.v.natAbs)),.int .i64 l.c,.int .i64 l.k,.int .i64 l.w]
def Lk.d (l:Lk):D:=.agg l.cs
@[simp] theorem zl3 (f cs):(V.d (.fn f cs)).cells=[.d (.fn f cs)]:=rfl
end Go.Rf

namespace Go.Rf
set_option maxHeartbeats 16000000
def ed0:Ed:={ f:=0,t:=0,k:=0,at_:=⟨0,0,0,0⟩ }
structure Look where
 e:Ed:=ed0
 v:Int:=0
 c:Int:=0
 k:Int:=0
 w:Int:=0
def Look.cs (l:Look):List D:=[.int .i64 l.e.f,.int .i64 l.e.t,.int .i64 l.e.k,.int .i64 l.e.v,.int .i64 l.e.tk,.int .i64 l.e.mn,.sl (WL l.e.row),.int .i64 l.e.at_.b,.int .i64 l.e.at_.g,.int .i64 l.e.at_.l,.int .i64 l.e.at_.c,.bool (decide (l.v < 0)),.sl (L (d6 l.v.natAbs)),.int .i64 l.c,.int .i64 l.k,.int .i64 l.w]
@[simp] theorem fitV_gd (g:Gb):N6 (.d g.d)=true:=rfl
def qui (g:Gb) (w:Int):Ed→List Int→Ed
 | l,[]=>l
 | _,i :: r=>match g.edges[i.toNat]? with
   | some e=>if e.tk=w then e else qui g w e r
   | none=>ed0
end Go.Rf

namespace Go.Rf
set_option maxHeartbeats 16000000
def rawW (n:Int):RWh:=(decide (n < 0),d6 n.natAbs)
end Go.Rf

namespace Go.Rf
set_option maxHeartbeats 16000000
theorem qwb (l:List Int):(WL l).all (fun x=>x.cells.all qae)=true:=by
 induction l with
 | nil=>rfl
 | cons x l ih=>exact ih
attribute [simp] qwb
theorem qza (n:Int):Wh (Wd n)=true:=by
 show (true && (Wh (.sl (L (d6 n.natAbs))) && true))=true
 have:∀ l:List Int,Wh (.sl (L l))=true:=fun l=>by
  induction l with
  | nil=>rfl
  | cons x l ih=>simpa [L,Wh] using ih
 rw[this];rfl
attribute [simp] qza
def Ed.val (e:Ed) (st:List Int):Int:=zgt e.row (nth st) st.length + nth e.row st.length
def setL (e:Ed) (st:List Int):Look:=if 512 < nl (e.val st) then { k:=3,w:=2 } else { e:=e,v:=e.val st }
end Go.Rf

namespace Go.Rf
set_option maxHeartbeats 16000000
def Mc.reck (m:Mc) (i:Int):Int × Int × Int:=m.g.reck i (m.st.map rawW)
def zj8 (m:Mc) (e:Ed) (i:Int):Look:=if (m.reck i).2.2≠0 then { k:=3,w:=(m.reck i).2.2 } else { e:=e,v:=(m.reck i).1 }
def zgo (m:Mc) (o:List Int) (i:Int):Look:=if (m.reck i).2.2≠0 then { k:=3,w:=(m.reck i).2.2 } else { e:=qui m.g (if cmp (m.reck i).1 (m.reck i).2.1=0 then 1 else 0) ed0 o }
end Go.Rf

namespace Go.Rf
set_option maxHeartbeats 16000000
def zh1 (x n:Int):Int:=x.tmod n % n
def qqf (m:Mc) (o:List Int):Look:=match m.ch[m.used]? with
 | some x=>{ e:=qui m.g (zh1 x o.length) ed0 o,c:=1 }
 | none=>{ k:=2 }
end Go.Rf

namespace Go.Rf
set_option maxHeartbeats 16000000
def Mc.o (m:Mc):List Int:=m.g.outN m.p
def q1q (m:Mc) (e:Ed):Look:=match m.ch[m.used]? with
 | some x=>{ e:=e,v:=x,c:=1 }
 | none=>{ k:=2 }
def Mc.look (m:Mc):Look:=match m.o with
 | []=>{ k:=1 }
 | i :: r=>match m.g.edges[i.toNat]? with
   | none=>{}
   | some e=>if e.k=1 then { e:=e } else if e.k=2 then setL e m.st else if e.k=3 then q1q m e else if e.k=4 then zj8 m e i else if e.k=5 then qqf m (i :: r) else zgo m (i :: r) i
end Go.Rf

namespace Go.Rf
set_option maxHeartbeats 16000000
end Go.Rf

namespace Go.Rf
set_option maxHeartbeats 16000000
end Go.Rf

namespace Go.Rf
set_option maxHeartbeats 16000000
def Mc.take (m:Mc) (l:Look):Mc:={ m with p:=l.e.t,steps:=m.steps + 1,used:=m.used + l.c.toNat,st:=if 2≤l.e.k∧l.e.k≤4 then m.st.set l.e.v.toNat l.v else m.st }
def Mc.step (m:Mc):Mc:=m.take m.look
end Go.Rf

namespace Go.Rf
set_option maxHeartbeats 16000000
end Go.Rf

namespace Go.Rf
set_option maxHeartbeats 16000000
end Go.Rf

namespace Go.Rf
set_option maxHeartbeats 16000000
end Go.Rf

namespace Go.Rf
set_option maxHeartbeats 16000000
end Go.Rf

namespace Go.Rf
set_option maxHeartbeats 16000000
end Go.Rf

namespace Go.Rf
set_option maxHeartbeats 16000000
structure Gmo (g:Gb):Prop where
 gin:Gin g.vs.length g
 n:g.vs.length≤8
 lg:g.long=false
 pt:1≤g.out.length∧g.out.length≤64
 il:g.inn.length=g.out.length
 el:g.edges.length≤900000
 os:∀ i,(g.out.getD i []).length≤900000
 is:∀ i,(g.inn.getD i []).length≤900000
 bl:g.bs.length=g.vs.length
 bs:∀ b∈g.bs,nl b.n≤32∧b.name.length≤1000000
theorem Gmo.row {g:Gb} (h:Gmo g):∀ e∈g.edges,e.row.length≤9 ∧ ∀ x∈e.row,nl x≤32:=fun e he=>by
 have k:=(h.gin.ed e he).1;have:=k.l;have:=h.n;refine ⟨by omega,fun x hx=>?_⟩
 by_cases h2:e.k=2
 ·have:=h.gin.lg h.lg e he h2;unfold zX at this;rw[List.any_eq_false] at this;have:=this x hx;simp only[decide_eq_true_eq] at this;omega
 ·exact k.o h2 x hx
end Go.Rf

namespace Go.Rf
set_option maxHeartbeats 16000000
theorem q84 {n:Nat} {g:Gb} (h:Gin n g) (x:Int):Gin n { g with ex:=x }:=⟨h.ed,h.lg,h.o,h.i⟩
structure Gvb (vs:List (List UInt8)) (bs:List Bg) (g:Gb):Prop where
 i:Gin vs.length g
 v:g.vs=vs
 b:g.bs=bs
theorem qsv (vs bs):Keeps vs.length (Gvb vs bs) where
 pt g h:=⟨(wL _).pt g h.i,h.v,h.b⟩
 ed g e h a b c d f k:=⟨(wL _).ed g e h.i a b c d f k,h.v,h.b⟩
 lg g b h:=⟨(wL _).lg g b h.i,h.v,h.b⟩
 mr g s a h p q:=⟨(wL _).mr g s a h.i p q,h.v,h.b⟩
 st g s a h p q:=⟨(wL _).st g s a h.i p q,h.v,h.b⟩
 hd g s a h:=⟨(wL _).hd g s a h.i,h.v,h.b⟩
theorem qqt {g:Pg} (h:Pok g) (hb:g.bld.big=false):Gmo g.bld:=by
 have hn8:=h.n
 have hvl:g.vs.length=g.bs.length:=by simp[Pg.vs]
 have hsz:=h.sz;have k0:=qib (vs:=g.vs) (bs:=g.bs);have k:=U0 g.vs.length g.body k0 (a:=0) (by omega) (by simp[Gb.point,gb0]);have i0:Gvb g.vs g.bs (gb0 g.vs g.bs).point:=⟨⟨fun e he=>by simp[Gb.point,gb0] at he,fun _ e he=>by simp[Gb.point,gb0] at he,fun i j hj=>by cases i <;> simp[Gb.point,gb0] at hj,fun i j hj=>by cases i <;> simp[Gb.point,gb0] at hj⟩,rfl,rfl⟩;have i1:=kp (qsv g.vs g.bs) g.body h.fit k0 i0 (a:=0) (by omega) (by simp[Gb.point,gb0]);have le:=k.le;have hol:=k.ok.ol;have hel:=k.ok.el;have hgl:(gb0 g.vs g.bs).point.out.length=1:=rfl;unfold Gb.big at hb;rw[Bool.or_eq_false_iff] at hb;obtain ⟨b1,b2⟩:=hb;have b2:=of_decide_eq_false b2;unfold Pg.bld at b1 b2 ⊢;generalize Sms.bld g.vs.length g.body (gb0 g.vs g.bs).point 0=r at *;simp only[] at b1 b2 ⊢;have i2:=q84 i1.i r.2
 exact {
  gin:=(congrArg List.length i1.v) ▸ i2
  n:=by show r.1.vs.length≤8; rw[i1.v]; omega
  lg:=b1
  pt:=⟨by show 1≤r.1.out.length; omega,by show r.1.out.length≤64; have:¬ 64 < r.1.out.length:=b2; omega⟩
  il:=k.ok.il
  el:=by show r.1.edges.length≤_; omega
  os:=fun i=>by have:=k.ok.os i; show (r.1.out.getD i []).length≤_; omega
  is:=fun i=>by have:=k.ok.is i; show (r.1.inn.getD i []).length≤_; omega
  bl:=by show r.1.bs.length=r.1.vs.length; rw[i1.v,i1.b,hvl]
  bs:=fun b hm=>by
   change b∈r.1.bs at hm;rw[i1.b] at hm;have:=h.bs b hm;have:=this.name.l
   exact ⟨(h.bs b hm).val,by omega⟩ }
end Go.Rf

namespace Go.Rf
set_option maxHeartbeats 16000000
structure Sd where
 p:Int
 st:List Int
 s:Int
 u:Int
 w:Int
 c:Int
 deriving DecidableEq
def Sd.cs (x:Sd):List D:=[.int .i64 x.p,.sl (WL x.st),.int .i64 x.s,.int .i64 x.u,.int .i64 x.w,.int .i64 x.c]
end Go.Rf

namespace Go.Rf
set_option maxHeartbeats 16000000
theorem qsm {m n:Mc} (hg:m.g=n.g) (hp:m.p=n.p) (hs:m.st=n.st) (hc:m.ch[m.used]? = n.ch[n.used]?):m.look=n.look:=by
 obtain ⟨g,p,s,u,st,ch⟩:=m;obtain ⟨g2,p2,s2,u2,st2,ch2⟩:=n;simp only at hg hp hs hc;subst hg;subst hp;subst hs
 have h1:∀ e,q1q ⟨g,p,s,u,st,ch⟩ e=q1q ⟨g,p,s2,u2,st,ch2⟩ e:=fun e=>by unfold q1q; simp only[hc]
 have h2:∀ o,qqf ⟨g,p,s,u,st,ch⟩ o=qqf ⟨g,p,s2,u2,st,ch2⟩ o:=fun o=>by unfold qqf; simp only[hc]
 unfold Mc.look;show (match g.outN p with | []=>_ | i :: r=>_)=(match g.outN p with | []=>_ | i :: r=>_)
 cases g.outN p with
 | nil=>rfl
 | cons i r=>
   simp only[h1,h2];rfl
def Mc.with (m:Mc) (ch:List Int):Mc:={ m with ch:=ch }
structure Late (S:Int) (U:Nat) (m n:Mc):Prop where
 g:n.g=m.g
 p:n.p=m.p
 st:n.st=m.st
 s:n.steps + S=m.steps
 u:n.used + U=m.used
 ch:n.ch=m.ch.drop U
theorem Late.look {S U m n} (h:Late S U m n):n.look=m.look:=
 qsm h.g h.p h.st (by rw[h.ch,List.getElem?_drop,← h.u,Nat.add_comm])
end Go.Rf

namespace Go.Rf
set_option maxHeartbeats 16000000
def oGb:Option Gb→D
 | none=>.nilp
 | some g=>g.d
def WP (s:List UInt8):Option Gb:=match (jS s).1 with
 | none=>none
 | some g=>if g.bld.big=true then none else some g.bld
theorem qti {s:List UInt8} {g:Gb} (h:WP s=some g):Gmo g:=by
 unfold WP at h;split at h
 ·cases h
 ·rename_i p hp;split at h
  ·cases h
  ·rename_i hb;cases h;exact qqt (qb3 hp) (by simpa using hb)
theorem qv8:d5 T0 X0 qdk [.d .nilp] []=some (.ret [.d .nilp,.d (.int .i64 1)] []):=by
 rw[a8 (af:=vE) rfl rfl rfl];simp -implicitDefEqProofs (disch:=omega) [vE]
end Go.Rf

namespace Go.Rf
set_option maxHeartbeats 16000000
theorem q0j {L:List Ln} {i:Nat} (h:i < L.length):(LD lnL L)[i]? = some (.agg [.int .i64 (L[i]).kind,.int .i64 (L[i]).depth,.str (L[i]).text,.int .i64 (L[i]).at_.b,.int .i64 (L[i]).at_.g,.int .i64 (L[i]).at_.l,.int .i64 (L[i]).at_.c]):=zU lnL L h
theorem qy9 (A:D) (es:List Ed) (b:Bool) (L:List Ln) (hL:L.length≤6000) (hes:es.length≤900000):∀ d i (e:List (Nat × V)),d + i=L.length→
 j0 T0 X0 0 E6 (some (.nrm,⟨(6,.d (.box A)) :: (8,.d (.sl (LD eaL es))) :: (9,.d (.bool b)) :: (11,.d (.int .i64 ((L.take i).countP Y4))) :: (12,.d (.sl (LD lnL L))) :: (13,.d (.int .i64 i)) :: e,[]⟩)) =
  some (.exit 0,⟨[(6,.d (.box A)),(8,.d (.sl (LD eaL es))),(9,.d (.bool b)),(11,.d (.int .i64 (L.countP Y4)))],[]⟩):=by
 intro d
 induction d with
 | zero=>
   intro i e hi
   have:i=L.length:=by omega
   subst this;rw[List.take_length,c9 (l:=E6) rfl];simp -implicitDefEqProofs (disch:=omega) [E9]
 | succ d ih=>
   intro i e hi
   have hlt:i < L.length:=by omega
   have hget:=q0j hlt;have s2:=ih (i + 1) [] (by omega);have hcl:(L.take i).countP Y4≤i:=Nat.le_trans List.countP_le_length (by simp; omega)
   have hct:(L.take (i + 1)).countP Y4=(L.take i).countP Y4 + (if (L[i]).kind=5 then 1 else 0):=by
    rw[List.take_succ_eq_append_getElem hlt,List.countP_append];simp[List.countP_cons,Y4]
   rw[hct] at s2;rw[c9 (l:=E6) rfl];generalize L[i]=l at *;generalize (L.take i).countP Y4=c at *;push_cast at s2
   by_cases hk:l.kind=5
   ·simp only[hk,if_true,Int.cast_ofNat_Int] at s2 hget;simp (maxSteps:=4000000) -implicitDefEqProofs (disch:=omega) [E9,hget,s2]
   ·simp only[if_neg hk,Int.cast_ofNat_Int,Int.add_zero] at s2;simp (maxSteps:=4000000) -implicitDefEqProofs (disch:=omega) [E9,hget,s2,hk]
structure Rat (es:List Ed) (p:Ed→Int) (x:Int) (o:List Int):Prop where
 up:o.Pairwise (· < ·)
 e:∀ j∈o,0≤j∧j < es.length ∧ ∃ e,es[j.toNat]? = some e∧p e=x
 l:o.length≤900000
theorem Rat.get {es p x o} (h:Rat es p x o) {i:Nat} (hi:i < o.length):∃ (j:Nat) (e:Ed),(LD inL o)[i]? = some (.int .i64 j)∧(LD eaL es)[j]? = some (.agg e.a)∧e∈es∧p e=x∧o[i]=j∧j < es.length:=by
 obtain ⟨a,b,e,c,d⟩:=h.e _ (List.getElem_mem hi);obtain ⟨j,hj⟩:=Int.eq_ofNat_of_zero_le a;rw[hj,Int.toNat_natCast] at c;obtain ⟨hl,he⟩:=List.getElem?_eq_some_iff.1 c;exact ⟨j,e,by rw[zU inL o hi,hj]; rfl,by rw[qi0 hl,he],by rw[← he]; exact List.getElem_mem hl,d,hj,hl⟩
theorem q68 (A:D) (es:List Ed) (hes:es.length≤900000) (hrow:∀ e∈es,e.row.length≤9) (st ct al x:Int) {o oi:List Int} (h:Rat es Ed.f x o):∀ d i (e:List (Nat × V)),d + i=o.length→
 j0 T0 X0 0 E5 (some (.nrm,⟨(6,.d (.box A)) :: (8,.d (.sl (LD eaL es))) :: (11,.d (.int .i64 st)) :: (14,.d (.int .i64 ct)) :: (15,.d (.int .i64 al)) :: (16,.d (.int .i64 x)) :: (17,.d (.sl (LD inL o))) :: (18,.d (.sl (LD inL oi))) :: (19,.d (.int .i64 i)) :: e,[]⟩)) =
  some (.exit 4,⟨[(6,.d (.box A)),(8,.d (.sl (LD eaL es))),(11,.d (.int .i64 st)),(14,.d (.int .i64 ct)),(15,.d (.int .i64 al)),(16,.d (.int .i64 x)),(18,.d (.sl (LD inL oi)))],[]⟩):=by
 have hl:=h.l;intro d
 induction d with
 | zero=>
   intro i e hi
   have:i=o.length:=by omega
   subst this;rw[c9 (l:=E5) rfl];simp -implicitDefEqProofs (disch:=omega) [E8]
 | succ d ih=>
   intro i e hi
   have hlt:i < o.length:=by omega
   obtain ⟨j,ed,e1,e2,e3,e4,e5,e6⟩:=h.get hlt;have s2:=ih (i + 1) [] (by omega);have hr:=hrow _ e3;have e4:ed.f=x:=e4;simp only[Ed.a,e4] at e2;push_cast at s2;rw[c9 (l:=E5) rfl]
   cases i with
   | zero=>
     simp only[Int.cast_ofNat_Int,Int.zero_add] at s2 ⊢;simp (maxSteps:=4000000) -implicitDefEqProofs (disch:=omega) [E8,e1,e2,s2]
   | succ i=>
     obtain ⟨j',ed',f1,f2,f3,f4,f5,f6⟩:=h.get (i:=i) (by omega);have hlt2:=List.pairwise_iff_getElem.1 h.up i (i + 1) (by omega) hlt (by omega)
     have hjj:(j':Int) < j:=by rw[← e5,← f5]; exact hlt2
     have hix:((i + 1:Nat):Int) - 1=i:=by omega
     push_cast at s2 hix ⊢;simp (maxSteps:=4000000) -implicitDefEqProofs (disch:=omega) [E8,e1,e2,f1,s2,hix]
theorem q82 (A:D) (es:List Ed) (hes:es.length≤900000) (hrow:∀ e∈es,e.row.length≤9) (st ct al x:Int) {o:List Int} (h:Rat es Ed.t x o):∀ d i (e:List (Nat × V)),d + i=o.length→
 j0 T0 X0 0 E4 (some (.nrm,⟨(6,.d (.box A)) :: (8,.d (.sl (LD eaL es))) :: (11,.d (.int .i64 st)) :: (14,.d (.int .i64 ct)) :: (15,.d (.int .i64 al)) :: (16,.d (.int .i64 x)) :: (18,.d (.sl (LD inL o))) :: (20,.d (.int .i64 i)) :: e,[]⟩)) =
  some (.exit 6,⟨[(6,.d (.box A)),(8,.d (.sl (LD eaL es))),(11,.d (.int .i64 st)),(14,.d (.int .i64 ct)),(15,.d (.int .i64 al)),(16,.d (.int .i64 x))],[]⟩):=by
 have hl:=h.l;intro d
 induction d with
 | zero=>
   intro i e hi
   have:i=o.length:=by omega
   subst this;rw[c9 (l:=E4) rfl];simp -implicitDefEqProofs (disch:=omega) [E7]
 | succ d ih=>
   intro i e hi
   have hlt:i < o.length:=by omega
   obtain ⟨j,ed,e1,e2,e3,e4,e5,e6⟩:=h.get hlt;have s2:=ih (i + 1) [] (by omega);have hr:=hrow _ e3;have e4:ed.t=x:=e4;simp only[Ed.a,e4] at e2;push_cast at s2;rw[c9 (l:=E4) rfl]
   cases i with
   | zero=>
     simp only[Int.cast_ofNat_Int,Int.zero_add] at s2 ⊢;simp (maxSteps:=4000000) -implicitDefEqProofs (disch:=omega) [E7,e1,e2,s2]
   | succ i=>
     obtain ⟨j',ed',f1,f2,f3,f4,f5,f6⟩:=h.get (i:=i) (by omega);have hlt2:=List.pairwise_iff_getElem.1 h.up i (i + 1) (by omega) hlt (by omega)
     have hjj:(j':Int) < j:=by rw[← e5,← f5]; exact hlt2
     have hix:((i + 1:Nat):Int) - 1=i:=by omega
     push_cast at s2 hix ⊢;simp (maxSteps:=4000000) -implicitDefEqProofs (disch:=omega) [E7,e1,e2,f1,s2,hix]
end Go.Rf

namespace Go.Rf
set_option maxHeartbeats 16000000
structure Gol (g:Gb):Prop where
 w:Grw g
 fk:Gfk g
 z:g.inn.getD 0 []=[]
 pt:1≤g.out.length∧g.out.length≤64
 el:g.edges.length≤900000
 os:∀ i,(g.out.getD i []).length≤900000
 is:∀ i,(g.inn.getD i []).length≤900000
 row:∀ e∈g.edges,e.row.length≤9 ∧ ∀ x∈e.row,nl x≤32
theorem Gol.ro {g:Gb} (h:Gol g) {x:Nat}:Rat g.edges Ed.f x (g.out.getD x []):=⟨h.w.o.up x,h.w.o.e x,h.os x⟩
theorem Gol.ri {g:Gb} (h:Gol g) {x:Nat}:Rat g.edges Ed.t x (g.inn.getD x []):=⟨h.w.i.up x,h.w.i.e x,h.is x⟩
theorem qfg (l:List (List Int)) (i:Nat) (h:i < l.length):wk (l.take (i + 1))=wk (l.take i) + (l.getD i []).length:=by
 unfold wk;rw[List.take_succ_eq_append_getElem h,List.map_append,List.sum_append];simp[h]
theorem qp7 (l:List (List Int)) (i:Nat):wk (l.take i)≤wk l:=by
 unfold wk
 conv=>rhs; rw[← List.take_append_drop i l,List.map_append,List.sum_append]
 omega
def WT (g:Gb) (i:Nat):Nat:=(g.inn.take i).countP List.isEmpty - 1
theorem qtr {g:Gb} (hz:g.inn.getD 0 []=[]) (i:Nat) (h:i < g.inn.length):WT g (i + 1)=WT g i + (if (g.inn.getD i []).length=0∧0 < i then 1 else 0):=by
 unfold WT;rw[List.take_succ_eq_append_getElem h,List.countP_append]
 have hg:g.inn.getD i []=g.inn[i]:=by simp[h]
 rw[hg]
 cases i with
 | zero=>
   rw[hg] at hz;simp[hz]
 | succ i=>
   have h1:1≤(g.inn.take (i + 1)).countP List.isEmpty:=by
    rw[List.one_le_countP_iff]
    have h0:0 < g.inn.length:=by omega
    refine ⟨g.inn[0],?_,?_⟩
    ·rw[List.mem_take_iff_getElem];exact ⟨0,by omega,rfl⟩
    ·have:g.inn.getD 0 []=g.inn[0]:=by simp[h0]
     rw[← this,hz];rfl
   by_cases c:(g.inn[i + 1]).length=0
   ·have hc:(g.inn[i + 1]).isEmpty=true:=by rw[List.length_eq_zero_iff] at c; rw[c]; rfl
    simp[hc,c];omega
   ·have hc:(g.inn[i + 1]).isEmpty=false:=by cases hh:g.inn[i + 1] with
     | nil=>rw[hh] at c; exact absurd rfl c
     | cons=>rfl
    simp[hc,c]
theorem qzb {g:Gb} (h:Gol g) (st:Int) (i:Nat) (hi:i < g.out.length) (e:List (Nat × V)) :
 j0 T0 X0 0 x6 (some (.nrm,⟨(6,.d g.d) :: (8,.d (.sl (LD eaL g.edges))) :: (11,.d (.int .i64 st)) :: (14,.d (.int .i64 ((wk (g.out.take i) + wk (g.inn.take i):Nat):Int))) :: (15,.d (.int .i64 (WT g i))) :: (16,.d (.int .i64 i)) :: e,[]⟩)) =
  some (.nrm,⟨[(6,.d g.d),(8,.d (.sl (LD eaL g.edges))),(11,.d (.int .i64 st)),(14,.d (.int .i64 ((wk (g.out.take (i + 1)) + wk (g.inn.take (i + 1)):Nat):Int))),(15,.d (.int .i64 (WT g (i + 1)))),(16,.d (.int .i64 (i + 1)))],[]⟩):=by
 have hpt:=h.pt;have il:=h.w.il;have s1:=Ye g (by omega);have s2:=q2w g i (by omega) (fun i=>by have:=h.os i; omega);have s3:=zj6 g i (by omega) il (fun i=>by have:=h.is i; omega)
 have ho:g.outN i=g.out.getD i []:=by unfold Gb.outN; rw[if_pos ⟨by omega,by omega⟩,Int.toNat_natCast]
 have hn:g.inN i=g.inn.getD i []:=by unfold Gb.inN; rw[if_pos ⟨by omega,by omega⟩,Int.toNat_natCast]
 rw[ho] at s2;rw[hn] at s3;have ro:=h.ro (x:=i);have ri:=h.ri (x:=i);obtain ⟨es,hL,hF⟩:=h.fk.fk i hi;have s4:=qs1 hL (fun j hj=>(ro.e j hj).1) ro.l h.el h.row hF;have b1:=qp7 g.out i;have b2:=qp7 g.inn i;rw[h.w.o.s] at b1;rw[h.w.i.s] at b2;have hel:=h.el;have hs1:=qfg g.out i hi;have hs2:=qfg g.inn i (by omega);have ha:=qtr h.z i (by omega)
 have hal:WT g i≤i:=by
  unfold WT;have:(g.inn.take i).countP List.isEmpty≤i:=Nat.le_trans List.countP_le_length (by simp; omega);omega
 have hD:∃ D,g.d = .box D:=⟨_,rfl⟩;obtain ⟨D,hD⟩:=hD
 have l1:=fun st ct al=>q68 D g.edges h.el (fun e he=>(h.row e he).1) st ct al i (oi:=g.inn.getD i []) ro (g.out.getD i []).length 0 [] rfl
 have l2:=fun st ct al=>q82 D g.edges h.el (fun e he=>(h.row e he).1) st ct al i ri (g.inn.getD i []).length 0 [] rfl
 rw[hs1,hs2,ha];have q1:=ro.l;have q2:=ri.l;generalize g.out.getD i []=o at *;generalize g.inn.getD i []=oi at *;generalize wk (g.out.take i)=c1 at *;generalize wk (g.inn.take i)=c2 at *;generalize WT g i=al at *;simp only[Int.cast_ofNat_Int] at l1 l2;rw[hD] at s1 s2 s3 s4 ⊢;push_cast
 have hct:(c1:Int) + o.length + (c2 + oi.length)=c1 + c2 + o.length + oi.length:=by omega
 rw[hct]
 by_cases hz:oi.length=0
 ·by_cases hp:0 < i
  ·have hp2:(0:Int) < i:=by omega
   have hoi:oi=[]:=List.length_eq_zero_iff.1 hz;subst hoi;simp only[List.length_nil,true_and,if_pos hp,Int.cast_ofNat_Int,qjd] at s3 l1 l2 ⊢;simp (maxSteps:=4000000) -implicitDefEqProofs (disch:=omega) [x6,s1,s2,s3,s4,l1,l2]
  ·have:i=0:=by omega
   subst this;have hoi:oi=[]:=List.length_eq_zero_iff.1 hz;subst hoi;simp only[List.length_nil,true_and,Nat.lt_irrefl,if_false,Int.cast_ofNat_Int,qjd] at s2 s3 l1 l2 ⊢;simp (maxSteps:=4000000) -implicitDefEqProofs (disch:=omega) [x6,s1,s2,s3,s4,l1,l2]
 ·have hoi:oi≠[]:=fun h=>hz (by rw[h]; rfl)
  simp only[hz,false_and,if_false,Int.cast_ofNat_Int,Int.add_zero];simp (maxSteps:=4000000) -implicitDefEqProofs (disch:=omega) [x6,s1,s2,s3,s4,l1,l2,hoi]
theorem qzc {g:Gb} (h:Gol g) (st:Int):∀ d i (e:List (Nat × V)),d + i=g.out.length→
 j0 T0 X0 0 E3 (some (.nrm,⟨(6,.d g.d) :: (8,.d (.sl (LD eaL g.edges))) :: (11,.d (.int .i64 st)) :: (14,.d (.int .i64 ((wk (g.out.take i) + wk (g.inn.take i):Nat):Int))) :: (15,.d (.int .i64 (WT g i))) :: (16,.d (.int .i64 i)) :: e,[]⟩)) =
  some (.exit 2,⟨[(6,.d g.d),(8,.d (.sl (LD eaL g.edges))),(11,.d (.int .i64 st)),(14,.d (.int .i64 ((2 * g.edges.length:Nat):Int))),(15,.d (.int .i64 ((aln g - 1:Nat):Int)))],[]⟩):=by
 have hpt:=h.pt;have il:=h.w.il;intro d
 induction d with
 | zero=>
   intro i e hi
   have:i=g.out.length:=by omega
   subst this;have s1:=Ye g (by omega)
   have e1:wk (g.out.take g.out.length) + wk (g.inn.take g.out.length)=2 * g.edges.length:=by
    rw[List.take_length,List.take_of_length_le (by omega),h.w.o.s,h.w.i.s]; omega
   have e2:WT g g.out.length=aln g - 1:=by unfold WT aln; rw[List.take_of_length_le (by omega)]
   rw[e1,e2,c9 (l:=E3) rfl];have hD:∃ D,g.d = .box D:=⟨_,rfl⟩;obtain ⟨D,hD⟩:=hD;rw[hD] at s1 ⊢;simp -implicitDefEqProofs (disch:=omega) [x6,s1]
 | succ d ih=>
   intro i e hi;have s1:=qzb h st i (by omega) [];have s2:=ih (i + 1) [] (by omega);rw[c9 (l:=E3) rfl];have hD:∃ D,g.d = .box D:=⟨_,rfl⟩;obtain ⟨D,hD⟩:=hD;rw[hD] at s1 s2 ⊢;push_cast at s1 s2 ⊢;simp -implicitDefEqProofs (disch:=omega) [s1,s2]
end Go.Rf

namespace Go.Rf
set_option maxHeartbeats 16000000
def q00:List UInt8:=[118,97,114,115,32,120,59,32,108,111,111,112,32,123,32,120,32,58,61,32,50,32,42,32,120,59,32,125]
theorem zkb:(WP q00).map (fun g=>[(g.out.length:Int),g.ex,g.edges.length,(g.edges.getD 2 ed0).k,if g.pure then 1 else 0])=some [5,4,5,2,1]:=by decide +kernel
theorem qlu (s:List UInt8) (hs:s.length≤1100000):d5 T0 X0 JV [.d (.str s)] []=some (.ret [.d (oGb (WP s))] []):=by
 have s1:=Yi s hs;rw[a8 (af:=N9) rfl rfl rfl];unfold WP
 have hp:=fun g=>qb3 (s:=s) (g:=g)
 generalize jS s=q at *;obtain ⟨o,e,p⟩:=q
 cases o with
 | none=>
   have s2:=qv8;simp only[oG,oGb,Pl.cs] at s1 ⊢;simp (maxSteps:=4000000) -implicitDefEqProofs (disch:=omega) [N9,s1,s2]
 | some g=>
   have s2:=qqi (hp g rfl);unfold Pg.d at s2;simp only[oG,Pl.cs] at s1 ⊢
   by_cases hb:g.bld.big=true
   ·simp only[if_pos hb,oGb] at s2 ⊢;simp (maxSteps:=4000000) -implicitDefEqProofs (disch:=omega) [N9,s1,s2]
   ·simp only[if_neg hb,oGb] at s2 ⊢;simp (maxSteps:=4000000) -implicitDefEqProofs (disch:=omega) [N9,s1,s2]
theorem qlv:d5 T0 X0 JW [] []=some (.ret [.d (.bool true)] []):=by
 have s1:=qlu q00 (by decide);have k:=zkb
 cases hb:WP q00 with
 | none=>rw[hb] at k; cases k
 | some g=>
   rw[hb] at k s1;have hg:=qti hb;simp only[Option.map_some,Option.some.injEq,List.cons.injEq,and_true] at k;obtain ⟨k1,k2,k3,k4,k5⟩:=k
   have k5:g.pure=true:=by
    cases h:g.pure with
    | true=>rfl
    | false=>rw[h] at k5; simp at k5
   have hl2:2 < g.edges.length:=by omega
   have k4:(g.edges[2]).k=2:=by simpa [List.getD_eq_getElem?_getD,hl2] using k4
   have hpt:=hg.pt;have s2:=Ye g (by omega);have s3:=qxl g;have s4:=qiz g (by omega) (fun e he=>⟨by have:=(hg.row e he).1; omega,fun n hn=>by have:=(hg.row e he).2 n hn; omega⟩);have s5:=qvq g (by omega);have hge:=qi0 hl2;have hr:=(hg.row _ (List.getElem_mem hl2)).1;generalize g.edges[2]=ed at *
   have hle:g.edges.length=5:=by omega
   simp only[Ed.a,k4] at hge;rw[a8 (af:=zN) rfl rfl rfl];have hD:∃ D,g.d = .box D:=⟨_,rfl⟩;obtain ⟨D,hD⟩:=hD;have hw:(5 * wl (LD eaL g.edges)≤A5)=True:=eq_true (Nat.le_trans (Nat.mul_le_mul_left 5 (qbi eaL _)) (by decide));simp only[q00,oGb,hD,k1,k2,k5] at s1 s2 s3 s4 s5;clear k1 k2 k3 k5 hg hb;simp (maxSteps:=4000000) -implicitDefEqProofs (disch:=omega) [zN,s1,s2,s3,s4,s5,hge,hle,hw]
theorem q83 {p:Pg} (h:Pok p) (hb:p.bld.big=false):Gol p.bld:=by
 have g:=qqs h;have m:=qqt h hb;exact ⟨g.w,g.fk,g.z,m.pt,m.el,m.os,m.is,m.row⟩
theorem qn2 (s:List UInt8) (hs:s.length≤1100000):d5 T0 X0 vJ [.d (.str s)] []=some (.ret [.d (.bool true)] []):=by
 have s0:=qlv;have s1:=Yi s hs
 have hp:=fun g=>qb3 (s:=s) (g:=g)
 rw[a8 (af:=C3) rfl rfl rfl];generalize jS s=q at *;obtain ⟨o,e,pp⟩:=q
 cases o with
 | none=>
   have s2:=qv8;simp only[oG,Pl.cs] at s1;simp (maxSteps:=4000000) -implicitDefEqProofs (disch:=omega) [C3,s0,s1,s2]
 | some p=>
   have hk:=hp p rfl;have s2:=qqi hk;unfold Pg.d at s2;simp only[oG,Pl.cs] at s1
   by_cases hb:p.bld.big=true
   ·simp only[if_pos hb] at s2;simp (maxSteps:=4000000) -implicitDefEqProofs (disch:=omega) [C3,s0,s1,s2]
   ·have hbf:p.bld.big=false:=by simpa using hb
    have gl:=q83 hk hbf;have gs:=qqs hk;have s3:=qiz p.bld (by have:=gl.el; omega) (fun e he=>⟨by have:=(gl.row e he).1; omega,fun n hn=>by have:=(gl.row e he).2 n hn; omega⟩);have s4:=qsf hk;have s5:=qpy hk;have hpt:=gl.pt;have hel:=gl.el;have s6:=Ye p.bld (by omega);have s7:=qxl p.bld;have s8:=qvq p.bld (by omega);have s9:=q2w p.bld p.bld.out.length (by omega) (fun i=>by have:=gl.os i; omega);have sa:=zj6 p.bld (-1) (by omega) gl.w.il (fun i=>by have:=gl.is i; omega)
    have n1:p.bld.outN p.bld.out.length=[]:=by unfold Gb.outN; rw[if_neg (by omega)]
    have n2:p.bld.inN (-1)=[]:=by unfold Gb.inN; rw[if_neg (by omega)]
    rw[n1] at s9;rw[n2] at sa;have hD:∃ D,p.bld.d = .box D:=⟨_,rfl⟩;obtain ⟨D,hD⟩:=hD
    have hlines:p.lines.length≤6000:=by
     have:=F6 0 p.body;have:=hk.sz;unfold Pg.lines;simp only[List.length_cons];omega
    have st:=qvw p;have lp0:=qy9 D p.bld.edges (decide (p.w.hard.length=0)) p.lines hlines gl.el p.lines.length 0 [] rfl;have lp3:=qzc gl (p.lines.countP Y4) p.bld.out.length 0 [] rfl;have hal:=gs.al
    have hal2:((aln p.bld - 1:Nat):Int)=(p.lines.countP Y4:Nat):=by rw[st]; omega
    have hex:=gs.ex;have hee:=gs.ee;have hpu:=gs.pu;rw[hal2] at lp3;have hcs:p.lines.countP Y4≤6000:=Nat.le_trans List.countP_le_length hlines;simp only[if_neg hb] at s2
    have e0:WT p.bld 0=0:=by simp[WT]
    rw[e0] at lp3;simp only[List.take_zero,List.countP_nil,Int.cast_ofNat_Int,show wk []=0 from rfl,Nat.add_zero] at lp0 lp3;rw[hpu] at s8;unfold Pg.d at s4 s5;generalize p.lines.countP Y4=cs at *;generalize p.lines=L at *;generalize decide (p.w.hard.length=0)=pu at *;generalize p.w.bad=bd at *;generalize p.bld=g at *;clear gl gs hk hp st hal hal2 hb hbf hpu;simp only[hD,Pl.cs] at s2 s3 s4 s5 s6 s7 s8 s9 sa lp3;push_cast at lp3;simp (maxSteps:=4000000) -implicitDefEqProofs (disch:=omega) [C3,s0,s1,s2,s3,s4,s5,s6,s7,s8,s9,sa,lp0,lp3]
end Go.Rf
