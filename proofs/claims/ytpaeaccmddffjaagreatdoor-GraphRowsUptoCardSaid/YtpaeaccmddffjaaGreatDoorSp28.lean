/- Parts of the proof. -/
import Derived.Test.YtpaeaccmddffjaaGreatDoorRb2
import Derived.Test.YtpaeaccmddffjaaGreatDoorSp13
import Derived.Test.YtpaeaccmddffjaaGreatDoorSp27
import Derived.Test.YtpaeaccmddffjaaGreatDoorSp26
import Derived.Test.YtpaeaccmddffjaaGreatDoorSp8
import Derived.Test.YtpaeaccmddffjaaGreatDoorSp16
import Derived.Test.YtpaeaccmddffjaaGreatDoorSp12
set_option linter.all false
namespace Go.Rf
set_option maxHeartbeats 8000000
def Ed.er (e:Ed):Ed:={ e with at_:=g9 }
structure Gq (g h:Gb):Prop where
 vs:g.vs=h.vs
 ed:g.edges.map Ed.er=h.edges.map Ed.er
 out:g.out=h.out
 inn:g.inn=h.inn
 mks:g.marks=h.marks
 lg:g.long=h.long
theorem Gq.refl (g:Gb):Gq g g:=⟨rfl,rfl,rfl,rfl,rfl,rfl⟩
theorem Gq.symm {g h:Gb} (a:Gq g h):Gq h g:=⟨a.vs.symm,a.ed.symm,a.out.symm,a.inn.symm,a.mks.symm,a.lg.symm⟩
theorem Gq.trans {g h k:Gb} (a:Gq g h) (b:Gq h k):Gq g k:=⟨a.vs.trans b.vs,a.ed.trans b.ed,a.out.trans b.out,a.inn.trans b.inn,a.mks.trans b.mks,a.lg.trans b.lg⟩
section
variable {g h:Gb} (a:Gq g h)
include a
theorem Gq.len:g.edges.length=h.edges.length:=by have:=congrArg List.length a.ed; simpa using this
theorem Gq.point:Gq g.point h.point:=⟨a.vs,a.ed,by simp only[Gb.point,a.out],by simp only[Gb.point,a.inn],a.mks,a.lg⟩
theorem Gq.edge (e e':Ed) (he:e.er=e'.er):Gq (g.edge e) (h.edge e'):=by
 have hf:e.f=e'.f:=by have:=congrArg Ed.f he; exact this
 have ht:e.t=e'.t:=by have:=congrArg Ed.t he; exact this
 exact ⟨a.vs,by simp only[Gb.edge,List.map_append,List.map_cons,List.map_nil,a.ed,he],by simp only[Gb.edge,a.out,hf,a.len],by simp only[Gb.edge,a.inn,ht,a.len],a.mks,a.lg⟩
theorem Gq.edge2 {x y:Int} (e:x=y) (t k:Int) (p q:Pl):Gq (g.edge { f:=x,t,k,at_:=p }) (h.edge { f:=y,t,k,at_:=q }):=a.edge _ _ (by rw[Ed.er,Ed.er,e])
theorem Gq.mark (s:List UInt8) (x y:Int):Gq (g.mark s x) (h.mark s y):=⟨a.vs,a.ed,a.out,a.inn,by simp only[Gb.mark,a.mks],a.lg⟩
theorem Gq.start (x y z w:Int):Gq (g.start x y) (h.start z w):=⟨a.vs,a.ed,a.out,a.inn,a.mks,a.lg⟩
theorem Gq.head (x y z w:Int):Gq (g.head x y) (h.head z w):=⟨a.vs,a.ed,a.out,a.inn,a.mks,a.lg⟩
theorem Gq.long (b:Bool):Gq { g with long:=g.long || b } { h with long:=h.long || b }:=⟨a.vs,a.ed,a.out,a.inn,a.mks,by simp only[a.lg]⟩
end
theorem qrt (p q:Pl) (j:Int):∀ (l:List Int) {g h:Gb},Gq g h→Gq (kD p j l g) (kD q j l h)
 | [],_,_,a=>a
 | e :: l,_,_,a=>qrt p q j l (a.edge { f:=e,t:=j,k:=1,at_:=p } { f:=e,t:=j,k:=1,at_:=q } rfl)
structure Gq2 (x y:Gb × Int):Prop where
 g:Gq x.1 y.1
 a:x.2=y.2
theorem qzj:∀ l:List Bl,(Bls.er l).length=l.length
 | []=>rfl
 | .mk _ _ :: l=>by simp only[Bls.er,List.length_cons,qzj l]
section
variable (n:Nat)
mutual
theorem sm_q:∀ (s:Sm) {g h:Gb} (a:Int),Gq g h→Gq2 (s.bld n g a) (s.er.bld n h a)
 | .set p v t e,g,h,a,q=>by
   simp only[Sm.er,Sm.bld,← q.out]
   cases e with
   | none=>exact ⟨q.point.edge _ _ rfl,rfl⟩
   | some x=>
     simp only[];split
     ·have:=(q.point.long (zp (q8 n x).1));exact ⟨(show Gq { g.point with long:=g.long || zp (q8 n x).1 } { h.point with long:=h.long || zp (q8 n x).1 } from this).edge _ _ rfl,rfl⟩
     ·exact ⟨q.point.edge _ _ rfl,rfl⟩
 | .skip p,g,h,a,q=>by
   simp only[Sm.er,Sm.bld,← q.out];exact ⟨q.point.edge _ _ rfl,rfl⟩
 | .stop p,g,h,a,q=>by
   simp only[Sm.er,Sm.bld,← q.out];exact ⟨q.point,rfl⟩
 | .mark p s,g,h,a,q=>by
   simp only[Sm.er,Sm.bld];exact ⟨q.mark ..,rfl⟩
 | .choose p bs,g,h,a,q=>by
   obtain ⟨i1,i2⟩:=q51 p g9 a bs.length 0 bs q;simp only[Sm.er,Sm.bld,qzj,← i2,← i1.out];exact ⟨qrt _ _ _ _ i1.point,rfl⟩
 | .loop p b,g,h,a,q=>by
   have i:=KJ b (g.out.length + 1) (((q.point.edge { f:=a,t:=g.out.length,k:=1,at_:=p } { f:=a,t:=g.out.length,k:=1,at_:=g9 } rfl).point).edge { f:=g.out.length,t:=g.out.length + 1,k:=5,tk:=1,mn:=2,at_:=p } { f:=g.out.length,t:=g.out.length + 1,k:=5,tk:=1,mn:=2,at_:=g9 } rfl);have j:=i.g.edge2 i.a g.out.length 1 p g9;simp only[Sm.er,Sm.bld,← q.out,← j.out];exact ⟨j.point.edge _ _ rfl,rfl⟩
 | .ifs p x y c b,g,h,a,q=>by
   have i:=KJ b g.out.length (q.point.edge (tEd n a g.out.length x y c true p) (tEd n a g.out.length x y c true g9) rfl);have j:=i.g.point.edge (tEd n a (Sms.bld n b (g.point.edge (tEd n a g.out.length x y c true p)) g.out.length).1.out.length x y c false p) (tEd n a (Sms.bld n b (g.point.edge (tEd n a g.out.length x y c true p)) g.out.length).1.out.length x y c false g9) rfl;simp only[Sm.er,Sm.bld,← q.out,← i.g.out,← j.out];exact ⟨(j.point.edge2 i.a _ _ _ _).edge _ _ rfl,rfl⟩
 | .ife p x y c b pe e,g,h,a,q=>by
   have i:=KJ b g.out.length (q.point.edge (tEd n a g.out.length x y c true p) (tEd n a g.out.length x y c true g9) rfl);have j:=KJ e (Sms.bld n b (g.point.edge (tEd n a g.out.length x y c true p)) g.out.length).1.out.length (i.g.point.edge (tEd n a (Sms.bld n b (g.point.edge (tEd n a g.out.length x y c true p)) g.out.length).1.out.length x y c false p) (tEd n a (Sms.bld n b (g.point.edge (tEd n a g.out.length x y c true p)) g.out.length).1.out.length x y c false g9) rfl);simp only[Sm.er,Sm.bld,← q.out,← i.g.out,← j.g.out];exact ⟨(j.g.point.edge2 i.a _ _ _ _).edge2 j.a _ _ _ _,rfl⟩
 | .while p x y c b,g,h,a,q=>by
   have i:=KJ b (g.out.length + 1) ((((q.point.head p.b g.out.length g9.b g.out.length).edge { f:=a,t:=g.out.length,k:=1,at_:=p } { f:=a,t:=g.out.length,k:=1,at_:=g9 } rfl).point).edge (tEd n g.out.length (g.out.length + 1) x y c true p) (tEd n g.out.length (g.out.length + 1) x y c true g9) rfl);have j:=i.g.edge2 i.a g.out.length 1 p g9;simp only[Sm.er,Sm.bld,← q.out,← j.out];exact ⟨j.point.edge _ _ rfl,rfl⟩
theorem KJ:∀ (l:List Sm) {g h:Gb} (a:Int),Gq g h→Gq2 (Sms.bld n l g a) (Sms.bld n (Sms.er l) h a)
 | [],g,h,a,q=>⟨q,rfl⟩
 | s :: l,g,h,a,q=>by
   have i:=sm_q s a (q.start s.at_.b a s.er.at_.b a);simp only[Sms.er,Sms.bld,← i.a];exact KJ l _ i.g
theorem q51 (p r:Pl) (f mn:Int):∀ (k:Int) (l:List Bl) {g h:Gb},Gq g h→Gq (Bls.bld n p f mn k l g).1 (Bls.bld n r f mn k (Bls.er l) h).1∧(Bls.bld n p f mn k l g).2=(Bls.bld n r f mn k (Bls.er l) h).2
 | k,[],g,h,q=>⟨q,rfl⟩
 | k,.mk _ b :: l,g,h,q=>by
   have i:=KJ b g.out.length (q.point.edge { f,t:=g.out.length,k:=5,tk:=k,mn,at_:=p } { f,t:=g.out.length,k:=5,tk:=k,mn,at_:=r } rfl);obtain ⟨j1,j2⟩:=q51 p r f mn (k + 1) l i.g;simp only[Bls.er,Bls.bld,← q.out];exact ⟨j1,by rw[i.a,j2]⟩
end
end
theorem qz1 {n:Nat} {l l':List Sm} (h:Sms.er l=Sms.er l') {g g':Gb} (q:Gq g g') (a:Int):Gq2 (Sms.bld n l g a) (Sms.bld n l' g' a):=by
 have i:=KJ n l a q;have j:=KJ n l' a (Gq.refl g');rw[h] at i;exact ⟨i.g.trans j.g.symm,i.a.trans j.a.symm⟩
theorem qsr (n:Nat):∀ (l k:List Sm) (g:Gb) (a:Int),Sms.bld n (l++k) g a=Sms.bld n k (Sms.bld n l g a).1 (Sms.bld n l g a).2
 | [],k,g,a=>rfl
 | s :: l,k,g,a=>by simp only[List.cons_append,Sms.bld]; exact qsr n l k _ _
structure Gle (g h:Gb):Prop where
 ed:g.edges <+: h.edges
 mks:g.marks <+: h.marks
 out:g.out.length≤h.out.length
theorem Gle.refl (g:Gb):Gle g g:=⟨List.prefix_refl _,List.prefix_refl _,Nat.le_refl _⟩
theorem Gle.trans {a b c:Gb} (h:Gle a b) (k:Gle b c):Gle a c:=⟨h.ed.trans k.ed,h.mks.trans k.mks,Nat.le_trans h.out k.out⟩
theorem wA (g:Gb):Gle g g.point:=⟨List.prefix_refl _,List.prefix_refl _,by rw[po]; omega⟩
theorem qc7 (g:Gb) (e:Ed):Gle g (g.edge e):=⟨List.prefix_append _ _,List.prefix_refl _,by rw[eo]; exact Nat.le_refl _⟩
theorem Gle.pe {g h:Gb} (k:Gle g h) (e:Ed):Gle g (h.point.edge e):=(k.trans (wA h)).trans (qc7 _ e)
theorem Gle.e {g h:Gb} (k:Gle g h) (e:Ed):Gle g (h.edge e):=k.trans (qc7 _ e)
theorem ql5 (p:Pl) (j:Int):∀ (l:List Int) (g:Gb),Gle g (kD p j l g)
 | [],g=>.refl g
 | e :: l,g=>(qc7 g _).trans (ql5 p j l _)
structure Fst (g:Gb) (a:Int) (r:Gb × Int):Prop where
 le:Gle g r.1
 fs:r.1.edges=g.edges∧(r.2=a∨(g.out.length:Int)≤r.2) ∨ ∃ e,r.1.edges[g.edges.length]? = some e∧(e.f=a∨(g.out.length:Int)≤e.f)
theorem qxo {α:Type} {l m:List α} {e:α} (h:l++[e] <+: m):m[l.length]? = some e:=by
 obtain ⟨t,rfl⟩:=h;simp
theorem Zw {g g1 h:Gb} {a b:Int} {e:Ed} (k:Gle g1 h) (h1:g1.edges=g.edges++[e]) (ho:g.out.length≤g1.out.length) (hm:g1.marks=g.marks) (hf:e.f=a):Fst g a (h,b):=
 ⟨⟨(show g.edges <+: g1.edges by rw[h1]; exact List.prefix_append _ _).trans k.ed,by rw[← hm]; exact k.mks,Nat.le_trans ho k.out⟩,.inr ⟨e,qxo (h1 ▸ k.ed),.inl hf⟩⟩
section
variable (n:Nat)
mutual
theorem q6z:∀ (s:Sm) (g:Gb) (a:Int),Fst g a (s.bld n g a)
 | .set p v t e,g,a=>by
   simp only[Sm.bld]
   cases e with
   | none=>exact Zw (.refl _) rfl (by rw[eo,po]; omega) rfl rfl
   | some x=>
     simp only[];split
     ·exact Zw (.refl _) rfl (by rw[eo]; show _≤g.point.out.length; rw[po]; omega) rfl rfl
     ·exact Zw (.refl _) rfl (by rw[eo,po]; omega) rfl rfl
 | .skip p,g,a=>Zw (.refl _) rfl (by rw[eo,po]; omega) rfl rfl
 | .stop p,g,a=>⟨wA g,.inl ⟨rfl,.inr (Int.le_refl _)⟩⟩
 | .mark p s,g,a=>⟨⟨List.prefix_refl _,List.prefix_append _ _,Nat.le_refl _⟩,.inl ⟨rfl,.inl rfl⟩⟩
 | .choose p [],g,a=>⟨wA g,.inl ⟨rfl,.inr (Int.le_refl _)⟩⟩
 | .choose p (.mk q b :: bs),g,a=>by
   simp only[Sm.bld,Bls.bld];have k1:=(kX b (g.point.edge { f:=a,t:=g.out.length,k:=5,tk:=0,mn:=((Bl.mk q b :: bs).length:Int),at_:=p }) g.out.length).le;have k2:=k1.trans (qsq p a ((Bl.mk q b :: bs).length:Int) bs (0 + 1) _);exact Zw ((k2.trans (wA _)).trans (ql5 ..)) rfl (by rw[eo,po]; omega) rfl rfl
 | .loop p b,g,a=>by
   simp only[Sm.bld];have k0:Gle (g.point.edge { f:=a,t:=g.out.length,k:=1,at_:=p }) ((g.point.edge { f:=a,t:=g.out.length,k:=1,at_:=p }).point.edge { f:=g.out.length,t:=g.out.length + 1,k:=5,tk:=1,mn:=2,at_:=p }):=(Gle.refl _).pe _;have k1:=k0.trans (kX b _ (g.out.length + 1)).le;exact Zw ((k1.e _).pe _) rfl (by rw[eo,po]; omega) rfl rfl
 | .ifs p x y c b,g,a=>by
   simp only[Sm.bld];have k1:=(kX b (g.point.edge (tEd n a g.out.length x y c true p)) g.out.length).le;exact Zw ((((k1.pe _).trans (wA _)).e _).e _) rfl (by rw[eo,po]; omega) rfl rfl
 | .ife p x y c b pe e,g,a=>by
   simp only[Sm.bld];have k1:=(kX b (g.point.edge (tEd n a g.out.length x y c true p)) g.out.length).le;exact Zw (((((k1.pe _).trans (kX e _ _).le).trans (wA _)).e _).e _) rfl (by rw[eo,po]; omega) rfl rfl
 | .while p x y c b,g,a=>by
   simp only[Sm.bld];have k0:Gle ((g.point.head p.b g.out.length).edge { f:=a,t:=g.out.length,k:=1,at_:=p }) (((g.point.head p.b g.out.length).edge { f:=a,t:=g.out.length,k:=1,at_:=p }).point.edge (tEd n g.out.length (g.out.length + 1) x y c true p)):=(Gle.refl _).pe _;have k1:=k0.trans (kX b _ (g.out.length + 1)).le;exact Zw ((k1.e _).pe _) rfl (by rw[eo]; show _≤g.point.out.length; rw[po]; omega) rfl rfl
theorem kX:∀ (l:List Sm) (g:Gb) (a:Int),Fst g a (Sms.bld n l g a)
 | [],g,a=>⟨.refl g,.inl ⟨rfl,.inl rfl⟩⟩
 | s :: l,g,a=>by
   have h:=q6z s (g.start s.at_.b a) a;have k:=kX l (s.bld n (g.start s.at_.b a) a).1 (s.bld n (g.start s.at_.b a) a).2;simp only[Sms.bld];have hl:Gle g (s.bld n (g.start s.at_.b a) a).1:=⟨h.le.ed,h.le.mks,h.le.out⟩;refine ⟨hl.trans k.le,?_⟩;have ho:=hl.out;rcases h.fs with ⟨h1,h2⟩ | ⟨e,h1,h2⟩
   ·have h1:(s.bld n (g.start s.at_.b a) a).1.edges=g.edges:=h1;have h2:(s.bld n (g.start s.at_.b a) a).2=a∨(g.out.length:Int)≤(s.bld n (g.start s.at_.b a) a).2:=h2;rcases k.fs with ⟨k1,k2⟩ | ⟨e,k1,k2⟩
    ·exact .inl ⟨k1.trans h1,by omega⟩
    ·rw[h1] at k1;exact .inr ⟨e,k1,by omega⟩
   ·refine .inr ⟨e,?_,h2⟩;obtain ⟨t,ht⟩:=k.le.ed;rw[← ht,List.getElem?_append_left]
    ·exact h1
    ·exact (List.getElem?_eq_some_iff.1 h1).1
theorem qsq (p:Pl) (f mn:Int):∀ (l:List Bl) (k:Int) (g:Gb),Gle g (Bls.bld n p f mn k l g).1
 | [],k,g=>.refl g
 | .mk _ b :: l,k,g=>by
   simp only[Bls.bld];have k1:=((Gle.refl g).pe { f,t:=g.out.length,k:=5,tk:=k,mn,at_:=p }).trans (kX b _ g.out.length).le;exact k1.trans (qsq p f mn l (k + 1) _)
end
end
def Gb.outN (g:Gb) (p:Int):List Int:=if 0≤p∧p < g.out.length then g.out.getD p.toNat [] else []
@[simp] theorem LO_len (l):(LO l).length=l.length:=by simp[LO]
@[simp] theorem fit_LO {n:Nat} (l) (h:n≤1099511627776):(n * wl (LO l)≤w8)=True:=eq_true (Nat.le_trans (Nat.mul_le_mul h (q3s l)) (by decide))
@[simp] theorem fit_ed {n:Nat} (l) (h:n≤100000000):(n * wl (LD edL l)≤w8)=True:=eq_true (Nat.le_trans (Nat.mul_le_mul h (qkc edL l)) (by decide))
@[simp] theorem fit_tx {n:Nat} (l) (h:n≤1099511627776):(n * wl (LD txL l)≤w8)=True:=qdf txL l (by decide) h
theorem Xt (g:Gb) (h:g.out.length≤1000000):d6 T0 X0 kq [.d g.d] []=some (.ret [.d (.int .i64 g.out.length)] []):=by
 rw[c9 (af:=L0) rfl rfl rfl];simp only[Gb.d];simp -implicitDefEqProofs (disch:=omega) [L0]
theorem qjm (g:Gb):d6 T0 X0 Kw [.d g.d] []=some (.ret [.d (.int .i64 g.ex)] []):=by
 rw[c9 (af:=xo) rfl rfl rfl];simp only[Gb.d];simp -implicitDefEqProofs (disch:=omega) [xo]
def Ed.a (e:Ed):List D:=[.int .i64 e.f,.int .i64 e.t,.int .i64 e.k,.int .i64 e.v,.int .i64 e.tk,.int .i64 e.mn,.sl (WL e.row),.int .i64 e.at_.b,.int .i64 e.at_.g,.int .i64 e.at_.l,.int .i64 e.at_.c]
theorem qzl {l:List Ed} {i:Nat} (h:i < l.length):(LD edL l)[i]? = some (.agg (l[i]).cs):=jM edL l h
theorem qa3 (g:Gb) (h:g.marks.length≤1000000):d6 T0 X0 JN [.d g.d] []=some (.ret [.d (.sl (LD txL g.marks))] []):=by
 rw[c9 (af:=zC) rfl rfl rfl];simp only[Gb.d];simp -implicitDefEqProofs (disch:=omega) [zC]
set_option maxHeartbeats 16000000
@[simp] theorem fitC_oD (x:Option Nd):XS (oD x)=true:=by cases x with
  | none=>rfl
  | some x=>cases x <;> rfl
theorem qqb (xs:List Int) (hb:xs.length≤1000000) (hn:∀ n∈xs,nl n≤512):∀ d i (e:List (Nat × V)),d + i=xs.length→
 j6 T0 X0 0 z7 (some (.nrm,⟨(1,.d (.fn V9 [])) :: (5,.ref (.b 0) ⟨2,32⟩ 0 i) :: (11,.d (.sl (WL xs))) :: (12,.d (.int .i64 xs.length)) :: (13,.d (.int .i64 i)) :: e,[.arr (WV (xs.take i)) ⟨2,32⟩]⟩)) =
  some (.exit 0,⟨[(5,.ref (.b 0) ⟨2,32⟩ 0 xs.length)],[.arr (WV xs) ⟨2,32⟩]⟩):=by
 intro d
 induction d with
 | zero=>
   intro i e hi
   have:i=xs.length:=by omega
   subst this;rw[List.take_length,d5 (l:=z7) rfl];simp -implicitDefEqProofs (disch:=omega) [D6]
 | succ d ih=>
   intro i e hi
   have hlt:i < xs.length:=by omega
   have hget:=q0a hlt
   have hx:nth xs i=xs[i]:=by simp[nth,hlt]
   have s1:=QS (m:=nth xs i) (by rw[hx]; have:=hn _ (List.getElem_mem hlt); omega);have hnl:=hn _ (List.getElem_mem hlt);rw[← hx] at hnl;unfold nl at hnl
   have hnx:WV (xs.take i)++[.d (Wd (nth xs i))]=WV (xs.take (i + 1)):=by
    rw[List.take_succ_eq_append_getElem hlt,hx];exact qsy _ _
   have hlen:(xs.take i).length=i:=by simp; omega
   rw[← ih (i + 1) [] (by omega)];rw[d5 (l:=z7) rfl];rw[← hnx];generalize nth xs i=b at *;generalize xs.take i=ys at *;have htk:ys.take i=ys:=List.take_of_length_le (by omega);have happ:=qsy ys b;simp only[Wd] at hget s1 happ ⊢;simp (maxSteps:=4000000) -implicitDefEqProofs (disch:=omega) [-qsx,D6,hget,hlen,htk,s1,happ]
theorem qqa (xs:List Int) (hb:xs.length≤1000000) (hn:∀ n∈xs,nl n≤512):d6 T0 X0 xR [.d (.sl (WL xs)),.d (.fn V9 [])] []=some (.ret [.ref (.b 0) ⟨2,32⟩ 0 xs.length] [.arr (WV xs) ⟨2,32⟩]):=by
 have s1:=qqb xs hb hn xs.length 0 [] rfl;rw[c9 (af:=H7) rfl rfl rfl];simp only[List.take_zero,qz9,Int.cast_ofNat_Int] at s1;simp (maxSteps:=4000000) -implicitDefEqProofs (disch:=omega) [H7,s1]
theorem qmy (e:Ed) (hb:e.row.length≤1000000) (hn:∀ n∈e.row,nl n≤512):d6 T0 X0 C5 [.d (.agg e.cs)] []=some (.ret [.d (.agg e.a)] []):=by
 have s1:=qqa e.row hb hn;rw[c9 (af:=Z1) rfl rfl rfl];simp only[Ed.cs,Ed.a];simp (maxSteps:=4000000) -implicitDefEqProofs (disch:=omega) [Z1,s1]
def eaL:Lst Ed:=⟨fun e=>.agg e.a,⟨11,104⟩,fun e=>by simp[wt,wts,Ed.a,IntKind.bits],fun e=>rfl,by decide⟩
@[simp] theorem wl_ea (l):(wl (LD eaL l)≤104)=True:=QT eaL l
@[simp] theorem fit_ea {n:Nat} (l) (h:n≤100000000):(n * wl (LD eaL l)≤w8)=True:=eq_true (Nat.le_trans (Nat.mul_le_mul h (qkc eaL l)) (by decide))
theorem qqd (es:List Ed) (hb:es.length≤1000000) (hn:∀ e∈es,e.row.length≤1000000 ∧ ∀ n∈e.row,nl n≤512):∀ d i (e:List (Nat × V)),d + i=es.length→
 j6 T0 X0 0 z6 (some (.nrm,⟨(1,.d (.fn C5 [])) :: (5,.ref (.b 0) ⟨11,104⟩ 0 i) :: (11,.d (.sl (LD edL es))) :: (12,.d (.int .i64 es.length)) :: (13,.d (.int .i64 i)) :: e,[.arr (LW eaL (es.take i)) ⟨11,104⟩]⟩)) =
  some (.exit 0,⟨[(5,.ref (.b 0) ⟨11,104⟩ 0 es.length)],[.arr (LW eaL es) ⟨11,104⟩]⟩):=by
 intro d
 induction d with
 | zero=>
   intro i e hi
   have:i=es.length:=by omega
   subst this;rw[List.take_length,d5 (l:=z6) rfl];simp -implicitDefEqProofs (disch:=omega) [D5]
 | succ d ih=>
   intro i e hi
   have hlt:i < es.length:=by omega
   have hget:=qzl hlt;have hn1:=hn _ (List.getElem_mem hlt);have s1:=qmy es[i] hn1.1 hn1.2
   have hnx:LW eaL (es.take i)++[.d (.agg (es[i]).a)]=LW eaL (es.take (i + 1)):=by
    rw[List.take_succ_eq_append_getElem hlt];exact wq eaL _ _
   have hlen:(es.take i).length=i:=by simp; omega
   rw[← ih (i + 1) [] (by omega)];rw[d5 (l:=z6) rfl];rw[← hnx];generalize es[i]=b at *;generalize es.take i=ys at *;have htk:ys.take i=ys:=List.take_of_length_le (by omega);have happ:LW eaL ys++[.d (.agg b.a)]=LW eaL (ys++[b]):=wq eaL ys b;simp only[Ed.cs,Ed.a] at hget s1 happ ⊢;simp (maxSteps:=4000000) -implicitDefEqProofs (disch:=omega) [D5,hget,hlen,htk,s1,happ]
theorem qqc (es:List Ed) (hb:es.length≤1000000) (hn:∀ e∈es,e.row.length≤1000000 ∧ ∀ n∈e.row,nl n≤512):d6 T0 X0 xQ [.d (.sl (LD edL es)),.d (.fn C5 [])] []=some (.ret [.d (.sl (LD eaL es))] []):=by
 have s1:=qqd es hb hn es.length 0 [] rfl;rw[c9 (af:=H6) rfl rfl rfl];simp only[List.take_zero,qen,Int.cast_ofNat_Int] at s1;simp (maxSteps:=4000000) -implicitDefEqProofs (disch:=omega) [H6,s1]
theorem Yw (g:Gb) (hb:g.edges.length≤1000000) (hn:∀ e∈g.edges,e.row.length≤1000000 ∧ ∀ n∈e.row,nl n≤512):d6 T0 X0 JO [.d g.d] []=some (.ret [.d (.sl (LD eaL g.edges))] []):=by
 have s1:=qqc g.edges hb hn;rw[c9 (af:=zD) rfl rfl rfl];simp only[Gb.d];simp (maxSteps:=4000000) -implicitDefEqProofs (disch:=omega) [zD,s1]
theorem zad {c8 bs:List Ed} (h:c8.map Ed.er=bs.map Ed.er) {i:Nat} (hi:i < c8.length):∃ (f t k v tk mn:Int) (row:List Int) (p q:Pl),(LD eaL c8)[i]? = some (.agg [.int .i64 f,.int .i64 t,.int .i64 k,.int .i64 v,.int .i64 tk,.int .i64 mn,.sl (WL row),.int .i64 p.b,.int .i64 p.g,.int .i64 p.l,.int .i64 p.c]) ∧
 (LD eaL bs)[i]? = some (.agg [.int .i64 f,.int .i64 t,.int .i64 k,.int .i64 v,.int .i64 tk,.int .i64 mn,.sl (WL row),.int .i64 q.b,.int .i64 q.g,.int .i64 q.l,.int .i64 q.c])∧row=(c8[i]).row:=by
 have hl:c8.length=bs.length:=by simpa using congrArg List.length h
 have hj:i < bs.length:=by omega
 have e:(c8[i]).er=(bs[i]).er:=by
  have:=congrArg (fun l=>l[i]?) h
  simpa [hi,hj] using this
 rw[jM eaL c8 hi,jM eaL bs hj]
 have:∀ a b:Ed,a.er=b.er→∃ (f t k v tk mn:Int) (row:List Int) (p q:Pl),some (eaL.d a)=some (.agg [.int .i64 f,.int .i64 t,.int .i64 k,.int .i64 v,.int .i64 tk,.int .i64 mn,.sl (WL row),.int .i64 p.b,.int .i64 p.g,.int .i64 p.l,.int .i64 p.c]) ∧
  some (eaL.d b)=some (.agg [.int .i64 f,.int .i64 t,.int .i64 k,.int .i64 v,.int .i64 tk,.int .i64 mn,.sl (WL row),.int .i64 q.b,.int .i64 q.g,.int .i64 q.l,.int .i64 q.c])∧row=a.row:=by
  intro a b h;obtain ⟨f,t,k,v,tk,mn,row,p,x,l,r,c⟩:=a;obtain ⟨f',t',k',v',tk',mn',row',p',x',l',r',c'⟩:=b;simp only[Ed.er,Ed.mk.injEq] at h;obtain ⟨rfl,rfl,rfl,rfl,rfl,rfl,rfl,_⟩:=h;exact ⟨_,_,_,_,_,_,_,_,_,rfl,rfl,rfl⟩
 exact this _ _ e
theorem q0x {c8 bs:List Ed} (h:c8.map Ed.er=bs.map Ed.er) (hb:c8.length≤1000000) (hn:∀ e∈c8,e.row.length≤1000 ∧ ∀ n∈e.row,nl n≤512):∀ d i (e:List (Nat × V)),d + i=c8.length→
 j6 T0 X0 0 G3 (some (.nrm,⟨(0,.d (.sl (LD eaL c8))) :: (1,.d (.sl (LD eaL bs))) :: (2,.d (.bool false)) :: (7,.d (.int .i64 i)) :: e,[]⟩))=some (.exit 0,⟨[],[]⟩):=by
 have hl:c8.length=bs.length:=by simpa using congrArg List.length h
 intro d
 induction d with
 | zero=>
   intro i e hi
   have:i=c8.length:=by omega
   subst this;rw[d5 (l:=G3) rfl];simp -implicitDefEqProofs (disch:=omega) [O3]
 | succ d ih=>
   intro i e hi
   have hlt:i < c8.length:=by omega
   have hlb:i < bs.length:=by omega
   obtain ⟨f,t,k,v,tk,mn,row,p,q,g1,g2,g3⟩:=zad h hlt;have hr:=hn _ (List.getElem_mem hlt);rw[← g3] at hr
   have hz:∀ j,nl (nth row j)≤1073741824:=fun j=>by
    by_cases hj:j < row.length
    ·have:nth row j=row[j]:=by simp[nth,hj]
     rw[this];have:=hr.2 _ (List.getElem_mem hj);omega
    ·have:nth row j=0:=by simp[nth,hj]
     rw[this]
     decide
   have s1:=qks hr.1 hr.1 hz hz;simp only[decide_true] at s1;rw[← ih (i + 1) [] (by omega)];rw[d5 (l:=G3) rfl];have hrl:=hr.1;clear ih hn hz hr g3 h;simp (maxSteps:=4000000) -implicitDefEqProofs (disch:=omega) [O3,g1,g2,s1]
theorem qbn {c8 bs:List Ed} (h:c8.map Ed.er=bs.map Ed.er) (hb:c8.length≤1000000) (hn:∀ e∈c8,e.row.length≤1000 ∧ ∀ n∈e.row,nl n≤512) :
 d6 T0 X0 QJ [.d (.sl (LD eaL c8)),.d (.sl (LD eaL bs)),.d (.bool false)] []=some (.ret [.d (.bool true)] []):=by
 have hl:c8.length=bs.length:=by simpa using congrArg List.length h
 have lp:=q0x h hb hn c8.length 0 [] rfl;rw[c9 (af:=U0) rfl rfl rfl];simp only[Int.cast_ofNat_Int] at lp
 have e:(decide ((c8.length:Int)=bs.length))=true:=by simp[hl]
 simp (maxSteps:=4000000) -implicitDefEqProofs (disch:=omega) [U0,lp,hl]
theorem qwp (l:List (List UInt8)) (hb:l.length≤1000000):∀ d i (e:List (Nat × V)),d + i=l.length→
 j6 T0 X0 0 G5 (some (.nrm,⟨(0,.d (.sl (LD txL l))) :: (1,.d (.sl (LD txL l))) :: (5,.d (.int .i64 i)) :: e,[]⟩))=some (.exit 0,⟨[],[]⟩):=by
 intro d
 induction d with
 | zero=>
   intro i e hi
   have:i=l.length:=by omega
   subst this;rw[d5 (l:=G5) rfl];simp -implicitDefEqProofs (disch:=omega) [O5]
 | succ d ih=>
   intro i e hi
   have hlt:i < l.length:=by omega
   have g1:(LD txL l)[i]? = some (.str l[i]):=jM txL l hlt;rw[← ih (i + 1) [] (by omega)];rw[d5 (l:=G5) rfl];generalize l[i]=s at *;clear ih;simp (maxSteps:=4000000) -implicitDefEqProofs (disch:=omega) [O5,g1]
theorem qbm (l:List (List UInt8)) (hb:l.length≤1000000):d6 T0 X0 QL [.d (.sl (LD txL l)),.d (.sl (LD txL l))] []=some (.ret [.d (.bool true)] []):=by
 have lp:=qwp l hb l.length 0 [] rfl;rw[c9 (af:=U2) rfl rfl rfl];simp only[Int.cast_ofNat_Int] at lp;simp (maxSteps:=4000000) -implicitDefEqProofs (disch:=omega) [U2,lp]
def Ed.pure (e:Ed):Bool:=decide (e.k≠4) && decide (e.k≠6)
def Gb.pure (g:Gb):Bool:=g.edges.all Ed.pure
theorem qt0 (es:List Ed) (hb:es.length≤1000000):∀ d i (e:List (Nat × V)),d + i=es.length→
 j6 T0 X0 0 P3 (some (.nrm,⟨(8,.d (.sl (LD edL es))) :: (9,.d (.int .i64 es.length)) :: (10,.d (.int .i64 i)) :: e,[]⟩)) =
  some (if (es.drop i).all Ed.pure then (.exit 0,⟨[],[]⟩) else (.ret,⟨[(2,.d (.bool false))],[]⟩)):=by
 intro d
 induction d with
 | zero=>
   intro i e hi
   have:i=es.length:=by omega
   subst this;rw[List.drop_length,d5 (l:=P3) rfl];simp -implicitDefEqProofs (disch:=omega) [J5]
 | succ d ih=>
   intro i e hi
   have hlt:i < es.length:=by omega
   have hget:=qzl hlt;have hdr:es.drop i=es[i] :: es.drop (i + 1):=List.drop_eq_getElem_cons hlt;rw[hdr];rw[d5 (l:=P3) rfl];have s2:=ih (i + 1) [] (by omega);generalize es[i]=b at *;have hu:(b :: es.drop (i + 1)).all Ed.pure=(b.pure && (es.drop (i + 1)).all Ed.pure):=rfl;rw[hu];generalize (es.drop (i + 1)).all Ed.pure=q at *;simp only[Ed.cs] at hget;unfold Ed.pure;push_cast at s2
   by_cases h4:b.k=4
   ·simp (maxSteps:=4000000) -implicitDefEqProofs (disch:=omega) [J5,hget,h4]
   ·by_cases h6:b.k=6
    ·simp (maxSteps:=4000000) -implicitDefEqProofs (disch:=omega) [J5,hget,h4,h6]
    ·simp (maxSteps:=4000000) -implicitDefEqProofs (disch:=omega) [J5,hget,h4,h6,s2]
theorem q7q (g:Gb) (hb:g.edges.length≤1000000):d6 T0 X0 Kv [.d g.d] []=some (.ret [.d (.bool g.pure)] []):=by
 have s1:=qt0 g.edges hb g.edges.length 0 [] rfl;rw[c9 (af:=W8) rfl rfl rfl];simp only[Gb.d];simp only[List.drop_zero,Int.cast_ofNat_Int] at s1;rw[show g.edges.all Ed.pure=g.pure from rfl] at s1
 cases hp:g.pure <;> simp only[hp,if_true,if_false,Bool.false_eq_true] at s1
 ·simp (maxSteps:=4000000) -implicitDefEqProofs (disch:=omega) [W8,s1]
 ·simp (maxSteps:=4000000) -implicitDefEqProofs (disch:=omega) [W8,s1]
structure Ed.rOk (n:Nat) (e:Ed):Prop where
 x:e.k=4→∃ x,e.x=some x∧x.fine n∧x.w < 134217728
 l:e.k=6→∃ l,e.l=some l∧l.fine n∧l.w < 134217728
 r:e.k=6→∃ l,e.r=some l∧l.fine n∧l.w < 134217728
def qq6 (ws:List RWh) (x:Option Nd):Int × Int:=match x with
 | some x=>wide (jv (stV ws) x)
 | none=>(0,1)
def zg1 (a b:Int × Int):Int × Int × Int:=if a.2≠0 then (0,0,a.2) else if b.2≠0 then (0,0,b.2) else (a.1,b.1,0)
def Ed.reck (ws:List RWh) (e:Ed):Int × Int × Int:=
 if e.k=4 then ((qq6 ws e.x).1,0,(qq6 ws e.x).2)
 else if e.k=6 then zg1 (qq6 ws e.l) (qq6 ws e.r)
 else (0,0,1)
def Gb.reck (g:Gb) (i:Int) (ws:List RWh):Int × Int × Int:=
 if 0≤i then if i < g.edges.length then if ws.length=g.vs.length then (match g.edges[i.toNat]? with | some e=>e.reck ws | none=>(0,0,1)) else (0,0,1) else (0,0,1) else (0,0,1)
structure Eok (n:Nat) (e:Ed):Prop where
 k:1≤e.k∧e.k≤6
 r:e.rOk n
 v:2≤e.k→e.k≤4→0≤e.v∧e.v < n
 l:e.row.length≤n + 1
 s:e.k=2→e.row.length=n + 1
 o:e.k≠2→∀ x∈e.row,nl x≤32
theorem O0 {n:Nat} {e:Ed} (k:e.k=1∨e.k=5) (r:e.row=[]):Eok n e where
 k:=by omega
 r:=⟨fun h=>by omega,fun h=>by omega,fun h=>by omega⟩
 v:=fun _ _=>by omega
 l:=by rw[r]; simp
 s:=fun h=>by omega
 o:=fun _ x hx=>by rw[r] at hx; cases hx
theorem q1g (n:Nat) (x y:Nd):∀ z∈(qh5 n x y).1,nl z≤32:=by
 unfold qh5;split
 ·intro z hz;change z∈(QO _).1 at hz;unfold QO at hz;split at hz
  ·rename_i h
   simpa using List.all_eq_true.1 h z hz
  ·cases hz
 ·intro z hz; cases hz
theorem QN {vs:List (List UInt8)} {x y:Nd} (hx:Xok vs x) (hy:Xok vs y) (f t:Int) (q b:Bool) (p:Pl):Eok vs.length (tEd vs.length f t x y q b p) where
 k:=⟨show (1:Int)≤6 by decide,show (6:Int)≤6 by decide⟩
 r:=⟨fun h=>absurd (show (6:Int)=4 from h) (by decide),fun _=>⟨x,rfl,hx.fine,by have:=hx.w; omega⟩,fun _=>⟨y,rfl,hy.fine,by have:=hy.w; omega⟩⟩
 v:=fun _ h=>absurd (show (6:Int)≤4 from h) (by decide)
 l:=qk1 hx.fine hy.fine
 s:=fun h=>absurd (show (6:Int)=2 from h) (by decide)
 o:=fun _=>q1g _ x y
structure Keeps (n:Nat) (I:Gb→Prop):Prop where
 pt:∀ g,I g→I g.point
 ed:∀ g e,I g→Eok n e→0≤e.f→e.f < g.out.length→0≤e.t→e.t < g.out.length→(e.k=2→g.long=false→zp e.row=false)→I (g.edge e)
 lg:∀ g b,I g→I { g with long:=g.long || b }
 mr:∀ g s (a:Int),I g→0≤a→a < g.out.length→I (g.mark s a)
 st:∀ g b (a:Int),I g→0≤a→a < g.out.length→I (g.start b a)
 hd:∀ g b a,I g→I (g.head b a)
theorem qgi {n:Nat} {I:Gb→Prop} (hI:Keeps n I) (p:Pl) (j:Int) (h0:0≤j):∀ (l:List Int) {g:Gb},I g→j < g.out.length→(∀ x∈l,0≤x∧x < g.out.length)→I (kD p j l g)
 | [],g,h,_,_=>h
 | e :: l,g,h,h1,hl=>by
   have he:=hl e (List.mem_cons_self ..)
   exact qgi hI p j h0 l (hI.ed g _ h (O0 (.inl rfl) rfl) he.1 he.2 h0 h1 (fun h=>absurd h (by simp))) (by rw[eo]; exact h1) fun x hx=>by rw[eo]; exact hl x (List.mem_cons_of_mem _ hx)
section
variable {vs:List (List UInt8)} {I:Gb→Prop} (hI:Keeps vs.length I)
include hI
mutual
theorem q6y:∀ (s:Sm),s.fit vs→∀ {g:Gb} {a:Int} {N:Nat},Gok g vs.length N→I g→0≤a→a < g.out.length→I (s.bld vs.length g a).1
 | .set p v t e,hf,g,a,N,h,hi,h0,h1=>by
   have k:∀ (g':Gb) e,g'.out.length=g.out.length + 1→I g'→Eok vs.length e→e.f=a→e.t=g.out.length→(e.k=2→g'.long=false→zp e.row=false)→I (g'.edge e):=fun g' e hl hg he hfr ht hlg=>hI.ed _ _ hg he (by omega) (by omega) (by omega) (by omega) hlg
   have hv:0≤v∧v < vs.length:=⟨hf.2.2.1,by
    obtain ⟨j,hj,e,_⟩:=qas vs t _ _ (by rw[hf.2.1]; exact hf.2.2.1);rw[hf.2.1] at e
    omega⟩
   cases e with
   | none=>exact k _ _ (po g) (hI.pt _ hi) ⟨⟨by simp,by simp⟩,⟨fun h=>absurd h (by simp),fun h=>absurd h (by simp),fun h=>absurd h (by simp)⟩,fun _ _=>hv,by simp,fun h=>absurd h (by simp),fun _ x hx=>(by cases hx)⟩ rfl rfl fun h=>absurd h (by simp)
   | some x=>
     have hx:Xok vs x:=hf.2.2.2.2;simp only[Sm.bld];split
     ·rename_i hc;rcases jR vs.length x hx.fine with ⟨_,e⟩ | sh
      ·rw[e] at hc; cases hc
      exact k _ _ (po g) (hI.lg _ _ (hI.pt _ hi)) ⟨⟨by simp,by simp⟩,⟨fun h=>absurd h (by simp),fun h=>absurd h (by simp),fun h=>absurd h (by simp)⟩,fun _ _=>hv,by have:=sh.l; simp only[]; omega,fun _=>sh.l,fun h=>absurd rfl h⟩ rfl rfl fun _ h=>(Bool.or_eq_false_iff.1 h).2
     ·exact k _ _ (po g) (hI.pt _ hi) ⟨⟨by simp,by simp⟩,⟨fun _=>⟨x,rfl,hx.fine,by have:=hx.w; omega⟩,fun h=>absurd h (by simp),fun h=>absurd h (by simp)⟩,fun _ _=>hv,by simp,fun h=>absurd h (by simp),fun _ x hx=>(by cases hx)⟩ rfl rfl fun h=>absurd h (by simp)
 | .skip p,_,g,a,N,h,hi,h0,h1=>hI.ed _ _ (hI.pt _ hi) (O0 (.inl rfl) rfl) h0 (by rw[po]; simp only[]; omega) (by simp) (by rw[po]; simp only[]; omega) fun h=>absurd h (by simp)
 | .stop p,_,g,a,N,h,hi,h0,h1=>hI.pt _ hi
 | .mark p s,_,g,a,N,h,hi,h0,h1=>hI.mr _ _ _ hi h0 h1
 | .choose p bs,hf,g,a,N,h,hi,h0,h1=>by
   obtain ⟨k1,k2,k3,k4⟩:=qjv vs.length p bs.length bs 0 h h0 h1;have ib:=qsn p bs.length bs hf.2 0 h hi h0 h1;simp only[Sm.bld]
   exact qgi hI p _ (by omega) _ (hI.pt _ ib) (by rw[po]; omega) fun x hx=>by have:=k4 x hx; rw[po]; omega
 | .loop p b,hf,g,a,N,h,hi,h0,h1=>by
   have i1:=hI.ed _ { f:=a,t:=g.out.length,k:=1,at_:=p } (hI.pt _ hi) (O0 (.inl rfl) rfl) h0 (by rw[po]; simp only[]; omega) (by simp) (by rw[po]; simp only[]; omega) (fun h=>absurd h (by simp));have i2:=hI.ed _ { f:=g.out.length,t:=g.out.length + 1,k:=5,tk:=1,mn:=2,at_:=p } (hI.pt _ i1) (O0 (.inr rfl) rfl) (by simp) (by simp only[po,eo]; omega) (by simp only[]; omega) (by simp only[po,eo]; omega) (fun h=>absurd h (by simp));have g1:=((h.point.edge { f:=a,t:=g.out.length,k:=1,at_:=p }).point).edge { f:=g.out.length,t:=g.out.length + 1,k:=5,tk:=1,mn:=2,at_:=p };have k:=M5 vs.length b g1 (a:=g.out.length + 1) (by omega) (by simp only[eo,po]; omega);have i3:=vt b hf g1 i2 (a:=g.out.length + 1) (by omega) (by simp only[eo,po]; omega);have le:=k.le;have ka0:=k.a0;have ka1:=k.a1;simp only[eo,po] at le;have i4:=hI.ed _ { f:=_,t:=g.out.length,k:=1,at_:=p } i3 (O0 (.inl rfl) rfl) k.a0 k.a1 (by simp) (by simp only[]; omega) (fun h=>absurd h (by simp));simp only[Sm.bld]
   exact hI.ed _ _ (hI.pt _ i4) (O0 (.inr rfl) rfl) (by simp) (by simp only[po,eo]; omega) (by simp) (by simp only[po,eo]; omega) fun h=>absurd h (by simp)
 | .ifs p x y q b,hf,g,a,N,h,hi,h0,h1=>by
   have i1:=hI.ed _ (tEd vs.length a g.out.length x y q true p) (hI.pt _ hi) (QN hf.1 hf.2.1 ..) h0 (by rw[po]; show a < _; omega) (Int.natCast_nonneg _) (by rw[po]; show (g.out.length:Int) < _; omega) (fun h=>absurd (show (6:Int)=2 from h) (by decide));have g1:=h.point.edge (tEd vs.length a g.out.length x y q true p);have k:=M5 vs.length b g1 (a:=g.out.length) (by omega) (by simp only[eo,po]; omega);have i3:=vt b hf.2.2 g1 i1 (a:=g.out.length) (by omega) (by simp only[eo,po]; omega);have le:=k.le;have ka0:=k.a0;have ka1:=k.a1;simp only[eo,po] at le;simp only[Sm.bld];generalize Sms.bld vs.length b (g.point.edge (tEd vs.length a g.out.length x y q true p)) g.out.length=r at *;have i4:=hI.ed _ (tEd vs.length a r.1.out.length x y q false p) (hI.pt _ i3) (QN hf.1 hf.2.1 ..) h0 (by rw[po]; show a < _; omega) (Int.natCast_nonneg _) (by rw[po]; show (r.1.out.length:Int) < _; omega) (fun h=>absurd (show (6:Int)=2 from h) (by decide));have i5:=hI.ed _ { f:=r.2,t:=(r.1.point.edge (tEd vs.length a r.1.out.length x y q false p)).out.length,k:=1,at_:=p } (hI.pt _ i4) (O0 (.inl rfl) rfl) ka0 (by simp only[po,eo]; omega) (by simp) (by simp only[po,eo]; omega) (fun h=>absurd h (by simp))
   exact hI.ed _ _ i5 (O0 (.inl rfl) rfl) (by simp) (by simp only[po,eo]; omega) (by simp) (by simp only[po,eo]; omega) fun h=>absurd h (by simp)
 | .ife p x y q b pe e,hf,g,a,N,h,hi,h0,h1=>by
   have i1:=hI.ed _ (tEd vs.length a g.out.length x y q true p) (hI.pt _ hi) (QN hf.1 hf.2.1 ..) h0 (by rw[po]; show a < _; omega) (Int.natCast_nonneg _) (by rw[po]; show (g.out.length:Int) < _; omega) (fun h=>absurd (show (6:Int)=2 from h) (by decide));have g1:=h.point.edge (tEd vs.length a g.out.length x y q true p);have k:=M5 vs.length b g1 (a:=g.out.length) (by omega) (by simp only[eo,po]; omega);have i3:=vt b hf.2.2.1 g1 i1 (a:=g.out.length) (by omega) (by simp only[eo,po]; omega);have le:=k.le;have ka0:=k.a0;have ka1:=k.a1;simp only[eo,po] at le;simp only[Sm.bld];generalize Sms.bld vs.length b (g.point.edge (tEd vs.length a g.out.length x y q true p)) g.out.length=r at *;have i4:=hI.ed _ (tEd vs.length a r.1.out.length x y q false p) (hI.pt _ i3) (QN hf.1 hf.2.1 ..) h0 (by rw[po]; show a < _; omega) (Int.natCast_nonneg _) (by rw[po]; show (r.1.out.length:Int) < _; omega) (fun h=>absurd (show (6:Int)=2 from h) (by decide));have g2:=k.ok.point.edge (tEd vs.length a r.1.out.length x y q false p);have k2:=M5 vs.length e g2 (a:=r.1.out.length) (by omega) (by simp only[eo,po]; omega);have i5:=vt e hf.2.2.2 g2 i4 (a:=r.1.out.length) (by omega) (by simp only[eo,po]; omega);have le2:=k2.le;have kb0:=k2.a0;have kb1:=k2.a1;simp only[eo,po] at le2;generalize Sms.bld vs.length e (r.1.point.edge (tEd vs.length a r.1.out.length x y q false p)) r.1.out.length=r2 at *;have i6:=hI.ed _ { f:=r.2,t:=r2.1.out.length,k:=1,at_:=p } (hI.pt _ i5) (O0 (.inl rfl) rfl) ka0 (by simp only[po,eo]; omega) (by simp) (by simp only[po,eo]; omega) (fun h=>absurd h (by simp))
   exact hI.ed _ _ i6 (O0 (.inl rfl) rfl) kb0 (by simp only[po,eo]; omega) (by simp) (by simp only[po,eo]; omega) fun h=>absurd h (by simp)
 | .while p x y q b,hf,g,a,N,h,hi,h0,h1=>by
   have hp:(g.point.head p.b g.out.length).out.length=g.out.length + 1:=po g;have i1:=hI.ed _ { f:=a,t:=g.out.length,k:=1,at_:=p } (hI.hd _ p.b g.out.length (hI.pt _ hi)) (O0 (.inl rfl) rfl) h0 (by rw[hp]; simp only[]; omega) (by simp) (by rw[hp]; simp only[]; omega) (fun h=>absurd h (by simp));have i2:=hI.ed _ (tEd vs.length g.out.length (g.out.length + 1) x y q true p) (hI.pt _ i1) (QN hf.1 hf.2.1 ..) (Int.natCast_nonneg _) (by rw[po,eo,hp]; show (g.out.length:Int) < _; omega) (by show (0:Int)≤g.out.length + 1; omega) (by rw[po,eo,hp]; show (g.out.length:Int) + 1 < _; omega) (fun h=>absurd (show (6:Int)=2 from h) (by decide));have g1:=(((h.point.head p.b g.out.length).edge { f:=a,t:=g.out.length,k:=1,at_:=p }).point).edge (tEd vs.length g.out.length (g.out.length + 1) x y q true p);have k:=M5 vs.length b g1 (a:=g.out.length + 1) (by omega) (by rw[eo,po,eo,hp]; omega);have i3:=vt b hf.2.2 g1 i2 (a:=g.out.length + 1) (by omega) (by rw[eo,po,eo,hp]; omega);have le:=k.le;have ka0:=k.a0;have ka1:=k.a1;rw[eo,po,eo,hp] at le;have i4:=hI.ed _ { f:=_,t:=g.out.length,k:=1,at_:=p } i3 (O0 (.inl rfl) rfl) k.a0 k.a1 (by simp) (by simp only[]; omega) (fun h=>absurd h (by simp));simp only[Sm.bld]
   exact hI.ed _ _ (hI.pt _ i4) (QN hf.1 hf.2.1 ..) (Int.natCast_nonneg _) (by rw[po,eo]; show (g.out.length:Int) < _; omega) (Int.natCast_nonneg _) (by rw[po]; show ((Gb.edge _ _).out.length:Int) < _; omega) fun h=>absurd (show (6:Int)=2 from h) (by decide)
theorem vt:∀ (l:List Sm),Sms.fit vs l→∀ {g:Gb} {a:Int} {N:Nat},Gok g vs.length N→I g→0≤a→a < g.out.length→I (Sms.bld vs.length l g a).1
 | [],_,g,a,N,h,hi,h0,h1=>hi
 | s :: l,hf,g,a,N,h,hi,h0,h1=>by
   have k:=qwq vs.length s (h.start s.at_.b a) h0 h1;exact vt l hf.2 k.ok (q6y s hf.1 (h.start s.at_.b a) (hI.st _ _ _ hi h0 h1) h0 h1) k.a0 k.a1
theorem qsn (p:Pl) (mn:Int):∀ (l:List Bl),Bls.fit vs l→∀ (i:Int) {g:Gb} {a:Int} {N:Nat},Gok g vs.length N→I g→0≤a→a < g.out.length→I (Bls.bld vs.length p a mn i l g).1
 | [],_,i,g,a,N,h,hi,h0,h1=>hi
 | .mk q b :: l,hf,i,g,a,N,h,hi,h0,h1=>by
   have g1:=h.point.edge { f:=a,t:=g.out.length,k:=5,tk:=i,mn,at_:=p };have i1:=hI.ed _ { f:=a,t:=g.out.length,k:=5,tk:=i,mn,at_:=p } (hI.pt _ hi) (O0 (.inr rfl) rfl) h0 (by rw[po]; simp only[]; omega) (by simp) (by rw[po]; simp only[]; omega) (fun h=>absurd h (by simp));have k:=M5 vs.length b g1 (a:=g.out.length) (by omega) (by simp only[eo,po]; omega);have le:=k.le;simp only[eo,po] at le;exact qsn p mn l hf.2 (i + 1) k.ok (vt b hf.1 g1 i1 (by omega) (by simp only[eo,po]; omega)) h0 (by omega)
end
end
structure Gin (n:Nat) (g:Gb):Prop where
 ed:∀ e∈g.edges,Eok n e∧0≤e.f∧e.f < g.out.length∧0≤e.t∧e.t < g.out.length
 lg:g.long=false→∀ e∈g.edges,e.k=2→zp e.row=false
 o:∀ i,∀ j∈g.out.getD i [],0≤j∧j < g.edges.length
 i:∀ i,∀ j∈g.inn.getD i [],0≤j∧j < g.edges.length
theorem WK {l:List (List Int)} {k i:Nat} {x j:Int} (h:j∈(l.set k (l.getD k []++[x])).getD i []):j∈l.getD i []∨j=x:=by
 simp only[List.getD_eq_getElem?_getD,List.getElem?_set] at h ⊢;split at h
 ·rename_i e;subst e;split at h
  ·simp only[Option.getD_some,List.mem_append,List.mem_singleton] at h;exact h
  ·simp at h
 ·exact .inl h
theorem wB (n:Nat):Keeps n (Gin n) where
 pt g h:=⟨fun e he=>by obtain ⟨a,b,c,d,f⟩:=h.ed e he; rw[po]; exact ⟨a,b,by omega,d,by omega⟩,h.lg,fun i j hj=>h.o i j (by simpa only [Gb.point,qX] using hj),fun i j hj=>h.i i j (by simpa only [Gb.point,qX] using hj)⟩
 ed g e h ok f0 f1 t0 t1 lg:=by
  have hl:(g.edge e).edges.length=g.edges.length + 1:=by simp[Gb.edge]
  refine ⟨fun x hx=>?_,fun hg x hx hk=>?_,fun i j hj=>?_,fun i j hj=>?_⟩
  ·rw[eo];rcases List.mem_append.1 hx with hx | hx
   ·exact h.ed x hx
   ·rw[List.mem_singleton.1 hx]; exact ⟨ok,f0,f1,t0,t1⟩
  ·rcases List.mem_append.1 hx with hx | hx
   ·exact h.lg hg x hx hk
   ·rw[List.mem_singleton.1 hx] at hk ⊢; exact lg hk hg
  ·rw[hl];rcases WK hj with hj | rfl
   ·have:=h.o i j hj; omega
   ·omega
  ·rw[hl];rcases WK hj with hj | rfl
   ·have:=h.i i j hj; omega
   ·omega
 lg g b h:=⟨h.ed,fun hg=>h.lg (Bool.or_eq_false_iff.1 hg).1,h.o,h.i⟩
 mr g s a h _ _:=⟨h.ed,h.lg,h.o,h.i⟩
 st g b a h _ _:=⟨h.ed,h.lg,h.o,h.i⟩
 hd g b a h:=⟨h.ed,h.lg,h.o,h.i⟩
def Lds (g:Gb) (x:Nat) (es:List Ed):Prop:=(g.out.getD x []).map (fun j=>g.edges[j.toNat]?)=es.map some
inductive FkE:List Ed→Prop
 | nil:FkE []
 | one {e:Ed}:1≤e.k→e.k≤4→FkE [e]
 | pick {es:List Ed}:es≠[]→(∀ e∈es,e.k=5∧e.mn=es.length)→(∀ w:Int,0≤w→w < es.length→(es.filter fun e=>e.tk == w).length=1)→(∀ e∈es,0≤e.tk∧e.tk < es.length)→FkE es
 | test {a b:Ed}:a.k=6→b.k=6→a.tk + b.tk=1→(a.tk=0∨a.tk=1)→a.row=b.row→a.l=b.l→a.r=b.r→FkE [a,b]
structure Bd (g:Gb) (a:Nat) (r:Gb × Int):Prop where
 len:g.out.length≤r.1.out.length
 old:∀ x es,x < g.out.length→x≠a→Lds g x es→Lds r.1 x es
 b0:0≤r.2
 b1:r.2 < r.1.out.length
 bn:r.2=a∨(g.out.length:Int)≤r.2
 en:Lds r.1 r.2.toNat []
 fk:∀ x,x < r.1.out.length→(x=a∨g.out.length≤x)→(x:Int)≠r.2→∃ es,Lds r.1 x es∧FkE es
theorem Bd.trans {g:Gb} {a:Nat} {r r2:Gb × Int} (h:Bd g a r) (k:Bd r.1 r.2.toNat r2):Bd g a r2:=by
 have h0:=h.b0;have h1:=h.b1;have hn:=h.bn;have hl:=h.len;have kl:=k.len;have k0:=k.b0;have kn:=k.bn;refine ⟨by omega,fun x es hx ha hL=>k.old x es (by omega) (by omega) (h.old x es hx ha hL),k.b0,k.b1,by omega,k.en,fun x hx ha hne=>?_⟩
 by_cases hb:(x:Int)=r.2
 ·exact k.fk x hx (.inl (by omega)) hne
 ·by_cases hx1:x < r.1.out.length
  ·obtain ⟨es,hL,hF⟩:=h.fk x hx1 ha hb;exact ⟨es,k.old x es hx1 (by omega) hL,hF⟩
  ·exact k.fk x hx (.inr (by omega)) hne
def Gfr (g:Gb):Prop:=∀ x,∀ j∈g.out.getD x [],∃ e,g.edges[j.toNat]? = some e∧e.f=(x:Int)
theorem qyg {l:List (List Int)} {k i:Nat} {x j:Int} (h:j∈(l.set k (l.getD k []++[x])).getD i []):j∈l.getD i []∨j=x∧i=k:=by
 simp only[List.getD_eq_getElem?_getD,List.getElem?_set] at h ⊢;split at h
 ·rename_i e;subst e;split at h
  ·simp only[Option.getD_some,List.mem_append,List.mem_singleton] at h;rcases h with h | h
   ·exact .inl h
   ·exact .inr ⟨h,rfl⟩
  ·simp at h
 ·exact .inl h
structure Gfk (g:Gb):Prop where
 fk:∀ x,x < g.out.length→∃ es,Lds g x es∧FkE es
 fr:Gfr g
def qoh (l:List (List Int)):Nat:=(l.map List.length).sum
theorem qwe {l:List (List Int)} {k:Nat} {x:Int} (h:k < l.length):qoh (l.set k (l.getD k []++[x]))=qoh l + 1:=by
 unfold qoh
 induction l generalizing k with
 | nil=>simp at h
 | cons a l ih=>
   cases k with
   | zero=>simp; omega
   | succ k=>
     have:=ih (k:=k) (by simpa using h);simp only[List.set_cons_succ,List.map_cons,List.sum_cons,List.getD_cons_succ];omega
theorem qwf (l:List (List Int)):qoh (l++[[]])=qoh l:=by simp[qoh]
structure Rowg (es:List Ed) (p:Ed→Int) (l:List (List Int)):Prop where
 up:∀ x,(l.getD x []).Pairwise (· < ·)
 e:∀ x,∀ j∈l.getD x [],0≤j∧j < es.length ∧ ∃ e,es[j.toNat]? = some e∧p e=(x:Int)
 s:qoh l=es.length
theorem Rowg.app {es p l} (h:Rowg es p l):Rowg es p (l++[[]]):=⟨fun x=>by rw[qX]; exact h.up x,fun x j hj=>h.e x j (by rw[qX] at hj; exact hj),by rw[qwf]; exact h.s⟩
theorem Rowg.set {es:List Ed} {p:Ed→Int} {l} (h:Rowg es p l) (e:Ed) (h0:0≤p e) (h1:p e < l.length):Rowg (es++[e]) p (l.set (p e).toNat (l.getD (p e).toNat []++[(es.length:Int)])) where
 up x:=by
  have hx:=h.up x;simp only[List.getD_eq_getElem?_getD,List.getElem?_set] at hx ⊢;split
  ·rename_i he;rw[if_pos (by omega)];simp only[Option.getD_some];rw[he,List.pairwise_append];refine ⟨hx,by simp,fun a ha b hb=>?_⟩;rw[List.mem_singleton] at hb;have:=h.e x a (by rw[List.getD_eq_getElem?_getD]; exact ha);omega
  ·exact hx
 e x j hj:=by
   rcases qyg hj with hj | ⟨rfl,hx⟩
   ·obtain ⟨a,b,d,c1,c2⟩:=h.e x j hj;exact ⟨a,by simp; omega,d,by rw[List.getElem?_append_left (by omega)]; exact c1,c2⟩
   ·exact ⟨by omega,by simp; omega,e,by simp,by omega⟩
 s:=by rw[qwe (by omega),h.s]; simp
structure Grw (g:Gb):Prop where
 il:g.inn.length=g.out.length
 o:Rowg g.edges Ed.f g.out
 i:Rowg g.edges Ed.t g.inn
def aln (g:Gb):Nat:=g.inn.countP List.isEmpty
structure Cn (m:Nat) (g r:Gb) (k:Nat):Prop where
 il:r.inn.length=r.out.length
 len:g.out.length≤r.out.length
 old:∀ x,x < m→r.inn.getD x []=g.inn.getD x []
 al:aln r=aln g + k
theorem Cn.trans {m g r s k j} (h:Cn m g r k) (h2:Cn m r s j):Cn m g s (k + j):=⟨h2.il,Nat.le_trans h.len h2.len,fun x hx=>(h2.old x hx).trans (h.old x hx),by rw[h2.al,h.al]; omega⟩
theorem Cn.to {m m' g r k} (h:Cn m g r k) (hm:m'≤m):Cn m' g r k:=⟨h.il,h.len,fun x hx=>h.old x (by omega),h.al⟩
theorem qr9 {es:List Ed} {i:Nat} (h:i < es.length):(LD eaL es)[i]? = some (.agg (es[i]).a):=jM eaL es h
section
variable {g:Gb} {o:List Int} {es:List Ed} (hL:o.map (fun j=>g.edges[j.toNat]?)=es.map some) (ho:∀ j∈o,0≤j) (hl:o.length≤900000) (hel:g.edges.length≤900000) (hrow:∀ e∈g.edges,e.row.length≤9 ∧ ∀ x∈e.row,nl x≤32)
include hL ho hl hel hrow
end
structure Mc where
 g:Gb
 p:Int:=0
 steps:Int:=0
 used:Nat:=0
 st:List Int:=[]
 ch:List Int:=[]
def Mc.left (m:Mc):Bool:=decide (m.used < m.ch.length)
structure Lk where
 e:List D:=[.int .i64 0,.int .i64 0,.int .i64 0,.int .i64 0,.int .i64 0,.int .i64 0,.sl [],.int .i64 0,.int .i64 0,.int .i64 0,.int .i64 0]
 v:Int:=0
 c:Int:=0
 k:Int:=0
 w:Int:=0
def Lk.cs (l:Lk):List D:=l.e++[.bool (decide (l.v < 0)),.sl (L (d7 l.v.natAbs)),.int .i64 l.c,.int .i64 l.k,.int .i64 l.w]
def Lk.d (l:Lk):D:=.agg l.cs
def ed0:Ed:={ f:=0,t:=0,k:=0,at_:=⟨0,0,0,0⟩ }
structure Look where
 e:Ed:=ed0
 v:Int:=0
 c:Int:=0
 k:Int:=0
 w:Int:=0
def Look.cs (l:Look):List D:=[.int .i64 l.e.f,.int .i64 l.e.t,.int .i64 l.e.k,.int .i64 l.e.v,.int .i64 l.e.tk,.int .i64 l.e.mn,.sl (WL l.e.row),.int .i64 l.e.at_.b,.int .i64 l.e.at_.g,.int .i64 l.e.at_.l,.int .i64 l.e.at_.c,.bool (decide (l.v < 0)),.sl (L (d7 l.v.natAbs)),.int .i64 l.c,.int .i64 l.k,.int .i64 l.w]
def qwc (g:Gb) (w:Int):Ed→List Int→Ed
 | l,[]=>l
 | _,i :: r=>match g.edges[i.toNat]? with
   | some e=>if e.tk=w then e else qwc g w e r
   | none=>ed0
def rawW (n:Int):RWh:=(decide (n < 0),d7 n.natAbs)
def Ed.val (e:Ed) (st:List Int):Int:=zf5 e.row (nth st) st.length + nth e.row st.length
def setL (e:Ed) (st:List Int):Look:=if 512 < nl (e.val st) then { k:=3,w:=2 } else { e:=e,v:=e.val st }
def Mc.reck (m:Mc) (i:Int):Int × Int × Int:=m.g.reck i (m.st.map rawW)
def zi7 (m:Mc) (e:Ed) (i:Int):Look:=if (m.reck i).2.2≠0 then { k:=3,w:=(m.reck i).2.2 } else { e:=e,v:=(m.reck i).1 }
def zf1 (m:Mc) (o:List Int) (i:Int):Look:=if (m.reck i).2.2≠0 then { k:=3,w:=(m.reck i).2.2 } else { e:=qwc m.g (if cmp (m.reck i).1 (m.reck i).2.1=0 then 1 else 0) ed0 o }
def zg7 (x n:Int):Int:=x.tmod n % n
def qre (m:Mc) (o:List Int):Look:=match m.ch[m.used]? with
 | some x=>{ e:=qwc m.g (zg7 x o.length) ed0 o,c:=1 }
 | none=>{ k:=2 }
def Mc.o (m:Mc):List Int:=m.g.outN m.p
def q3k (m:Mc) (e:Ed):Look:=match m.ch[m.used]? with
 | some x=>{ e:=e,v:=x,c:=1 }
 | none=>{ k:=2 }
def Mc.look (m:Mc):Look:=match m.o with
 | []=>{ k:=1 }
 | i :: r=>match m.g.edges[i.toNat]? with
   | none=>{}
   | some e=>if e.k=1 then { e:=e } else if e.k=2 then setL e m.st else if e.k=3 then q3k m e else if e.k=4 then zi7 m e i else if e.k=5 then qre m (i :: r) else zf1 m (i :: r) i
def Mc.take (m:Mc) (l:Look):Mc:={ m with p:=l.e.t,steps:=m.steps + 1,used:=m.used + l.c.toNat,st:=if 2≤l.e.k∧l.e.k≤4 then m.st.set l.e.v.toNat l.v else m.st }
def Mc.step (m:Mc):Mc:=m.take m.look
structure Gmo (g:Gb):Prop where
 gin:Gin g.vs.length g
 n:g.vs.length≤8
 lg:g.long=false
 pt:1≤g.out.length∧g.out.length≤64
 il:g.inn.length=g.out.length
 el:g.edges.length≤900000
 os:∀ i,(g.out.getD i []).length≤900000
 is:∀ i,(g.inn.getD i []).length≤900000
 bl:g.bs.length=g.vs.length
 bs:∀ b∈g.bs,nl b.n≤32∧b.name.length≤1000000
theorem Gmo.row {g:Gb} (h:Gmo g):∀ e∈g.edges,e.row.length≤9 ∧ ∀ x∈e.row,nl x≤32:=fun e he=>by
 have k:=(h.gin.ed e he).1;have:=k.l;have:=h.n;refine ⟨by omega,fun x hx=>?_⟩
 by_cases h2:e.k=2
 ·have:=h.gin.lg h.lg e he h2;unfold zp at this;rw[List.any_eq_false] at this;have:=this x hx;simp only[decide_eq_true_eq] at this;omega
 ·exact k.o h2 x hx
theorem q9j {n:Nat} {g:Gb} (h:Gin n g) (x:Int):Gin n { g with ex:=x }:=⟨h.ed,h.lg,h.o,h.i⟩
structure Gvb (vs:List (List UInt8)) (bs:List Bg) (g:Gb):Prop where
 i:Gin vs.length g
 v:g.vs=vs
 b:g.bs=bs
theorem qui (vs bs):Keeps vs.length (Gvb vs bs) where
 pt g h:=⟨(wB _).pt g h.i,h.v,h.b⟩
 ed g e h a b c d f k:=⟨(wB _).ed g e h.i a b c d f k,h.v,h.b⟩
 lg g b h:=⟨(wB _).lg g b h.i,h.v,h.b⟩
 mr g s a h p q:=⟨(wB _).mr g s a h.i p q,h.v,h.b⟩
 st g s a h p q:=⟨(wB _).st g s a h.i p q,h.v,h.b⟩
 hd g s a h:=⟨(wB _).hd g s a h.i,h.v,h.b⟩
theorem Ym {g:Pg} (h:Pok g) (hb:g.bld.big=false):Gmo g.bld:=by
 have hn8:=h.n
 have hvl:g.vs.length=g.bs.length:=by simp[Pg.vs]
 have hsz:=h.sz;have k0:=qc9 (vs:=g.vs) (bs:=g.bs);have k:=M5 g.vs.length g.body k0 (a:=0) (by omega) (by simp[Gb.point,gb0]);have i0:Gvb g.vs g.bs (gb0 g.vs g.bs).point:=⟨⟨fun e he=>by simp[Gb.point,gb0] at he,fun _ e he=>by simp[Gb.point,gb0] at he,fun i j hj=>by cases i <;> simp[Gb.point,gb0] at hj,fun i j hj=>by cases i <;> simp[Gb.point,gb0] at hj⟩,rfl,rfl⟩;have i1:=vt (qui g.vs g.bs) g.body h.fit k0 i0 (a:=0) (by omega) (by simp[Gb.point,gb0]);have le:=k.le;have hol:=k.ok.ol;have hel:=k.ok.el;have hgl:(gb0 g.vs g.bs).point.out.length=1:=rfl;unfold Gb.big at hb;rw[Bool.or_eq_false_iff] at hb;obtain ⟨b1,b2⟩:=hb;have b2:=of_decide_eq_false b2;unfold Pg.bld at b1 b2 ⊢;generalize Sms.bld g.vs.length g.body (gb0 g.vs g.bs).point 0=r at *;simp only[] at b1 b2 ⊢;have i2:=q9j i1.i r.2
 exact {
  gin:=(congrArg List.length i1.v) ▸ i2
  n:=by show r.1.vs.length≤8; rw[i1.v]; omega
  lg:=b1
  pt:=⟨by show 1≤r.1.out.length; omega,by show r.1.out.length≤64; have:¬ 64 < r.1.out.length:=b2; omega⟩
  il:=k.ok.il
  el:=by show r.1.edges.length≤_; omega
  os:=fun i=>by have:=k.ok.os i; show (r.1.out.getD i []).length≤_; omega
  is:=fun i=>by have:=k.ok.is i; show (r.1.inn.getD i []).length≤_; omega
  bl:=by show r.1.bs.length=r.1.vs.length; rw[i1.v,i1.b,hvl]
  bs:=fun b hm=>by
   change b∈r.1.bs at hm;rw[i1.b] at hm;have:=h.bs b hm;have:=this.name.l
   exact ⟨(h.bs b hm).val,by omega⟩ }
structure Sd where
 p:Int
 st:List Int
 s:Int
 u:Int
 w:Int
 c:Int
 deriving DecidableEq
def Sd.cs (x:Sd):List D:=[.int .i64 x.p,.sl (WL x.st),.int .i64 x.s,.int .i64 x.u,.int .i64 x.w,.int .i64 x.c]
def Mc.sd (m:Mc):Sd:=⟨m.p,m.st,m.steps,m.used,m.look.k,m.look.w⟩
theorem qua {m n:Mc} (hg:m.g=n.g) (hp:m.p=n.p) (hs:m.st=n.st) (hc:m.ch[m.used]? = n.ch[n.used]?):m.look=n.look:=by
 obtain ⟨g,p,s,u,st,ch⟩:=m;obtain ⟨g2,p2,s2,u2,st2,ch2⟩:=n;simp only at hg hp hs hc;subst hg;subst hp;subst hs
 have h1:∀ e,q3k ⟨g,p,s,u,st,ch⟩ e=q3k ⟨g,p,s2,u2,st,ch2⟩ e:=fun e=>by unfold q3k; simp only[hc]
 have h2:∀ o,qre ⟨g,p,s,u,st,ch⟩ o=qre ⟨g,p,s2,u2,st,ch2⟩ o:=fun o=>by unfold qre; simp only[hc]
 unfold Mc.look;show (match g.outN p with | []=>_ | i :: r=>_)=(match g.outN p with | []=>_ | i :: r=>_)
 cases g.outN p with
 | nil=>rfl
 | cons i r=>
   simp only[h1,h2];rfl
def Mc.with (m:Mc) (ch:List Int):Mc:={ m with ch:=ch }
structure Late (S:Int) (U:Nat) (m n:Mc):Prop where
 g:n.g=m.g
 p:n.p=m.p
 st:n.st=m.st
 s:n.steps + S=m.steps
 u:n.used + U=m.used
 ch:n.ch=m.ch.drop U
theorem Late.look {S U m n} (h:Late S U m n):n.look=m.look:=
 qua h.g h.p h.st (by rw[h.ch,List.getElem?_drop,← h.u,Nat.add_comm])
def oGb:Option Gb→D
 | none=>.nilp
 | some g=>g.d
def Jf (s:List UInt8):Option Gb:=match (P5 s).1 with
 | none=>none
 | some g=>if g.bld.big=true then none else some g.bld
theorem qu4 {s:List UInt8} {g:Gb} (h:Jf s=some g):Gmo g:=by
 unfold Jf at h;split at h
 ·cases h
 ·rename_i p hp;split at h
  ·cases h
  ·rename_i hb;cases h;exact Ym (Xs hp) (by simpa using hb)
theorem qpk:d6 T0 X0 qdm [.d .nilp] []=some (.ret [.d .nilp,.d (.int .i64 1)] []):=by
 rw[c9 (af:=vh) rfl rfl rfl];simp -implicitDefEqProofs (disch:=omega) [vh]
structure Rat (es:List Ed) (p:Ed→Int) (x:Int) (o:List Int):Prop where
 up:o.Pairwise (· < ·)
 e:∀ j∈o,0≤j∧j < es.length ∧ ∃ e,es[j.toNat]? = some e∧p e=x
 l:o.length≤900000
theorem Rat.get {es p x o} (h:Rat es p x o) {i:Nat} (hi:i < o.length):∃ (j:Nat) (e:Ed),(LD inL o)[i]? = some (.int .i64 j)∧(LD eaL es)[j]? = some (.agg e.a)∧e∈es∧p e=x∧o[i]=j∧j < es.length:=by
 obtain ⟨a,b,e,c,d⟩:=h.e _ (List.getElem_mem hi);obtain ⟨j,hj⟩:=Int.eq_ofNat_of_zero_le a;rw[hj,Int.toNat_natCast] at c;obtain ⟨hl,he⟩:=List.getElem?_eq_some_iff.1 c;exact ⟨j,e,by rw[jM inL o hi,hj]; rfl,by rw[qr9 hl,he],by rw[← he]; exact List.getElem_mem hl,d,hj,hl⟩
structure Gol (g:Gb):Prop where
 w:Grw g
 fk:Gfk g
 z:g.inn.getD 0 []=[]
 pt:1≤g.out.length∧g.out.length≤64
 el:g.edges.length≤900000
 os:∀ i,(g.out.getD i []).length≤900000
 is:∀ i,(g.inn.getD i []).length≤900000
 row:∀ e∈g.edges,e.row.length≤9 ∧ ∀ x∈e.row,nl x≤32
theorem Gol.ro {g:Gb} (h:Gol g) {x:Nat}:Rat g.edges Ed.f x (g.out.getD x []):=⟨h.w.o.up x,h.w.o.e x,h.os x⟩
def q2s:List UInt8:=[118,97,114,115,32,120,59,32,108,111,111,112,32,123,32,120,32,58,61,32,50,32,42,32,120,59,32,125]
theorem zjb:(Jf q2s).map (fun g=>[(g.out.length:Int),g.ex,g.edges.length,(g.edges.getD 2 ed0).k,if g.pure then 1 else 0])=some [5,4,5,2,1]:=by decide +kernel
theorem WR (s:List UInt8) (hs:s.length≤1100000):d6 T0 X0 JI [.d (.str s)] []=some (.ret [.d (oGb (Jf s))] []):=by
 have s1:=xL s (by omega);rw[c9 (af:=M3) rfl rfl rfl];unfold Jf
 have hp:=fun g=>Xs (s:=s) (g:=g)
 generalize P5 s=q at *;obtain ⟨o,e,p⟩:=q
 cases o with
 | none=>
   have s2:=qpk;simp only[oG,oGb,Pl.cs] at s1 ⊢;simp (maxSteps:=4000000) -implicitDefEqProofs (disch:=omega) [M3,s1,s2]
 | some g=>
   have s2:=qaz (hp g rfl);unfold Pg.d at s2;simp only[oG,Pl.cs] at s1 ⊢
   by_cases hb:g.bld.big=true
   ·simp only[if_pos hb,oGb] at s2 ⊢;simp (maxSteps:=4000000) -implicitDefEqProofs (disch:=omega) [M3,s1,s2]
   ·simp only[if_neg hb,oGb] at s2 ⊢;simp (maxSteps:=4000000) -implicitDefEqProofs (disch:=omega) [M3,s1,s2]
theorem WS:d6 T0 X0 JJ [] []=some (.ret [.d (.bool true)] []):=by
 have s1:=WR q2s (by decide);have k:=zjb
 cases hb:Jf q2s with
 | none=>rw[hb] at k; cases k
 | some g=>
   rw[hb] at k s1;have hg:=qu4 hb;simp only[Option.map_some,Option.some.injEq,List.cons.injEq,and_true] at k;obtain ⟨k1,k2,k3,k4,k5⟩:=k
   have k5:g.pure=true:=by
    cases h:g.pure with
    | true=>rfl
    | false=>rw[h] at k5; simp at k5
   have hl2:2 < g.edges.length:=by omega
   have k4:(g.edges[2]).k=2:=by simpa [List.getD_eq_getElem?_getD,hl2] using k4
   have hpt:=hg.pt;have s2:=Xt g (by omega);have s3:=qjm g;have s4:=Yw g (by omega) (fun e he=>⟨by have:=(hg.row e he).1; omega,fun n hn=>by have:=(hg.row e he).2 n hn; omega⟩);have s5:=q7q g (by omega);have hge:=qr9 hl2;have hr:=(hg.row _ (List.getElem_mem hl2)).1;generalize g.edges[2]=ed at *
   have hle:g.edges.length=5:=by omega
   simp only[Ed.a,k4] at hge;rw[c9 (af:=zw) rfl rfl rfl];have hD:∃ D,g.d = .box D:=⟨_,rfl⟩;obtain ⟨D,hD⟩:=hD;have hw:(5 * wl (LD eaL g.edges)≤w8)=True:=eq_true (Nat.le_trans (Nat.mul_le_mul_left 5 (qkc eaL _)) (by decide));simp only[q2s,oGb,hD,k1,k2,k5] at s1 s2 s3 s4 s5;clear k1 k2 k3 k5 hg hb;simp (maxSteps:=4000000) -implicitDefEqProofs (disch:=omega) [zw,s1,s2,s3,s4,s5,hge,hle,hw]
end Go.Rf
