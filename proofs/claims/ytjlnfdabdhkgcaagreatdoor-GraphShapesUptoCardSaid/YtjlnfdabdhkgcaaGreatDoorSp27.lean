/- Parts of the proof: SpQH, SpQI, SpQJ, SpQK, SpU6, SpU7, SpU8, SpU9. -/
import Derived.Test.YtjlnfdabdhkgcaaGreatDoorRb2
import Derived.Test.YtjlnfdabdhkgcaaGreatDoorSp16
import Derived.Test.YtjlnfdabdhkgcaaGreatDoorSp26
import Derived.Test.YtjlnfdabdhkgcaaGreatDoorSp12

set_option linter.unusedSimpArgs false
set_option linter.unusedVariables false
set_option linter.unnecessarySimpa false
set_option linter.unusedSectionVars false
set_option linter.all false
namespace Go.Rf
set_option maxHeartbeats 4000000
def Gfr (g:Gb):Prop:=∀ x,∀ j∈g.out.getD x [],∃ e,g.edges[j.toNat]? = some e∧e.f=(x:Int)
theorem qkz {l:List (List Int)} {k i:Nat} {x j:Int} (h:j∈(l.set k (l.getD k []++[x])).getD i []):j∈l.getD i []∨j=x∧i=k:=by
 simp only[List.getD_eq_getElem?_getD,List.getElem?_set] at h ⊢;split at h
 ·rename_i e;subst e;split at h
  ·simp only[Option.getD_some,List.mem_append,List.mem_singleton] at h;rcases h with h | h
   ·exact .inl h
   ·exact .inr ⟨h,rfl⟩
  ·simp at h
 ·exact .inl h
theorem qsz (n:Nat):Keeps n Gfr where
 pt g h x j hj:=by
  simp only[Gb.point,O4] at hj ⊢;exact h x j hj
 ed g e h _ f0 _ _ _ _ x j hj:=by
  rcases qkz hj with hj | ⟨rfl,hx⟩
  ·obtain ⟨d,h1,h2⟩:=h x j hj;exact ⟨d,by rw[show (g.edge e).edges=g.edges++[e] from rfl,List.getElem?_append_left (List.getElem?_eq_some_iff.1 h1).1]; exact h1,h2⟩
  ·exact ⟨e,by rw[show (g.edge e).edges=g.edges++[e] from rfl,Int.toNat_natCast]; simp,by omega⟩
 lg g b h:=h
 mr g s a h _ _:=h
 st g b a h _ _:=h
 hd g b a h:=h
structure Gfk (g:Gb):Prop where
 fk:∀ x,x < g.out.length→∃ es,Lds g x es∧FkE es
 fr:Gfr g
theorem q0x {g:Pg} (h:Pok g):Gfk g.bld:=by
 have k0:=qib (vs:=g.vs) (bs:=g.bs);have hl:(gb0 g.vs g.bs).point.out.length=1:=rfl;have i1:=kp (qsz g.vs.length) g.body h.fit k0 (fun x j hj=>by cases x <;> simp[Gb.point,gb0] at hj) (a:=0) (by omega) (by omega);have b:=Zh g.vs.length g.body h.fit (g:=(gb0 g.vs g.bs).point) (a:=0) (by omega) (j7 (Q8 (by simp[gb0])));unfold Pg.bld;rw[show ((0:Nat):Int)=0 from rfl] at b;generalize Sms.bld g.vs.length g.body (gb0 g.vs g.bs).point 0=r at *;have b0:=b.b0;refine ⟨fun x hx=>?_,i1⟩
 by_cases hr:(x:Int)=r.2
 ·have:=b.en;rw[← hr,Int.toNat_natCast] at this;exact ⟨[],vS rfl rfl this,.nil⟩
 ·obtain ⟨es,e1,e2⟩:=b.fk x hx (by omega) hr;exact ⟨es,vS rfl rfl e1,e2⟩
end Go.Rf

namespace Go.Rf
set_option maxHeartbeats 4000000
def wk (l:List (List Int)):Nat:=(l.map List.length).sum
theorem qul {l:List (List Int)} {k:Nat} {x:Int} (h:k < l.length):wk (l.set k (l.getD k []++[x]))=wk l + 1:=by
 unfold wk
 induction l generalizing k with
 | nil=>simp at h
 | cons a l ih=>
   cases k with
   | zero=>simp; omega
   | succ k=>
     have:=ih (k:=k) (by simpa using h);simp only[List.set_cons_succ,List.map_cons,List.sum_cons,List.getD_cons_succ];omega
theorem qum (l:List (List Int)):wk (l++[[]])=wk l:=by simp[wk]
structure Rowg (es:List Ed) (p:Ed→Int) (l:List (List Int)):Prop where
 up:∀ x,(l.getD x []).Pairwise (· < ·)
 e:∀ x,∀ j∈l.getD x [],0≤j∧j < es.length ∧ ∃ e,es[j.toNat]? = some e∧p e=(x:Int)
 s:wk l=es.length
theorem Rowg.app {es p l} (h:Rowg es p l):Rowg es p (l++[[]]):=⟨fun x=>by rw[O4]; exact h.up x,fun x j hj=>h.e x j (by rw[O4] at hj; exact hj),by rw[qum]; exact h.s⟩
theorem Rowg.set {es:List Ed} {p:Ed→Int} {l} (h:Rowg es p l) (e:Ed) (h0:0≤p e) (h1:p e < l.length):Rowg (es++[e]) p (l.set (p e).toNat (l.getD (p e).toNat []++[(es.length:Int)])) where
 up x:=by
  have hx:=h.up x;simp only[List.getD_eq_getElem?_getD,List.getElem?_set] at hx ⊢;split
  ·rename_i he;rw[if_pos (by omega)];simp only[Option.getD_some];rw[he,List.pairwise_append];refine ⟨hx,by simp,fun a ha b hb=>?_⟩;rw[List.mem_singleton] at hb;have:=h.e x a (by rw[List.getD_eq_getElem?_getD]; exact ha);omega
  ·exact hx
 e x j hj:=by
   rcases qkz hj with hj | ⟨rfl,hx⟩
   ·obtain ⟨a,b,d,c1,c2⟩:=h.e x j hj;exact ⟨a,by simp; omega,d,by rw[List.getElem?_append_left (by omega)]; exact c1,c2⟩
   ·exact ⟨by omega,by simp; omega,e,by simp,by omega⟩
 s:=by rw[qul (by omega),h.s]; simp
structure Grw (g:Gb):Prop where
 il:g.inn.length=g.out.length
 o:Rowg g.edges Ed.f g.out
 i:Rowg g.edges Ed.t g.inn
theorem qsw (n:Nat):Keeps n Grw where
 pt g h:=⟨by simp[Gb.point,h.il],h.o.app,h.i.app⟩
 ed g e h _ f0 f1 t0 t1 _:=⟨by simp[Gb.edge,h.il],h.o.set e f0 f1,h.i.set e t0 (by rw[h.il]; exact t1)⟩
 lg g b h:=⟨h.il,h.o,h.i⟩
 mr g s a h _ _:=⟨h.il,h.o,h.i⟩
 st g b a h _ _:=⟨h.il,h.o,h.i⟩
 hd g b a h:=⟨h.il,h.o,h.i⟩
mutual
def Sm.soft (n:Nat):Sm→Bool
 | .set _ _ _ (some x)=>(r9 n x).2
 | .ifs ..=>false
 | .ife ..=>false
 | .while ..=>false
 | .choose _ bs=>Bls.soft n bs
 | .loop _ b=>Sms.soft n b
 | _=>true
def Sms.soft (n:Nat):List Sm→Bool
 | []=>true
 | s :: l=>s.soft n && Sms.soft n l
def Bls.soft (n:Nat):List Bl→Bool
 | []=>true
 | .mk _ b :: l=>Sms.soft n b && Bls.soft n l
end
mutual
def Sm.stops:Sm→Nat
 | .stop _=>1
 | .choose _ bs=>Bls.stops bs
 | .loop _ b=>Sms.stops b
 | .ifs _ _ _ _ b=>Sms.stops b
 | .ife _ _ _ _ b _ e=>Sms.stops b + Sms.stops e
 | .while _ _ _ _ b=>Sms.stops b
 | _=>0
def Sms.stops:List Sm→Nat
 | []=>0
 | s :: l=>s.stops + Sms.stops l
def Bls.stops:List Bl→Nat
 | []=>0
 | .mk _ b :: l=>Sms.stops b + Bls.stops l
end
theorem qu3 {w:Wk} {b:Bool} {p:Pl} (h:b=false):(w.nl.see b p).hard≠[]:=by
 unfold Wk.see;rw[h];simp
mutual
theorem qjr (n:Nat):∀ (s:Sm) (w:Wk),s.simple n=true→((s.within n w).hard=[]↔w.hard=[]∧s.soft n=true)
 | .choose _ bs,w,_=>by simp only[Sm.within,Sm.soft]; exact qmy n true bs w
 | .loop _ b,w,_=>by simp only[Sm.within,Sm.soft]; exact Jt n b w
 | .ifs ..,w,h=>by cases h
 | .ife ..,w,h=>by cases h
 | .while ..,w,h=>by cases h
 | .set _ _ _ none,w,_=>by simp[Sm.within,Sm.soft]
 | .set _ _ _ (some x),w,h=>by
   have h:(r9 n x).2=true:=h;simp[Sm.within,Sm.soft,h]
 | .skip _,w,_=>by simp[Sm.within,Sm.soft]
 | .stop _,w,_=>by simp[Sm.within,Sm.soft]
 | .mark ..,w,_=>by simp[Sm.within,Sm.soft]
theorem Jt (n:Nat):∀ (l:List Sm) (w:Wk),(Sms.walk n l w).hard=[]↔w.hard=[]∧Sms.soft n l=true
 | [],w=>by simp[Sms.walk,Sms.soft]
 | s :: l,w=>by
   simp only[Sms.walk,Sms.soft,Bool.and_eq_true];rw[Jt n l]
   cases hs:s.simple n with
   | true=>
     rw[qjr n s _ hs];have:(w.nl.see true s.at_).hard=w.hard:=rfl;rw[this,and_assoc]
   | false=>
     have h1:(s.within n (w.nl.see false s.at_)).hard≠[]:=fun e=>by
      have:=(Js n s (w.nl.see false s.at_)).h0;rw[e] at this;simp at this;exact qu3 rfl this
     have h2:s.soft n=false:=by
      cases s with
      | set p v t e=>
        cases e with
        | none=>cases hs
        | some x=>exact hs
      | ifs=>rfl
      | ife=>rfl
      | «while»=>rfl
      | _=>cases hs
     simp[h1,h2]
theorem qmy (n:Nat):∀ (f:Bool) (l:List Bl) (w:Wk),(Bls.walk n f l w).hard=[]↔w.hard=[]∧Bls.soft n l=true
 | f,[],w=>by simp[Bls.walk,Bls.soft]
 | f,.mk _ b :: l,w=>by
   simp only[Bls.walk,Bl.walk,Bls.soft,Bool.and_eq_true];rw[qmy n false l,Jt n b]
   cases f with
   | true=>simp only[if_true,and_assoc]
   | false=>
     simp only[Bool.false_eq_true,if_false];rw[show w.nl.hard=w.hard from rfl,and_assoc]
end
end Go.Rf

namespace Go.Rf
set_option maxHeartbeats 4000000
theorem eE (g:Gb) (e:Ed):(g.edge e).edges.length=g.edges.length + 1:=by simp[Gb.edge]
theorem qlf (p:Pl) (j:Int):∀ (l:List Int) (g:Gb),(Y3 p j l g).edges.length=g.edges.length + l.length∧(Y3 p j l g).out.length=g.out.length
 | [],g=>⟨rfl,rfl⟩
 | e :: l,g=>by
   obtain ⟨a,b⟩:=qlf p j l (g.edge { f:=e,t:=j,k:=1,at_:=p });exact ⟨by rw[Y3,a,eE,List.length_cons]; omega,by rw[Y3,b,eo]⟩
mutual
theorem zgy (n:Nat):∀ (s:Sm) (g:Gb) (a:Int),(s.bld n g a).1.edges.length + 2 * g.out.length≤g.edges.length + 2 * (s.bld n g a).1.out.length
 | .set p v t e,g,a=>by
   have k:∀ (g':Gb) e,g'.out.length=g.out.length + 1→g'.edges.length=g.edges.length→(g'.edge e).edges.length + 2 * g.out.length≤g.edges.length + 2 * (g'.edge e).out.length:=fun g' e h1 h2=>by rw[eE,eo]; omega
   cases e with
   | none=>exact k _ _ (po g) rfl
   | some x=>
     simp only[Sm.bld];split
     ·exact k _ _ (po g) rfl
     ·exact k _ _ (po g) rfl
 | .skip p,g,a=>by simp only[Sm.bld]; rw[eE,eo,po]; show g.edges.length + 1 + _≤_; omega
 | .stop p,g,a=>by simp only[Sm.bld]; rw[po]; show g.edges.length + _≤_; omega
 | .mark p s,g,a=>Nat.le_refl _
 | .choose p bs,g,a=>by
   have h:=qya n p a bs.length bs 0 g;simp only[Sm.bld];obtain ⟨j1,j2⟩:=qlf p (Bls.bld n p a bs.length 0 bs g).1.out.length (Bls.bld n p a bs.length 0 bs g).2 (Bls.bld n p a bs.length 0 bs g).1.point;rw[j1,j2,po];show (Bls.bld n p a bs.length 0 bs g).1.edges.length + _ + _≤_;omega
 | .loop p b,g,a=>by
   simp only[Sm.bld];have h:=Xr n b ((g.point.edge { f:=a,t:=g.out.length,k:=1,at_:=p }).point.edge { f:=g.out.length,t:=g.out.length + 1,k:=5,tk:=1,mn:=2,at_:=p }) (g.out.length + 1);generalize Sms.bld n b _ _=r at *
   have e1:((g.point.edge { f:=a,t:=g.out.length,k:=1,at_:=p }).point.edge { f:=g.out.length,t:=g.out.length + 1,k:=5,tk:=1,mn:=2,at_:=p }).edges.length=g.edges.length + 2:=by rw[eE]; show (g.point.edge _).edges.length + 1=_; rw[eE]; rfl
   rw[e1,eo,po,eo,po] at h;rw[eE,eo,po,eo];show (r.1.edge _).edges.length + 1 + _≤_;rw[eE];omega
 | .ifs p x y q b,g,a=>by
   simp only[Sm.bld];have h:=Xr n b (g.point.edge (tEd n a g.out.length x y q true p)) g.out.length;generalize Sms.bld n b _ _=r at *;rw[eE,eo,po] at h;rw[eE,eE,eo,eo,po,eo,po];show (r.1.point.edge _).edges.length + 1 + 1 + _≤_;rw[eE];have h:r.1.edges.length + 2 * (g.out.length + 1)≤g.edges.length + 1 + 2 * r.1.out.length:=h;show r.1.edges.length + 1 + 1 + 1 + _≤_;omega
 | .ife p x y q b pe e,g,a=>by
   simp only[Sm.bld];have h:=Xr n b (g.point.edge (tEd n a g.out.length x y q true p)) g.out.length;generalize Sms.bld n b _ _=r at *;rw[eE,eo,po] at h;have h:r.1.edges.length + 2 * (g.out.length + 1)≤g.edges.length + 1 + 2 * r.1.out.length:=h;have h2:=Xr n e (r.1.point.edge (tEd n a r.1.out.length x y q false p)) r.1.out.length;generalize Sms.bld n e _ _=r2 at *;rw[eE,eo,po] at h2;have h2:r2.1.edges.length + 2 * (r.1.out.length + 1)≤r.1.edges.length + 1 + 2 * r2.1.out.length:=h2;rw[eE,eE,eo,eo,po];show r2.1.edges.length + 1 + 1 + _≤_;omega
 | .while p x y q b,g,a=>by
   simp only[Sm.bld];have hp:(g.point.head p.b g.out.length).out.length=g.out.length + 1:=po g;have h:=Xr n b (((g.point.head p.b g.out.length).edge { f:=a,t:=g.out.length,k:=1,at_:=p }).point.edge (tEd n g.out.length (g.out.length + 1) x y q true p)) (g.out.length + 1);generalize Sms.bld n b _ _=r at *
   have e1:(((g.point.head p.b g.out.length).edge { f:=a,t:=g.out.length,k:=1,at_:=p }).point.edge (tEd n g.out.length (g.out.length + 1) x y q true p)).edges.length=g.edges.length + 2:=by rw[eE]; show ((g.point.head p.b g.out.length).edge _).edges.length + 1=_; rw[eE]; rfl
   rw[e1,eo,po,eo,hp] at h;rw[eE,eo,po,eo];show (r.1.edge _).edges.length + 1 + _≤_;rw[eE];omega
theorem Xr (n:Nat):∀ (l:List Sm) (g:Gb) (a:Int),(Sms.bld n l g a).1.edges.length + 2 * g.out.length≤g.edges.length + 2 * (Sms.bld n l g a).1.out.length
 | [],g,a=>Nat.le_refl _
 | s :: l,g,a=>by
   have h:=zgy n s (g.start s.at_.b a) a;have h2:=Xr n l (s.bld n (g.start s.at_.b a) a).1 (s.bld n (g.start s.at_.b a) a).2;have h:_ + 2 * g.out.length≤g.edges.length + _:=h;show (Sms.bld n l (s.bld n (g.start s.at_.b a) a).1 (s.bld n (g.start s.at_.b a) a).2).1.edges.length + _≤_ + 2 * (Sms.bld n l (s.bld n (g.start s.at_.b a) a).1 (s.bld n (g.start s.at_.b a) a).2).1.out.length;omega
theorem qya (n:Nat) (p:Pl) (f mn:Int):∀ (l:List Bl) (i:Int) (g:Gb),(Bls.bld n p f mn i l g).1.edges.length + (Bls.bld n p f mn i l g).2.length + 2 * g.out.length≤g.edges.length + 2 * (Bls.bld n p f mn i l g).1.out.length
 | [],i,g=>Nat.le_refl _
 | .mk q b :: l,i,g=>by
   simp only[Bls.bld,List.length_cons];have h:=Xr n b (g.point.edge { f,t:=g.out.length,k:=5,tk:=i,mn,at_:=p }) g.out.length;generalize Sms.bld n b _ _=r at *;rw[eE,eo,po] at h;have h:r.1.edges.length + 2 * (g.out.length + 1)≤g.edges.length + 1 + 2 * r.1.out.length:=h;have h2:=qya n p f mn l (i + 1) r.1;omega
end
def aln (g:Gb):Nat:=g.inn.countP List.isEmpty
structure Cn (m:Nat) (g r:Gb) (k:Nat):Prop where
 il:r.inn.length=r.out.length
 len:g.out.length≤r.out.length
 old:∀ x,x < m→r.inn.getD x []=g.inn.getD x []
 al:aln r=aln g + k
theorem Cn.trans {m g r s k j} (h:Cn m g r k) (h2:Cn m r s j):Cn m g s (k + j):=⟨h2.il,Nat.le_trans h.len h2.len,fun x hx=>(h2.old x hx).trans (h.old x hx),by rw[h2.al,h.al]; omega⟩
theorem Cn.to {m m' g r k} (h:Cn m g r k) (hm:m'≤m):Cn m' g r k:=⟨h.il,h.len,fun x hx=>h.old x (by omega),h.al⟩
theorem qls {l:List (List Int)} {a:List Int} {x:Nat} (h:x < l.length):(l++[a]).getD x []=l.getD x []:=by simp[List.getElem?_append_left h]
theorem jW {g:Gb} (il:g.inn.length=g.out.length) (g':Gb) (h1:g'.out=g.point.out) (h2:g'.inn=g.point.inn) (e:Ed) (ht:e.t=g.out.length):Cn g.out.length g (g'.edge e) 0∧(g'.edge e).inn.getD g.out.length []≠[]:=by
 have hi:(g'.edge e).inn=g.inn++[[(g'.edges.length:Int)]]:=by
  simp only[Gb.edge,h2,Gb.point];rw[show e.t.toNat=g.inn.length by omega];simp
 refine ⟨⟨?_,by rw[eo,h1,po]; omega,fun x hx=>?_,?_⟩,?_⟩
 ·rw[hi,eo,h1,po]; simp[il]
 ·rw[hi,qls (by omega)]
 ·unfold aln; rw[hi]; simp
 ·rw[hi]; simp[← il]
theorem YV {g:Gb} {m:Nat} (il:g.inn.length=g.out.length) (e:Ed) (h0:(m:Int)≤e.t) (hn:g.inn.getD e.t.toNat []≠[]):Cn m g (g.edge e) 0 ∧ ∀ x,g.inn.getD x []≠[]→(g.edge e).inn.getD x []≠[]:=by
 have hl:e.t.toNat < g.inn.length:=by
  by_cases h:e.t.toNat < g.inn.length
  ·exact h
  ·exfalso; exact hn (by simp[List.getElem?_eq_none (Nat.not_lt.1 h)])
 refine ⟨⟨by simp[Gb.edge,il],by rw[eo]; exact Nat.le_refl _,fun x hx=>?_,?_⟩,fun x hx=>?_⟩
 ·simp only[Gb.edge,List.getD_eq_getElem?_getD,List.getElem?_set];rw[if_neg (by omega)]
 ·unfold aln;simp only[Gb.edge];rw[List.countP_set hl]
  have h1:(g.inn.getD e.t.toNat []++[(g.edges.length:Int)]).isEmpty=false:=by simp
  have h2:(g.inn[e.t.toNat]).isEmpty=false:=by
   simp only[List.getD_eq_getElem?_getD,List.getElem?_eq_getElem hl,Option.getD_some] at hn
   cases hh:g.inn[e.t.toNat] with
   | nil=>exact absurd hh hn
   | cons a l=>rfl
  simp[h1,h2]
 ·simp only[Gb.edge,List.getD_eq_getElem?_getD,List.getElem?_set] at hx ⊢;split
  ·simp
  ·exact hx
theorem qxy {g:Gb} {m:Nat} (il:g.inn.length=g.out.length) (hm:m≤g.out.length):Cn m g g.point 1:=
 ⟨by simp[Gb.point,il],by rw[po]; omega,fun x hx=>by simp only[Gb.point]; rw[O4],by unfold aln; simp[Gb.point]⟩
theorem qlg {m:Nat} (p:Pl) (j:Nat) (hm:m≤j):∀ (l:List Int) {g:Gb},g.inn.length=g.out.length→g.inn.getD j []≠[]→Cn m g (Y3 p j l g) 0
 | [],g,il,_=>⟨il,Nat.le_refl _,fun _ _=>rfl,rfl⟩
 | e :: l,g,il,h=>by
   obtain ⟨a,b⟩:=YV (m:=m) il { f:=e,t:=j,k:=1,at_:=p } (by simp only[]; omega) (by simpa using h);exact a.trans (qlg p j hm l a.il (b j h))
end Go.Rf

namespace Go.Rf
set_option maxHeartbeats 4000000
mutual
theorem zgz (n:Nat) {vs:List (List UInt8)}:∀ (s:Sm),s.fit vs→∀ (g:Gb) (a:Int),g.inn.length=g.out.length→Cn g.out.length g (s.bld n g a).1 s.stops
 | .set p v t e,_,g,a,il=>by
   cases e with
   | none=>exact (jW il _ rfl rfl _ rfl).1
   | some x=>
     simp only[Sm.bld];split
     ·exact (jW il { g.point with long:=g.long || zX (r9 n x).1 } rfl rfl _ rfl).1
     ·exact (jW il _ rfl rfl _ rfl).1
 | .skip p,_,g,a,il=>(jW il _ rfl rfl _ rfl).1
 | .stop p,_,g,a,il=>qxy il (Nat.le_refl _)
 | .mark p s,_,g,a,il=>⟨il,Nat.le_refl _,fun _ _=>rfl,rfl⟩
 | .choose p bs,hf,g,a,il=>by
   obtain ⟨h,hne⟩:=qyb n p a bs.length bs hf.2 0 g il;simp only[Sm.bld,Sm.stops];have hne:=hne hf.1;generalize Bls.bld n p a bs.length 0 bs g=z at *;obtain ⟨z1,z2⟩:=z;simp only[] at *;have hl:=h.len
   cases z2 with
   | nil=>exact absurd rfl hne
   | cons e l=>
     obtain ⟨c1,c2⟩:=jW h.il _ rfl rfl { f:=e,t:=z1.out.length,k:=1,at_:=p } rfl;have c3:=qlg (m:=g.out.length) p z1.out.length hl l c1.il c2;have:=(h.trans (c1.to hl)).trans c3;exact this
 | .loop p b,hf,g,a,il=>by
   simp only[Sm.bld,Sm.stops];obtain ⟨c1,n1⟩:=jW il g.point rfl rfl { f:=a,t:=g.out.length,k:=1,at_:=p } rfl
   have l1:(g.point.edge { f:=a,t:=g.out.length,k:=1,at_:=p }).out.length=g.out.length + 1:=by rw[eo,po]
   generalize g.point.edge { f:=a,t:=g.out.length,k:=1,at_:=p } = g1 at *;obtain ⟨c2,n2⟩:=jW c1.il g1.point rfl rfl { f:=g.out.length,t:=g.out.length + 1,k:=5,tk:=1,mn:=2,at_:=p } (by simp only[]; omega);have k2:=c2.old g.out.length (by omega);generalize g1.point.edge { f:=g.out.length,t:=g.out.length + 1,k:=5,tk:=1,mn:=2,at_:=p } = g2 at *;have l2:=c2.len;have c3:=Xs n b hf g2 (g.out.length + 1) c2.il;have k3:=c3.old g.out.length (by omega);generalize Sms.bld n b g2 (g.out.length + 1)=r at *;have l3:=c3.len;obtain ⟨c4,n4⟩:=YV (m:=g.out.length) c3.il { f:=r.2,t:=g.out.length,k:=1,at_:=p } (by simp) (by simp only[Int.toNat_natCast]; rw[k3,k2]; exact n1);generalize r.1.edge { f:=r.2,t:=g.out.length,k:=1,at_:=p } = g3 at *;have l4:=c4.len;have c5:=(jW c4.il g3.point rfl rfl { f:=g.out.length,t:=g3.out.length,k:=5,tk:=0,mn:=2,at_:=p } rfl).1;have:=(((c1.trans (c2.to (by omega))).trans (c3.to (by omega))).trans c4).trans (c5.to (by omega))
   simpa using this
 | .ifs p x y q b,hf,g,a,il=>by
   simp only[Sm.bld,Sm.stops];have c1:=(jW il g.point rfl rfl (tEd n a g.out.length x y q true p) rfl).1
   have l1:(g.point.edge (tEd n a g.out.length x y q true p)).out.length=g.out.length + 1:=by rw[eo,po]
   generalize g.point.edge (tEd n a g.out.length x y q true p)=g1 at *;have c2:=Xs n b hf.2.2 g1 g.out.length c1.il;generalize Sms.bld n b g1 g.out.length=r at *;have l2:=c2.len;have c3:=(jW c2.il r.1.point rfl rfl (tEd n a r.1.out.length x y q false p) rfl).1;generalize r.1.point.edge (tEd n a r.1.out.length x y q false p)=g2 at *;have l3:=c3.len;obtain ⟨c4,n4⟩:=jW c3.il g2.point rfl rfl { f:=r.2,t:=g2.out.length,k:=1,at_:=p } rfl;generalize g2.point.edge { f:=r.2,t:=g2.out.length,k:=1,at_:=p } = g3 at *;have c5:=(YV (m:=g.out.length) c4.il { f:=r.1.out.length,t:=g2.out.length,k:=1,at_:=p } (by simp only[]; omega) (by simpa using n4)).1;have:=(((c1.trans (c2.to (by omega))).trans (c3.to (by omega))).trans (c4.to (by omega))).trans c5
   simpa using this
 | .ife p x y q b pe e,hf,g,a,il=>by
   simp only[Sm.bld,Sm.stops];have c1:=(jW il g.point rfl rfl (tEd n a g.out.length x y q true p) rfl).1
   have l1:(g.point.edge (tEd n a g.out.length x y q true p)).out.length=g.out.length + 1:=by rw[eo,po]
   generalize g.point.edge (tEd n a g.out.length x y q true p)=g1 at *;have c2:=Xs n b hf.2.2.1 g1 g.out.length c1.il;generalize Sms.bld n b g1 g.out.length=r at *;have l2:=c2.len;have c3:=(jW c2.il r.1.point rfl rfl (tEd n a r.1.out.length x y q false p) rfl).1;generalize r.1.point.edge (tEd n a r.1.out.length x y q false p)=g2 at *;have l3:=c3.len;have c6:=Xs n e hf.2.2.2 g2 r.1.out.length c3.il;generalize Sms.bld n e g2 r.1.out.length=s at *;have l6:=c6.len;obtain ⟨c4,n4⟩:=jW c6.il s.1.point rfl rfl { f:=r.2,t:=s.1.out.length,k:=1,at_:=p } rfl;generalize s.1.point.edge { f:=r.2,t:=s.1.out.length,k:=1,at_:=p } = g3 at *;have c5:=(YV (m:=g.out.length) c4.il { f:=s.2,t:=s.1.out.length,k:=1,at_:=p } (by simp only[]; omega) (by simpa using n4)).1;have:=((((c1.trans (c2.to (by omega))).trans (c3.to (by omega))).trans (c6.to (by omega))).trans (c4.to (by omega))).trans c5
   simpa using this
 | .while p x y q b,hf,g,a,il=>by
   simp only[Sm.bld,Sm.stops];have hp:(g.point.head p.b g.out.length).out.length=g.out.length + 1:=po g;obtain ⟨c1,n1⟩:=jW il (g.point.head p.b g.out.length) rfl rfl { f:=a,t:=g.out.length,k:=1,at_:=p } rfl
   have l1:((g.point.head p.b g.out.length).edge { f:=a,t:=g.out.length,k:=1,at_:=p }).out.length=g.out.length + 1:=by rw[eo,hp]
   generalize (g.point.head p.b g.out.length).edge { f:=a,t:=g.out.length,k:=1,at_:=p } = g1 at *;obtain ⟨c2,n2⟩:=jW c1.il g1.point rfl rfl (tEd n g.out.length (g.out.length + 1) x y q true p) (by show (g.out.length:Int) + 1=_; omega);have k2:=c2.old g.out.length (by omega);generalize g1.point.edge (tEd n g.out.length (g.out.length + 1) x y q true p)=g2 at *;have l2:=c2.len;have c3:=Xs n b hf.2.2 g2 (g.out.length + 1) c2.il;have k3:=c3.old g.out.length (by omega);generalize Sms.bld n b g2 (g.out.length + 1)=r at *;have l3:=c3.len;obtain ⟨c4,n4⟩:=YV (m:=g.out.length) c3.il { f:=r.2,t:=g.out.length,k:=1,at_:=p } (by simp) (by simp only[Int.toNat_natCast]; rw[k3,k2]; exact n1);generalize r.1.edge { f:=r.2,t:=g.out.length,k:=1,at_:=p } = g3 at *;have l4:=c4.len;have c5:=(jW c4.il g3.point rfl rfl (tEd n g.out.length g3.out.length x y q false p) rfl).1;have:=(((c1.trans (c2.to (by omega))).trans (c3.to (by omega))).trans c4).trans (c5.to (by omega))
   simpa using this
theorem Xs (n:Nat) {vs:List (List UInt8)}:∀ (l:List Sm),Sms.fit vs l→∀ (g:Gb) (a:Int),g.inn.length=g.out.length→Cn g.out.length g (Sms.bld n l g a).1 (Sms.stops l)
 | [],_,g,a,il=>⟨il,Nat.le_refl _,fun _ _=>rfl,rfl⟩
 | s :: l,hf,g,a,il=>by
   have h:=zgz n s hf.1 (g.start s.at_.b a) a il;have h:Cn g.out.length g (s.bld n (g.start s.at_.b a) a).1 s.stops:=⟨h.il,h.len,h.old,h.al⟩;exact h.trans ((Xs n l hf.2 _ _ h.il).to h.len)
theorem qyb (n:Nat) (p:Pl) (f mn:Int) {vs:List (List UInt8)}:∀ (l:List Bl),Bls.fit vs l→∀ (i:Int) (g:Gb),g.inn.length=g.out.length→Cn g.out.length g (Bls.bld n p f mn i l g).1 (Bls.stops l)∧(l≠[]→(Bls.bld n p f mn i l g).2≠[])
 | [],_,i,g,il=>⟨⟨il,Nat.le_refl _,fun _ _=>rfl,rfl⟩,fun h=>absurd rfl h⟩
 | .mk q b :: l,hf,i,g,il=>by
   simp only[Bls.bld,Bls.stops];have c1:=(jW il g.point rfl rfl { f,t:=g.out.length,k:=5,tk:=i,mn,at_:=p } rfl).1;have c2:=Xs n b hf.1 _ g.out.length c1.il;have l1:=c1.len;have l2:=c2.len;have c3:=(qyb n p f mn l hf.2 (i + 1) _ c2.il).1;refine ⟨?_,fun _=>by simp⟩;have:=(c1.trans (c2.to l1)).trans (c3.to (by omega))
   simpa using this
end
def pur (l:List Ed):Bool:=l.all Ed.pure
theorem qz6 (l:List Ed) (e:Ed):pur (l++[e])=(pur l && e.pure):=by simp[pur]
theorem U1 (g:Gb) (e:Ed):pur (g.edge e).edges=(pur g.edges && e.pure):=qz6 ..
theorem zo {e:Ed} (h:e.k=1∨e.k=5∨e.k=2∨e.k=3):e.pure=true:=by
 unfold Ed.pure;rw[decide_eq_true (by omega),decide_eq_true (by omega)];rfl
theorem qld (p:Pl) (j:Int):∀ (l:List Int) (g:Gb),pur (Y3 p j l g).edges=pur g.edges
 | [],g=>rfl
 | e :: l,g=>by rw[Y3,qld p j l,U1,zo (.inl rfl),Bool.and_true]
mutual
theorem zgx (n:Nat):∀ (s:Sm) (g:Gb) (a:Int),pur (s.bld n g a).1.edges=(pur g.edges && s.soft n)
 | .set p v t none,g,a=>by simp only[Sm.bld,Sm.soft]; rw[U1,zo (by simp)]; rfl
 | .set p v t (some x),g,a=>by
   simp only[Sm.bld,Sm.soft];split
   ·rename_i h;rw[U1,zo (by simp),h];rfl
   ·rename_i h;rw[U1,show (r9 n x).2=false by simpa using h,show Ed.pure _=false from rfl];rfl
 | .skip p,g,a=>by simp only[Sm.bld,Sm.soft]; rw[U1,zo (by simp)]; rfl
 | .stop p,g,a=>by simp only[Sm.bld,Sm.soft,Bool.and_true]; rfl
 | .mark p s,g,a=>by simp only[Sm.bld,Sm.soft,Bool.and_true]; rfl
 | .choose p bs,g,a=>by
   simp only[Sm.bld,Sm.soft];rw[qld];exact qx9 n p a bs.length bs 0 g
 | .loop p b,g,a=>by
   simp only[Sm.bld,Sm.soft];have h:=Xq n b ((g.point.edge { f:=a,t:=g.out.length,k:=1,at_:=p }).point.edge { f:=g.out.length,t:=g.out.length + 1,k:=5,tk:=1,mn:=2,at_:=p }) (g.out.length + 1);generalize Sms.bld n b _ _=r at *;rw[U1,zo (by simp),Bool.and_true] at h;rw[U1,zo (by simp),Bool.and_true];show pur (r.1.edge _).edges=_;rw[U1,zo (by simp),Bool.and_true,h];show (pur (g.point.edge _).edges && _)=_;rw[U1,zo (by simp),Bool.and_true];rfl
 | .ifs p x y q b,g,a=>by
   simp only[Sm.bld,Sm.soft,Bool.and_false];have h:=Xq n b (g.point.edge (tEd n a g.out.length x y q true p)) g.out.length;generalize Sms.bld n b _ _=r at *;rw[U1,show (tEd n a g.out.length x y q true p).pure=false from rfl,Bool.and_false,Bool.false_and] at h;rw[U1,U1];show (pur (r.1.point.edge _).edges && _ && _)=_;rw[U1,show pur r.1.point.edges=false from h];rfl
 | .ife p x y q b pe e,g,a=>by
   simp only[Sm.bld,Sm.soft,Bool.and_false];have h:=Xq n b (g.point.edge (tEd n a g.out.length x y q true p)) g.out.length;generalize Sms.bld n b _ _=r at *;rw[U1,show (tEd n a g.out.length x y q true p).pure=false from rfl,Bool.and_false,Bool.false_and] at h;have h2:=Xq n e (r.1.point.edge (tEd n a r.1.out.length x y q false p)) r.1.out.length;generalize Sms.bld n e _ _=r2 at *;rw[U1,show pur r.1.point.edges=false from h,Bool.false_and,Bool.false_and] at h2;rw[U1,U1,show pur r2.1.point.edges=false from h2];rfl
 | .while p x y q b,g,a=>by
   simp only[Sm.bld,Sm.soft,Bool.and_false];have h:=Xq n b (((g.point.head p.b g.out.length).edge { f:=a,t:=g.out.length,k:=1,at_:=p }).point.edge (tEd n g.out.length (g.out.length + 1) x y q true p)) (g.out.length + 1);generalize Sms.bld n b _ _=r at *;rw[U1,show (tEd n g.out.length (g.out.length + 1) x y q true p).pure=false from rfl,Bool.and_false,Bool.false_and] at h;rw[U1];show (pur (r.1.edge _).edges && _)=_;rw[U1,h];rfl
theorem Xq (n:Nat):∀ (l:List Sm) (g:Gb) (a:Int),pur (Sms.bld n l g a).1.edges=(pur g.edges && Sms.soft n l)
 | [],g,a=>by simp only[Sms.soft,Bool.and_true]; rfl
 | s :: l,g,a=>by
   have h:=zgx n s (g.start s.at_.b a) a;have h2:=Xq n l (s.bld n (g.start s.at_.b a) a).1 (s.bld n (g.start s.at_.b a) a).2;show pur (Sms.bld n l (s.bld n (g.start s.at_.b a) a).1 (s.bld n (g.start s.at_.b a) a).2).1.edges=_;rw[h2,h,Sms.soft,Bool.and_assoc];rfl
theorem qx9 (n:Nat) (p:Pl) (f mn:Int):∀ (l:List Bl) (i:Int) (g:Gb),pur (Bls.bld n p f mn i l g).1.edges=(pur g.edges && Bls.soft n l)
 | [],i,g=>by simp only[Bls.bld,Bls.soft,Bool.and_true]
 | .mk q b :: l,i,g=>by
   simp only[Bls.bld,Bls.soft];rw[qx9 n p f mn l (i + 1),Xq n b,U1,zo (by simp),Bool.and_true,Bool.and_assoc];rfl
end
end Go.Rf

namespace Go.Rf
set_option maxHeartbeats 8000000
def qfe (v:Int):List UInt8:=if v < 0 then 45 :: L0 456 v.natAbs else L0 456 v
theorem qnt {v:Int} (h:nl v≤32):d5 T0 X0 YI [.d (Wd v)] []=some (.ret [.d (.str (qfe v))] []):=by
 unfold qfe
 by_cases h0:v < 0
 ·rw[if_pos h0];have hl:(d6 (v.natAbs:Int)).length≤32:=h;have s1:=Wc (g9 (v.natAbs:Int)) 456 (by omega) (by omega) (by rw[q9 (by omega)]; exact Yq (by omega) hl);rw[q9 (by omega)] at s1;have s2:=KS (m:=v) (by omega);have hs:v.sign = -1:=Int.sign_eq_neg_one_of_neg h0;have ht:=QE (v:=(v.natAbs:Int));rw[a8 (af:=jt) rfl rfl rfl];have hd:decide (v < 0)=true:=decide_eq_true h0;simp only[Wd,hd,hs] at s2 ⊢;simp -implicitDefEqProofs (disch:=omega) [jt,s1,s2]
 ·rw[if_neg h0];exact qbg (by omega) (by unfold nl at h; rwa [Int.natAbs_of_nonneg (by omega)] at h)
def Bg.val (b:Bg):List UInt8:=if b.any then [] else [32,61,32]++qfe b.n
def qdt:Bool→List Bg→List UInt8
 | _,[]=>[]
 | f,b :: l=>(if f then [] else [44])++((32 :: b.name)++(b.val++qdt false l))
theorem We (v:Int):(qfe v).length≤4105:=by
 unfold qfe;split
 ·have:=QE (v:=(v.natAbs:Int)); simp; omega
 ·have:=QE (v:=v); omega
theorem qxu {b:Bg} (hb:BgOk b) (pre rest:List Bg) (out:List UInt8) (ho:out.length≤100000000) (hl:(pre++b :: rest).length≤1000) :
 j0 T0 X0 0 I3 (some (.nrm,⟨[(3,.d (.str out)),(9,.d (.sl (LD bgL (pre++b :: rest)))),(10,.d (.int .i64 (pre++b :: rest).length)),(11,.d (.int .i64 pre.length))],[]⟩)) =
  some (.nrm,⟨[(3,.d (.str (out++((if pre.length=0 then [] else [44])++((32 :: b.name)++b.val))))),(9,.d (.sl (LD bgL (pre++b :: rest)))),(10,.d (.int .i64 (pre++b :: rest).length)),(11,.d (.int .i64 (pre.length + 1)))],[]⟩):=by
 have hget:(LD bgL (pre++b :: rest))[pre.length]? = some (.agg b.cs):=by rw[qpw (by simp)]; simp
 have hlt:pre.length < (pre++b :: rest).length:=by simp
 have s1:=qnt hb.val;have t1:=We b.n;have n1:=hb.name.l;have hk:(d6 (b.n.natAbs:Int)).length≤32:=hb.val;unfold Bg.val;generalize (pre++b :: rest).length=N at *;generalize qfe b.n=tw at *;simp only[Wd] at s1;simp only[Bg.cs] at hget
 by_cases hz:pre.length=0
 case' pos=>rw[if_pos hz]
 case' neg=>rw[if_neg hz]
 all_goals
  cases ha:b.any
  all_goals
   rw[ha] at hget;simp -implicitDefEqProofs (disch:=omega) [I3,hget,s1,-List.length_eq_zero_iff]
theorem qml:∀ (l:List Bg) (f:Bool),(∀ b∈l,BgOk b)→(qdt f l).length≤10000 * l.length
 | [],_,_=>by simp[qdt]
 | b :: l,f,h=>by
   have ih:=qml l false (fun x hx=>h x (List.mem_cons_of_mem _ hx));have t1:=We b.n;have n1:=(h b (List.mem_cons_self ..)).name.l;unfold qdt Bg.val
   cases f <;> cases b.any <;> simp <;> omega
theorem qar:∀ (rest pre:List Bg) (out:List UInt8) (e:List (Nat × V)),(∀ b∈rest,BgOk b)→out.length≤10 + 10000 * pre.length→(pre++rest).length≤1000→
 j0 T0 X0 0 I1 (some (.nrm,⟨(3,.d (.str out)) :: (9,.d (.sl (LD bgL (pre++rest)))) :: (10,.d (.int .i64 (pre++rest).length)) :: (11,.d (.int .i64 pre.length)) :: e,[]⟩)) =
  some (.exit 0,⟨[(3,.d (.str (out++qdt (decide (pre.length=0)) rest)))],[]⟩)
 | [],pre,out,e,_,ho,hl=>by
   rw[c9 (l:=I1) rfl];simp only[qdt,List.append_nil] at *;simp -implicitDefEqProofs (disch:=omega) [I3]
 | b :: rest,pre,out,e,hb,ho,hl=>by
   have hlb:pre.length≤1000:=by simp at hl; omega
   have one:=qxu (hb b (List.mem_cons_self ..)) pre rest out (by omega) hl;have t1:=We b.n;have n1:=(hb b (List.mem_cons_self ..)).name.l
   have ih:=qar rest (pre++[b]) (out++((if pre.length=0 then [] else [44])++((32 :: b.name)++b.val))) [] (fun x hx=>hb x (List.mem_cons_of_mem _ hx)) (by
    unfold Bg.val
    split <;> cases b.any <;> simp <;> omega) (by simpa using hl)
   have el:pre++[b]++rest=pre++b :: rest:=by simp
   have e2:(pre++[b]).length=pre.length + 1:=by simp
   have e3:decide (pre.length + 1=0)=false:=by simp
   rw[el,e2,e3] at ih
   have e4:out++qdt (decide (pre.length=0)) (b :: rest)=out++((if pre.length=0 then [] else [44])++((32 :: b.name)++b.val))++qdt false rest:=by
    rw[qdt]
    by_cases hz:pre.length=0 <;> simp[hz]
   rw[e4];simp only[Int.natCast_add,Int.cast_ofNat_Int] at ih;generalize out++((if pre.length=0 then [] else [44])++((32 :: b.name)++b.val))=out2 at *;rw[← ih,c9 (l:=I1) rfl];generalize (pre++b :: rest).length=N at *;simp -implicitDefEqProofs (disch:=omega) [one]
def Pg.first (g:Pg):List UInt8:=[118,97,114,115]++qdt true g.bs
theorem qe6 {g:Pg} (h:Pok g):d5 T0 X0 QW [g.d] []=some (.ret [.d (.str g.first)] []):=by
 have hn:=h.n;have lp:=qar g.bs [] [118,97,114,115] [] h.bs (by simp) (by simp; omega);rw[a8 (af:=W3) rfl rfl rfl];unfold Pg.d Pg.cs Pg.first;simp only[List.nil_append,List.length_nil,Int.cast_ofNat_Int,decide_true] at lp;generalize ([118,97,114,115]++qdt true g.bs:List UInt8)=o at *;simp -implicitDefEqProofs (disch:=omega) [W3,lp]
end Go.Rf

namespace Go.Rf
set_option maxHeartbeats 16000000
structure Ln where
 kind:Int
 depth:Int
 text:List UInt8
 at_:Pl
def lnL:Lst Ln:=⟨fun x=>.agg [.int .i64 x.kind,.int .i64 x.depth,.str x.text,.int .i64 x.at_.b,.int .i64 x.at_.g,.int .i64 x.at_.l,.int .i64 x.at_.c],⟨7,64⟩,fun x=>by simp[wt,wts,IntKind.bits],fun x=>by simp[V.cells],by decide⟩
@[simp] theorem q4q (l):(∀ x∈LW lnL l,x.cells.length=7)=True:=kT lnL l
@[simp] theorem wl_ln (l):(wl (LD lnL l)≤64)=True:=Xk lnL l
@[simp] theorem fit_ln {n:Nat} (l) (h:n≤1099511627776):(n * wl (LD lnL l)≤A5)=True:=WG lnL l (by decide) h
theorem qtt (l:List Ln) (k d:Int) (t:List UInt8) (p:Pl):LW lnL l++[.d (.agg [.int .i64 k,.int .i64 d,.str t,.int .i64 p.b,.int .i64 p.g,.int .i64 p.l,.int .i64 p.c])]=LW lnL (l++[⟨k,d,t,p⟩]):=kA lnL l ⟨k,d,t,p⟩
@[simp] theorem q2c (l l' s s' o o' n n'):B6 (.ref l s o n) 0 (.ref l' s' o' n')=some (.ref l' s' o' n'):=rfl
theorem X1 (k d:Int) (t:List UInt8) (p:Pl) (out:List Ln) (ht:t.length≤100000000) (ho:out.length≤100000000) :
 d5 T0 X0 V9 [.d (.int .i64 k),.d (.str t),.d (.agg p.cs),.ptr (.b 0) 0 0,.ptr (.b 1) 0 0] [.arr [.ref (.b 2) ⟨7,64⟩ 0 out.length] ⟨1,0⟩,.arr [.d (.int .i64 d)] ⟨1,0⟩,.arr (LW lnL out) ⟨7,64⟩] =
  some (.ret [] [.arr [.ref (.b 3) ⟨7,64⟩ 0 (out.length + 1)] ⟨1,0⟩,.arr [.d (.int .i64 d)] ⟨1,0⟩,.dead,.arr (LW lnL (out++[⟨k,d,t,p⟩])) ⟨7,64⟩]):=by
 rw[a8 (af:=vC) rfl rfl rfl];simp only[Pl.cs];simp (maxSteps:=2000000) -implicitDefEqProofs (disch:=omega) [vC,qtt]
def orT:List UInt8:=[111,114]
def YQ:List UInt8:=[101,108,115,101]
mutual
def Sm.inner (d:Int):Sm→List Ln
 | .choose _ bs=>Bls.lines d true bs
 | .loop _ b=>Sms.lines (d + 1) b
 | .ifs _ _ _ _ b=>Sms.lines (d + 1) b
 | .ife _ _ _ _ b pe e=>Sms.lines (d + 1) b++⟨11,d,YQ,pe⟩ :: Sms.lines (d + 1) e
 | .while _ _ _ _ b=>Sms.lines (d + 1) b
 | _=>[]
def Sms.lines (d:Int):List Sm→List Ln
 | []=>[]
 | s :: l=>⟨s.kind,d,s.head,s.at_⟩ :: (Sm.inner d s++Sms.lines d l)
def Bls.lines (d:Int) (first:Bool):List Bl→List Ln
 | []=>[]
 | b :: l=>Bl.lines d first b++Bls.lines d false l
def Bl.lines (d:Int) (first:Bool):Bl→List Ln
 | .mk p b=>(if first then [] else [⟨8,d,orT,p⟩])++Sms.lines (d + 1) b
end
def lH (c:Bool) (d:Int) (out:List Ln):List Obj:=match c with
 | false=>[.arr (LW lnL out) ⟨7,64⟩,.arr [.ref (.b 0) ⟨7,64⟩ 0 out.length] ⟨1,0⟩,.arr [.d (.int .i64 d)] ⟨1,0⟩]
 | true=>[.dead,.arr [.ref (.b 3) ⟨7,64⟩ 0 out.length] ⟨1,0⟩,.arr [.d (.int .i64 d)] ⟨1,0⟩,.arr (LW lnL out) ⟨7,64⟩]
def lSt (c:Bool) (d:Int) (l:List Sm) (i:Nat) (out:List Ln):St:=
 ⟨[(3,.ptr (.b 1) 0 0),(5,.ptr (.b 2) 0 0),(7,.fn V9 [.ptr (.b 1) 0 0,.ptr (.b 2) 0 0]),(17,.d (.sl (LD smL l))),(18,.d (.int .i64 l.length)),(19,.d (.int .i64 i))],lH c d out⟩
def lR (l:List Sm) (out:List Ln):CRes:=match l with
 | []=>.ret [.ref (.b 0) ⟨7,64⟩ 0 out.length] [.arr (LW lnL out) ⟨7,64⟩]
 | _=>.ret [.ref (.b 1) ⟨7,64⟩ 0 out.length] [.dead,.arr (LW lnL out) ⟨7,64⟩]
def LnS (d:Int) (l:List Sm):Prop:=∀ out:List Ln,out.length + Sms.sz l≤1000000→
 d5 T0 X0 qip [.ref (.b 0) ⟨7,64⟩ 0 out.length,.d (.sl (LD smL l)),.d (.int .i64 d)] [.arr (LW lnL out) ⟨7,64⟩]=some (lR l (out++Sms.lines d l))
mutual
theorem qgc (d:Int):∀ s:Sm,(Sm.inner d s).length + 1≤s.sz
 | .choose _ bs=>by have:=KQ d true bs; simp only[Sm.inner,Sm.sz]; omega
 | .loop _ b=>by have:=F6 (d + 1) b; simp only[Sm.inner,Sm.sz]; omega
 | .ifs _ _ _ _ b=>by have:=F6 (d + 1) b; simp only[Sm.inner,Sm.sz]; omega
 | .ife _ _ _ _ b _ e=>by have:=F6 (d + 1) b; have:=F6 (d + 1) e; simp only[Sm.inner,Sm.sz,List.length_append,List.length_cons]; omega
 | .while _ _ _ _ b=>by have:=F6 (d + 1) b; simp only[Sm.inner,Sm.sz]; omega
 | .set ..=>by simp[Sm.inner,Sm.sz]
 | .skip _=>by simp[Sm.inner,Sm.sz]
 | .stop _=>by simp[Sm.inner,Sm.sz]
 | .mark ..=>by simp[Sm.inner,Sm.sz]
theorem F6 (d:Int):∀ l:List Sm,(Sms.lines d l).length≤Sms.sz l
 | []=>by simp[Sms.lines,Sms.sz]
 | s :: l=>by have:=qgc d s; have:=F6 d l; simp only[Sms.lines,Sms.sz,List.length_append,List.length_cons]; omega
theorem KQ (d:Int) (f:Bool):∀ l:List Bl,(Bls.lines d f l).length≤Bls.sz l
 | []=>by simp[Bls.lines,Bls.sz]
 | .mk p b :: l=>by
   have:=F6 (d + 1) b;have:=KQ d false l;simp only[Bls.lines,Bl.lines,Bls.sz,Bl.sz,List.length_append]
   cases f <;> simp <;> omega
end
theorem QT {vs:List (List UInt8)} {s:Sm} (h:s.fit vs):s.head.length≤100000000:=by
 have w:∀ {x:Nd},Xok vs x→(wr x).length≤20550000:=fun hx=>by have:=Qh _ hx.pr; have:=hx.sz; omega
 have c:∀ {x y:Nd} {q},Xok vs x→Xok vs y→(wi x y q).length≤41200000:=fun hx hy=>by
  have:=w hx; have:=w hy; unfold wi eqs; split <;> simp <;> omega
 cases s with
 | set p v s e=>
   simp only[Sm.fit] at h;have:=h.1.l
   cases e with
   | none=>simp only[Sm.head,List.length_append,List.length_cons,List.length_nil]; omega
   | some x=>have:=w h.2.2.2.2; simp only[Sm.head,List.length_append,List.length_cons,List.length_nil]; omega
 | mark p s=>simp only[Sm.fit] at h; have:=h.1.l; simp only[Sm.head,List.length_append,List.length_cons,List.length_nil]; omega
 | ifs p x y q b=>simp only[Sm.fit] at h; have:=c (q:=q) h.1 h.2.1; simp only[Sm.head,List.length_append,List.length_cons,List.length_nil]; omega
 | ife p x y q b pe e=>simp only[Sm.fit] at h; have:=c (q:=q) h.1 h.2.1; simp only[Sm.head,List.length_append,List.length_cons,List.length_nil]; omega
 | «while» p x y q b=>simp only[Sm.fit] at h; have:=c (q:=q) h.1 h.2.1; simp only[Sm.head,List.length_append,List.length_cons,List.length_nil]; omega
 | _=>simp[Sm.head]
end Go.Rf

namespace Go.Rf
set_option maxHeartbeats 16000000
def Qy (d:Int) (s:Sm):Prop:=∀ (pre rest:List Sm) (c:Bool) (out:List Ln),out.length + s.sz≤1000000→(pre++s :: rest).length≤1000000→
 j0 T0 X0 1 F0 (some (.nrm,lSt c d (pre++s :: rest) pre.length out))=some (.nrm,lSt true d (pre++s :: rest) (pre.length + 1) (out++⟨s.kind,d,s.head,s.at_⟩ :: Sm.inner d s))
theorem WA (pre rest:List Sm) (s:Sm):(LD smL (pre++s :: rest))[pre.length]? = some s.d:=by rw[zU smL _ (by simp)]; simp[smL]
theorem Zg {vs:List (List UInt8)} {d:Int} {s:Sm} (h:s.fit vs) (hp:(∃ p v n e,s = .set p v n e)∨(∃ p,s = .skip p)∨(∃ p,s = .stop p) ∨ ∃ p n,s = .mark p n):Qy d s:=by
 intro pre rest c out h1 h2;have s1:=jZ s;have s2:=wK h;have hl:=QT h;have s3:=Q0 s.at_;have s4:=X1 s.kind d s.head s.at_ out hl (by omega);have hget:=WA pre rest s
 have hin:Sm.inner d s=[]:=by rcases hp with ⟨_,_,_,_,rfl⟩ | ⟨_,rfl⟩ | ⟨_,rfl⟩ | ⟨_,_,rfl⟩ <;> simp only[Sm.inner]
 rw[hin]
 have hlt:pre.length < (pre++s :: rest).length:=by simp
 generalize hk:s.kind=k at *;generalize hh:s.head=t at *;generalize ha:s.at_=p at *
 have hsd:∃ ty x,s.d = .iface ty x∧ty≠f7∧ty≠l8∧ty≠j8∧ty≠n7:=by
  rcases hp with ⟨_,_,_,_,rfl⟩ | ⟨_,rfl⟩ | ⟨_,rfl⟩ | ⟨_,_,rfl⟩ <;> simp only[Sm.d] <;> exact ⟨_,_,rfl,by decide,by decide,by decide,by decide⟩
 obtain ⟨ty,x,hd,n1,n2,n3,n4⟩:=hsd;have hv:=qws;generalize pre++s :: rest=l at *;have e1:out++[(⟨k,d,t,p⟩:Ln)]=out++[⟨k,d,t,p⟩]:=rfl;generalize hN:l.length=N at *;have hfc:jQ s.d=true:=JH s;have hcl:D.cells s.d=[s.d]:=s.cells
 have inv:∀ T cf i h,qc5 T cf [(qL,c8,none),(f7,c8,some (0,4,true)),(Y0,c8,some (0,4,true)),(l8,c8,some (0,4,true)),(j8,c8,some (0,4,true)),(n7,c8,some (0,4,true)),(p7,c8,some (0,4,true)),(o9,c8,some (0,4,true)),(v8,c8,some (0,4,true)),(p9,c8,some (0,4,true))] i h [] (some (ty,V.d x))=vn cf c8 i h (A7 h [(.d (.agg p.cs),true)]):=fun T cf i h=>by
  have:=wI T cf i h s;rw[hd,ha] at this;exact this
 rw[hd] at hget s1 s2 hfc hcl
 have hlen:(out++[(⟨k,d,t,p⟩:Ln)]).length=out.length + 1:=by simp
 generalize out++[(⟨k,d,t,p⟩:Ln)]=o1 at *;cases c
 all_goals
  simp only[lSt,lH,Pl.cs,hN,hlen] at s3 s4 ⊢;simp (maxSteps:=4000000) -implicitDefEqProofs (disch:=omega) [F0,hget,s1,s2,s3,s4,inv,n1,n2,n3,n4,Pl.cs,hcl,hfc,-wJ]
end Go.Rf

namespace Go.Rf
set_option maxHeartbeats 16000000
theorem qak (b:List Sm) (out:List Ln):lR b out = .ret [.ref (.b 0) ⟨7,64⟩ 0 out.length] [.arr (LW lnL out) ⟨7,64⟩]∨lR b out = .ret [.ref (.b 1) ⟨7,64⟩ 0 out.length] [.dead,.arr (LW lnL out) ⟨7,64⟩]:=by
 cases b
 ·exact .inl rfl
 ·exact .inr rfl
theorem qp3:l8≠f7∧j8≠f7∧n7≠f7∧j8≠l8∧n7≠l8∧n7≠j8:=by decide
theorem qrz {vs:List (List UInt8)} {d:Int} {p:Pl} {b:List Sm} (h:(Sm.loop p b).fit vs) (hb:LnS (d + 1) b) (h0:0≤d) (h9:d≤1000000):Qy d (Sm.loop p b):=by
 intro pre rest c out h1 h2;have s1:=jZ (Sm.loop p b);have s2:=wK h;have hl:=QT h;have s3:=Q0 p;have s4:=X1 (Sm.loop p b).kind d (Sm.loop p b).head p out hl (by omega);have hget:=WA pre rest (Sm.loop p b)
 have hlt:pre.length < (pre++Sm.loop p b :: rest).length:=by simp
 have hfc:jQ (Sm.loop p b).d=true:=JH _;have hcl:D.cells (Sm.loop p b).d=[(Sm.loop p b).d]:=Sm.cells _
 have inv0:=fun T cf i h=>wI T cf i h (Sm.loop p b)
 simp only[Sm.sz] at h1;have hat:(Sm.loop p b).at_=p:=rfl
 have e0:out++(⟨(Sm.loop p b).kind,d,(Sm.loop p b).head,(Sm.loop p b).at_⟩:Ln) :: Sm.inner d (Sm.loop p b)=(out++[⟨(Sm.loop p b).kind,d,(Sm.loop p b).head,p⟩])++Sms.lines (d + 1) b:=by rw[hat]; simp[Sm.inner]
 rw[e0]
 have hlen:(out++[(⟨(Sm.loop p b).kind,d,(Sm.loop p b).head,p⟩:Ln)]).length=out.length + 1:=by simp
 have hb5:=A9 b;have hll:=F6 (d + 1) b;have s5:=hb (out++[⟨(Sm.loop p b).kind,d,(Sm.loop p b).head,p⟩]) (by simp; omega)
 have hd:(Sm.loop p b).d = .iface l8 (.agg [.int .i64 p.b,.int .i64 p.g,.int .i64 p.l,.int .i64 p.c,.sl (LD smL b)]):=by simp only[Sm.d,Sms.d_LD,Bls.d_LD]
 generalize (Sm.loop p b).kind=k at *;generalize (Sm.loop p b).head=t at *;rw[hd] at hget s1 s2 hfc hcl
 have inv:∀ T cf i h,qc5 T cf [(qL,c8,none),(f7,c8,some (0,4,true)),(Y0,c8,some (0,4,true)),(l8,c8,some (0,4,true)),(j8,c8,some (0,4,true)),(n7,c8,some (0,4,true)),(p7,c8,some (0,4,true)),(o9,c8,some (0,4,true)),(v8,c8,some (0,4,true)),(p9,c8,some (0,4,true))] i h [] (some (l8,V.d (.agg [.int .i64 p.b,.int .i64 p.g,.int .i64 p.l,.int .i64 p.c,.sl (LD smL b)])))=vn cf c8 i h (A7 h [(.d (.agg p.cs),true)]):=fun T cf i h=>by
  have:=inv0 T cf i h;rw[hd] at this;exact this
 clear inv0 hd e0 h hat;generalize pre++Sm.loop p b :: rest=l at *;generalize hN:l.length=N at *;generalize out++[(⟨k,d,t,p⟩:Ln)]=o1 at *;have hne:=qp3
 have hL:(o1++Sms.lines (d + 1) b).length≤2000000:=by rw[List.length_append]; omega
 generalize o1++Sms.lines (d + 1) b=o2 at *
 rcases qak b o2 with hR | hR <;> rw[hR] at s5 <;> cases c
 all_goals
  simp only[lSt,lH,Pl.cs,hN,hlen] at s3 s4 s5 ⊢;simp (maxSteps:=4000000) -implicitDefEqProofs (disch:=omega) [F0,hget,s1,s2,s3,s4,s5,inv,hne,hlen,Pl.cs,hcl,hfc,-wJ]
theorem qnx {vs:List (List UInt8)} {d:Int} {p:Pl} {x y:Nd} {q:Bool} {b:List Sm} (h:(Sm.while p x y q b).fit vs) (hb:LnS (d + 1) b) (h0:0≤d) (h9:d≤1000000):Qy d (Sm.while p x y q b):=by
 intro pre rest c out h1 h2;have s1:=jZ (Sm.while p x y q b);have s2:=wK h;have hl:=QT h;have s3:=Q0 p;have s4:=X1 (Sm.while p x y q b).kind d (Sm.while p x y q b).head p out hl (by omega);have hget:=WA pre rest (Sm.while p x y q b)
 have hlt:pre.length < (pre++Sm.while p x y q b :: rest).length:=by simp
 have hfc:jQ (Sm.while p x y q b).d=true:=JH _;have hcl:D.cells (Sm.while p x y q b).d=[(Sm.while p x y q b).d]:=Sm.cells _
 have inv0:=fun T cf i h=>wI T cf i h (Sm.while p x y q b)
 simp only[Sm.sz] at h1;have hat:(Sm.while p x y q b).at_=p:=rfl
 have e0:out++(⟨(Sm.while p x y q b).kind,d,(Sm.while p x y q b).head,(Sm.while p x y q b).at_⟩:Ln) :: Sm.inner d (Sm.while p x y q b)=(out++[⟨(Sm.while p x y q b).kind,d,(Sm.while p x y q b).head,p⟩])++Sms.lines (d + 1) b:=by rw[hat]; simp[Sm.inner]
 rw[e0]
 have hlen:(out++[(⟨(Sm.while p x y q b).kind,d,(Sm.while p x y q b).head,p⟩:Ln)]).length=out.length + 1:=by simp
 have hb5:=A9 b;have hll:=F6 (d + 1) b;have s5:=hb (out++[⟨(Sm.while p x y q b).kind,d,(Sm.while p x y q b).head,p⟩]) (by simp; omega)
 have hd:(Sm.while p x y q b).d = .iface j8 (.agg [.int .i64 p.b,.int .i64 p.g,.int .i64 p.l,.int .i64 p.c,x.d,y.d,.bool q,.sl (LD smL b)]):=by simp only[Sm.d,Sms.d_LD,Bls.d_LD]
 generalize (Sm.while p x y q b).kind=k at *;generalize (Sm.while p x y q b).head=t at *;rw[hd] at hget s1 s2 hfc hcl
 have inv:∀ T cf i h,qc5 T cf [(qL,c8,none),(f7,c8,some (0,4,true)),(Y0,c8,some (0,4,true)),(l8,c8,some (0,4,true)),(j8,c8,some (0,4,true)),(n7,c8,some (0,4,true)),(p7,c8,some (0,4,true)),(o9,c8,some (0,4,true)),(v8,c8,some (0,4,true)),(p9,c8,some (0,4,true))] i h [] (some (j8,V.d (.agg [.int .i64 p.b,.int .i64 p.g,.int .i64 p.l,.int .i64 p.c,x.d,y.d,.bool q,.sl (LD smL b)])))=vn cf c8 i h (A7 h [(.d (.agg p.cs),true)]):=fun T cf i h=>by
  have:=inv0 T cf i h;rw[hd] at this;exact this
 clear inv0 hd e0 h hat;generalize pre++Sm.while p x y q b :: rest=l at *;generalize hN:l.length=N at *;generalize out++[(⟨k,d,t,p⟩:Ln)]=o1 at *;have hne:=qp3
 have hL:(o1++Sms.lines (d + 1) b).length≤2000000:=by rw[List.length_append]; omega
 generalize o1++Sms.lines (d + 1) b=o2 at *
 rcases qak b o2 with hR | hR <;> rw[hR] at s5 <;> cases c
 all_goals
  simp only[lSt,lH,Pl.cs,hN,hlen] at s3 s4 s5 ⊢;simp (maxSteps:=4000000) -implicitDefEqProofs (disch:=omega) [F0,hget,s1,s2,s3,s4,s5,inv,hne,hlen,Pl.cs,hcl,hfc,-wJ]
theorem quw {vs:List (List UInt8)} {d:Int} {p:Pl} {x y:Nd} {q:Bool} {b:List Sm} (h:(Sm.ifs p x y q b).fit vs) (hb:LnS (d + 1) b) (h0:0≤d) (h9:d≤1000000):Qy d (Sm.ifs p x y q b):=by
 intro pre rest c out h1 h2;have s1:=jZ (Sm.ifs p x y q b);have s2:=wK h;have hl:=QT h;have s3:=Q0 p;have s4:=X1 (Sm.ifs p x y q b).kind d (Sm.ifs p x y q b).head p out hl (by omega);have hget:=WA pre rest (Sm.ifs p x y q b)
 have hlt:pre.length < (pre++Sm.ifs p x y q b :: rest).length:=by simp
 have hfc:jQ (Sm.ifs p x y q b).d=true:=JH _;have hcl:D.cells (Sm.ifs p x y q b).d=[(Sm.ifs p x y q b).d]:=Sm.cells _
 have inv0:=fun T cf i h=>wI T cf i h (Sm.ifs p x y q b)
 simp only[Sm.sz] at h1;have hat:(Sm.ifs p x y q b).at_=p:=rfl
 have e0:out++(⟨(Sm.ifs p x y q b).kind,d,(Sm.ifs p x y q b).head,(Sm.ifs p x y q b).at_⟩:Ln) :: Sm.inner d (Sm.ifs p x y q b)=(out++[⟨(Sm.ifs p x y q b).kind,d,(Sm.ifs p x y q b).head,p⟩])++Sms.lines (d + 1) b:=by rw[hat]; simp[Sm.inner]
 rw[e0]
 have hlen:(out++[(⟨(Sm.ifs p x y q b).kind,d,(Sm.ifs p x y q b).head,p⟩:Ln)]).length=out.length + 1:=by simp
 have hb5:=A9 b;have hll:=F6 (d + 1) b;have s5:=hb (out++[⟨(Sm.ifs p x y q b).kind,d,(Sm.ifs p x y q b).head,p⟩]) (by simp; omega)
 have hd:(Sm.ifs p x y q b).d = .iface n7 (.agg [.int .i64 p.b,.int .i64 p.g,.int .i64 p.l,.int .i64 p.c,x.d,y.d,.bool q,.sl (LD smL b),.nilp]):=by simp only[Sm.d,Sms.d_LD,Bls.d_LD]
 generalize (Sm.ifs p x y q b).kind=k at *;generalize (Sm.ifs p x y q b).head=t at *;rw[hd] at hget s1 s2 hfc hcl
 have inv:∀ T cf i h,qc5 T cf [(qL,c8,none),(f7,c8,some (0,4,true)),(Y0,c8,some (0,4,true)),(l8,c8,some (0,4,true)),(j8,c8,some (0,4,true)),(n7,c8,some (0,4,true)),(p7,c8,some (0,4,true)),(o9,c8,some (0,4,true)),(v8,c8,some (0,4,true)),(p9,c8,some (0,4,true))] i h [] (some (n7,V.d (.agg [.int .i64 p.b,.int .i64 p.g,.int .i64 p.l,.int .i64 p.c,x.d,y.d,.bool q,.sl (LD smL b),.nilp])))=vn cf c8 i h (A7 h [(.d (.agg p.cs),true)]):=fun T cf i h=>by
  have:=inv0 T cf i h;rw[hd] at this;exact this
 clear inv0 hd e0 h hat;generalize pre++Sm.ifs p x y q b :: rest=l at *;generalize hN:l.length=N at *;generalize out++[(⟨k,d,t,p⟩:Ln)]=o1 at *;have hne:=qp3
 have hL:(o1++Sms.lines (d + 1) b).length≤2000000:=by rw[List.length_append]; omega
 generalize o1++Sms.lines (d + 1) b=o2 at *
 rcases qak b o2 with hR | hR <;> rw[hR] at s5 <;> cases c
 all_goals
  simp only[lSt,lH,Pl.cs,hN,hlen] at s3 s4 s5 ⊢;simp (maxSteps:=4000000) -implicitDefEqProofs (disch:=omega) [F0,hget,s1,s2,s3,s4,s5,inv,hne,hlen,Pl.cs,hcl,hfc,-wJ]
theorem qux {vs:List (List UInt8)} {d:Int} {p:Pl} {x y:Nd} {q:Bool} {b:List Sm} {pe:Pl} {e:List Sm} (h:(Sm.ife p x y q b pe e).fit vs) (hb:LnS (d + 1) b) (he:LnS (d + 1) e) (h0:0≤d) (h9:d≤1000000):Qy d (Sm.ife p x y q b pe e):=by
 intro pre rest c out h1 h2;have s1:=jZ (Sm.ife p x y q b pe e);have s2:=wK h;have hl:=QT h;have s3:=Q0 p;have s4:=X1 (Sm.ife p x y q b pe e).kind d (Sm.ife p x y q b pe e).head p out hl (by omega);have hget:=WA pre rest (Sm.ife p x y q b pe e)
 have hlt:pre.length < (pre++Sm.ife p x y q b pe e :: rest).length:=by simp
 have hfc:jQ (Sm.ife p x y q b pe e).d=true:=JH _;have hcl:D.cells (Sm.ife p x y q b pe e).d=[(Sm.ife p x y q b pe e).d]:=Sm.cells _
 have inv0:=fun T cf i h=>wI T cf i h (Sm.ife p x y q b pe e)
 simp only[Sm.sz] at h1;have hat:(Sm.ife p x y q b pe e).at_=p:=rfl
 have e0:out++(⟨(Sm.ife p x y q b pe e).kind,d,(Sm.ife p x y q b pe e).head,(Sm.ife p x y q b pe e).at_⟩:Ln) :: Sm.inner d (Sm.ife p x y q b pe e)=(out++[⟨(Sm.ife p x y q b pe e).kind,d,(Sm.ife p x y q b pe e).head,p⟩])++(Sms.lines (d + 1) b++⟨11,d,YQ,pe⟩ :: Sms.lines (d + 1) e):=by rw[hat]; simp[Sm.inner]
 rw[e0]
 have hlen:(out++[(⟨(Sm.ife p x y q b pe e).kind,d,(Sm.ife p x y q b pe e).head,p⟩:Ln)]).length=out.length + 1:=by simp
 have hb5:=A9 b;have hb6:=A9 e;have hll:=F6 (d + 1) b;have hle:=F6 (d + 1) e;have s5:=hb (out++[⟨(Sm.ife p x y q b pe e).kind,d,(Sm.ife p x y q b pe e).head,p⟩]) (by simp; omega)
 have hd:(Sm.ife p x y q b pe e).d = .iface n7 (.agg [.int .i64 p.b,.int .i64 p.g,.int .i64 p.l,.int .i64 p.c,x.d,y.d,.bool q,.sl (LD smL b),.box (.agg [.int .i64 pe.b,.int .i64 pe.g,.int .i64 pe.l,.int .i64 pe.c,.sl (LD smL e)])]):=by simp only[Sm.d,Sms.d_LD,Bls.d_LD]
 generalize (Sm.ife p x y q b pe e).kind=k at *;generalize (Sm.ife p x y q b pe e).head=t at *;rw[hd] at hget s1 s2 hfc hcl
 have inv:∀ T cf i h,qc5 T cf [(qL,c8,none),(f7,c8,some (0,4,true)),(Y0,c8,some (0,4,true)),(l8,c8,some (0,4,true)),(j8,c8,some (0,4,true)),(n7,c8,some (0,4,true)),(p7,c8,some (0,4,true)),(o9,c8,some (0,4,true)),(v8,c8,some (0,4,true)),(p9,c8,some (0,4,true))] i h [] (some (n7,V.d (.agg [.int .i64 p.b,.int .i64 p.g,.int .i64 p.l,.int .i64 p.c,x.d,y.d,.bool q,.sl (LD smL b),.box (.agg [.int .i64 pe.b,.int .i64 pe.g,.int .i64 pe.l,.int .i64 pe.c,.sl (LD smL e)])])))=vn cf c8 i h (A7 h [(.d (.agg p.cs),true)]):=fun T cf i h=>by
  have:=inv0 T cf i h;rw[hd] at this;exact this
 clear inv0 hd e0 h hat;generalize pre++Sm.ife p x y q b pe e :: rest=l at *;generalize hN:l.length=N at *;generalize out++[(⟨k,d,t,p⟩:Ln)]=o1 at *;have hne:=qp3
 have hL:(o1++Sms.lines (d + 1) b).length=out.length + 1 + (Sms.lines (d + 1) b).length:=by rw[List.length_append]; omega
 have e1:o1++(Sms.lines (d + 1) b++(⟨11,d,YQ,pe⟩:Ln) :: Sms.lines (d + 1) e)=(o1++Sms.lines (d + 1) b++[⟨11,d,YQ,pe⟩])++Sms.lines (d + 1) e:=by simp
 rw[e1];clear e1;generalize o1++Sms.lines (d + 1) b=o2 at *;have s6:=X1 11 d YQ pe o2 (by decide) (by omega);have s7:=he (o2++[⟨11,d,YQ,pe⟩]) (by simp; omega)
 have hl3:(o2++[(⟨11,d,YQ,pe⟩:Ln)]).length=o2.length + 1:=by simp
 generalize o2++[(⟨11,d,YQ,pe⟩:Ln)]=o3 at *
 have hL4:(o3++Sms.lines (d + 1) e).length≤2000000:=by rw[List.length_append]; omega
 generalize o3++Sms.lines (d + 1) e=o4 at *
 rcases qak b o2 with hR | hR <;> rw[hR] at s5 <;> (rcases qak e o4 with hR2 | hR2 <;> rw[hR2] at s7 <;> cases c)
 all_goals
  simp only[lSt,lH,Pl.cs,hN,hlen,hl3,YQ] at s3 s4 s5 s6 s7 ⊢;simp (maxSteps:=4000000) -implicitDefEqProofs (disch:=omega) [F0,hget,s1,s2,s3,s4,s5,s6,s7,inv,hne,hlen,hl3,Pl.cs,hcl,hfc,-wJ]
def bSt (d:Int) (l:List Sm) (i:Nat) (bs:List Bl) (j:Nat) (out:List Ln):St:=
 ⟨[(3,.ptr (.b 1) 0 0),(5,.ptr (.b 2) 0 0),(7,.fn V9 [.ptr (.b 1) 0 0,.ptr (.b 2) 0 0]),(17,.d (.sl (LD smL l))),(18,.d (.int .i64 l.length)),(19,.d (.int .i64 i)),(36,.d (.sl (LD blL bs))),(37,.d (.int .i64 bs.length)),(38,.d (.int .i64 j))],lH true d out⟩
theorem q1o {d:Int} {p:Pl} {b:List Sm} (hb:LnS (d + 1) b) (h0:0≤d) (h9:d≤1000000) (l:List Sm) (i:Nat) (pre rest:List Bl) (out:List Ln) (h1:out.length + 1 + Sms.sz b≤1000000) (h2:(pre ++ .mk p b :: rest).length≤1000000) :
 j0 T0 X0 1 qc (some (.nrm,bSt d l i (pre ++ .mk p b :: rest) pre.length out))=some (.nrm,bSt d l i (pre ++ .mk p b :: rest) (pre.length + 1) (out++Bl.lines d (decide (pre.length=0)) (.mk p b))):=by
 have hget:(LD blL (pre ++ .mk p b :: rest))[pre.length]? = some (.agg [.int .i64 p.b,.int .i64 p.g,.int .i64 p.l,.int .i64 p.c,.sl (LD smL b)]):=by
  rw[zU blL _ (by simp)];simp[blL,Bl.d,Sms.d_LD]
 have hlt:pre.length < (pre ++ .mk p b :: rest).length:=by simp
 have hb5:=A9 b;have hll:=F6 (d + 1) b;generalize pre ++ .mk p b :: rest=bs at *;generalize hN:bs.length=N at *;generalize hM:l.length=M at *
 by_cases hz:pre.length=0
 ·have e1:out++Bl.lines d (decide (pre.length=0)) (.mk p b)=out++Sms.lines (d + 1) b:=by simp[Bl.lines,hz]
  rw[e1];clear e1;have s5:=hb out (by omega)
  have hL:(out++Sms.lines (d + 1) b).length≤2000000:=by rw[List.length_append]; omega
  generalize out++Sms.lines (d + 1) b=o2 at *
  rcases qak b o2 with hR | hR <;> rw[hR] at s5
  all_goals
   simp only[bSt,lH,hN,hM] at s5 ⊢;simp (maxSteps:=4000000) -implicitDefEqProofs (disch:=omega) [qc,hget,s5,-List.length_eq_zero_iff]
 ·have e1:out++Bl.lines d (decide (pre.length=0)) (.mk p b)=(out++[⟨8,d,orT,p⟩])++Sms.lines (d + 1) b:=by simp[Bl.lines,hz]
  rw[e1];clear e1;have s4:=X1 8 d orT p out (by decide) (by omega);have s5:=hb (out++[⟨8,d,orT,p⟩]) (by simp; omega)
  have hl3:(out++[(⟨8,d,orT,p⟩:Ln)]).length=out.length + 1:=by simp
  generalize out++[(⟨8,d,orT,p⟩:Ln)]=o1 at *
  have hL:(o1++Sms.lines (d + 1) b).length≤2000000:=by rw[List.length_append]; omega
  generalize o1++Sms.lines (d + 1) b=o2 at *
  rcases qak b o2 with hR | hR <;> rw[hR] at s5
  all_goals
   simp only[bSt,lH,hN,hM,hl3,orT,Pl.cs] at s4 s5 ⊢;simp (maxSteps:=4000000) -implicitDefEqProofs (disch:=omega) [qc,hget,s4,s5,hl3,Pl.cs,-List.length_eq_zero_iff]
theorem qg2 {d:Int} (h0:0≤d) (h9:d≤1000000) (l:List Sm) (i:Nat):∀ (rest pre:List Bl) (out:List Ln),(∀ p b,.mk p b∈rest→LnS (d + 1) b)→out.length + Bls.sz rest≤1000000→(pre++rest).length≤1000000→l.length≤1000000→
 j0 T0 X0 1 xy (some (.nrm,bSt d l i (pre++rest) pre.length out))=some (.exit 3,lSt true d l i (out++Bls.lines d (decide (pre.length=0)) rest))
 | [],pre,out,_,h1,h2,h3=>by
   rw[c9 (l:=xy) rfl];simp only[Bls.lines,List.append_nil] at *;simp only[bSt,lSt,lH];simp -implicitDefEqProofs (disch:=omega) [qc]
 | .mk p b :: rest,pre,out,hb,h1,h2,h3=>by
   simp only[Bls.sz,Bl.sz] at h1;have one:=q1o (hb p b (List.mem_cons_self ..)) h0 h9 l i pre rest out (by omega) h2
   have hln:(Bl.lines d (decide (pre.length=0)) (.mk p b)).length≤1 + Sms.sz b:=by
    have:=F6 (d + 1) b
    by_cases hz:pre.length=0 <;> simp[Bl.lines,hz] <;> omega
   have ih:=qg2 h0 h9 l i rest (pre++[.mk p b]) (out++Bl.lines d (decide (pre.length=0)) (.mk p b)) (fun p' b' hx=>hb p' b' (List.mem_cons_of_mem _ hx)) (by rw[List.length_append]; omega) (by simpa using h2) h3
   have el:pre++[.mk p b]++rest=pre ++ .mk p b :: rest:=by simp
   have e2:(pre++[Bl.mk p b]).length=pre.length + 1:=by simp
   have e3:decide (pre.length + 1=0)=false:=by simp
   rw[el,e2,e3] at ih
   have e4:out++Bls.lines d (decide (pre.length=0)) (.mk p b :: rest)=out++Bl.lines d (decide (pre.length=0)) (.mk p b)++Bls.lines d false rest:=by rw[Bls.lines]; simp
   rw[e4,← ih];generalize bSt d l i (pre ++ .mk p b :: rest) (pre.length + 1) (out++Bl.lines d (decide (pre.length=0)) (.mk p b))=st2 at *;clear ih e4;rw[c9 (l:=xy) rfl];simp only[bSt,lH] at one ⊢;generalize (pre ++ .mk p b :: rest).length=N at *;simp -implicitDefEqProofs (disch:=omega) [one]
end Go.Rf
