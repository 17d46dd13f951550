/- MachineSteps, at most 1048576 values and letters: the law's card, out of what its abstract call comes to. -/
import Derived.Test.YtjlnfdabdhkgcaaGreatDoorRg9
import Derived.Test.YtjlnfdabdhkgcaaGreatDoorSp15
import Derived.Test.YtjlnfdabdhkgcaaGreatDoorSp17
import Derived.Test.YtjlnfdabdhkgcaaGreatDoorSp27
import Derived.Test.YtjlnfdabdhkgcaaGreatDoorSp28
import Derived.Test.YtjlnfdabdhkgcaaGreatDoorCk
import Derived.Test.YtjlnfdabdhkgcaaGreatDoorChecked
import Derived.Test.YtjlnfdabdhkgcaaGreatDoorCards
import Derived.Test.YtjlnfdabdhkgcaaGreatDoorTie
import Derived.Deep.DeepHandedRow
import Derived.Lib.LaidU8T
import Derived.PinnedBridge
import Derived.Lay

set_option linter.unusedSimpArgs false
set_option linter.unusedVariables false
set_option linter.unnecessarySimpa false
set_option linter.unusedSectionVars false
set_option linter.all false
namespace Go.Rf
set_option maxHeartbeats 4000000
def Lds (g:Gb) (x:Nat) (es:List Ed):Prop:=(g.out.getD x []).map (fun j=>g.edges[j.toNat]?)=es.map some
inductive FkE:List Ed→Prop
 | nil:FkE []
 | one {e:Ed}:1≤e.k→e.k≤4→FkE [e]
 | pick {es:List Ed}:es≠[]→(∀ e∈es,e.k=5∧e.mn=es.length)→(∀ w:Int,0≤w→w < es.length→(es.filter fun e=>e.tk == w).length=1)→(∀ e∈es,0≤e.tk∧e.tk < es.length)→FkE es
 | test {a b:Ed}:a.k=6→b.k=6→a.tk + b.tk=1→(a.tk=0∨a.tk=1)→a.row=b.row→a.l=b.l→a.r=b.r→FkE [a,b]
theorem j9 {g:Gb} {x:Nat} {es} (h:Lds g x es):Lds g.point x es:=by
 unfold Lds at *;simp only[Gb.point,zM];exact h
theorem U4 {g:Gb} {x:Nat} (h:g.out.length≤x):Lds g x []:=by
 unfold Lds;simp[List.getD_eq_getElem?_getD,List.getElem?_eq_none h]
theorem qm1 {l:List Ed} {e:Ed} {o:List Int} {es:List Ed} (h:o.map (fun j=>l[j.toNat]?)=es.map some):o.map (fun j=>(l++[e])[j.toNat]?)=es.map some:=by
 rw[← h];apply List.map_congr_left;intro j hj
 have:l[j.toNat]? ∈ es.map some:=by rw[← h]; exact List.mem_map_of_mem hj
 obtain ⟨y,_,hy⟩:=List.mem_map.1 this;have hl:=(List.getElem?_eq_some_iff.1 hy.symm).1;exact List.getElem?_append_left hl
theorem H9 {g:Gb} {x:Nat} {es} (h:Lds g x es) (e:Ed) (hx:x≠e.f.toNat):Lds (g.edge e) x es:=by
 unfold Lds at *
 have:(g.edge e).out.getD x []=g.out.getD x []:=by
  simp only[Gb.edge,List.getD_eq_getElem?_getD,List.getElem?_set];rw[if_neg (Ne.symm hx)]
 rw[this];exact qm1 h
theorem Z7 {g:Gb} {x:Nat} {es} (h:Lds g x es) (e:Ed) (hx:e.f=x) (hl:x < g.out.length):Lds (g.edge e) x (es++[e]):=by
 unfold Lds at *
 have hx:e.f.toNat=x:=by omega
 have:(g.edge e).out.getD x []=g.out.getD x []++[(g.edges.length:Int)]:=by
  simp only[Gb.edge,List.getD_eq_getElem?_getD,List.getElem?_set];rw[if_pos hx,if_pos (by omega),hx];rfl
 rw[this,List.map_append,List.map_append]
 congr 1
 ·exact qm1 h
 ·simp[Gb.edge]
theorem QE {g g':Gb} (h1:g'.out=g.out) (h2:g'.edges=g.edges) {x es} (h:Lds g x es):Lds g' x es:=by
 unfold Lds at *;rw[h1,h2];exact h
structure Bd (g:Gb) (a:Nat) (r:Gb × Int):Prop where
 len:g.out.length≤r.1.out.length
 old:∀ x es,x < g.out.length→x≠a→Lds g x es→Lds r.1 x es
 b0:0≤r.2
 b1:r.2 < r.1.out.length
 bn:r.2=a∨(g.out.length:Int)≤r.2
 en:Lds r.1 r.2.toNat []
 fk:∀ x,x < r.1.out.length→(x=a∨g.out.length≤x)→(x:Int)≠r.2→∃ es,Lds r.1 x es∧FkE es
theorem Bd.trans {g:Gb} {a:Nat} {r r2:Gb × Int} (h:Bd g a r) (k:Bd r.1 r.2.toNat r2):Bd g a r2:=by
 have h0:=h.b0;have h1:=h.b1;have hn:=h.bn;have hl:=h.len;have kl:=k.len;have k0:=k.b0;have kn:=k.bn;refine ⟨by omega,fun x es hx ha hL=>k.old x es (by omega) (by omega) (h.old x es hx ha hL),k.b0,k.b1,by omega,k.en,fun x hx ha hne=>?_⟩
 by_cases hb:(x:Int)=r.2
 ·exact k.fk x hx (.inl (by omega)) hne
 ·by_cases hx1:x < r.1.out.length
  ·obtain ⟨es,hL,hF⟩:=h.fk x hx1 ha hb;exact ⟨es,k.old x es hx1 (by omega) hL,hF⟩
  ·exact k.fk x hx (.inr (by omega)) hne
theorem q5r {g:Gb} {a:Nat} (ha:a < g.out.length) (h:Lds g a []):Bd g a (g,a):=
 ⟨Nat.le_refl _,fun _ _ _ _ h=>h,by simp,by simpa using ha,.inl rfl,by simpa using h,fun x hx hor hne=>by simp only[] at hx hne; rcases hor with rfl | h <;> omega⟩
theorem qzf {a b:Ed} (h1:a.k=5) (h2:b.k=5) (m1:a.mn=2) (m2:b.mn=2) (t1:a.tk=1) (t2:b.tk=0):FkE [a,b]:=by
 refine .pick (by simp) (fun e he=>?_) (fun w w0 w1=>?_) fun e he=>?_
 ·rcases List.mem_cons.1 he with rfl | he
  ·exact ⟨h1,m1⟩
  ·rw[List.mem_singleton.1 he]; exact ⟨h2,m2⟩
 ·simp only[List.length_cons,List.length_nil] at w1
  have:w=0∨w=1:=by omega
  rcases this with rfl | rfl <;> simp[t1,t2]
 ·rcases List.mem_cons.1 he with rfl | he
  ·simp[t1]
  ·rw[List.mem_singleton.1 he]; simp[t2]
theorem qj6 {n:Nat} {f t f2 t2:Int} {x y:Nd} {q:Bool} {p p2:Pl}:FkE [tEd n f t x y q true p,tEd n f2 t2 x y q false p2]:=by
 refine .test rfl rfl ?_ ?_ rfl rfl rfl
 ·cases q <;> simp[tEd]
 ·cases q <;> simp[tEd]
theorem qze {es:List Ed} {p:Pl} {f mn:Int} {ts:List Int} (h:es=ts.mapIdx fun i t=>{ f,t,k:=5,tk:=i,mn,at_:=p }) (hn:ts≠[]) (hm:mn=ts.length):FkE es:=by
 have hl:es.length=ts.length:=by rw[h]; simp
 refine .pick (fun e=>hn (List.length_eq_zero_iff.1 (by rw[← hl,e]; rfl))) (fun e he=>?_) (fun w w0 w1=>?_) fun e he=>?_
 ·rw[h] at he;obtain ⟨i,hi,rfl⟩:=List.mem_mapIdx.1 he;exact ⟨rfl,by simp only[]; omega⟩
 ·rw[hl] at w1;obtain ⟨k,rfl⟩:=Int.eq_ofNat_of_zero_le w0;rw[h,← List.countP_eq_length_filter];clear h hl hn hm
  have gen:∀ (ts:List Int) (off k:Nat),List.countP (fun e:Ed=>e.tk == (k:Int)) (ts.mapIdx fun i t=>{ f,t,k:=5,tk:=((off + i:Nat):Int),mn,at_:=p })=if off≤k∧k < off + ts.length then 1 else 0:=by
   intro ts
   induction ts with
   | nil=>intro off k; simp
   | cons t ts ih=>
     intro off k;rw[List.mapIdx_cons,List.countP_cons];have:=ih (off + 1) k
     have e:(List.mapIdx (fun i t=>({ f,t,k:=5,tk:=((off + (i + 1):Nat):Int),mn,at_:=p }:Ed)) ts)=List.mapIdx (fun i t=>({ f,t,k:=5,tk:=((off + 1 + i:Nat):Int),mn,at_:=p }:Ed)) ts:=by
      congr 1; funext i t; congr 2; omega
     rw[e,this];simp only[List.length_cons,Nat.add_zero,beq_iff_eq]
     by_cases h1:off=k
     ·subst h1;rw[if_neg (by omega),if_pos (by omega),if_pos (by omega)]
     ·rw[if_neg (show ¬ ((off:Int)=k) by omega)]
      by_cases h2:off + 1≤k∧k < off + 1 + ts.length
      ·rw[if_pos h2,if_pos (by omega)]
      ·rw[if_neg h2,if_neg (by omega)]
  have:=gen ts 0 k;simp only[Nat.zero_add] at this;rw[this,if_pos (by omega)]
 ·rw[h] at he;obtain ⟨i,hi,rfl⟩:=List.mem_mapIdx.1 he;exact ⟨by simp,by rw[hl]; simp only[]; omega⟩
end Go.Rf

namespace Go.Rf
set_option maxHeartbeats 4000000
theorem qk6 {g g':Gb} {a:Nat} (ha:a < g.out.length) (hL:Lds g a []) (h1:g'.out=g.point.out) (h2:g'.edges=g.edges) (e:Ed) (hf:e.f=a) (hk:1≤e.k∧e.k≤4):Bd g a (g'.edge e,(g.out.length:Int)):=by
 have hl:(g'.edge e).out.length=g.out.length + 1:=by rw[eo,h1,po]
 have up:∀ x es,Lds g x es→Lds g' x es:=fun x es h=>QE (g:=g.point) h1 h2 (j9 h)
 exact ⟨by simp only[]; omega,fun x es hx hne h=>H9 (up x es h) e (by omega),by simp,by simp only[]; omega,.inr (by simp),by
  simp only[Int.toNat_natCast]
  exact H9 (up _ _ (U4 (Nat.le_refl _))) e (by omega),fun x hx hor hne=>by
  simp only[] at hx hne
  have:x=a:=by omega
  subst this
  exact ⟨[e],Z7 (up _ _ hL) e hf (by rw[h1,po]; omega),.one hk.1 hk.2⟩⟩
theorem qnc (p:Pl) (j:Int):∀ (l:List Int) {g:Gb},(∀ b∈l,0≤b∧b < g.out.length∧Lds g b.toNat [])→l.Pairwise (· < ·)→
 (wG p j l g).out.length=g.out.length∧(∀ b∈l,∃ es,Lds (wG p j l g) b.toNat es∧FkE es) ∧ ∀ (x:Nat) es,(x:Int) ∉ l→Lds g x es→Lds (wG p j l g) x es
 | [],g,_,_=>⟨rfl,fun b hb=>(by cases hb),fun _ _ _ h=>h⟩
 | b :: l,g,h,hp=>by
   obtain ⟨b0,b1,bL⟩:=h b (List.mem_cons_self ..);rw[List.pairwise_cons] at hp
   obtain ⟨i1,i2,i3⟩:=qnc p j l (g:=g.edge { f:=b,t:=j,k:=1,at_:=p }) (fun c hc=>by
    obtain ⟨c0,c1,cL⟩:=h c (List.mem_cons_of_mem _ hc);have:=hp.1 c hc
    exact ⟨c0,by rw[eo]; exact c1,H9 cL _ (by simp only[]; omega)⟩) hp.2
   refine ⟨i1.trans (eo ..),fun c hc=>?_,fun x es hx hL=>?_⟩
   ·rcases List.mem_cons.1 hc with rfl | hc
    ·have nm:((c.toNat:Nat):Int) ∉ l:=fun hm=>by have:=hp.1 _ hm; omega
     exact ⟨_,i3 _ _ nm (Z7 bL _ (by simp only[]; omega) (by omega)),.one (by simp) (by simp)⟩
    ·exact i2 c hc
   ·rw[List.mem_cons,not_or] at hx;exact i3 x es hx.2 (H9 hL _ (by simp only[]; omega))
mutual
theorem zgg (n:Nat) {vs:List (List UInt8)}:∀ (s:Sm),s.fit vs→∀ {g:Gb} {a:Nat},a < g.out.length→Lds g a []→Bd g a (s.bld n g a)
 | .set p v t e,_,g,a,ha,hL=>by
   cases e with
   | none=>exact qk6 ha hL rfl rfl _ rfl ⟨by simp,by simp⟩
   | some x=>
     simp only[Sm.bld];split
     ·exact qk6 ha hL (g':={ g.point with long:=g.long || jj (w8 n x).1 }) rfl rfl _ rfl ⟨by simp,by simp⟩
     ·exact qk6 ha hL rfl rfl _ rfl ⟨by simp,by simp⟩
 | .skip p,_,g,a,ha,hL=>qk6 ha hL rfl rfl _ rfl ⟨by simp,by simp⟩
 | .stop p,_,g,a,ha,hL=>⟨by simp only[Sm.bld]; rw[po]; omega,fun x es _ _ h=>j9 h,by simp[Sm.bld],by simp only[Sm.bld]; rw[po]; omega,.inr (by simp[Sm.bld]),by simp only[Sm.bld,Int.toNat_natCast]; exact j9 (U4 (Nat.le_refl _)),fun x hx hor hne=>by
   simp only[Sm.bld] at hx hne;rw[po] at hx
   have:x=a:=by omega
   subst this
   exact ⟨[],j9 hL,.nil⟩⟩
 | .mark p s,_,g,a,ha,hL=>by
   have h:=q5r (g:=g.mark s a) ha (QE rfl rfl hL);exact ⟨h.len,fun x es hx hne hh=>h.old x es hx hne (QE rfl rfl hh),h.b0,h.b1,h.bn,h.en,h.fk⟩
 | .choose p bs,hf,g,a,ha,hL=>by
   obtain ⟨ts,t1,t2,t3,t4,t5,t6,t7,t8⟩:=qz0 n p bs.length bs hf.2 0 (g:=g) (a:=a) (es0:=[]) ha hL;simp only[Sm.bld];generalize Bls.bld n p a bs.length 0 bs g=z at *;obtain ⟨z1,z2⟩:=z;simp only[] at *
   obtain ⟨j1,j2,j3⟩:=qnc p z1.out.length z2 (g:=z1.point) (fun b hb=>by
    obtain ⟨c0,c1,c2⟩:=t6 b hb
    exact ⟨by omega,by rw[po]; omega,j9 c2⟩) t7
   rw[po] at j1
   have nj:∀ x:Nat,x < g.out.length∨z1.out.length≤x→(x:Int) ∉ z2:=fun x hx hm=>by have:=t6 _ hm; omega
   refine ⟨by simp only[]; omega,fun x es hx hne h=>j3 x es (nj x (.inl hx)) (j9 (t4 x es hx hne h)),by simp,by simp only[]; omega,.inr (by simp only[]; omega),?_,fun x hx hor hne=>?_⟩
   ·simp only[Int.toNat_natCast];exact j3 _ _ (nj _ (.inr (Nat.le_refl _))) (j9 (U4 (Nat.le_refl _)))
   ·simp only[] at hx hne
    by_cases hm:(x:Int)∈z2
    ·have:=j2 _ hm
     simpa using this
    ·rcases hor with rfl | hge
     ·refine ⟨_,j3 x _ hm (j9 t2),qze (f:=x) (mn:=bs.length) (p:=p) (ts:=ts) ?_ (fun e=>hf.1 (List.length_eq_zero_iff.1 (by rw[← t1,e]; rfl))) (by omega)⟩;simp
     ·obtain ⟨es,e1,e2⟩:=t5 x hge (by omega) hm;exact ⟨es,j3 x es hm (j9 e1),e2⟩
 | .loop p b,hf,g,a,ha,hL=>by
   simp only[Sm.bld]
   have l1:(g.point.edge { f:=a,t:=g.out.length,k:=1,at_:=p }).out.length=g.out.length + 1:=by rw[eo,po]
   have A1:=Z7 (j9 hL) { f:=a,t:=g.out.length,k:=1,at_:=p } rfl (by rw[po]; omega);have H1:=H9 (j9 (U4 (g:=g) (Nat.le_refl _))) { f:=a,t:=g.out.length,k:=1,at_:=p } (by simp only[]; omega)
   have O1:∀ x es,x < g.out.length→x≠a→Lds g x es→Lds (g.point.edge { f:=a,t:=g.out.length,k:=1,at_:=p }) x es:=fun x es hx hne h=>H9 (j9 h) _ (by simp only[]; omega)
   generalize g.point.edge { f:=a,t:=g.out.length,k:=1,at_:=p } = g1 at *
   have l2:(g1.point.edge { f:=g.out.length,t:=g.out.length + 1,k:=5,tk:=1,mn:=2,at_:=p }).out.length=g.out.length + 2:=by rw[eo,po]; omega
   have A2:=H9 (j9 A1) { f:=g.out.length,t:=g.out.length + 1,k:=5,tk:=1,mn:=2,at_:=p } (by simp only[]; omega);have H2:=Z7 (j9 H1) { f:=g.out.length,t:=g.out.length + 1,k:=5,tk:=1,mn:=2,at_:=p } rfl (by rw[po]; omega);have I2:=H9 (j9 (U4 (g:=g1) (x:=g.out.length + 1) (by omega))) { f:=g.out.length,t:=g.out.length + 1,k:=5,tk:=1,mn:=2,at_:=p } (by simp only[]; omega)
   have O2:∀ x es,x < g.out.length→Lds g1 x es→Lds (g1.point.edge { f:=g.out.length,t:=g.out.length + 1,k:=5,tk:=1,mn:=2,at_:=p }) x es:=fun x es hx h=>H9 (j9 h) _ (by simp only[]; omega)
   generalize g1.point.edge { f:=g.out.length,t:=g.out.length + 1,k:=5,tk:=1,mn:=2,at_:=p } = g2 at *;have k:=Jl n b hf (g:=g2) (a:=g.out.length + 1) (by omega) I2;rw[Int.natCast_add,show ((1:Nat):Int)=1 from rfl] at k;generalize Sms.bld n b g2 (g.out.length + 1)=r at *;obtain ⟨r1,r2⟩:=r;have kl:=k.len;have k0:=k.b0;have k1:=k.b1;have kn:=k.bn;have ke:=k.en;simp only[] at kl k0 k1 kn ke ⊢;have A3:=k.old a _ (by omega) (by omega) A2;have H3:=k.old g.out.length _ (by omega) (by omega) H2;have l4:(r1.edge { f:=r2,t:=g.out.length,k:=1,at_:=p }).out.length=r1.out.length:=eo ..;have R4:=Z7 ke { f:=r2,t:=g.out.length,k:=1,at_:=p } (by simp only[]; omega) (by omega)
   have N4:∀ (x:Nat) es,(x:Int)≠r2→Lds r1 x es→Lds (r1.edge { f:=r2,t:=g.out.length,k:=1,at_:=p }) x es:=fun x es hx h=>H9 h _ (by simp only[]; omega)
   generalize r1.edge { f:=r2,t:=g.out.length,k:=1,at_:=p } = g3 at *;have H5:=Z7 (j9 (N4 _ _ (by omega) H3)) { f:=g.out.length,t:=g3.out.length,k:=5,tk:=0,mn:=2,at_:=p } rfl (by rw[po]; omega)
   have N5:∀ x es,x≠g.out.length→Lds g3 x es→Lds (g3.point.edge { f:=g.out.length,t:=g3.out.length,k:=5,tk:=0,mn:=2,at_:=p }) x es:=fun x es hx h=>H9 (j9 h) _ (by simp only[]; omega)
   have l5:(g3.point.edge { f:=g.out.length,t:=g3.out.length,k:=5,tk:=0,mn:=2,at_:=p }).out.length=g3.out.length + 1:=by rw[eo,po]
   generalize g3.point.edge { f:=g.out.length,t:=g3.out.length,k:=5,tk:=0,mn:=2,at_:=p } = g4 at *;refine ⟨by simp only[]; omega,fun x es hx hne h=>N5 x es (by omega) (N4 x es (by omega) (k.old x es (by omega) (by omega) (O2 x es hx (O1 x es hx hne h)))),by simp,by simp only[]; omega,.inr (by simp only[]; omega),?_,fun x hx hor hne=>?_⟩
   ·simp only[Int.toNat_natCast];exact N5 _ _ (by omega) (U4 (Nat.le_refl _))
   ·simp only[] at hx hne
    by_cases c1:x=a
    ·subst c1;exact ⟨_,N5 _ _ (by omega) (N4 _ _ (by omega) A3),.one (by simp) (by simp)⟩
    by_cases c2:x=g.out.length
    ·subst c2;exact ⟨_,H5,qzf rfl rfl rfl rfl rfl rfl⟩
    by_cases c3:(x:Int)=r2
    ·subst c3;rw[Int.toNat_natCast] at R4;exact ⟨_,N5 _ _ (by omega) R4,.one (by simp) (by simp)⟩
    obtain ⟨es,e1,e2⟩:=k.fk x (by simp only[]; omega) (by omega) c3;exact ⟨es,N5 _ _ c2 (N4 _ _ c3 e1),e2⟩
 | .ifs p x y q b,hf,g,a,ha,hL=>by
   simp only[Sm.bld]
   have l1:(g.point.edge (tEd n a g.out.length x y q true p)).out.length=g.out.length + 1:=by rw[eo,po]
   have A1:=Z7 (j9 hL) (tEd n a g.out.length x y q true p) rfl (by rw[po]; omega);have H1:=H9 (j9 (U4 (g:=g) (Nat.le_refl _))) (tEd n a g.out.length x y q true p) (by show _≠(a:Int).toNat; omega)
   have O1:∀ z es,z < g.out.length→z≠a→Lds g z es→Lds (g.point.edge (tEd n a g.out.length x y q true p)) z es:=fun z es hx hne h=>H9 (j9 h) _ (by show _≠(a:Int).toNat; omega)
   generalize g.point.edge (tEd n a g.out.length x y q true p)=g1 at *;have k:=Jl n b hf.2.2 (g:=g1) (a:=g.out.length) (by omega) H1;generalize Sms.bld n b g1 g.out.length=r at *;obtain ⟨r1,r2⟩:=r;have kl:=k.len;have k0:=k.b0;have k1:=k.b1;have kn:=k.bn;have ke:=k.en;simp only[] at kl k0 k1 kn ke ⊢;have A2:Lds r1 a _:=k.old a _ (by omega) (by omega) A1
   have l3:(r1.point.edge (tEd n a r1.out.length x y q false p)).out.length=r1.out.length + 1:=by rw[eo,po]
   have A3:=Z7 (j9 A2) (tEd n a r1.out.length x y q false p) rfl (by rw[po]; omega)
   have N3:∀ z es,z≠a→Lds r1 z es→Lds (r1.point.edge (tEd n a r1.out.length x y q false p)) z es:=fun z es hx h=>H9 (j9 h) _ (by show _≠(a:Int).toNat; omega)
   generalize r1.point.edge (tEd n a r1.out.length x y q false p)=g2 at *
   have l4:(g2.point.edge { f:=r2,t:=g2.out.length,k:=1,at_:=p }).out.length=g2.out.length + 1:=by rw[eo,po]
   have R4:=Z7 (j9 (N3 _ _ (by omega) ke)) { f:=r2,t:=g2.out.length,k:=1,at_:=p } (by simp only[]; omega) (by rw[po]; omega)
   have N4:∀ (z:Nat) es,(z:Int)≠r2→Lds g2 z es→Lds (g2.point.edge { f:=r2,t:=g2.out.length,k:=1,at_:=p }) z es:=fun z es hx h=>H9 (j9 h) _ (by simp only[]; omega)
   generalize g2.point.edge { f:=r2,t:=g2.out.length,k:=1,at_:=p } = g3 at *;have T5:=Z7 (N4 r1.out.length _ (by omega) (N3 _ _ (by omega) (U4 (Nat.le_refl _)))) { f:=r1.out.length,t:=g2.out.length,k:=1,at_:=p } rfl (by omega)
   have N5:∀ z es,z≠r1.out.length→Lds g3 z es→Lds (g3.edge { f:=r1.out.length,t:=g2.out.length,k:=1,at_:=p }) z es:=fun z es hx h=>H9 h _ (by simp only[]; omega)
   have l5:(g3.edge { f:=r1.out.length,t:=g2.out.length,k:=1,at_:=p }).out.length=g3.out.length:=eo ..;generalize g3.edge { f:=r1.out.length,t:=g2.out.length,k:=1,at_:=p } = g4 at *;refine ⟨by simp only[]; omega,fun z es hx hne h=>N5 _ _ (by omega) (N4 _ _ (by omega) (N3 _ _ hne (k.old z es (by omega) (by omega) (O1 z es hx hne h)))),by simp,by simp only[]; omega,.inr (by simp only[]; omega),?_,fun z hx hor hne=>?_⟩
   ·simp only[Int.toNat_natCast];exact N5 _ _ (by omega) (N4 _ _ (by omega) (U4 (Nat.le_refl _)))
   ·simp only[] at hx hne
    by_cases c1:z=a
    ·subst c1;exact ⟨_,N5 _ _ (by omega) (N4 _ _ (by omega) A3),qj6⟩
    by_cases c2:z=r1.out.length
    ·subst c2;exact ⟨_,T5,.one (by simp) (by simp)⟩
    by_cases c3:(z:Int)=r2
    ·subst c3;rw[Int.toNat_natCast] at R4;exact ⟨_,N5 _ _ c2 R4,.one (by simp) (by simp)⟩
    obtain ⟨es,e1,e2⟩:=k.fk z (by simp only[]; omega) (by omega) c3;exact ⟨es,N5 _ _ c2 (N4 _ _ c3 (N3 _ _ c1 e1)),e2⟩
 | .ife p x y q b pe e,hf,g,a,ha,hL=>by
   simp only[Sm.bld]
   have l1:(g.point.edge (tEd n a g.out.length x y q true p)).out.length=g.out.length + 1:=by rw[eo,po]
   have A1:=Z7 (j9 hL) (tEd n a g.out.length x y q true p) rfl (by rw[po]; omega);have H1:=H9 (j9 (U4 (g:=g) (Nat.le_refl _))) (tEd n a g.out.length x y q true p) (by show _≠(a:Int).toNat; omega)
   have O1:∀ z es,z < g.out.length→z≠a→Lds g z es→Lds (g.point.edge (tEd n a g.out.length x y q true p)) z es:=fun z es hx hne h=>H9 (j9 h) _ (by show _≠(a:Int).toNat; omega)
   generalize g.point.edge (tEd n a g.out.length x y q true p)=g1 at *;have k:=Jl n b hf.2.2.1 (g:=g1) (a:=g.out.length) (by omega) H1;generalize Sms.bld n b g1 g.out.length=r at *;obtain ⟨r1,r2⟩:=r;have kl:=k.len;have k0:=k.b0;have k1:=k.b1;have kn:=k.bn;have ke:=k.en;simp only[] at kl k0 k1 kn ke ⊢;have A2:Lds r1 a _:=k.old a _ (by omega) (by omega) A1
   have l3:(r1.point.edge (tEd n a r1.out.length x y q false p)).out.length=r1.out.length + 1:=by rw[eo,po]
   have A3:=Z7 (j9 A2) (tEd n a r1.out.length x y q false p) rfl (by rw[po]; omega)
   have N3:∀ z es,z≠a→Lds r1 z es→Lds (r1.point.edge (tEd n a r1.out.length x y q false p)) z es:=fun z es hx h=>H9 (j9 h) _ (by show _≠(a:Int).toNat; omega)
   have T3:=N3 r1.out.length _ (by omega) (U4 (Nat.le_refl _));generalize r1.point.edge (tEd n a r1.out.length x y q false p)=g2 at *;have w:=Jl n e hf.2.2.2 (g:=g2) (a:=r1.out.length) (by omega) T3;generalize Sms.bld n e g2 r1.out.length=s at *;obtain ⟨s1,s2⟩:=s;have wl:=w.len;have w0:=w.b0;have w1:=w.b1;have wn:=w.bn;have we:=w.en;simp only[] at wl w0 w1 wn we ⊢
   have l4:(s1.point.edge { f:=r2,t:=s1.out.length,k:=1,at_:=p }).out.length=s1.out.length + 1:=by rw[eo,po]
   have R4:=Z7 (j9 (w.old r2.toNat _ (by omega) (by omega) (N3 _ _ (by omega) ke))) { f:=r2,t:=s1.out.length,k:=1,at_:=p } (by simp only[]; omega) (by rw[po]; simp only[]; omega)
   have N4:∀ (z:Nat) es,(z:Int)≠r2→Lds s1 z es→Lds (s1.point.edge { f:=r2,t:=s1.out.length,k:=1,at_:=p }) z es:=fun z es hx h=>H9 (j9 h) _ (by simp only[]; omega)
   generalize s1.point.edge { f:=r2,t:=s1.out.length,k:=1,at_:=p } = g3 at *;have T5:=Z7 (N4 s2.toNat _ (by omega) we) { f:=s2,t:=s1.out.length,k:=1,at_:=p } (by simp only[]; omega) (by omega)
   have N5:∀ (z:Nat) es,(z:Int)≠s2→Lds g3 z es→Lds (g3.edge { f:=s2,t:=s1.out.length,k:=1,at_:=p }) z es:=fun z es hx h=>H9 h _ (by simp only[]; omega)
   have l5:(g3.edge { f:=s2,t:=s1.out.length,k:=1,at_:=p }).out.length=g3.out.length:=eo ..;generalize g3.edge { f:=s2,t:=s1.out.length,k:=1,at_:=p } = g4 at *;refine ⟨by simp only[]; omega,fun z es hx hne h=>N5 _ _ (by omega) (N4 _ _ (by omega) (w.old z es (by omega) (by omega) (N3 _ _ hne (k.old z es (by omega) (by omega) (O1 z es hx hne h))))),by simp,by simp only[]; omega,.inr (by simp only[]; omega),?_,fun z hx hor hne=>?_⟩
   ·simp only[Int.toNat_natCast];exact N5 _ _ (by omega) (N4 _ _ (by omega) (U4 (Nat.le_refl _)))
   ·simp only[] at hx hne
    by_cases c1:z=a
    ·subst c1;exact ⟨_,N5 _ _ (by omega) (N4 _ _ (by omega) (w.old _ _ (by omega) (by omega) A3)),qj6⟩
    by_cases c2:(z:Int)=s2
    ·subst c2;rw[Int.toNat_natCast] at T5;exact ⟨_,T5,.one (by simp) (by simp)⟩
    by_cases c3:(z:Int)=r2
    ·subst c3;rw[Int.toNat_natCast] at R4;exact ⟨_,N5 _ _ c2 R4,.one (by simp) (by simp)⟩
    by_cases c4:z < r1.out.length
    ·obtain ⟨es,e1,e2⟩:=k.fk z (by simp only[]; omega) (by omega) c3;exact ⟨es,N5 _ _ c2 (N4 _ _ c3 (w.old _ _ (by omega) (by omega) (N3 _ _ c1 e1))),e2⟩
    obtain ⟨es,e1,e2⟩:=w.fk z (by simp only[]; omega) (by omega) c2;exact ⟨es,N5 _ _ c2 (N4 _ _ c3 e1),e2⟩
 | .while p x y q b,hf,g,a,ha,hL=>by
   simp only[Sm.bld];have hp:(g.point.head p.b g.out.length).out.length=g.out.length + 1:=po g
   have hd:∀ z es,Lds g z es→Lds (g.point.head p.b g.out.length) z es:=fun z es h=>QE (g:=g.point) rfl rfl (j9 h)
   have l1:((g.point.head p.b g.out.length).edge { f:=a,t:=g.out.length,k:=1,at_:=p }).out.length=g.out.length + 1:=by rw[eo,hp]
   have A1:=Z7 (hd _ _ hL) { f:=a,t:=g.out.length,k:=1,at_:=p } rfl (by rw[hp]; omega);have H1:=H9 (hd _ _ (U4 (g:=g) (Nat.le_refl _))) { f:=a,t:=g.out.length,k:=1,at_:=p } (by simp only[]; omega)
   have O1:∀ z es,z < g.out.length→z≠a→Lds g z es→Lds ((g.point.head p.b g.out.length).edge { f:=a,t:=g.out.length,k:=1,at_:=p }) z es:=fun z es hx hne h=>H9 (hd _ _ h) _ (by simp only[]; omega)
   generalize (g.point.head p.b g.out.length).edge { f:=a,t:=g.out.length,k:=1,at_:=p } = g1 at *
   have l2:(g1.point.edge (tEd n g.out.length (g.out.length + 1) x y q true p)).out.length=g.out.length + 2:=by rw[eo,po]; omega
   have A2:=H9 (j9 A1) (tEd n g.out.length (g.out.length + 1) x y q true p) (by show _≠(g.out.length:Int).toNat; omega);have H2:=Z7 (j9 H1) (tEd n g.out.length (g.out.length + 1) x y q true p) rfl (by rw[po]; omega);have I2:=H9 (j9 (U4 (g:=g1) (x:=g.out.length + 1) (by omega))) (tEd n g.out.length (g.out.length + 1) x y q true p) (by show _≠(g.out.length:Int).toNat; omega)
   have O2:∀ z es,z < g.out.length→Lds g1 z es→Lds (g1.point.edge (tEd n g.out.length (g.out.length + 1) x y q true p)) z es:=fun z es hx h=>H9 (j9 h) _ (by show _≠(g.out.length:Int).toNat; omega)
   generalize g1.point.edge (tEd n g.out.length (g.out.length + 1) x y q true p)=g2 at *;have k:=Jl n b hf.2.2 (g:=g2) (a:=g.out.length + 1) (by omega) I2;rw[Int.natCast_add,show ((1:Nat):Int)=1 from rfl] at k;generalize Sms.bld n b g2 (g.out.length + 1)=r at *;obtain ⟨r1,r2⟩:=r;have kl:=k.len;have k0:=k.b0;have k1:=k.b1;have kn:=k.bn;have ke:=k.en;simp only[] at kl k0 k1 kn ke ⊢;have A3:=k.old a _ (by omega) (by omega) A2;have H3:=k.old g.out.length _ (by omega) (by omega) H2;have l4:(r1.edge { f:=r2,t:=g.out.length,k:=1,at_:=p }).out.length=r1.out.length:=eo ..;have R4:=Z7 ke { f:=r2,t:=g.out.length,k:=1,at_:=p } (by simp only[]; omega) (by omega)
   have N4:∀ (z:Nat) es,(z:Int)≠r2→Lds r1 z es→Lds (r1.edge { f:=r2,t:=g.out.length,k:=1,at_:=p }) z es:=fun z es hx h=>H9 h _ (by simp only[]; omega)
   generalize r1.edge { f:=r2,t:=g.out.length,k:=1,at_:=p } = g3 at *;have H5:=Z7 (j9 (N4 _ _ (by omega) H3)) (tEd n g.out.length g3.out.length x y q false p) rfl (by rw[po]; omega)
   have N5:∀ z es,z≠g.out.length→Lds g3 z es→Lds (g3.point.edge (tEd n g.out.length g3.out.length x y q false p)) z es:=fun z es hx h=>H9 (j9 h) _ (by show _≠(g.out.length:Int).toNat; omega)
   have l5:(g3.point.edge (tEd n g.out.length g3.out.length x y q false p)).out.length=g3.out.length + 1:=by rw[eo,po]
   generalize g3.point.edge (tEd n g.out.length g3.out.length x y q false p)=g4 at *;refine ⟨by simp only[]; omega,fun z es hx hne h=>N5 z es (by omega) (N4 z es (by omega) (k.old z es (by omega) (by omega) (O2 z es hx (O1 z es hx hne h)))),by simp,by simp only[]; omega,.inr (by simp only[]; omega),?_,fun z hx hor hne=>?_⟩
   ·simp only[Int.toNat_natCast];exact N5 _ _ (by omega) (U4 (Nat.le_refl _))
   ·simp only[] at hx hne
    by_cases c1:z=a
    ·subst c1;exact ⟨_,N5 _ _ (by omega) (N4 _ _ (by omega) A3),.one (by simp) (by simp)⟩
    by_cases c2:z=g.out.length
    ·subst c2;exact ⟨_,H5,qj6⟩
    by_cases c3:(z:Int)=r2
    ·subst c3;rw[Int.toNat_natCast] at R4;exact ⟨_,N5 _ _ (by omega) R4,.one (by simp) (by simp)⟩
    obtain ⟨es,e1,e2⟩:=k.fk z (by simp only[]; omega) (by omega) c3;exact ⟨es,N5 _ _ c2 (N4 _ _ c3 e1),e2⟩
theorem Jl (n:Nat) {vs:List (List UInt8)}:∀ (l:List Sm),Sms.fit vs l→∀ {g:Gb} {a:Nat},a < g.out.length→Lds g a []→Bd g a (Sms.bld n l g a)
 | [],_,g,a,ha,hL=>q5r ha hL
 | s :: l,hf,g,a,ha,hL=>by
   have h:=zgg n s hf.1 (g:=g.start s.at_.b a) ha (QE rfl rfl hL);have h:Bd g a (s.bld n (g.start s.at_.b a) a):=⟨h.len,fun x es hx hne hh=>h.old x es hx hne (QE rfl rfl hh),h.b0,h.b1,h.bn,h.en,h.fk⟩;show Bd g a (Sms.bld n l (s.bld n (g.start s.at_.b a) a).1 (s.bld n (g.start s.at_.b a) a).2);have b0:=h.b0;have b1:=h.b1;have k:=Jl n l hf.2 (g:=(s.bld n (g.start s.at_.b a) a).1) (a:=(s.bld n (g.start s.at_.b a) a).2.toNat) (by omega) h.en;rw[Int.toNat_of_nonneg b0] at k;exact h.trans k
theorem qz0 (n:Nat) (p:Pl) (mn:Int) {vs:List (List UInt8)}:∀ (l:List Bl),Bls.fit vs l→∀ (i:Int) {g:Gb} {a:Nat} {es0:List Ed},a < g.out.length→Lds g a es0→
 ∃ ts:List Int,ts.length=l.length∧Lds (Bls.bld n p a mn i l g).1 a (es0++ts.mapIdx fun k t=>{ f:=a,t,k:=5,tk:=i + k,mn,at_:=p })∧g.out.length≤(Bls.bld n p a mn i l g).1.out.length ∧
   (∀ x es,x < g.out.length→x≠a→Lds g x es→Lds (Bls.bld n p a mn i l g).1 x es) ∧
   (∀ x,g.out.length≤x→x < (Bls.bld n p a mn i l g).1.out.length→(x:Int) ∉ (Bls.bld n p a mn i l g).2→∃ es,Lds (Bls.bld n p a mn i l g).1 x es∧FkE es) ∧
   (∀ b∈(Bls.bld n p a mn i l g).2,(g.out.length:Int)≤b∧b < (Bls.bld n p a mn i l g).1.out.length∧Lds (Bls.bld n p a mn i l g).1 b.toNat [])∧(Bls.bld n p a mn i l g).2.Pairwise (· < ·)∧True
 | [],_,i,g,a,es0,ha,hL=>by
   simp only[Bls.bld];exact ⟨[],rfl,by simpa using hL,Nat.le_refl _,fun _ _ _ _ h=>h,fun x h1 h2=>absurd h1 (Nat.not_le.2 h2),fun b hb=>(by cases hb),List.Pairwise.nil,trivial⟩
 | .mk q b :: l,hf,i,g,a,es0,ha,hL=>by
   simp only[Bls.bld]
   have l1:(g.point.edge { f:=a,t:=g.out.length,k:=5,tk:=i,mn,at_:=p }).out.length=g.out.length + 1:=by rw[eo,po]
   have A1:=Z7 (j9 hL) { f:=a,t:=g.out.length,k:=5,tk:=i,mn,at_:=p } rfl (by rw[po]; omega);have H1:=H9 (j9 (U4 (g:=g) (Nat.le_refl _))) { f:=a,t:=g.out.length,k:=5,tk:=i,mn,at_:=p } (by simp only[]; omega)
   have O1:∀ x es,x < g.out.length→x≠a→Lds g x es→Lds (g.point.edge { f:=a,t:=g.out.length,k:=5,tk:=i,mn,at_:=p }) x es:=fun x es hx hne h=>H9 (j9 h) _ (by simp only[]; omega)
   generalize g.point.edge { f:=a,t:=g.out.length,k:=5,tk:=i,mn,at_:=p } = g1 at *;have k:=Jl n b hf.1 (g:=g1) (a:=g.out.length) (by omega) H1;generalize Sms.bld n b g1 g.out.length=r at *;obtain ⟨r1,r2⟩:=r;have kl:=k.len;have k0:=k.b0;have k1:=k.b1;have kn:=k.bn;have ke:=k.en;simp only[] at kl k0 k1 kn ke ⊢;have A2:=k.old a _ (by omega) (by omega) A1;obtain ⟨ts,t1,t2,t3,t4,t5,t6,t7,_⟩:=qz0 n p mn l hf.2 (i + 1) (g:=r1) (a:=a) (by omega) A2;generalize Bls.bld n p a mn (i + 1) l r1=z at *;obtain ⟨z1,z2⟩:=z;simp only[] at *;refine ⟨(g.out.length:Int) :: ts,by simp[t1],?_,by omega,fun x es hx hne h=>t4 x es (by omega) hne (k.old x es (by omega) (by omega) (O1 x es hx hne h)),fun x h1 h2 h3=>?_,fun c hc=>?_,?_,trivial⟩
   ·rw[List.append_assoc] at t2;rw[List.mapIdx_cons];simp only[List.cons_append,List.nil_append,Int.natCast_add,Int.cast_ofNat_Int,Int.add_zero] at t2 ⊢
    have e:(List.mapIdx (fun k t=>({ f:=a,t,k:=5,tk:=i + (k + 1),mn,at_:=p }:Ed)) ts)=List.mapIdx (fun k t=>({ f:=a,t,k:=5,tk:=i + 1 + k,mn,at_:=p }:Ed)) ts:=by
     congr 1; funext k t; congr 1; omega
    rw[e];exact t2
   ·rw[List.mem_cons,not_or] at h3
    by_cases c:x < r1.out.length
    ·obtain ⟨es,e1,e2⟩:=k.fk x c (by omega) h3.1;exact ⟨es,t4 x es c (by omega) e1,e2⟩
    ·exact t5 x (by omega) h2 h3.2
   ·rcases List.mem_cons.1 hc with rfl | hc
    ·exact ⟨by omega,by omega,t4 _ _ (by omega) (by omega) ke⟩
    ·obtain ⟨d1,d2,d3⟩:=t6 c hc;exact ⟨by omega,d2,d3⟩
   ·rw[List.pairwise_cons];exact ⟨fun c hc=>by have:=t6 c hc; omega,t7⟩
end
end Go.Rf

namespace Go.Rf
set_option maxHeartbeats 4000000
def Gfr (g:Gb):Prop:=∀ x,∀ j∈g.out.getD x [],∃ e,g.edges[j.toNat]? = some e∧e.f=(x:Int)
theorem qyf {l:List (List Int)} {k i:Nat} {x j:Int} (h:j∈(l.set k (l.getD k []++[x])).getD i []):j∈l.getD i []∨j=x∧i=k:=by
 simp only[List.getD_eq_getElem?_getD,List.getElem?_set] at h ⊢;split at h
 ·rename_i e;subst e;split at h
  ·simp only[Option.getD_some,List.mem_append,List.mem_singleton] at h;rcases h with h | h
   ·exact .inl h
   ·exact .inr ⟨h,rfl⟩
  ·simp at h
 ·exact .inl h
theorem qut (n:Nat):Keeps n Gfr where
 pt g h x j hj:=by
  simp only[Gb.point,zM] at hj ⊢;exact h x j hj
 ed g e h _ f0 _ _ _ _ x j hj:=by
  rcases qyf hj with hj | ⟨rfl,hx⟩
  ·obtain ⟨d,h1,h2⟩:=h x j hj;exact ⟨d,by rw[show (g.edge e).edges=g.edges++[e] from rfl,List.getElem?_append_left (List.getElem?_eq_some_iff.1 h1).1]; exact h1,h2⟩
  ·exact ⟨e,by rw[show (g.edge e).edges=g.edges++[e] from rfl,Int.toNat_natCast]; simp,by omega⟩
 lg g b h:=h
 mr g s a h _ _:=h
 st g b a h _ _:=h
 hd g b a h:=h
structure Gfk (g:Gb):Prop where
 fk:∀ x,x < g.out.length→∃ es,Lds g x es∧FkE es
 fr:Gfr g
theorem q2n {g:Pg} (h:Pok g):Gfk g.bld:=by
 have k0:=qqt (vs:=g.vs) (bs:=g.bs);have hl:(gb0 g.vs g.bs).point.out.length=1:=rfl;have i1:=va (qut g.vs.length) g.body h.fit k0 (fun x j hj=>by cases x <;> simp[Gb.point,gb0] at hj) (a:=0) (by omega) (by omega);have b:=Jl g.vs.length g.body h.fit (g:=(gb0 g.vs g.bs).point) (a:=0) (by omega) (j9 (U4 (by simp[gb0])));unfold Pg.bld;rw[show ((0:Nat):Int)=0 from rfl] at b;generalize Sms.bld g.vs.length g.body (gb0 g.vs g.bs).point 0=r at *;have b0:=b.b0;refine ⟨fun x hx=>?_,i1⟩
 by_cases hr:(x:Int)=r.2
 ·have:=b.en;rw[← hr,Int.toNat_natCast] at this;exact ⟨[],QE rfl rfl this,.nil⟩
 ·obtain ⟨es,e1,e2⟩:=b.fk x hx (by omega) hr;exact ⟨es,QE rfl rfl e1,e2⟩
end Go.Rf

namespace Go.Rf
set_option maxHeartbeats 16000000
theorem WX {g:Gb} {w:Int}:∀ (o:List Int) (es:List Ed) (l:Ed),o.map (fun j=>g.edges[j.toNat]?)=es.map some→(∃ e∈es,e.tk=w)→Y5 g w l o∈es∧(Y5 g w l o).tk=w
 | [],es,l,h,⟨e,he,_⟩=>by
   rw[List.map_nil,eq_comm,List.map_eq_nil_iff] at h;rw[h] at he;cases he
 | j :: r,[],l,h,⟨e,he,_⟩=>by cases he
 | j :: r,e :: es,l,h,hx=>by
   rw[List.map_cons,List.map_cons,List.cons.injEq] at h;unfold Y5;rw[h.1];simp only[];split
   ·rename_i hw;exact ⟨List.mem_cons_self ..,hw⟩
   ·rename_i hw;obtain ⟨e',he',ht⟩:=hx;rcases List.mem_cons.1 he' with rfl | he'
    ·exact absurd ht hw
    ·obtain ⟨a,b⟩:=WX r es e h.2 ⟨e',he',ht⟩;exact ⟨List.mem_cons_of_mem _ a,b⟩
structure Hit (m:Mc) (e:Ed) (j:Int):Prop where
 le:m.look.e=e
 k:1≤e.k∧e.k≤6
 c:m.look.c=if e.k=3∨e.k=5 then 1 else 0
 h2:e.k=2→m.look.v=e.val m.st∧nl (e.val m.st)≤512
 h3:e.k=3→m.ch[m.used]? = some m.look.v
 h4:e.k=4→(m.reck j).2.2=0∧m.look.v=(m.reck j).1
 h5:e.k=5→∃ x,m.ch[m.used]? = some x∧e.tk=wd x e.mn∧1≤e.mn
 h6:e.k=6→(m.reck j).2.2=0∧e.tk=if cmp (m.reck j).1 (m.reck j).2.1=0 then 1 else 0
structure Miss (m:Mc) (e:Ed) (j:Int):Prop where
 k:e.k=5∨e.k=6
 t:e.tk≠m.look.e.tk
 h5:e.k=5→∃ x,m.ch[m.used]? = some x∧m.look.e.tk=wd x e.mn∧1≤e.mn∧0≤e.tk∧e.tk < e.mn
 h6:e.k=6→(m.reck j).2.2=0∧m.look.e.tk=(if cmp (m.reck j).1 (m.reck j).2.1=0 then 1 else 0)∧(e.tk=0∨e.tk=1)
def vg (m:Mc) (e:Ed):Bool:=decide (e.k≤4) || decide (e.tk=m.look.e.tk)
theorem uniq {es:List Ed} {p:Ed→Bool} (h:(es.filter p).length=1) {a b:Ed} (ha:a∈es) (hb:b∈es) (pa:p a=true) (pb:p b=true):a=b:=by
 obtain ⟨c,hc⟩:=List.length_eq_one_iff.1 h;have h1:a∈es.filter p:=List.mem_filter.2 ⟨ha,pa⟩;have h2:b∈es.filter p:=List.mem_filter.2 ⟨hb,pb⟩;rw[hc,List.mem_singleton] at h1 h2;rw[h1,h2]
theorem qar {m:Mc} {j:Int} {r:List Int} {e:Ed} (ho:m.o=j :: r) (he:m.g.edges[j.toNat]? = some e):m.look=if e.k=1 then { e:=e } else if e.k=2 then qab e m.st else if e.k=3 then Kh m e else if e.k=4 then XT m e j else if e.k=5 then wg m (j :: r) else XO m (j :: r) j:=by
 unfold Mc.look;rw[ho];simp only[he]
theorem qt2 {m:Mc} {i j:Int} {a b:Ed} (hi:m.g.edges[i.toNat]? = some a) (hj:m.g.edges[j.toNat]? = some b) (hi0:0≤i) (hj0:0≤j) (ka:a.k=6) (kb:b.k=6) (hl:a.l=b.l) (hr:a.r=b.r):m.reck i=m.reck j:=by
 have l1:=(List.getElem?_eq_some_iff.1 hi).1;have l2:=(List.getElem?_eq_some_iff.1 hj).1;unfold Mc.reck Gb.reck;rw[if_pos hi0,if_pos hj0,if_pos (show i < (m.g.edges.length:Int) by omega),if_pos (show j < (m.g.edges.length:Int) by omega),hi,hj];simp only[];unfold Ed.reck;simp[ka,kb,hl,hr]
theorem q9y {m:Mc} (hi:∀ j∈m.o,0≤j) {es:List Ed} (hL:m.o.map (fun j=>m.g.edges[j.toNat]?)=es.map some) (hF:FkE es) (hk:m.look.k=0) :
 (∀ i (h:i < es.length) (h2:i < m.o.length),(vg m es[i]=true→Hit m es[i] m.o[i])∧(vg m es[i]=false→Miss m es[i] m.o[i]))∧(es.filter (vg m)).length=1:=by
 have hll:m.o.length=es.length:=by have:=congrArg List.length hL; simpa using this
 cases hF with
 | nil=>
   have:m.o=[]:=by simpa using hL
   unfold Mc.look at hk;rw[this] at hk;exact absurd hk (by simp)
 | @one e k1 k4=>
   obtain ⟨j,hj⟩:∃ j,m.o=[j]:=List.length_eq_one_iff.1 hll;rw[hj] at hL;simp only[List.map_cons,List.map_nil,List.cons.injEq,and_true] at hL;have lc:=qar hj hL
   have hb:vg m e=true:=by unfold vg; simp[k4]
   refine ⟨fun i h h2=>?_,by simp[hb]⟩
   have:i=0:=by simpa using h
   subst this;simp only[List.getElem_cons_zero,hj];refine ⟨fun _=>?_,fun h=>by rw[hb] at h; cases h⟩
   by_cases c1:e.k=1
   ·rw[if_pos c1] at lc;exact ⟨by rw[lc],by omega,by rw[lc,if_neg (by omega)],fun _=>by omega,fun _=>by omega,fun _=>by omega,fun _=>by omega,fun _=>by omega⟩
   rw[if_neg c1] at lc
   by_cases c2:e.k=2
   ·rw[if_pos c2] at lc;unfold qab at lc;split at lc
    ·rw[lc] at hk; exact absurd hk (by simp)
    ·rename_i hn;exact ⟨by rw[lc],by omega,by rw[lc,if_neg (by omega)],fun _=>⟨by rw[lc],by omega⟩,fun _=>by omega,fun _=>by omega,fun _=>by omega,fun _=>by omega⟩
   rw[if_neg c2] at lc
   by_cases c3:e.k=3
   ·rw[if_pos c3] at lc;unfold Kh at lc;split at lc
    ·rename_i x hx;exact ⟨by rw[lc],by omega,by rw[lc,if_pos (by omega)],fun _=>by omega,fun _=>by rw[lc]; exact hx,fun _=>by omega,fun _=>by omega,fun _=>by omega⟩
    ·rw[lc] at hk; exact absurd hk (by simp)
   rw[if_neg c3,if_pos (by omega)] at lc;unfold XT at lc;split at lc
   ·rw[lc] at hk; exact absurd hk (by simp)
   ·rename_i hr;exact ⟨by rw[lc],by omega,by rw[lc,if_neg (by omega)],fun _=>by omega,fun _=>by omega,fun _=>⟨by simpa using hr,by rw[lc]⟩,fun _=>by omega,fun _=>by omega⟩
 | pick hne h5 hc hr=>
   cases ho:m.o with
   | nil=>rw[ho] at hll; exact absurd (List.length_eq_zero_iff.1 hll.symm) hne
   | cons j r=>
     have hL0:=hL
     obtain ⟨e0,es0,hes⟩:∃ e0 es0,es=e0 :: es0:=by
      cases es with
      | nil=>exact absurd rfl hne
      | cons a b=>exact ⟨a,b,rfl⟩
     have he0:m.g.edges[j.toNat]? = some e0:=by
      rw[ho,hes,List.map_cons,List.map_cons,List.cons.injEq] at hL;exact hL.1
     have lc:=qar ho he0;have k0:=(h5 e0 (by rw[hes]; exact List.mem_cons_self ..)).1;rw[if_neg (by omega),if_neg (by omega),if_neg (by omega),if_neg (by omega),if_pos k0] at lc;unfold wg at lc;split at lc
     ·rename_i x hx;rw[← ho,hll] at lc
      have hn:0 < es.length:=by rw[hes]; simp
      have w0:0≤wd x es.length:=Int.emod_nonneg _ (by omega);have w1:wd x es.length < es.length:=Int.emod_lt_of_pos _ (by omega);have cnt:=hc _ w0 w1
      have hex:∃ e∈es,e.tk=wd x es.length:=by
       obtain ⟨c,hc⟩:=List.length_eq_one_iff.1 cnt
       have:c∈es.filter fun e=>e.tk == wd x es.length:=by rw[hc]; exact List.mem_singleton.2 rfl
       rw[List.mem_filter] at this;exact ⟨c,this.1,by simpa using this.2⟩
      obtain ⟨t1,t2⟩:=WX m.o es ed0 hL hex
      have le:m.look.e=Y5 m.g (wd x es.length) ed0 m.o:=by rw[lc]
      have ltk:m.look.e.tk=wd x es.length:=by rw[le]; exact t2
      have hfe:es.filter (vg m)=es.filter fun e=>e.tk == wd x es.length:=by
       apply List.filter_congr;intro e he;unfold vg;rw[ltk,decide_eq_false (by have:=(h5 e he).1; omega),Bool.false_or];rfl
      refine ⟨fun i h h2=>?_,by rw[hfe]; exact cnt⟩;have hmem:=List.getElem_mem h;obtain ⟨q1,q2⟩:=h5 _ hmem;have q3:=hr _ hmem;simp only[ho] at *;generalize es[i]=e at *;refine ⟨fun hb=>?_,fun hb=>?_⟩
      ·unfold vg at hb;rw[ltk,decide_eq_false (by omega),Bool.false_or,decide_eq_true_eq] at hb;have:e=m.look.e:=uniq cnt hmem (by rw[le]; exact t1) (by simpa using hb) (by simpa using ltk);exact ⟨this.symm,by omega,by rw[lc,if_pos (by omega)],fun _=>by omega,fun _=>by omega,fun _=>by omega,fun _=>⟨x,hx,by rw[q2]; exact hb,by omega⟩,fun _=>by omega⟩
      ·unfold vg at hb;rw[decide_eq_false (by omega),Bool.false_or,decide_eq_false_iff_not] at hb;exact ⟨.inl q1,hb,fun _=>⟨x,hx,by rw[q2]; exact ltk,by omega,q3.1,by rw[q2]; exact q3.2⟩,fun _=>by omega⟩
     ·rw[lc] at hk; exact absurd hk (by simp)
 | @test a b ka kb ht ht2 hrow hl hr=>
   obtain ⟨i,j,ho⟩:∃ i j,m.o=[i,j]:=by
    match h:m.o,hll with
    | [i,j],_=>exact ⟨i,j,rfl⟩
   have hLL:=hL;rw[ho] at hL;simp only[List.map_cons,List.map_nil,List.cons.injEq,and_true] at hL;obtain ⟨ha,hb⟩:=hL;have i0:=hi i (by rw[ho]; simp);have j0:=hi j (by rw[ho]; simp);have lc:=qar ho ha;have rs:=qt2 ha hb i0 j0 ka kb hl hr;rw[if_neg (by omega),if_neg (by omega),if_neg (by omega),if_neg (by omega),if_neg (by omega)] at lc;unfold XO at lc;split at lc
   ·rw[lc] at hk; exact absurd hk (by simp)
   rename_i hr0
   have hr0:(m.reck i).2.2=0:=by simpa using hr0
   rw[← ho] at lc
   have hw:(if cmp (m.reck i).1 (m.reck i).2.1=0 then (1:Int) else 0)=0∨(if cmp (m.reck i).1 (m.reck i).2.1=0 then (1:Int) else 0)=1:=by split <;> simp
   generalize hwe:(if cmp (m.reck i).1 (m.reck i).2.1=0 then (1:Int) else 0)=w at *
   obtain ⟨t1,t2⟩:=WX m.o [a,b] ed0 hLL (w:=w) (by
    by_cases c:a.tk=w
    ·exact ⟨a,by simp,c⟩
    ·exact ⟨b,by simp,by omega⟩)
   have le:m.look.e=Y5 m.g w ed0 m.o:=by rw[lc]
   have lt:m.look.e.tk=w:=by rw[le]; exact t2
   rw[← le] at t1
   have hba:vg m a=decide (a.tk=w):=by unfold vg; rw[lt,decide_eq_false (by omega),Bool.false_or]
   have hbb:vg m b=decide (b.tk=w):=by unfold vg; rw[lt,decide_eq_false (by omega),Bool.false_or]
   have one:∀ (e:Ed) (l:Int),e.k=6→m.reck l=m.reck i→(e.tk=w→m.look.e=e)→(e.tk=0∨e.tk=1)→(decide (e.tk=w)=true→Hit m e l)∧(decide (e.tk=w)=false→Miss m e l):=fun e l ke rl h1 h2=>by
    refine ⟨fun h=>?_,fun h=>?_⟩
    ·have h:=of_decide_eq_true h;exact ⟨h1 h,by omega,by rw[lc,if_neg (by omega)],fun _=>by omega,fun _=>by omega,fun _=>by omega,fun _=>by omega,fun _=>⟨by rw[rl]; exact hr0,by rw[rl,hwe]; exact h⟩⟩
    ·have h:=of_decide_eq_false h;exact ⟨.inr ke,by rw[lt]; exact h,fun _=>by omega,fun _=>⟨by rw[rl]; exact hr0,by rw[rl,hwe]; exact lt,h2⟩⟩
   have both:a.tk=w→b.tk≠w:=fun h=>by omega
   refine ⟨fun k h h2=>?_,?_⟩
   ·simp only[List.length_cons,List.length_nil] at h
    have:k=0∨k=1:=by omega
    rcases this with rfl | rfl
    ·simp only[List.getElem_cons_zero,ho,hba];refine one a i ka rfl (fun h=>?_) ht2;rcases List.mem_cons.1 t1 with e | t1
     ·exact e
     ·rw[List.mem_singleton.1 t1] at lt; exact absurd lt (both h)
    ·simp only[List.getElem_cons_succ,List.getElem_cons_zero,ho,hbb];refine one b j kb rs.symm (fun h=>?_) (by omega);rcases List.mem_cons.1 t1 with e | t1
     ·rw[e] at lt; exact absurd h (both lt)
     ·exact List.mem_singleton.1 t1
   ·simp only[List.filter_cons,List.filter_nil,hba,hbb]
    by_cases c:a.tk=w
    ·simp[c,both c]
    ·simp[c,show b.tk=w by omega]
end Go.Rf

namespace Go.Rf
set_option maxHeartbeats 16000000
theorem qrd {xs:List Int} (h:xs.length≤1000000):d5 T0 X0 ZJ [.d (.sl (L xs))] []=some (.ret [.d (.sl (L xs))] []):=by
 rw[c8 (af:=Y0) rfl rfl rfl];simp -implicitDefEqProofs (disch:=omega) [Y0]
theorem qrc {n:Int} (h:nl n≤1000000):d5 T0 X0 ZI [.d (Wd n)] []=some (.ret [.d (Wd n)] []):=by
 have hl:(d6 n.natAbs).length≤1000000:=h;have s1:=qrd hl;rw[c8 (af:=X9) rfl rfl rfl];simp only[Wd] at s1 ⊢;simp (maxSteps:=4000000) -implicitDefEqProofs (disch:=omega) [-WS,X9,s1]
theorem qob (xs:List Int) (hb:xs.length≤1000000) (hn:∀ n∈xs,nl n≤512):∀ d i (e:List (Nat × V)),d + i=xs.length→
 i9 T0 X0 0 H6 (some (.nrm,⟨(0,.d (.sl (WL xs))) :: (3,.ref (.b 0) ⟨2,32⟩ 0 i) :: (4,.d (.int .i64 i)) :: e,[.arr (WV (xs.take i)) ⟨2,32⟩]⟩)) =
  some (.exit 0,⟨[(3,.ref (.b 0) ⟨2,32⟩ 0 xs.length)],[.arr (WV xs) ⟨2,32⟩]⟩):=by
 intro d
 induction d with
 | zero=>
   intro i e hi
   have:i=xs.length:=by omega
   subst this;rw[List.take_length,c9 (l:=H6) rfl];simp -implicitDefEqProofs (disch:=omega) [Q2]
 | succ d ih=>
   intro i e hi
   have hlt:i < xs.length:=by omega
   have hget:=qk9 hlt
   have hx:nth xs i=xs[i]:=by simp[nth,hlt]
   have hnl:=hn _ (List.getElem_mem hlt);rw[← hx] at hnl;have s1:=qrc (n:=nth xs i) (by omega);unfold nl at hnl
   have hnx:WV (xs.take i)++[.d (Wd (nth xs i))]=WV (xs.take (i + 1)):=by
    rw[List.take_succ_eq_append_getElem hlt,hx];exact XL _ _
   have hlen:(xs.take i).length=i:=by simp; omega
   rw[← ih (i + 1) [] (by omega)];rw[c9 (l:=H6) rfl];rw[← hnx];generalize nth xs i=b at *;generalize xs.take i=ys at *;have htk:ys.take i=ys:=List.take_of_length_le (by omega);have happ:=XL ys b;simp only[Wd] at hget s1 happ ⊢;simp (maxSteps:=4000000) -implicitDefEqProofs (disch:=omega) [-WS,Q2,hget,hlen,htk,s1,happ]
theorem qbw (xs:List Int) (hb:xs.length≤1000000) (hn:∀ n∈xs,nl n≤512):d5 T0 X0 Zc [.d (.sl (WL xs))] []=some (.ret [.ref (.b 0) ⟨2,32⟩ 0 xs.length] [.arr (WV xs) ⟨2,32⟩]):=by
 have s1:=qob xs hb hn xs.length 0 [] rfl;rw[c8 (af:=W1) rfl rfl rfl];simp only[List.take_zero,qa9,Int.cast_ofNat_Int] at s1;simp (maxSteps:=4000000) -implicitDefEqProofs (disch:=omega) [W1,s1]
def alA (m:Mc) (e:Ed) (i j:Int) (t:Sd):List V:=[.d m.g.d,.d (.agg e.a),.d (.int .i64 i),.d (.int .i64 j),.d (.agg m.sd.cs),.d (.agg t.cs),.d (.sl (LD inL m.ch))]
theorem qvn {m:Mc} (k:Mok m) {e:Ed} {i j:Int} (h:Hit m e j) (hf:e.f=m.p) (hv:2≤e.k→e.k≤4→0≤e.v∧e.v < m.st.length) (h2:e.k=2→e.row.length=m.st.length + 1 ∧ ∀ n∈e.row,nl n≤512) (hrow:e.row.length≤1000000) (hs:0≤m.steps∧m.steps < 65536) (hu:m.used≤1100000) (hmn:e.k=5→e.mn≤1000000) (kk ww:Int) :
 d5 T0 X0 P0 (alA m e i j ⟨e.t,if 2≤e.k∧e.k≤4 then m.st.set e.v.toNat m.look.v else m.st,m.steps + 1,m.used + m.look.c,kk,ww⟩) []=some (.ret [.d (.bool true)] []):=by
 have hst:=k.s.n;have hch:=k.ch;have s1:=qbw m.st (by omega) k.s.v;have s4:=qcn m.g j k.s.v k.s.n k.s.he k.s.hv (fun _=>k.e);have hb:=Gb.reck_nl m.g j (m.st.map Xb)
 have hvl:2≤e.k→e.k≤4→nl m.look.v≤512:=fun a b=>by
  rcases Yy k with ⟨_,_,h⟩ | ⟨_,_,h,_⟩
  ·rw[h]; decide
  ·exact h
 obtain ⟨le,hk,hc,q2,q3,q4,q5,q6⟩:=h;rw[c8 (af:=l8) rfl rfl rfl];unfold Mc.reck at q4 q6;generalize m.g.reck j (m.st.map Xb)=rk at *;obtain ⟨r1,r2,r3⟩:=rk;generalize hlv:m.look.v=v at *;generalize hlc:m.look.c=c at *;subst hc;simp only at q4 q6 s4 hb;have hD:∃ D,m.g.d = .box D:=⟨_,rfl⟩;obtain ⟨D,hD⟩:=hD;rw[hD] at s4
 have same:∀ st:List Int,st.length≤16→(∀ n∈st,nl n≤512)→d5 T0 X0 xz [.d (.sl (WL st)),.d (.sl (WL st))] []=some (.ret [.d (.bool true)] []):=fun st a b=>by
  have:=wa (f:=st) (g:=st) (by omega) (by omega) (qhc b) (qhc b)
  simpa using this
 unfold alA;simp only[Ed.a,Mc.sd,Sd.cs,hD,hf]
 by_cases k1:e.k=1
 ·have s5:=same m.st hst k.s.v;simp only[k1];clear k le;simp (maxSteps:=4000000) -implicitDefEqProofs (disch:=omega) [l8,s1,s5]
 by_cases k5:e.k=5
 ·have hmn:=hmn k5;obtain ⟨x,hx,ht,hm⟩:=q5 k5;have s5:=same m.st hst k.s.v;obtain ⟨hl,hxe⟩:=List.getElem?_eq_some_iff.1 hx;have hg:(LD inL m.ch)[m.used]? = some (.int .i64 m.ch[m.used]):=Zl inL m.ch hl;rw[hxe] at hg;have hxr:=k.cv x (List.mem_of_getElem? hx);have b1:=Int.tmod_lt_of_pos x (b:=e.mn) (by omega);have b2:=Int.lt_tmod_of_pos x (b:=e.mn) (by omega)
  have hor:x.tmod e.mn=e.tk∨x.tmod e.mn≠e.tk∧x.tmod e.mn + e.mn=e.tk:=by
   rw[ht];unfold wd
   by_cases hn:0≤x.tmod e.mn
   ·exact .inl (Int.emod_eq_of_lt hn b1).symm
   ·refine .inr ?_
    have:x.tmod e.mn % e.mn=x.tmod e.mn + e.mn:=by
     rw[← Int.add_emod_right];exact Int.emod_eq_of_lt (by omega) (by omega)
    omega
  have n0:e.mn≠0:=by omega
  clear k q2 q3 q4 q6;rcases hor with h1 | ⟨h1,h3⟩
  ·simp only[k5];simp (maxSteps:=4000000) -implicitDefEqProofs (disch:=omega) [l8,s1,s5,hg,hl,n0,h1]
  ·simp only[k5];simp (maxSteps:=4000000) -implicitDefEqProofs (disch:=omega) [l8,s1,s5,hg,hl,n0,h1,h3]
 by_cases k6:e.k=6
 ·obtain ⟨h1,h3⟩:=q6 k6;have s5:=same m.st hst k.s.v;have s6:=qo8 (m:=r1) (n:=r2) (by omega) (by omega);subst h1;clear k q2 q3 q4 q5
  by_cases hc:cmp r1 r2=0
  ·rw[if_pos hc] at h3;rw[hc] at s6;simp only[k6,h3];simp (maxSteps:=4000000) -implicitDefEqProofs (disch:=omega) [l8,s1,s4,s5,s6]
  ·rw[if_neg hc] at h3;simp only[k6,h3];simp (maxSteps:=4000000) -implicitDefEqProofs (disch:=omega) [l8,s1,s4,s5,s6,hc]
 have hk24:2≤e.k∧e.k≤4:=by omega
 obtain ⟨v0,v1⟩:=hv hk24.1 hk24.2;obtain ⟨w,hw⟩:=Int.eq_ofNat_of_zero_le v0
 have hwl:w < m.st.length:=by omega
 have hnl:=hvl hk24.1 hk24.2;have hset:(WV m.st).set w (.d (Wd v))=WV (m.st.set w v):=qk8 m.st w v
 have hsp:∀ a,S5 (.d (Wd a)) 0 (.d (Wd v))=some (.d (Wd v)):=fun a=>qc1 a v
 have s5:=same (m.st.set w v) (by rw[List.length_set]; exact hst) (fun n hn=>by
  rcases List.mem_or_eq_of_mem_set hn with h | rfl
  ·exact k.s.v n h
  ·exact hnl)
 have htk:(m.st.set w v).take m.st.length=m.st.set w v:=List.take_of_length_le (by simp);rw[if_pos hk24];simp only[hw,Int.toNat_natCast]
 by_cases k2:e.k=2
 ·obtain ⟨h1,h3⟩:=q2 k2;obtain ⟨h5,h6⟩:=h2 k2;have s6:=qz6 k.s.v h6 h5 k.s.n;rw[show KP e.row (nth m.st) m.st.length + nth e.row m.st.length=e.val m.st from rfl,← h1] at s6;clear k q3 q4 q5 q6;simp only[k2];simp (maxSteps:=4000000) -implicitDefEqProofs (disch:=omega) [l8,s1,s5,s6,hset,hsp,htk]
 by_cases k3:e.k=3
 ·have hx:=q3 k3;obtain ⟨hl,hxe⟩:=List.getElem?_eq_some_iff.1 hx;have hg:(LD inL m.ch)[m.used]? = some (.int .i64 m.ch[m.used]):=Zl inL m.ch hl;rw[hxe] at hg;have s6:=kY (k.cv v (List.mem_of_getElem? hx));clear k q2 q4 q5 q6;simp only[k3];simp (maxSteps:=4000000) -implicitDefEqProofs (disch:=omega) [l8,s1,s5,s6,hset,hsp,htk,hg,hl]
 have k4:e.k=4:=by omega
 obtain ⟨h1,h3⟩:=q4 k4;subst h1;subst h3;clear k q2 q3 q5 q6;simp only[k4];simp (maxSteps:=4000000) -implicitDefEqProofs (disch:=omega) [l8,s1,s4,s5,hset,hsp,htk]
theorem qrp {m:Mc} (k:Mok m) {e:Ed} {i j:Int} (h:Miss m e j) (hf:e.f=m.p) (hrow:e.row.length≤1000000) (hu:m.used≤1100000) (hmn:e.k=5→e.mn≤1000000) (t:Sd) (ht:t.st.length≤16) :
 d5 T0 X0 P0 (alA m e i j t) []=some (.ret [.d (.bool false)] []):=by
 have hst:=k.s.n;have hch:=k.ch;have s1:=qbw m.st (by omega) k.s.v;have s4:=qcn m.g j k.s.v k.s.n k.s.he k.s.hv (fun _=>k.e);have hb:=Gb.reck_nl m.g j (m.st.map Xb);obtain ⟨hk,htk,q5,q6⟩:=h;rw[c8 (af:=l8) rfl rfl rfl];unfold Mc.reck at q6;generalize m.g.reck j (m.st.map Xb)=rk at *;obtain ⟨r1,r2,r3⟩:=rk;simp only at q6 s4 hb;have hD:∃ D,m.g.d = .box D:=⟨_,rfl⟩;obtain ⟨D,hD⟩:=hD;rw[hD] at s4;unfold alA;simp only[Ed.a,Mc.sd,Sd.cs,hD,hf];generalize m.look.k=lk;generalize m.look.w=lw
 by_cases he:e.t=t.p
 ·rcases hk with k5 | k6
  ·have hmn:=hmn k5;obtain ⟨x,hx,hw,hm,t0,t1⟩:=q5 k5;obtain ⟨hl,hxe⟩:=List.getElem?_eq_some_iff.1 hx;have hg:(LD inL m.ch)[m.used]? = some (.int .i64 m.ch[m.used]):=Zl inL m.ch hl;rw[hxe] at hg;have hxr:=k.cv x (List.mem_of_getElem? hx);have b1:=Int.tmod_lt_of_pos x (b:=e.mn) (by omega);have b2:=Int.lt_tmod_of_pos x (b:=e.mn) (by omega)
   have n1:x.tmod e.mn≠e.tk:=fun h=>htk (by
    rw[hw];unfold wd;rw[Int.emod_eq_of_lt (by omega) b1]
    exact h.symm)
   have n2:x.tmod e.mn + e.mn≠e.tk:=fun h=>htk (by
    rw[hw];unfold wd;rw[← Int.add_emod_right,Int.emod_eq_of_lt (by omega) (by omega)]
    exact h.symm)
   have n0:e.mn≠0:=by omega
   clear k q6;simp only[k5];simp (maxSteps:=4000000) -implicitDefEqProofs (disch:=omega) [l8,s1,hg,hl,n0,n1,n2,he]
  ·obtain ⟨h1,h3,h4⟩:=q6 k6;have s6:=qo8 (m:=r1) (n:=r2) (by omega) (by omega);subst h1;rw[h3] at htk;clear k q5
   by_cases hc:cmp r1 r2=0
   ·rw[if_pos hc] at htk;rw[hc] at s6;simp only[k6];simp (maxSteps:=4000000) -implicitDefEqProofs (disch:=omega) [l8,s1,s4,s6,he,htk]
   ·rw[if_neg hc] at htk
    have h4:e.tk=1:=by omega
    simp only[k6,h4];simp (maxSteps:=4000000) -implicitDefEqProofs (disch:=omega) [l8,s1,s4,s6,hc,he]
 ·clear k;simp (maxSteps:=4000000) -implicitDefEqProofs (disch:=omega) [l8,he]
end Go.Rf

namespace Go.Rf
set_option maxHeartbeats 16000000
theorem zai {es:List Ed} {i:Nat} (h:i < es.length):(LD eaL es)[i]? = some (.agg (es[i]).a):=Zl eaL es h
def MS (m:Mc) (xs:List (List D)):List Obj:=
 .arr [.agg [.d (.int .i64 m.p),.d (.int .i64 m.steps),.d (.int .i64 m.used),.ref (.b (xs.length + 1)) ⟨2,32⟩ 0 m.st.length,.d m.g.d,.ref (.b (xs.length + 2)) ⟨1,8⟩ 0 m.ch.length]] ⟨6,0⟩ ::
  (xs.map (fun x=>.arr [.d (.agg x)] ⟨6,0⟩)++[.arr (WV m.st) ⟨2,32⟩,.arr (LW inL m.ch) ⟨1,8⟩])
theorem qtl (m m1:Mc) (hg:m1.g=m.g) (hst:m1.st.length≤16) (hst2:m.st.length≤16) {o:List Int} (ho:o.length≤1000000) (n:Int) (hel:m.g.edges.length≤1000000) (hc:m.ch.length≤1100000)
 (i:Nat) (hi:i < o.length) {ed:Ed} {j:Nat} (hj:j < m.g.edges.length) (hoj:o[i]=j) (hee:m.g.edges[j]=ed) (hrow:ed.row.length≤1000000) {b:Bool} (al:d5 T0 X0 P0 (alA m ed i o[i] m1.sd) []=some (.ret [.d (.bool b)] [])) (c:Nat) (hcn:c≤i) (e:List (Nat × V)) :
 i9 T0 X0 0 x7 (some (.nrm,⟨(1,.d (.sl (LD inL m.ch))) :: (5,.d m.g.d) :: (6,.ptr (.b 0) 0 0) :: (8,.d (.sl (LD eaL m.g.edges))) :: (9,.d (.int .i64 n)) :: (10,.ptr (.b 1) 0 0) :: (12,.ptr (.b 2) 0 0) :: (13,.d (.sl (LD inL o))) :: (14,.d (.int .i64 c)) :: (15,.d (.int .i64 i)) :: e,MS m1 [m.sd.cs,m1.sd.cs]⟩)) =
  some (.nrm,⟨[(1,.d (.sl (LD inL m.ch))),(5,.d m.g.d),(6,.ptr (.b 0) 0 0),(8,.d (.sl (LD eaL m.g.edges))),(9,.d (.int .i64 n)),(10,.ptr (.b 1) 0 0),(12,.ptr (.b 2) 0 0),(13,.d (.sl (LD inL o))),(14,.d (.int .i64 (if b=true then (c:Int) + 1 else c))),(15,.d (.int .i64 (i + 1)))],MS m1 [m.sd.cs,m1.sd.cs]⟩):=by
 have hget:(LD inL o)[i]? = some (.int .i64 j):=by rw[Zl inL o hi,hoj]; rfl
 have hge:=zai hj;rw[hee] at hge;rw[hoj] at al;have hD:∃ D,m.g.d = .box D:=⟨_,rfl⟩;obtain ⟨D,hD⟩:=hD;unfold alA at al;generalize hk:m.look.k=k at *;generalize hw:m.look.w=w at *;generalize hk1:m1.look.k=k1 at *;generalize hw1:m1.look.w=w1 at *;simp only[Ed.a,Mc.sd,Sd.cs,MS,hg,hD,hk,hw,hk1,hw1,List.cons_append,List.nil_append,List.map,List.length_cons,List.length_nil] at al hge ⊢
 cases b with
 | true=>
   simp (maxSteps:=4000000) -implicitDefEqProofs (disch:=omega) [x7,hget,hge,al]
 | false=>
   simp (maxSteps:=4000000) -implicitDefEqProofs (disch:=omega) [x7,hget,hge,al]
theorem qtn (m m1:Mc) (hg:m1.g=m.g) (hst:m1.st.length≤16) {o:List Int} (ho:o.length≤1000000) (n:Int) (c:Nat) (e:List (Nat × V)) :
 i9 T0 X0 0 x7 (some (.nrm,⟨(1,.d (.sl (LD inL m.ch))) :: (5,.d m.g.d) :: (6,.ptr (.b 0) 0 0) :: (8,.d (.sl (LD eaL m.g.edges))) :: (9,.d (.int .i64 n)) :: (10,.ptr (.b 1) 0 0) :: (12,.ptr (.b 2) 0 0) :: (13,.d (.sl (LD inL o))) :: (14,.d (.int .i64 c)) :: (15,.d (.int .i64 o.length)) :: e,MS m1 [m.sd.cs,m1.sd.cs]⟩)) =
  some (.exit 2,⟨[(1,.d (.sl (LD inL m.ch))),(5,.d m.g.d),(6,.ptr (.b 0) 0 0),(8,.d (.sl (LD eaL m.g.edges))),(9,.d (.int .i64 n)),(10,.ptr (.b 1) 0 0),(14,.d (.int .i64 c))],MS m1 [m.sd.cs]⟩):=by
 have hD:∃ D,m.g.d = .box D:=⟨_,rfl⟩;obtain ⟨D,hD⟩:=hD;simp only[Mc.sd,Sd.cs,MS,hg,hD,List.cons_append,List.nil_append,List.map,List.length_cons,List.length_nil];simp (maxSteps:=4000000) -implicitDefEqProofs (disch:=omega) [x7]
theorem qgp (m m1:Mc) (hg:m1.g=m.g) {o:List Int} (n:Int) (c:Nat) (i:Nat) (e:List (Nat × V)) :
 qmu (kG 0 [1,5,6,8,9,10,12,13,14,15] ((1,.d (.sl (LD inL m.ch))) :: (5,.d m.g.d) :: (6,.ptr (.b 0) 0 0) :: (8,.d (.sl (LD eaL m.g.edges))) :: (9,.d (.int .i64 n)) :: (10,.ptr (.b 1) 0 0) :: (12,.ptr (.b 2) 0 0) :: (13,.d (.sl (LD inL o))) :: (14,.d (.int .i64 c)) :: (15,.d (.int .i64 i)) :: e) (n7 (MS m1 [m.sd.cs,m1.sd.cs]))) =
  some (.nrm,⟨[(1,.d (.sl (LD inL m.ch))),(5,.d m.g.d),(6,.ptr (.b 0) 0 0),(8,.d (.sl (LD eaL m.g.edges))),(9,.d (.int .i64 n)),(10,.ptr (.b 1) 0 0),(12,.ptr (.b 2) 0 0),(13,.d (.sl (LD inL o))),(14,.d (.int .i64 c)),(15,.d (.int .i64 i))],MS m1 [m.sd.cs,m1.sd.cs]⟩):=by
 have hD:∃ D,m.g.d = .box D:=⟨_,rfl⟩;obtain ⟨D,hD⟩:=hD;simp only[Mc.sd,Sd.cs,MS,hg,hD,List.cons_append,List.nil_append,List.map,List.length_cons,List.length_nil];simp -implicitDefEqProofs (disch:=omega)
theorem qwo (m m1:Mc) (hg:m1.g=m.g) (hst:m1.st.length≤16) (hst2:m.st.length≤16) {o:List Int} (ho:o.length≤1000000) {es:List Ed} (hL:o.map (fun j=>m.g.edges[j.toNat]?)=es.map some) (ho0:∀ j∈o,0≤j) (n:Int) (hel:m.g.edges.length≤1000000) (hc:m.ch.length≤1100000)
 (hrow:∀ e∈m.g.edges,e.row.length≤1000000) (al:∀ i (h:i < es.length) (h2:i < o.length),d5 T0 X0 P0 (alA m es[i] i o[i] m1.sd) []=some (.ret [.d (.bool (vg m es[i]))] [])):∀ d i (e:List (Nat × V)),d + i=o.length→
 i9 T0 X0 0 E3 (some (.nrm,⟨(1,.d (.sl (LD inL m.ch))) :: (5,.d m.g.d) :: (6,.ptr (.b 0) 0 0) :: (8,.d (.sl (LD eaL m.g.edges))) :: (9,.d (.int .i64 n)) :: (10,.ptr (.b 1) 0 0) :: (12,.ptr (.b 2) 0 0) :: (13,.d (.sl (LD inL o))) :: (14,.d (.int .i64 ((es.take i).filter (vg m)).length)) :: (15,.d (.int .i64 i)) :: e,MS m1 [m.sd.cs,m1.sd.cs]⟩)) =
  some (.exit 2,⟨[(1,.d (.sl (LD inL m.ch))),(5,.d m.g.d),(6,.ptr (.b 0) 0 0),(8,.d (.sl (LD eaL m.g.edges))),(9,.d (.int .i64 n)),(10,.ptr (.b 1) 0 0),(14,.d (.int .i64 (es.filter (vg m)).length))],MS m1 [m.sd.cs]⟩):=by
 have hl:o.length=es.length:=by have:=congrArg List.length hL; simpa using this
 intro d
 induction d with
 | zero=>
   intro i e hi
   have:i=o.length:=by omega
   subst this;rw[show es.take o.length=es from List.take_of_length_le (by omega),c9 (l:=E3) rfl];dsimp only;rw[qgp m m1 hg,qtn m m1 hg hst ho];simp
 | succ d ih=>
   intro i e hi
   have hlt:i < o.length:=by omega
   have hlt2:i < es.length:=by omega
   have h0:=ho0 _ (List.getElem_mem hlt);obtain ⟨j,hj⟩:=Int.eq_ofNat_of_zero_le h0
   have hLi:m.g.edges[j]? = some es[i]:=by
    have:=congrArg (fun l=>l[i]?) hL;simp only[List.getElem?_map,List.getElem?_eq_getElem hlt,List.getElem?_eq_getElem hlt2,Option.map_some,Option.some.injEq] at this;rw[hj,Int.toNat_natCast] at this;exact this
   obtain ⟨hjl,hje⟩:=List.getElem?_eq_some_iff.1 hLi;have a1:=al i hlt2 hlt;have hfl:(((es.take i).filter (vg m)).length)≤i:=Nat.le_trans (List.length_filter_le _ _) (by simp; omega);have one:=qtl m m1 hg hst hst2 ho n hel hc i hlt hjl hj hje (by rw[← hje]; exact hrow _ (List.getElem_mem hjl)) a1 _ hfl []
   have hf:(((es.take (i + 1)).filter (vg m)).length:Int)=if vg m es[i]=true then (((es.take i).filter (vg m)).length:Int) + 1 else (((es.take i).filter (vg m)).length:Int):=by
    rw[List.take_succ_eq_append_getElem hlt2,List.filter_append,List.length_append]
    by_cases c:vg m es[i]=true
    ·simp[c]
    ·simp[c]
   rw[← hf] at one;have s2:=ih (i + 1) [] (by omega);rw[c9 (l:=E3) rfl];dsimp only;rw[qgp m m1 hg,one];exact s2
theorem ziu {m:Mc} (h:m.look.k=1):m.o=[]:=by
 cases ho:m.o with
 | nil=>rfl
 | cons j r=>
   unfold Mc.look at h;rw[ho] at h;simp only[] at h;split at h
   ·exact absurd h (by simp)
   split at h
   ·exact absurd h (by simp)
   split at h
   ·unfold qab at h; split at h <;> exact absurd h (by simp)
   split at h
   ·unfold Kh at h; split at h <;> exact absurd h (by simp)
   split at h
   ·unfold XT at h; split at h <;> exact absurd h (by simp)
   split at h
   ·unfold wg at h; split at h <;> exact absurd h (by simp)
   ·unfold XO at h; split at h <;> exact absurd h (by simp)
theorem zit {m:Mc} (h:m.look.k=2):m.ch.length≤m.used:=by
 by_cases hl:m.used < m.ch.length
 ·exfalso
  unfold Mc.look at h;split at h
  ·exact absurd h (by simp)
  split at h
  ·exact absurd h (by simp)
  split at h
  ·exact absurd h (by simp)
  split at h
  ·unfold qab at h; split at h <;> exact absurd h (by simp)
  split at h
  ·unfold Kh at h; rw[List.getElem?_eq_getElem hl] at h; exact absurd h (by simp)
  split at h
  ·unfold XT at h; split at h <;> exact absurd h (by simp)
  split at h
  ·unfold wg at h; rw[List.getElem?_eq_getElem hl] at h; exact absurd h (by simp)
  ·unfold XO at h; split at h <;> exact absurd h (by simp)
 ·omega
end Go.Rf

namespace Go.Rf
set_option maxHeartbeats 16000000
theorem qvb {s:List UInt8} {g:Gb} (h:jb s=some g):∃ p,Pok p∧g=p.bld:=by
 unfold jb at h;split at h
 ·cases h
 ·rename_i p hp;split at h
  ·cases h
  ·cases h;exact ⟨p,qde hp,rfl⟩
section
variable {g:Gb} {ch:List Int} (hg:Gmo g) (hk:Gfk g) (hc:ch.length≤1100000) (hv:∀ x∈ch,-9223372036854775808≤x∧x≤9223372036854775807)
include hg hk hc hv
theorem qt7 {m:Mc} (h:Mi g ch m) (hs:m.steps < 65536) (hl:m.look.k≠0) (i:Nat) (hi:i < 120) (e:List (Nat × V)) :
 i9 T0 X0 0 o6 (some (.nrm,⟨(1,.d (.sl (LD inL ch))) :: (5,.d g.d) :: (6,.ptr (.b 0) 0 0) :: (8,.d (.sl (LD eaL g.edges))) :: (9,.d (.int .i64 i)) :: e,MH m⟩))=some (.ret,⟨[(4,.d (.bool true))],[]⟩):=by
 have I:=wF hg hc hv;have t1:=(wE I h).t;have t2:=Wt I m h 1;rw[show (1:Int).toNat=1 from rfl,Wu (fun _=>hl)] at t2;have k:=I.ok m h;have s1:=qr5 g m.p (by have:=hg.pt; omega) (fun i=>by have:=hg.os i; omega);have l1:=ziu (m:=m);have l2:=zit (m:=m)
 have hol:(g.outN m.p).length≤900000:=by
  unfold Gb.outN;split
  ·exact hg.os _
  ·simp
 have ho:m.o=g.outN m.p:=by unfold Mc.o; rw[h.gg]
 have hu:=h.u;have hcc:=h.cc;have hgg:=h.gg;have hst:=k.s.n;rw[ho] at l1;rw[hcc] at l2;have hD:∃ D,g.d = .box D:=⟨_,rfl⟩;obtain ⟨D,hD⟩:=hD;generalize m.look.w=w at *;generalize g.outN m.p=o at *;simp only[MH,Mc.sd,Sd.cs,hgg,hcc,hD] at t1 t2 s1 ⊢;clear I h k hg hk
 by_cases h1:m.look.k=1
 ·have:=l1 h1;subst this;simp only[h1] at t1;simp (maxSteps:=4000000) -implicitDefEqProofs (disch:=omega) [o6,t1,t2,s1]
 by_cases h2:m.look.k=2
 ·have hul:m.used=ch.length:=by have:=l2 h2; omega
  simp only[h2,hul] at t1 t2 ⊢;simp (maxSteps:=4000000) -implicitDefEqProofs (disch:=omega) [o6,t1,t2,s1]
 generalize m.look.k=q at *;simp (maxSteps:=4000000) -implicitDefEqProofs (disch:=omega) [o6,t1,t2,s1,hl,h1,h2]
theorem q7o {m:Mc} (h:Mi g ch m) (hs:m.steps < 65536) (hl:m.look.k=0) (i:Nat) (hi:i < 120) (e:List (Nat × V)) :
 i9 T0 X0 0 o6 (some (.nrm,⟨(1,.d (.sl (LD inL ch))) :: (5,.d g.d) :: (6,.ptr (.b 0) 0 0) :: (8,.d (.sl (LD eaL g.edges))) :: (9,.d (.int .i64 i)) :: e,MH m⟩)) =
  some (.nrm,⟨[(1,.d (.sl (LD inL ch))),(5,.d g.d),(6,.ptr (.b 0) 0 0),(8,.d (.sl (LD eaL g.edges))),(9,.d (.int .i64 (i + 1)))],MH m.step⟩):=by
 have I:=wF hg hc hv;have h1:Mi g ch m.step:=(I.k m h hs hl).2;have t1:=(wE I h).t;have t3:=(wE I h1).t;have t2:=Wt I m h 1
 have e1:m.goF 1=(1,m.step):=by
  show (if m.steps < 65536 then _ else _)=_;rw[if_pos hs,if_pos hl];rfl
 rw[show (1:Int).toNat=1 from rfl,e1] at t2;have k:=I.ok m h;have k1:=I.ok _ h1;have s1:=qr5 g m.p (by have:=hg.pt; omega) (fun i=>by have:=hg.os i; omega)
 have hol:(g.outN m.p).length≤900000:=by
  unfold Gb.outN;split
  ·exact hg.os _
  ·simp
 have ho:m.o=g.outN m.p:=by unfold Mc.o; rw[h.gg]
 have hu:=h.u;have hcc:=h.cc;have hgg:=h.gg;have hst:=k.s.n;have hst1:=k1.s.n;have hel:=hg.el;have hs0:=h.s0;obtain ⟨hp0,hp1⟩:=h.p;obtain ⟨es,hL,hF⟩:=hk.fk m.p.toNat (by omega)
 have hon:g.outN m.p=g.out.getD m.p.toNat []:=by unfold Gb.outN; rw[if_pos ⟨hp0,hp1⟩]
 unfold Lds at hL;rw[← hon,← ho] at hL;rw[← hgg] at hL;obtain ⟨f1,f2⟩:=q9y (fun j hj=>(k.oi j hj).1) hL hF hl
 have hmn:∀ e∈es,e.k=5→e.mn≤1000000:=fun e he h5=>by
  have hlen:m.o.length=es.length:=by have:=congrArg List.length hL; simpa using this
  cases hF with
  | nil=>cases he
  | one a b=>rw[List.mem_singleton] at he; subst he; omega
  | pick _ h _ _=>have:=(h e he).2; rw[ho] at hlen; omega
  | test a b=>
    rcases List.mem_cons.1 he with rfl | he
    ·omega
    ·rw[List.mem_singleton] at he; subst he; omega
 have hmem:∀ e∈es,e∈g.edges∧e.f=m.p:=fun e he=>by
  obtain ⟨i,hi,rfl⟩:=List.getElem_of_mem he
  have hlen:m.o.length=es.length:=by have:=congrArg List.length hL; simpa using this
  have:=congrArg (fun l=>l[i]?) hL;simp only[List.getElem?_map,List.getElem?_eq_getElem (show i < m.o.length by omega),List.getElem?_eq_getElem hi,Option.map_some,Option.some.injEq] at this;rw[hgg] at this;obtain ⟨d,d1,d2⟩:=hk.fr m.p.toNat m.o[i] (by rw[← hon,← ho]; exact List.getElem_mem _);rw[this] at d1;cases d1;exact ⟨List.mem_of_getElem? this,by rw[d2]; omega⟩
 have hsd:m.step.sd=⟨m.look.e.t,if 2≤m.look.e.k∧m.look.e.k≤4 then m.st.set m.look.e.v.toNat m.look.v else m.st,m.steps + 1,m.used + m.look.c,m.step.look.k,m.step.look.w⟩:=by
  have hcn:((m.used + m.look.c.toNat:Nat):Int)=m.used + m.look.c:=by rcases qyk (m:=m) with h | h <;> rw[h] <;> omega
  rw[← hcn];rfl
 have al:∀ i (h:i < es.length) (h2:i < m.o.length),d5 T0 X0 P0 (alA m es[i] i m.o[i] m.step.sd) []=some (.ret [.d (.bool (vg m es[i]))] []):=fun i q1 q2=>by
  obtain ⟨hh,hm⟩:=f1 i q1 q2;obtain ⟨me,mf⟩:=hmem _ (List.getElem_mem q1);have hm5:=hmn _ (List.getElem_mem q1);obtain ⟨ok,_⟩:=hg.gin.ed _ me;have hr:=hg.row _ me;generalize es[i]=ed at *
  cases hb:vg m ed with
  | true=>
    have hit:=hh hb;have:=qvn (i:=i) k hit mf (fun a b=>by rw[h.st]; exact ok.v a b) (fun a=>⟨by rw[h.st]; exact ok.s a,fun n hn=>by have:=hr.2 n hn; omega⟩) (by omega) ⟨hs0,hs⟩ (by omega) hm5 m.step.look.k m.step.look.w;rw[hsd,hit.le];exact this
  | false=>
    exact qrp k (hm hb) mf (by omega) (by omega) hm5 _ hst1
 have s2:=qwo m m.step rfl hst1 hst (by rw[ho]; omega) hL (fun j hj=>(k.oi j hj).1) i (by rw[hgg]; omega) (by rw[hcc]; omega) (fun e he=>by rw[hgg] at he; have:=(hg.row e he).1; omega) al m.o.length 0 [] rfl;rw[f2] at s2;simp only[List.take_zero,List.filter_nil,List.length_nil,Int.cast_ofNat_Int] at s2;rw[ho,hgg,hcc] at s2;have hcc1:=h1.cc;have hgg1:=h1.gg;have hD:∃ D,g.d = .box D:=⟨_,rfl⟩;obtain ⟨D,hD⟩:=hD;generalize g.outN m.p=o at *;clear I h h1 k k1 hL hF f1 f2 hmn hmem hsd al hon hk e1;generalize m.step=m1 at *;generalize m.look.w=w at *;generalize hq:m.look.k=q at *;subst hl;generalize m1.look.k=q1 at *;generalize m1.look.w=w1 at *;simp only[MH,MS,Mc.sd,Sd.cs,hgg,hcc,hgg1,hcc1,hD,List.map,List.cons_append,List.nil_append,List.length_cons,List.length_nil] at t1 t2 t3 s1 s2 ⊢;simp (maxSteps:=4000000) -implicitDefEqProofs (disch:=omega) [o6,t1,t2,t3,s1,s2]
theorem qxr:∀ d (m:Mc) (i:Nat) (e:List (Nat × V)),Mi g ch m→d + i=120→m.steps=i→
 i9 T0 X0 0 B2 (some (.nrm,⟨(1,.d (.sl (LD inL ch))) :: (5,.d g.d) :: (6,.ptr (.b 0) 0 0) :: (8,.d (.sl (LD eaL g.edges))) :: (9,.d (.int .i64 i)) :: e,MH m⟩))=some (.exit 0,⟨[],[]⟩) ∨
 i9 T0 X0 0 B2 (some (.nrm,⟨(1,.d (.sl (LD inL ch))) :: (5,.d g.d) :: (6,.ptr (.b 0) 0 0) :: (8,.d (.sl (LD eaL g.edges))) :: (9,.d (.int .i64 i)) :: e,MH m⟩))=some (.ret,⟨[(4,.d (.bool true))],[]⟩):=by
 have hD:∃ D,g.d = .box D:=⟨_,rfl⟩;obtain ⟨D,hD⟩:=hD
 have top:∀ (m:Mc) (i:Nat) (e:List (Nat × V)),m.g=g→qmu (kG 0 [1,5,6,8,9] ((1,.d (.sl (LD inL ch))) :: (5,.d g.d) :: (6,.ptr (.b 0) 0 0) :: (8,.d (.sl (LD eaL g.edges))) :: (9,.d (.int .i64 i)) :: e) (n7 (MH m))) =
  some (.nrm,⟨[(1,.d (.sl (LD inL ch))),(5,.d g.d),(6,.ptr (.b 0) 0 0),(8,.d (.sl (LD eaL g.edges))),(9,.d (.int .i64 i))],MH m⟩):=fun m i e hm=>by
  simp only[MH,hm,hD];simp -implicitDefEqProofs (disch:=omega)
 intro d
 induction d with
 | zero=>
   intro m i e h hi hs;left;rw[c9 (l:=B2) rfl];dsimp only;rw[top m i e h.gg]
   have:i=120:=by omega
   subst this;have hgg:=h.gg;simp only[MH,hgg,hD];simp -implicitDefEqProofs (disch:=omega) [o6]
 | succ d ih=>
   intro m i e h hi hs;rw[c9 (l:=B2) rfl];dsimp only;rw[top m i e h.gg]
   by_cases hl:m.look.k=0
   ·have s1:=q7o hg hk hc hv h (by omega) hl i (by omega) [];have h1:Mi g ch m.step:=((wF hg hc hv).k m h (by omega) hl).2;have s2:=ih m.step (i + 1) [] h1 (by omega) (by show m.steps + 1=_; omega);rw[s1];exact s2
   ·right;rw[qt7 hg hk hc hv h (by omega) hl i (by omega) []];simp
end
theorem qtm (s:List UInt8) (ch:List Int) (hs:s.length≤1100000) (hc:ch.length≤1100000) (hv:∀ x∈ch,-9223372036854775808≤x∧x≤9223372036854775807) :
 d5 T0 X0 vR [.d (.str s),.d (.sl (LD inL ch))] []=some (.ret [.d (.bool true)] []):=by
 have s0:=ji;have s1:=ja s hs
 have hg:=fun g=>kH (s:=s) (g:=g)
 have hf:=fun g=>qvb (s:=s) (g:=g)
 rw[c8 (af:=C3) rfl rfl rfl];generalize jb s=o at *
 cases o with
 | none=>
   simp only[oGb] at s1;simp (maxSteps:=4000000) -implicitDefEqProofs (disch:=omega) [C3,s0,s1]
 | some g=>
   have hg:=hg g rfl;obtain ⟨p,hp,e⟩:=hf g rfl;have hk:Gfk g:=e ▸ q2n hp;obtain ⟨b1,b2,b3⟩:=jM hg hv;have hn:=hg.n;have hel:=hg.el;have s2:=WR g ch (by have:=hg.bl; omega) (fun b hb=>by have:=hg.bs b hb; omega) hc hv;have s3:=q2z g (by omega) (fun e he=>⟨by have:=(hg.row e he).1; omega,fun n hn=>by have:=(hg.row e he).2 n hn; omega⟩);have lp:=qxr hg hk hc hv 120 (Mc.begin g ch) 0 [] b1 rfl (by rw[b2]; rfl);have hgg:=b1.gg;have hst:=b1.st;have hcc:=b1.cc;generalize Mc.begin g ch=m at *;have hD:∃ D,g.d = .box D:=⟨_,rfl⟩;obtain ⟨D,hD⟩:=hD;clear hg hk b1 hf;simp only[MH,oGb,hgg,hcc,hD,Int.cast_ofNat_Int] at s1 s2 s3 lp;rcases lp with lp | lp
   ·simp (maxSteps:=4000000) -implicitDefEqProofs (disch:=omega) [C3,s0,s1,s2,s3,lp]
   ·simp (maxSteps:=4000000) -implicitDefEqProofs (disch:=omega) [C3,s0,s1,s2,s3,lp]
end Go.Rf

namespace Go.Rf
open Go.ChangeShapes Go.RowKit
theorem q1u {H:Type} {enc:TypeId × Value→H} {W:World} {args:List Value} {ds:List (DataW H)} {ps:List MemPlace} (h:DataW.TrodAll enc Go.Proofs.Tryz.prog W 0 (fun _=>true) true [9,49] args ds ps) (hb:D4 ds≤1048576) :
 ∃ n,call T0 X0 n 11 (ds.map fun d=>.d (toD d)) []=some (.ret [.d (.bool true)] []):=by
 obtain ⟨v0,vs0,d0,ds0,p0,q0,_,rfl,_,⟨f0,h0⟩,r0⟩:=trodAll_cons h;obtain ⟨v1,vs1,d1,ds1,p1,q1,_,rfl,_,⟨f1,h1⟩,r1⟩:=trodAll_cons r0;obtain ⟨_,rfl,_⟩:=trodAll_nil r1;simp only[D4] at hb;obtain ⟨s,e0,l0⟩:=vG Go.Proofs.Tryz.underlying9 h0;obtain ⟨ch,e1,l1,hch⟩:=kE Go.Proofs.Tryz.underlying49 Go.Proofs.Tryz.underlying3 h1;simp only[] at l0 l1 e0 e1;have g:=qtm s ch (by omega) (by omega) hch
 have e:([d0,d1].map fun d=>V.d (toD d))=[.d (.str s),.d (.sl (LD inL ch))]:=by
  simp only[List.map_cons,List.map_nil,e0,e1];rfl
 rw[e];exact V9 g
end Go.Rf

namespace Go.Proofs.YtjlnfdabdhkgcaaGreatDoor.mt
open Go.ChangeShapes Go.WideShapes Go.ChangeAt Go.RowKit Go.Shelf Go.Lib Go.Rf
theorem own:ownKnob Tryz.prog.godebug=none:=by kernel_rfl
theorem laidOut:laidOutB Tryz.prog=true:=by kernel_rfl
def ren260:Shelf.Ren where
 f n:=match n with | 240=>156 | 169=>92 | 276=>233 | _=>305
 t n:=match n with | 37=>172 | 46=>307 | 70=>171 | 72=>174 | 119=>398 | 127=>276 | 138=>400 | 139=>401 | 164=>346 | n=>n
 g n:=match n with | 3=>0 | _=>1
theorem lays260:Go.Proofs.Lays.n260 Tryz.prog ren260 where
 mixed:=by kernel_rfl
 f260:=by kernel_rfl
 t0:=by kernel_rfl
 a0:=Tryz.isAgg0
 z0:=Tryz.sizeOf0
 v0:=Tryz.zeroValue0
 t3:=by kernel_rfl
 a3:=Tryz.isAgg3
 z3:=Tryz.sizeOf3
 v3:=Tryz.zeroValue3
 t4:=by kernel_rfl
 a4:=Tryz.isAgg4
 z4:=Tryz.sizeOf4
 v4:=Tryz.zeroValue4
 t5:=by kernel_rfl
 a5:=Tryz.isAgg5
 z5:=Tryz.sizeOf5
 v5:=Tryz.zeroValue5
 t9:=by kernel_rfl
 a9:=Tryz.isAgg9
 z9:=Tryz.sizeOf9
 v9:=Tryz.zeroValue9
 t21:=by kernel_rfl
 a21:=Tryz.isAgg21
 z21:=Tryz.sizeOf21
 v21:=Tryz.zeroValue21
 t46:=by kernel_rfl
 a46:=Tryz.isAgg307
 z46:=Tryz.sizeOf307
 v46:=Tryz.zeroValue307
 t119:=by kernel_rfl
 a119:=Tryz.isAgg398
 z119:=Tryz.sizeOf398
 t138:=by kernel_rfl
 a138:=Tryz.isAgg400
 z138:=Tryz.sizeOf400
 v138:=Tryz.zeroValue400
 t139:=by kernel_rfl
 a139:=Tryz.isAgg401
 z139:=Tryz.sizeOf401
 v139:=Tryz.zeroValue401
 g3:=by kernel_rfl
 g4:=by kernel_rfl
theorem extra:U8Extra Tryz.prog ren260:=by constructor <;> kernel_rfl
theorem tabs {W:World} (h:laidMetH Tryz.prog Rows.machineStepsUptoRow.laid W):XM (XY W) 0 1:=by
 rw[MakeChecks.laidMetH_plain _ _ _ (by kernel_rfl)] at h;have hT:Lib.Utf8Tabs (ren260.g 3) (ren260.g 4) W:=utf8Tabs_of_readsT (U8Types.of260 lays260) extra (Pinned.utf8First_eq ▸ Lib.laidMet.reads h (.tail _ (.head _))) (Lib.laidMet.reads h (.head _));exact ⟨hT.1,hT.2⟩
mutual
theorem bulk_eq {H:Type}:∀ d:DataW H,Rows.uptoBulk d=D8 d
 | .lit l=>by cases l <;> rfl
 | .nil=>rfl
 | .ptr d=>by simp only[Rows.uptoBulk,D8,bulk_eq d]
 | .slice a b=>by simp only[Rows.uptoBulk,D8,bulks_eq a,bulks_eq b]
 | .agg a=>by simp only[Rows.uptoBulk,D8,bulks_eq a]
 | .iface _ d=>by simp only[Rows.uptoBulk,D8,bulk_eq d]
 | .map es=>by simp only[Rows.uptoBulk,D8,bulkEs_eq es]
 | .held _=>rfl
theorem bulks_eq {H:Type}:∀ d:List (DataW H),Rows.uptoBulkAll d=D4 d
 | []=>rfl
 | d :: r=>by simp only[Rows.uptoBulkAll,D4,bulk_eq d,bulks_eq r]
theorem bulkEs_eq {H:Type}:∀ d:List (Lit × DataW H),Rows.uptoBulkEntries d=jL d
 | []=>rfl
 | x :: r=>by simp only[Rows.uptoBulkEntries,jL,bulkE_eq x,bulkEs_eq r]
theorem bulkE_eq {H:Type}:∀ d:Lit × DataW H,Rows.uptoBulkEntry d=ZN d
 | (l,d)=>by cases l <;> simp only[Rows.uptoBulkEntry,ZN,bulk_eq d]
end
set_option maxRecDepth 100000 in
theorem contract (H:Type) (enc:TypeId × Value→H) (W:World) (base:Nat) (args:Array Value) (ds gs:List (DataW H)) (before:List MemPlace)
 (hval:∀ (j:Nat) t v,Tryz.f11.params[j]? = some t→args[j]? = some v→Value.okWide Tryz.prog W .any base t v)
 (hW:DataW.Whole enc Tryz.prog Tryz.f11.params.toList Rows.machineStepsSpec.vars false W args.toList ds gs before) (hL:laidMetH Tryz.prog Rows.machineStepsUptoRow.laid W) (hb:Rows.uptoBulkAll (ds++gs)≤1048576) :
 Calls Tryz.prog 11 args W fun e W'=>∃ v,e = .returned v∧Rows.machineStepsSpec.post enc Tryz.prog Tryz.f11 false true false false W args v W':=by
 have hW':=hW;obtain ⟨p,q,hA0,hV,rfl,hfz,hnd⟩:=hW
 have hA:DataW.TrodAll enc Tryz.prog W 0 (fun _=>true) true [9,49] args.toList ds p:=by rw[Tryz.params11] at hA0; exact hA0
 rw[Tryz.params11] at hval;obtain ⟨rfl,rfl⟩:=trodVars_none hV;rw[List.append_nil,bulks_eq] at hb;have hr:=Z4 (f:=8) (ρ:=fun _=>.none) (r:=.any) (base:=base) _ _ _ _ hA (by intro t ht; simp only[List.mem_cons,List.not_mem_nil,or_false] at ht; rcases ht with rfl | rfl <;> kernel_rfl) (fun j t v h1 h2=>hval j t v (by simpa using h1) (by simpa using h2)) hb;obtain ⟨n,hn⟩:=q1u (enc:=enc) hA hb
 refine (vC qt9 qua (fun f e he=>?_) hr hn).mono fun e W' ⟨he,hw⟩=>?_
 ·unfold X0 at he;simp only at he;split at he
  ·cases he;rename_i hf;subst hf;exact KH lays260 (by kernel_rfl) (tabs hL)
  ·cases he
 ·subst he
  have hlt:∀ x∈p,x.block < W.heap.size:=fun x hx=>by simpa using hW'.lt x (List.mem_append_left _ hx)
  have hback:=V4 laidOut hw [9,49] _ _ _ (by intro t ht; simp only[List.mem_cons,List.not_mem_nil,or_false] at ht; rcases ht with rfl | rfl <;> exact ⟨by kernel_rfl,of_decide_eq_true (by kernel_rfl)⟩) hA hlt
  obtain ⟨d0,d1,rfl⟩:∃ d0 d1,ds=[d0,d1]:=by
   obtain ⟨v0,vs0,d0,ds0,p0,q0,_,rfl,_,_,r0⟩:=trodAll_cons hA;obtain ⟨v1,vs1,d1,ds1,p1,q1,_,rfl,_,_,r1⟩:=trodAll_cons r0;obtain ⟨_,rfl,_⟩:=trodAll_nil r1;exact ⟨d0,d1,rfl⟩
  refine ⟨_,rfl,[d0,d1],[],p++[],[],p,[],hW',trodAll_mk1 (shut_bool Tryz.underlying4 _),?_,rfl,hw.frame _,fun h=>by cases h⟩;rw[Tryz.params11];exact hback
theorem laid_met (os:Os):laidMet Tryz.prog Rows.machineStepsUptoRow.laid ((World.laidAll Tryz.prog os Rows.machineStepsUptoRow.laid).forCall (fun _ _=>0) ⟨#[],#[.string ⟨#[]⟩,.slice none 0 0],[]⟩).memory:=
 laidMet_laidAll _ (by kernel_rfl) (by kernel_rfl)
theorem reads (os:Os) {H:Type} (enc:TypeId × Value→H):∃ places,DataW.whole enc Tryz.prog ((World.laidAll Tryz.prog os Rows.machineStepsUptoRow.laid).forCall (fun _ _=>0) ⟨#[],#[.string ⟨#[]⟩,.slice none 0 0],[]⟩).memory Tryz.f11.params.toList Rows.machineStepsSpec.vars false #[(.string ⟨#[]⟩:Value),.slice none 0 0].toList 8=some ([.lit (.string []),.nil],[],places):=
 ⟨[],by kernel_rfl⟩
set_option maxRecDepth 100000 in
theorem liftedUpto (os:Os) (started:os.Started) (H:Type) (enc:TypeId × Value→H) (F:Stop.Interp) :
 ReturnsInHanded {} Tryz.checked os 11 .any ((Rows.OpenSpec.upto Rows.machineStepsSpec).preRow enc Tryz.prog Tryz.f11 Rows.machineStepsUptoRow.domain false Rows.machineStepsUptoRow.laid) (((Rows.OpenSpec.upto Rows.machineStepsSpec).at F).post enc Tryz.prog Tryz.f11 false true false false):=by
 obtain ⟨places,hx⟩:=reads os enc
 refine returnsInHanded_of_row (C:=Tryz.checked) (s:=Rows.OpenSpec.upto Rows.machineStepsSpec) own started (by kernel_rfl) Tryz.func11
  (witness_row_at (enc:=enc) (C:=Tryz.checked) false (World.laidAll Tryz.prog os Rows.machineStepsUptoRow.laid) #[.string ⟨#[]⟩,.slice none 0 0] (World.laidAll_os _ _ _) (by kernel_rfl) (by kernel_rfl) (by kernel_rfl)
   (OpenSpec.preRow_of_cond 8 hx (by kernel_rfl) (fun k hk=>by cases hk; kernel_rfl) (by kernel_rfl) (laid_met os))) ?_
 intro W base args ds gs before hval hW _ hcond _ hL _ _
 exact contract H enc W base args ds gs before hval hW hL (by
  have:=hcond _ rfl
  simpa only [Rows.uptoSmall,decide_eq_true_eq] using this)
theorem ai {a b:Bool} (h:a=true) (g:b=true):(a && b)=true:=by rw [h,g]; rfl
set_option maxHeartbeats 0 in
set_option maxRecDepth 100000 in
theorem closedUpto:joinedFacts Tryz.pinned.checked.prog 11 Tryz.f11 (Rows.OpenSpec.upto Rows.machineStepsSpec).bare Rows.machineStepsUptoRow=true:=by
 unfold joinedFacts
 repeat' with_reducible refine ai ?_ ?_
 all_goals (as_aux_lemma => kernel_rfl)
theorem saidUpto:Rows.MachineStepsUptoSaid:=
 OpenClaim.holds_of_cond 11 Tryz.f11 rfl rfl rfl rfl rfl rfl rfl ⟨rfl,rfl,rfl,rfl,rfl⟩ rfl rfl rfl rfl rfl (by kernel_rfl) Tryz.func11 closedUpto
  (of_decide_eq_true (by kernel_rfl)) (by unfold Func.isWrapper; first | (rw[if_pos (by decide +kernel)]; kernel_rfl) | (rw[if_neg (by decide +kernel)]; exact ⟨rfl,rfl⟩))
  (fun os started H enc _ F=>by rw[OpenClaim.pre_eq_preRow]; exact liftedUpto os started H enc F)
theorem plain (f : FuncId) (fn : Func) (hf : Tryz.pinned.checked.prog.funcNamed "rafter/rafterlaw11.MachineSteps" = some f) (hfn : Tryz.pinned.checked.prog.funcs[f]? = some fn) :
 true=Tryz.pinned.checked.prog.looks [] ∧ ∀ (j:Nat) t,fn.params[j]? = some t→Tryz.pinned.checked.prog.wantsStandIn t=false:=by
 obtain rfl : f = 11 := Option.some.inj ((show Tryz.prog.funcNamed "rafter/rafterlaw11.MachineSteps" = some 11 by kernel_rfl).symm.trans hf) |>.symm;obtain rfl : fn = Tryz.f11 := (Option.some.inj (Tryz.func11.symm.trans hfn)).symm;refine ⟨by kernel_rfl, fun j t ht => ?_⟩;rw [Tryz.params11] at ht
 have hm:t∈([9,49]:List Nat):=by simpa using Array.mem_of_getElem? ht
 have hall:(([9,49]:List Nat).all fun u=>!Tryz.prog.wantsStandIn u)=true:=by kernel_rfl
 exact (show Tryz.prog.wantsStandIn t=false by simpa using List.all_eq_true.1 hall t hm)
theorem cardUpto:Rows.MachineStepsUptoCardSaid:=
 Claim7.holds_tied_plain_at .later [] _ _ _ _ saidUpto (fun _ h=>by cases h) (by kernel_rfl) (fun _ h=>by cases h) machineStepsUpto_row_tie rfl ⟨rfl,rfl⟩ (by kernel_rfl) rfl plain (by kernel_rfl)
#print axioms cardUpto
end Go.Proofs.YtjlnfdabdhkgcaaGreatDoor.mt
