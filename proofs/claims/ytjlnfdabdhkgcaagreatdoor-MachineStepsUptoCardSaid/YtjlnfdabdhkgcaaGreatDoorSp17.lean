/- Parts of the proof: SpQE, SpZH. -/
import Derived.Test.YtjlnfdabdhkgcaaGreatDoorRb2
import Derived.Test.YtjlnfdabdhkgcaaGreatDoorSp16

set_option linter.unusedSimpArgs false
set_option linter.unusedVariables false
set_option linter.unnecessarySimpa false
set_option linter.unusedSectionVars false
set_option linter.all false
namespace Go.Rf
structure Eok (n:Nat) (e:Ed):Prop where
 k:1≤e.k∧e.k≤6
 r:e.rOk n
 v:2≤e.k→e.k≤4→0≤e.v∧e.v < n
 l:e.row.length≤n + 1
 s:e.k=2→e.row.length=n + 1
 o:e.k≠2→∀ x∈e.row,nl x≤32
theorem R6 {n:Nat} {e:Ed} (k:e.k=1∨e.k=5) (r:e.row=[]):Eok n e where
 k:=by omega
 r:=⟨fun h=>by omega,fun h=>by omega,fun h=>by omega⟩
 v:=fun _ _=>by omega
 l:=by rw[r]; simp
 s:=fun h=>by omega
 o:=fun _ x hx=>by rw[r] at hx; cases hx
theorem q1h (n:Nat) (x y:Nd):∀ z∈(qjb n x y).1,nl z≤32:=by
 unfold qjb;split
 ·intro z hz;change z∈(ZL _).1 at hz;unfold ZL at hz;split at hz
  ·rename_i h
   simpa using List.all_eq_true.1 h z hz
  ·cases hz
 ·intro z hz; cases hz
theorem ZK {vs:List (List UInt8)} {x y:Nd} (hx:Xok vs x) (hy:Xok vs y) (f t:Int) (q b:Bool) (p:Pl):Eok vs.length (tEd vs.length f t x y q b p) where
 k:=⟨show (1:Int)≤6 by decide,show (6:Int)≤6 by decide⟩
 r:=⟨fun h=>absurd (show (6:Int)=4 from h) (by decide),fun _=>⟨x,rfl,hx.fine,by have:=hx.w; omega⟩,fun _=>⟨y,rfl,hy.fine,by have:=hy.w; omega⟩⟩
 v:=fun _ h=>absurd (show (6:Int)≤4 from h) (by decide)
 l:=qmd hx.fine hy.fine
 s:=fun h=>absurd (show (6:Int)=2 from h) (by decide)
 o:=fun _=>q1h _ x y
structure Keeps (n:Nat) (I:Gb→Prop):Prop where
 pt:∀ g,I g→I g.point
 ed:∀ g e,I g→Eok n e→0≤e.f→e.f < g.out.length→0≤e.t→e.t < g.out.length→(e.k=2→g.long=false→jj e.row=false)→I (g.edge e)
 lg:∀ g b,I g→I { g with long:=g.long || b }
 mr:∀ g s (a:Int),I g→0≤a→a < g.out.length→I (g.mark s a)
 st:∀ g b (a:Int),I g→0≤a→a < g.out.length→I (g.start b a)
 hd:∀ g b a,I g→I (g.head b a)
theorem qhl {n:Nat} {I:Gb→Prop} (hI:Keeps n I) (p:Pl) (j:Int) (h0:0≤j):∀ (l:List Int) {g:Gb},I g→j < g.out.length→(∀ x∈l,0≤x∧x < g.out.length)→I (wG p j l g)
 | [],g,h,_,_=>h
 | e :: l,g,h,h1,hl=>by
   have he:=hl e (List.mem_cons_self ..)
   exact qhl hI p j h0 l (hI.ed g _ h (R6 (.inl rfl) rfl) he.1 he.2 h0 h1 (fun h=>absurd h (by simp))) (by rw[eo]; exact h1) fun x hx=>by rw[eo]; exact hl x (List.mem_cons_of_mem _ hx)
section
variable {vs:List (List UInt8)} {I:Gb→Prop} (hI:Keeps vs.length I)
include hI
mutual
theorem q6m:∀ (s:Sm),s.fit vs→∀ {g:Gb} {a:Int} {N:Nat},Gok g vs.length N→I g→0≤a→a < g.out.length→I (s.bld vs.length g a).1
 | .set p v t e,hf,g,a,N,h,hi,h0,h1=>by
   have k:∀ (g':Gb) e,g'.out.length=g.out.length + 1→I g'→Eok vs.length e→e.f=a→e.t=g.out.length→(e.k=2→g'.long=false→jj e.row=false)→I (g'.edge e):=fun g' e hl hg he hfr ht hlg=>hI.ed _ _ hg he (by omega) (by omega) (by omega) (by omega) hlg
   have hv:0≤v∧v < vs.length:=⟨hf.2.2.1,by
    obtain ⟨j,hj,e,_⟩:=qiu vs t _ _ (by rw[hf.2.1]; exact hf.2.2.1);rw[hf.2.1] at e
    omega⟩
   cases e with
   | none=>exact k _ _ (po g) (hI.pt _ hi) ⟨⟨by simp,by simp⟩,⟨fun h=>absurd h (by simp),fun h=>absurd h (by simp),fun h=>absurd h (by simp)⟩,fun _ _=>hv,by simp,fun h=>absurd h (by simp),fun _ x hx=>(by cases hx)⟩ rfl rfl fun h=>absurd h (by simp)
   | some x=>
     have hx:Xok vs x:=hf.2.2.2.2;simp only[Sm.bld];split
     ·rename_i hc;rcases kS vs.length x hx.fine with ⟨_,e⟩ | sh
      ·rw[e] at hc; cases hc
      exact k _ _ (po g) (hI.lg _ _ (hI.pt _ hi)) ⟨⟨by simp,by simp⟩,⟨fun h=>absurd h (by simp),fun h=>absurd h (by simp),fun h=>absurd h (by simp)⟩,fun _ _=>hv,by have:=sh.l; simp only[]; omega,fun _=>sh.l,fun h=>absurd rfl h⟩ rfl rfl fun _ h=>(Bool.or_eq_false_iff.1 h).2
     ·exact k _ _ (po g) (hI.pt _ hi) ⟨⟨by simp,by simp⟩,⟨fun _=>⟨x,rfl,hx.fine,by have:=hx.w; omega⟩,fun h=>absurd h (by simp),fun h=>absurd h (by simp)⟩,fun _ _=>hv,by simp,fun h=>absurd h (by simp),fun _ x hx=>(by cases hx)⟩ rfl rfl fun h=>absurd h (by simp)
 | .skip p,_,g,a,N,h,hi,h0,h1=>hI.ed _ _ (hI.pt _ hi) (R6 (.inl rfl) rfl) h0 (by rw[po]; simp only[]; omega) (by simp) (by rw[po]; simp only[]; omega) fun h=>absurd h (by simp)
 | .stop p,_,g,a,N,h,hi,h0,h1=>hI.pt _ hi
 | .mark p s,_,g,a,N,h,hi,h0,h1=>hI.mr _ _ _ hi h0 h1
 | .choose p bs,hf,g,a,N,h,hi,h0,h1=>by
   obtain ⟨k1,k2,k3,k4⟩:=qk3 vs.length p bs.length bs 0 h h0 h1;have ib:=qsv p bs.length bs hf.2 0 h hi h0 h1;simp only[Sm.bld]
   exact qhl hI p _ (by omega) _ (hI.pt _ ib) (by rw[po]; omega) fun x hx=>by have:=k4 x hx; rw[po]; omega
 | .loop p b,hf,g,a,N,h,hi,h0,h1=>by
   have i1:=hI.ed _ { f:=a,t:=g.out.length,k:=1,at_:=p } (hI.pt _ hi) (R6 (.inl rfl) rfl) h0 (by rw[po]; simp only[]; omega) (by simp) (by rw[po]; simp only[]; omega) (fun h=>absurd h (by simp));have i2:=hI.ed _ { f:=g.out.length,t:=g.out.length + 1,k:=5,tk:=1,mn:=2,at_:=p } (hI.pt _ i1) (R6 (.inr rfl) rfl) (by simp) (by simp only[po,eo]; omega) (by simp only[]; omega) (by simp only[po,eo]; omega) (fun h=>absurd h (by simp));have g1:=((h.point.edge { f:=a,t:=g.out.length,k:=1,at_:=p }).point).edge { f:=g.out.length,t:=g.out.length + 1,k:=5,tk:=1,mn:=2,at_:=p };have k:=V5 vs.length b g1 (a:=g.out.length + 1) (by omega) (by simp only[eo,po]; omega);have i3:=va b hf g1 i2 (a:=g.out.length + 1) (by omega) (by simp only[eo,po]; omega);have le:=k.le;have ka0:=k.a0;have ka1:=k.a1;simp only[eo,po] at le;have i4:=hI.ed _ { f:=_,t:=g.out.length,k:=1,at_:=p } i3 (R6 (.inl rfl) rfl) k.a0 k.a1 (by simp) (by simp only[]; omega) (fun h=>absurd h (by simp));simp only[Sm.bld]
   exact hI.ed _ _ (hI.pt _ i4) (R6 (.inr rfl) rfl) (by simp) (by simp only[po,eo]; omega) (by simp) (by simp only[po,eo]; omega) fun h=>absurd h (by simp)
 | .ifs p x y q b,hf,g,a,N,h,hi,h0,h1=>by
   have i1:=hI.ed _ (tEd vs.length a g.out.length x y q true p) (hI.pt _ hi) (ZK hf.1 hf.2.1 ..) h0 (by rw[po]; show a < _; omega) (Int.natCast_nonneg _) (by rw[po]; show (g.out.length:Int) < _; omega) (fun h=>absurd (show (6:Int)=2 from h) (by decide));have g1:=h.point.edge (tEd vs.length a g.out.length x y q true p);have k:=V5 vs.length b g1 (a:=g.out.length) (by omega) (by simp only[eo,po]; omega);have i3:=va b hf.2.2 g1 i1 (a:=g.out.length) (by omega) (by simp only[eo,po]; omega);have le:=k.le;have ka0:=k.a0;have ka1:=k.a1;simp only[eo,po] at le;simp only[Sm.bld];generalize Sms.bld vs.length b (g.point.edge (tEd vs.length a g.out.length x y q true p)) g.out.length=r at *;have i4:=hI.ed _ (tEd vs.length a r.1.out.length x y q false p) (hI.pt _ i3) (ZK hf.1 hf.2.1 ..) h0 (by rw[po]; show a < _; omega) (Int.natCast_nonneg _) (by rw[po]; show (r.1.out.length:Int) < _; omega) (fun h=>absurd (show (6:Int)=2 from h) (by decide));have i5:=hI.ed _ { f:=r.2,t:=(r.1.point.edge (tEd vs.length a r.1.out.length x y q false p)).out.length,k:=1,at_:=p } (hI.pt _ i4) (R6 (.inl rfl) rfl) ka0 (by simp only[po,eo]; omega) (by simp) (by simp only[po,eo]; omega) (fun h=>absurd h (by simp))
   exact hI.ed _ _ i5 (R6 (.inl rfl) rfl) (by simp) (by simp only[po,eo]; omega) (by simp) (by simp only[po,eo]; omega) fun h=>absurd h (by simp)
 | .ife p x y q b pe e,hf,g,a,N,h,hi,h0,h1=>by
   have i1:=hI.ed _ (tEd vs.length a g.out.length x y q true p) (hI.pt _ hi) (ZK hf.1 hf.2.1 ..) h0 (by rw[po]; show a < _; omega) (Int.natCast_nonneg _) (by rw[po]; show (g.out.length:Int) < _; omega) (fun h=>absurd (show (6:Int)=2 from h) (by decide));have g1:=h.point.edge (tEd vs.length a g.out.length x y q true p);have k:=V5 vs.length b g1 (a:=g.out.length) (by omega) (by simp only[eo,po]; omega);have i3:=va b hf.2.2.1 g1 i1 (a:=g.out.length) (by omega) (by simp only[eo,po]; omega);have le:=k.le;have ka0:=k.a0;have ka1:=k.a1;simp only[eo,po] at le;simp only[Sm.bld];generalize Sms.bld vs.length b (g.point.edge (tEd vs.length a g.out.length x y q true p)) g.out.length=r at *;have i4:=hI.ed _ (tEd vs.length a r.1.out.length x y q false p) (hI.pt _ i3) (ZK hf.1 hf.2.1 ..) h0 (by rw[po]; show a < _; omega) (Int.natCast_nonneg _) (by rw[po]; show (r.1.out.length:Int) < _; omega) (fun h=>absurd (show (6:Int)=2 from h) (by decide));have g2:=k.ok.point.edge (tEd vs.length a r.1.out.length x y q false p);have k2:=V5 vs.length e g2 (a:=r.1.out.length) (by omega) (by simp only[eo,po]; omega);have i5:=va e hf.2.2.2 g2 i4 (a:=r.1.out.length) (by omega) (by simp only[eo,po]; omega);have le2:=k2.le;have kb0:=k2.a0;have kb1:=k2.a1;simp only[eo,po] at le2;generalize Sms.bld vs.length e (r.1.point.edge (tEd vs.length a r.1.out.length x y q false p)) r.1.out.length=r2 at *;have i6:=hI.ed _ { f:=r.2,t:=r2.1.out.length,k:=1,at_:=p } (hI.pt _ i5) (R6 (.inl rfl) rfl) ka0 (by simp only[po,eo]; omega) (by simp) (by simp only[po,eo]; omega) (fun h=>absurd h (by simp))
   exact hI.ed _ _ i6 (R6 (.inl rfl) rfl) kb0 (by simp only[po,eo]; omega) (by simp) (by simp only[po,eo]; omega) fun h=>absurd h (by simp)
 | .while p x y q b,hf,g,a,N,h,hi,h0,h1=>by
   have hp:(g.point.head p.b g.out.length).out.length=g.out.length + 1:=po g;have i1:=hI.ed _ { f:=a,t:=g.out.length,k:=1,at_:=p } (hI.hd _ p.b g.out.length (hI.pt _ hi)) (R6 (.inl rfl) rfl) h0 (by rw[hp]; simp only[]; omega) (by simp) (by rw[hp]; simp only[]; omega) (fun h=>absurd h (by simp));have i2:=hI.ed _ (tEd vs.length g.out.length (g.out.length + 1) x y q true p) (hI.pt _ i1) (ZK hf.1 hf.2.1 ..) (Int.natCast_nonneg _) (by rw[po,eo,hp]; show (g.out.length:Int) < _; omega) (by show (0:Int)≤g.out.length + 1; omega) (by rw[po,eo,hp]; show (g.out.length:Int) + 1 < _; omega) (fun h=>absurd (show (6:Int)=2 from h) (by decide));have g1:=(((h.point.head p.b g.out.length).edge { f:=a,t:=g.out.length,k:=1,at_:=p }).point).edge (tEd vs.length g.out.length (g.out.length + 1) x y q true p);have k:=V5 vs.length b g1 (a:=g.out.length + 1) (by omega) (by rw[eo,po,eo,hp]; omega);have i3:=va b hf.2.2 g1 i2 (a:=g.out.length + 1) (by omega) (by rw[eo,po,eo,hp]; omega);have le:=k.le;have ka0:=k.a0;have ka1:=k.a1;rw[eo,po,eo,hp] at le;have i4:=hI.ed _ { f:=_,t:=g.out.length,k:=1,at_:=p } i3 (R6 (.inl rfl) rfl) k.a0 k.a1 (by simp) (by simp only[]; omega) (fun h=>absurd h (by simp));simp only[Sm.bld]
   exact hI.ed _ _ (hI.pt _ i4) (ZK hf.1 hf.2.1 ..) (Int.natCast_nonneg _) (by rw[po,eo]; show (g.out.length:Int) < _; omega) (Int.natCast_nonneg _) (by rw[po]; show ((Gb.edge _ _).out.length:Int) < _; omega) fun h=>absurd (show (6:Int)=2 from h) (by decide)
theorem va:∀ (l:List Sm),Sms.fit vs l→∀ {g:Gb} {a:Int} {N:Nat},Gok g vs.length N→I g→0≤a→a < g.out.length→I (Sms.bld vs.length l g a).1
 | [],_,g,a,N,h,hi,h0,h1=>hi
 | s :: l,hf,g,a,N,h,hi,h0,h1=>by
   have k:=qwr vs.length s (h.start s.at_.b a) h0 h1;exact va l hf.2 k.ok (q6m s hf.1 (h.start s.at_.b a) (hI.st _ _ _ hi h0 h1) h0 h1) k.a0 k.a1
theorem qsv (p:Pl) (mn:Int):∀ (l:List Bl),Bls.fit vs l→∀ (i:Int) {g:Gb} {a:Int} {N:Nat},Gok g vs.length N→I g→0≤a→a < g.out.length→I (Bls.bld vs.length p a mn i l g).1
 | [],_,i,g,a,N,h,hi,h0,h1=>hi
 | .mk q b :: l,hf,i,g,a,N,h,hi,h0,h1=>by
   have g1:=h.point.edge { f:=a,t:=g.out.length,k:=5,tk:=i,mn,at_:=p };have i1:=hI.ed _ { f:=a,t:=g.out.length,k:=5,tk:=i,mn,at_:=p } (hI.pt _ hi) (R6 (.inr rfl) rfl) h0 (by rw[po]; simp only[]; omega) (by simp) (by rw[po]; simp only[]; omega) (fun h=>absurd h (by simp));have k:=V5 vs.length b g1 (a:=g.out.length) (by omega) (by simp only[eo,po]; omega);have le:=k.le;simp only[eo,po] at le;exact qsv p mn l hf.2 (i + 1) k.ok (va b hf.1 g1 i1 (by omega) (by simp only[eo,po]; omega)) h0 (by omega)
end
end
structure Gin (n:Nat) (g:Gb):Prop where
 ed:∀ e∈g.edges,Eok n e∧0≤e.f∧e.f < g.out.length∧0≤e.t∧e.t < g.out.length
 lg:g.long=false→∀ e∈g.edges,e.k=2→jj e.row=false
 o:∀ i,∀ j∈g.out.getD i [],0≤j∧j < g.edges.length
 i:∀ i,∀ j∈g.inn.getD i [],0≤j∧j < g.edges.length
theorem qbl {l:List (List Int)} {k i:Nat} {x j:Int} (h:j∈(l.set k (l.getD k []++[x])).getD i []):j∈l.getD i []∨j=x:=by
 simp only[List.getD_eq_getElem?_getD,List.getElem?_set] at h ⊢;split at h
 ·rename_i e;subst e;split at h
  ·simp only[Option.getD_some,List.mem_append,List.mem_singleton] at h;exact h
  ·simp at h
 ·exact .inl h
theorem vD (n:Nat):Keeps n (Gin n) where
 pt g h:=⟨fun e he=>by obtain ⟨a,b,c,d,f⟩:=h.ed e he; rw[po]; exact ⟨a,b,by omega,d,by omega⟩,h.lg,fun i j hj=>h.o i j (by simpa only [Gb.point,zM] using hj),fun i j hj=>h.i i j (by simpa only [Gb.point,zM] using hj)⟩
 ed g e h ok f0 f1 t0 t1 lg:=by
  have hl:(g.edge e).edges.length=g.edges.length + 1:=by simp[Gb.edge]
  refine ⟨fun x hx=>?_,fun hg x hx hk=>?_,fun i j hj=>?_,fun i j hj=>?_⟩
  ·rw[eo];rcases List.mem_append.1 hx with hx | hx
   ·exact h.ed x hx
   ·rw[List.mem_singleton.1 hx]; exact ⟨ok,f0,f1,t0,t1⟩
  ·rcases List.mem_append.1 hx with hx | hx
   ·exact h.lg hg x hx hk
   ·rw[List.mem_singleton.1 hx] at hk ⊢; exact lg hk hg
  ·rw[hl];rcases qbl hj with hj | rfl
   ·have:=h.o i j hj; omega
   ·omega
  ·rw[hl];rcases qbl hj with hj | rfl
   ·have:=h.i i j hj; omega
   ·omega
 lg g b h:=⟨h.ed,fun hg=>h.lg (Bool.or_eq_false_iff.1 hg).1,h.o,h.i⟩
 mr g s a h _ _:=⟨h.ed,h.lg,h.o,h.i⟩
 st g b a h _ _:=⟨h.ed,h.lg,h.o,h.i⟩
 hd g b a h:=⟨h.ed,h.lg,h.o,h.i⟩
end Go.Rf

namespace Go.Rf
set_option maxHeartbeats 16000000
structure Gmo (g:Gb):Prop where
 gin:Gin g.vs.length g
 n:g.vs.length≤8
 lg:g.long=false
 pt:1≤g.out.length∧g.out.length≤64
 il:g.inn.length=g.out.length
 el:g.edges.length≤900000
 os:∀ i,(g.out.getD i []).length≤900000
 is:∀ i,(g.inn.getD i []).length≤900000
 bl:g.bs.length=g.vs.length
 bs:∀ b∈g.bs,nl b.n≤32∧b.name.length≤1000000
theorem Gmo.row {g:Gb} (h:Gmo g):∀ e∈g.edges,e.row.length≤9 ∧ ∀ x∈e.row,nl x≤32:=fun e he=>by
 have k:=(h.gin.ed e he).1;have:=k.l;have:=h.n;refine ⟨by omega,fun x hx=>?_⟩
 by_cases h2:e.k=2
 ·have:=h.gin.lg h.lg e he h2;unfold jj at this;rw[List.any_eq_false] at this;have:=this x hx;simp only[decide_eq_true_eq] at this;omega
 ·exact k.o h2 x hx
structure Mi (g:Gb) (ch:List Int) (m:Mc):Prop where
 gg:m.g=g
 cc:m.ch=ch
 st:m.st.length=g.vs.length
 v:∀ n∈m.st,nl n≤512
 p:0≤m.p∧m.p < g.out.length
 s0:0≤m.steps
 u:m.used≤ch.length
theorem qcw {g:Gb} {w:Int}:∀ (o:List Int) (l:Ed),(∀ j∈o,0≤j∧j < g.edges.length)→(l∈g.edges∨o≠[])→Y5 g w l o∈g.edges
 | [],l,_,h=>h.resolve_right (by simp)
 | j :: r,l,ho,_=>by
   have hj:=ho j (List.mem_cons_self ..);obtain ⟨i,rfl⟩:=Int.eq_ofNat_of_zero_le hj.1
   have hi:i < g.edges.length:=by omega
   unfold Y5;rw[Int.toNat_natCast,List.getElem?_eq_getElem hi];simp only[];split
   ·exact List.getElem_mem hi
   ·exact qcw r _ (fun x hx=>ho x (List.mem_cons_of_mem _ hx)) (.inl (List.getElem_mem hi))
theorem qwc {g:Gb} {w:Int} {k:Nat} (hr:∀ e∈g.edges,e.row.length≤k) {o:List Int} (h:∀ j∈o,0≤j∧j < g.edges.length):(Y5 g w ed0 o).row.length≤k:=by
 cases o with
 | nil=>simp[Y5,ed0]
 | cons j r=>exact hr _ (qcw _ _ h (.inr (by simp)))
theorem qye {g:Gb} {ch:List Int} (hg:Gmo g) (hc:ch.length≤1100000) (hv:∀ x∈ch,-9223372036854775808≤x∧x≤9223372036854775807) {m:Mc} (h:Mi g ch m):Mok m:=by
 have hn:=hg.n;have hst:=h.st;have hel:=hg.el;have hpt:=hg.pt;obtain ⟨mg,mp,ms,mu,mst,mch⟩:=m;obtain ⟨h1,h2,h3,h4,h5,h6,h7⟩:=h;simp only at h1 h2 h3 h4 h5 h6 h7 hst;subst h1;subst h2
 have oi:∀ j∈Mc.o ⟨mg,mp,ms,mu,mst,mch⟩,0≤j∧j < mg.edges.length:=by
  intro j hj;change j∈mg.outN mp at hj;unfold Gb.outN at hj
  by_cases hp:0≤mp∧mp < mg.out.length
  ·rw[if_pos hp] at hj;exact hg.gin.o _ j hj
  ·rw[if_neg hp] at hj;cases hj
 have hr:∀ e∈mg.edges,e.row.length≤1000000:=fun e he=>by have:=(hg.row e he).1; omega
 exact {
  s:=⟨by show mst.length≤16; omega,h4,by show mg.edges.length≤_; omega,by show mg.vs.length≤_; omega⟩
  r:=hst
  e:=fun e he=>by show e.rOk mst.length; rw[hst]; exact (hg.gin.ed e he).1.r
  pt:=by show mg.out.length≤_; omega
  ol:=fun i=>by have:=hg.os i; show (mg.out.getD i []).length≤_; omega
  oi:=oi
  k:=fun e he=>(hg.gin.ed e he).1.k
  row:=fun e he=>⟨hr e he,fun k=>⟨by show _=mst.length + 1; rw[hst]; exact (hg.gin.ed e he).1.s k,fun n hn=>by have:=(hg.row e he).2 n hn; omega⟩⟩
  tk:=fun w=>qwc hr oi
  ch:=hc
  cv:=hv }
theorem Yy {m:Mc} (k:Mok m):m.look.k≠0∧m.look.e=ed0∧m.look.v=0 ∨
 m.look.k=0∧m.look.e∈m.g.edges∧nl m.look.v≤512∧(m.look.c=0∨m.look.c=1∧m.used < m.ch.length):=by
 have z:nl 0≤512:=by decide
 unfold Mc.look
 cases ho:m.o with
 | nil=>exact .inl ⟨by simp,rfl,rfl⟩
 | cons j r=>
   have oi:=k.oi;rw[ho] at oi;have hj:=oi j (List.mem_cons_self ..);obtain ⟨i,rfl⟩:=Int.eq_ofNat_of_zero_le hj.1
   have hi:i < m.g.edges.length:=by omega
   have hm:=List.getElem_mem hi
   have tk:∀ w,Y5 m.g w ed0 ((i:Int) :: r)∈m.g.edges:=fun w=>qcw _ _ oi (.inr (by simp))
   have hge:m.g.edges[(i:Int).toNat]? = some m.g.edges[i]:=by rw[Int.toNat_natCast]; exact List.getElem?_eq_getElem hi
   simp only[hge];split
   ·exact .inr ⟨rfl,hm,z,.inl rfl⟩
   split
   ·unfold qab;split
    ·exact .inl ⟨by simp,rfl,rfl⟩
    ·rename_i h; exact .inr ⟨rfl,hm,by simp only[]; omega,.inl rfl⟩
   split
   ·unfold Kh;split
    ·rename_i x hx;have h2:=qju (k.cv x (List.mem_of_getElem? hx));exact .inr ⟨rfl,hm,by simp only[]; omega,.inr ⟨rfl,(List.getElem?_eq_some_iff.1 hx).1⟩⟩
    ·exact .inl ⟨by simp,rfl,rfl⟩
   split
   ·unfold XT;split
    ·exact .inl ⟨by simp,rfl,rfl⟩
    ·exact .inr ⟨rfl,hm,(Gb.reck_nl _ _ _).1,.inl rfl⟩
   split
   ·unfold wg;split
    ·rename_i x hx;exact .inr ⟨rfl,tk _,z,.inr ⟨rfl,(List.getElem?_eq_some_iff.1 hx).1⟩⟩
    ·exact .inl ⟨by simp,rfl,rfl⟩
   ·unfold XO;split
    ·exact .inl ⟨by simp,rfl,rfl⟩
    ·exact .inr ⟨rfl,tk _,z,.inl rfl⟩
theorem wF {g:Gb} {ch:List Int} (hg:Gmo g) (hc:ch.length≤1100000) (hv:∀ x∈ch,-9223372036854775808≤x∧x≤9223372036854775807):Inv (Mi g ch) where
 ok m h:=qye hg hc hv h
 s0 m h:=h.s0
 u m h:=by have:=h.u; omega
 l m h:=by
   rcases Yy (qye hg hc hv h) with ⟨_,h2,h3⟩ | ⟨_,h2,h3,_⟩
   ·rw[h2,h3]; exact ⟨by simp[ed0],by decide⟩
   ·rw[h.gg] at h2;exact ⟨by have:=(hg.row _ h2).1; omega,by omega⟩
 k m h _ hk:=by
   rcases Yy (qye hg hc hv h) with ⟨h1,_⟩ | ⟨_,h2,h3,h4⟩
   ·exact absurd hk h1
   rw[h.gg] at h2;obtain ⟨ok,_,_,t0,t1⟩:=hg.gin.ed _ h2;have hu:=h.u;rw[h.cc] at h4;refine ⟨⟨by omega,hk,fun a b=>by rw[h.st]; exact ok.v a b,by have:=(hg.row _ h2).1; omega,by omega⟩,⟨h.gg,h.cc,?_,?_,⟨t0,t1⟩,?_,?_⟩⟩
   ·show (Mc.take m m.look).st.length=_;unfold Mc.take;simp only[];split
    ·rw[List.length_set]; exact h.st
    ·exact h.st
   ·intro x hx;change x∈(Mc.take m m.look).st at hx;unfold Mc.take at hx;simp only[] at hx;split at hx
    ·rcases List.mem_or_eq_of_mem_set hx with hx | rfl
     ·exact h.v x hx
     ·exact h3
    ·exact h.v x hx
   ·have:=h.s0;show 0≤m.steps + 1;omega
   ·show m.used + m.look.c.toNat≤_;omega
end Go.Rf
