/- Parts of the proof. -/
import Derived.Test.YtpaeaccmddffjaaGreatDoorRg8
import Derived.RangeFuncIn
import Derived.RangeFuncRecord
import Derived.Scope
set_option linter.all false
set_option linter.unusedSectionVars false
namespace Go.Rf
variable [Prg]
variable {B:Ice} {ds:List Deferred} {fx:List (Nat × Value)}
theorem HRel.putF {ρ H h w} (k:HRel ρ H h w) {b:Nat} (hn:∀ l,¬ (ρ l).has b) (hf:∀ o,H b o=none) (x:Go.Obj):HRel ρ H h (w.putObj b x) where
 ice:=fun b' o v e=>by
  have hne:b'≠b:=fun h=>by rw[h,hf] at e; cases e
  exact (World.cell?_of_block (w:=w) (a:=⟨b',o,Option.none⟩) (w':=w.putObj b x) (World.putObj_heap_other hne)).trans (k.ice b' o v e)
 objs:=fun l o e=>(k.objs l o e).mono (j4.refl _) (fun _ _ _ e=>e) (fun b' hb'=>World.putObj_heap_other (fun h=>hn l (h ▸ hb')))
 gone:=k.gone
 inj:=k.inj
 sep:=k.sep
theorem HRel.allocF {ρ H h w} (k:HRel ρ H h w) (x:Go.Obj):HRel ρ H h (w.alloc x) where
 ice:=fun b o v e=>by
  have hlt:=k.iceLt e;exact (World.cell?_of_block (w:=w) (a:=⟨b,o,Option.none⟩) (w':=w.alloc x) (by show (w.heap.push x)[b]? = _; rw[Array.getElem?_push,if_neg (by omega)])).trans (k.ice b o v e)
 objs:=fun l o e=>(k.objs l o e).mono (j4.refl _) (fun _ _ _ e=>e) (fun b hb=>by
  have:=k.lt hb;show (w.heap.push x)[b]? = _
  rw[Array.getElem?_push,if_neg (by omega)])
 gone:=k.gone
 inj:=k.inj
 sep:=k.sep
theorem Trans.putF {ρ0 H0 w0 ρ H w} (t:Trans ρ0 H0 w0 ρ H w) {b:Nat} (hb:w0.heap.size≤b) (x:Go.Obj):Trans ρ0 H0 w0 ρ H (w.putObj b x) where
 os:=t.os
 tape:=t.tape
 output:=t.output
 size:=by rw[World.putObj_size]; exact t.size
 keep:=fun b' h1 h2=>⟨(World.putObj_heap_other (by omega)).trans (t.keep b' h1 h2).1,(t.keep b' h1 h2).2⟩
 new:=t.new
 grows:=t.grows
theorem Trans.allocF (ρ H w) (x:Go.Obj):Trans ρ H w ρ H (w.alloc x) where
 os:=rfl
 tape:=rfl
 output:=rfl
 size:=by show _≤(w.heap.push x).size; simp
 keep:=fun b h1 _=>⟨by show (w.heap.push x)[b]? = _; rw[Array.getElem?_push,if_neg (by omega)],fun _=>rfl⟩
 new:=fun l b h=>.inr ⟨l,h⟩
 grows:=fun _ _ _ e=>e
theorem qc4 {ρ H h w} (k:HRel ρ H h w) {b:Nat} {r:Loop} (hb:w.heap[b]? = some (.loop r)) (o:Nat):H b o=none:=by
 cases e:H b o with
 | none=>rfl
 | some v=>have:=k.ice b o v e; simp[World.cell?,hb] at this
def qdc (τ:Array Value) (ps:List Nat) (us:List Value):Array Value:=(ps.zip us).foldl (fun τ x=>τ.setIfInBounds x.1 x.2) τ
theorem Kq (τ p ps u us):qdc τ (p :: ps) (u :: us)=qdc (τ.setIfInBounds p u) ps us:=rfl
theorem qda:∀ (ps:List Nat) (us:List Value) (τ:Array Value),(qdc τ ps us).size = τ.size
 | [],_,_=>rfl
 | _ :: _,[],_=>rfl
 | p :: ps,u :: us,τ=>by rw[Kq,qda ps us]; simp
theorem qop (τ:Array Value) (p:Nat) (u:Value) (t:Nat):(τ.setIfInBounds p u).getD t undef=if p=t∧t < τ.size then u else τ.getD t undef:=by
 rw[Array.getD_eq_getD_getElem?,Array.getD_eq_getD_getElem?,Array.getElem?_setIfInBounds]
 by_cases h:p=t
 ·by_cases h2:t < τ.size
  ·simp[h,h2]
  ·subst h; simp[h2]
 ·simp[h]
theorem qdb:∀ (ps:List Nat) (us:List Value) (τ:Array Value) (t:Nat),t ∉ ps→(qdc τ ps us).getD t undef = τ.getD t undef
 | [],_,_,_,_=>rfl
 | _ :: _,[],_,_,_=>rfl
 | p :: ps,u :: us,τ,t,h=>by
   simp only[List.mem_cons,not_or] at h;rw[Kq,qdb ps us _ t h.2,qop,if_neg (fun k=>h.1 k.1.symm)]
theorem qgq {ρ:Map} {H:Ice} {env:List (Nat × V)} {t:Nat} {v:V}:∀ {ps:List Nat} {d:List D} {us:List Value} {τ:Array Value},ps.Nodup→(∀ t∈ps,t < τ.size)→p9 H d us→ps.length=d.length→
 (t ∉ ps→A5 env t=some v→j9 ρ H v (τ.getD t undef))→A5 (ps.zip (d.map .d)++env) t=some v→j9 ρ H v ((qdc τ ps us).getD t undef)
 | [],[],us,τ,_,_,_,_,h,e=>h (by simp) e
 | [],_ :: _,us,τ,_,_,_,hl,_,_=>by cases hl
 | _ :: _,[],us,τ,_,_,_,hl,_,_=>by cases hl
 | p :: ps,x :: d,us,τ,hn,hlt,hd,hl,h,e=>by
   obtain ⟨u,us,rfl,k1,k2⟩:=hd;rw[List.nodup_cons] at hn;rw[Kq];simp only[List.map_cons,List.zip_cons_cons,List.cons_append,A5] at e;split at e
   ·rename_i hp;subst hp;cases e;rw[qdb _ _ _ _ hn.1,qop,if_pos ⟨rfl,hlt p (by simp)⟩];exact k1
   ·rename_i hp;refine qgq hn.2 (fun t ht=>by simpa using hlt t (by simp[ht])) k2 (by simpa using hl) (fun ht he=>?_) e;rw[qop,if_neg (fun k=>hp k.1)];exact h (by simp only[List.mem_cons,not_or]; exact ⟨fun k=>hp k.symm,ht⟩) he
theorem qh6 {f:List D→List Obj→Option (Ex × List Obj)} {ys hp d b rest ex hp1} (e:Z5 f ys hp=some ((d,b) :: rest,ex,hp1)) :
 ∃ ys' ex1 hp2,ys=d :: ys'∧f d hp=some (ex1,hp2)∧((ex1 = .nrm∧b=true∧Z5 f ys' hp2=some (rest,ex,hp1))∨(ex1 = .ret∧b=false∧rest=[]∧ex = .ret∧hp1=hp2)):=by
 cases ys with
 | nil=>cases e
 | cons d' ys=>
   simp only[Z5] at e;obtain ⟨⟨ex1,hp2⟩,e1,e2⟩:=f7 e
   cases ex1 with
   | nrm=>
     simp only at e2;obtain ⟨⟨t,ex',hp'⟩,e3,e4⟩:=f7 e2;cases e4;exact ⟨ys,_,_,rfl,e1,.inl ⟨rfl,rfl,e3⟩⟩
   | ret=>cases e2; exact ⟨ys,_,_,rfl,e1,.inr ⟨rfl,rfl,rfl,rfl,rfl⟩⟩
   | _=>cases e2
theorem qk2 {f:List D→List Obj→Option (Ex × List Obj)} {ys hp ex hp1} (e:Z5 f ys hp=some ([],ex,hp1)):ex = .nrm∧hp1=hp:=by
 cases ys with
 | nil=>cases e; exact ⟨rfl,rfl⟩
 | cons d' ys=>
   simp only[Z5] at e;obtain ⟨⟨ex1,hp2⟩,e1,e2⟩:=f7 e
   cases ex1 with
   | nrm=>simp only at e2; obtain ⟨x,e3,e4⟩:=f7 e2; cases e4
   | ret=>cases e2
   | _=>cases e2
structure OutSt (B:Ice) (env:List (Nat × V)) (ρ0:Map) (p0:Nat) (rec:Loop) (lp:Nat) (body:List D→List Obj→Option (Ex × List Obj)) (ex:Ex) (hp1:List Obj)
 (rem:List (List D × Bool)) (JB:Nat→Prop) (OW:Nat→Nat→Prop) (H:Ice) (w:World) (hp:List Obj) (ρ:Map):Prop where
 objs:∀ l o,j5 hp l=some o→w5 ρ H w o (ρ l)
 gone:∀ l,j5 hp l=Option.none→ρ l = .none ∨ ρ l = .dead
 inj:∀ l l' b,(ρ l).has b→(ρ l').has b→l=l'
 only:∀ l,ρ l ≠ .none→∃ k,k < hp.length∧l = .b k
 stays:j4 ρ0 ρ
 len:p0≤hp.length
 base:B.le H
 rel:∀ t v,A5 env t=some v→j9 ρ H v (rec.tmps.getD t undef)
 jb:∀ b,JB b↔(∃ l,(ρ l).has b)∨b=lp
 ow:∀ b o,OW b o ↔ ∃ l,(ρ l).owns b o
 free:∀ l,¬ (ρ l).has lp
 lt:∀ b,JB b→b < w.heap.size
 state:(∃ ys,Z5 body ys hp=some (rem,ex,hp1)∧w.heap[lp]? = some (.loop rec))∨(rem=[]∧ex = .ret∧hp=hp1∧w.heap[lp]? = some (.loop { rec with state:=.done,pending:=some .ret }))
theorem OutSt.heap {env ρ0 p0 rec lp body ex hp1 rem JB OW H w hp ρ} (k:OutSt B env ρ0 p0 rec lp body ex hp1 rem JB OW H w hp ρ) (hi:qhk JB OW H w):HRel ρ H (j5 hp) w:=
 ⟨hi.1,k.objs,k.gone,k.inj,fun l b o h=>hi.2 b o ((k.jb b).2 (.inl ⟨l,h.has⟩)) ((k.ow b o).2 ⟨l,h⟩)⟩
theorem OutSt.mono {env ρ0 p0 rec lp body ex hp1 rem JB OW H w hp ρ H' w'} (k:OutSt B env ρ0 p0 rec lp body ex hp1 rem JB OW H w hp ρ) (hl:∀ b o v,H b o=some v→H' b o=some v) (hb:∀ b,JB b→w'.heap[b]? = w.heap[b]?) :
 OutSt B env ρ0 p0 rec lp body ex hp1 rem JB OW H' w' hp ρ where
 objs:=fun l o e=>(k.objs l o e).mono (j4.refl _) hl fun b h=>hb b ((k.jb b).2 (.inl ⟨l,h⟩))
 gone:=k.gone
 inj:=k.inj
 only:=k.only
 stays:=k.stays
 len:=k.len
 base:=fun b o v e=>hl b o v (k.base b o v e)
 rel:=fun t v e=>(k.rel t v e).mono (j4.refl _) hl
 jb:=k.jb
 ow:=k.ow
 free:=k.free
 lt:=fun b h=>by
  have h1:=hb b h;have h2:=k.lt b h;rw[Array.getElem?_eq_getElem h2] at h1;exact (Array.getElem?_eq_some_iff.1 h1).1
 state:=by rw[hb lp ((k.jb lp).2 (.inr rfl))]; exact k.state
section
variable {P:Program} {T:Tab} {cf:CF} {N p:Nat}
def qj0 (B:Ice) (P:Program) (N:Nat) (A:Nat→St→Option (Ex × St)) (c:Code):Prop:=
 ∀ (ro:Option Nat) (p:Nat) st r,A p st=some r→∀ ρ H w a (Q:Exit→Act→World→Prop),StRel B [] [] ρ H N st a w→p≤st.heap.length→kU true B [] [] ρ H w N p Q r→c.wpIn (Qd ro) 0 P Q a w
theorem qw8 (hP:P=Prg.p) {ps:Array Nat} {A C:Nat→St→Option (Ex × St)} {assign body:Code} (hA:qj0 B P N A assign) (hC:qj0 B P N C body) (hnd:ps.toList.Nodup) (hlt:∀ t∈ps.toList,t < N)
 {env:List (Nat × V)} {ρ0:Map} {p0:Nat} {rec:Loop} {lp:Nat} {ex:Ex} {hp1:List Obj} (hps:rec.params=ps) (has:rec.assign=assign) (hbo:rec.body=body) (hst:rec.state = .ready) (hpe:rec.pending=none) (htm:rec.tmps.size=N) :
 OutOk lp fun rem JB OW H w=>∃ hp ρ,OutSt B env ρ0 p0 rec lp (vX ps.toList A C env) ex hp1 rem JB OW H w hp ρ where
 mono:=fun rem JB OW H w H' w' ⟨hp,ρ,k⟩ hl hb=>⟨hp,ρ,k.mono hl hb⟩
 lt:=fun rem JB OW H w ⟨hp,ρ,k⟩=>k.lt
 round:=fun d b rest JB OW H w us ⟨hp,ρ,k⟩ hi hd=>by
  have hH:=k.heap hi;rcases k.state with ⟨ys,e,hrec⟩ | ⟨h,_⟩
  ·obtain ⟨ys',ex1,hp2,rfl,e1,e2⟩:=qh6 e;unfold vX at e1;split at e1
   ·rename_i hlen;have hul:=hd.length;refine ⟨rec,hrec,by rw[hps,← Array.length_toList,hlen,hul],?_⟩
    have hfold:((rec.params.zip ⟨us⟩).foldl (fun tmps (t,a)=>tmps.setIfInBounds t a) rec.tmps)=qdc rec.tmps ps.toList us:=by
     rw[hps,← Array.foldl_toList,Array.toList_zip];rfl
    rw[hfold,has,hbo];subst hP;refine roundIn_of_wpIn trivial ?_;show assign.wpIn (Qd (some lp)) 0 _ _ _ _;split at e1
    ·rename_i st1 ea;obtain ⟨⟨ex1',st2⟩,ec,e3⟩:=f7 e1;cases e3;refine hA (some lp) hp.length _ _ ea ρ H w _ _ ⟨hH,⟨?_,rfl,fun t v ht=>?_,k.base,fun t u h=>by cases h⟩,k.only⟩ (Nat.le_refl _) (fun rs ρ2 H2 a2 w2 r1 r2 q1 q2 q3 q4=>?_)
     ·show (qdc _ _ _).size=N;rw[qda]; exact htm
     ·exact qgq hnd (fun t ht=>by rw[htm]; exact hlt t ht) hd hlen (fun _ he=>k.rel t v he) ht
     ·obtain rfl:=r1 rfl;have hlpw:lp < w.heap.size:=(Array.getElem?_eq_some_iff.1 hrec).1;have hrec2:w2.heap[lp]? = some (.loop rec):=(q2.keep lp hlpw k.free).1.trans hrec;refine ⟨_,run_beginRound hrec2 hst,?_⟩
      have free2:∀ l,¬ (ρ2 l).has lp:=fun l hl=>by
       rcases q2.new l lp hl with h | ⟨l',h⟩
       ·omega
       ·exact k.free l' h
      have hlp2:lp < w2.heap.size:=(Array.getElem?_eq_some_iff.1 hrec2).1;have hH3:=q1.heap.putF free2 (qc4 q1.heap hrec2) (.loop { rec with state:=.busy });have hrec3:(w2.putObj lp (.loop { rec with state:=.busy })).heap[lp]? = some (.loop { rec with state:=.busy }):=World.putObj_heap_same hlp2
      have hfin:∀ {ρ4:Map} {H4:Ice} {w4:World} {a4:Act} {jump:Option Code},StRel B ([].map mk++[]) [] ρ4 H4 N st2 a4 w4→Trans ρ2 H2 (w2.putObj lp (.loop { rec with state:=.busy })) ρ4 H4 w4→A2 hp.length ρ2 ρ4→hp.length≤st2.heap.length→
       (jump.isNone=true→∃ ys',Z5 (vX ps.toList A C env) ys' st2.heap=some (rest,ex,hp1))→(jump.isNone=false→jump=some .ret∧rest=[]∧ex = .ret∧st2.heap=hp1)→
       ∃ v w',(Instr.endRound lp jump).run Prg.p w4 = .ok v w'∧Ending.returned v = .returned (.bool jump.isNone) ∧ ∃ JB' OW' H',(∃ hp ρ,OutSt B env ρ0 p0 rec lp (vX ps.toList A C env) ex hp1 rest JB' OW' H' w' hp ρ)∧qhk JB' OW' H' w'∧TransJ JB H w JB' H' w':=by
       intro ρ4 H4 w4 a4 jump g1 g2 g3 g4 g5 g6;have hrec4:w4.heap[lp]? = some (.loop { rec with state:=.busy }):=(g2.keep lp (by rw[World.putObj_size]; exact hlp2) free2).1.trans hrec3;have hlp4:lp < w4.heap.size:=(Array.getElem?_eq_some_iff.1 hrec4).1;refine ⟨_,_,run_endRound jump hrec4,rfl,?_⟩
       have free4:∀ l,¬ (ρ4 l).has lp:=fun l hl=>by
        rcases g2.new l lp hl with h | ⟨l',h⟩
        ·rw[World.putObj_size] at h; omega
        ·exact free2 l' h
       have hH5:=g1.heap.putF free4 (qc4 g1.heap hrec4) (.loop { { rec with state:=.busy } with state:=if jump.isNone then .ready else .done,pending:=jump });have hrec5:(w4.putObj lp (.loop { { rec with state:=.busy } with state:=if jump.isNone then .ready else .done,pending:=jump })).heap[lp]? = some (.loop { { rec with state:=.busy } with state:=if jump.isNone then .ready else .done,pending:=jump }):=World.putObj_heap_same hlp4
       have hst4:j4 ρ ρ4:=fun l hl=>by
        obtain ⟨j,hj,rfl⟩:=k.only l hl;exact (q3.trans g3) j hj hl
       have hle4:H.le H4:=fun b o v h=>g2.grows b o v (q2.grows b o v h)
       refine ⟨fun b=>(∃ l,(ρ4 l).has b)∨b=lp,fun b o=>∃ l,(ρ4 l).owns b o,H4,⟨st2.heap,ρ4,⟨hH5.objs,hH5.gone,hH5.inj,g1.only,k.stays.trans hst4,Nat.le_trans k.len g4,fun b o v h=>hle4 b o v (k.base b o v h),fun t v h=>(k.rel t v h).mono hst4 hle4,fun _=>Iff.rfl,fun _ _=>Iff.rfl,free4,?_,?_⟩⟩,⟨hH5.ice,?_⟩,⟨?_,?_,?_,hle4⟩⟩
       ·rintro b (⟨l,hl⟩ | rfl)
        ·rw[World.putObj_size]; exact g1.heap.lt hl
        ·rw[World.putObj_size]; exact hlp4
       ·cases hj:jump.isNone with
        | true=>
          obtain rfl:=Option.isNone_iff_eq_none.1 hj;left;obtain ⟨ys',h⟩:=g5 rfl;refine ⟨ys',h,hrec5.trans ?_⟩;obtain ⟨a1,a2,a3,a4,a5,a6,a7,a8⟩:=rec;simp only at hst hpe ⊢;subst hst hpe;rfl
        | false=>
          obtain ⟨rfl,h1,h2,h3⟩:=g6 hj;right;exact ⟨h1,h2,h3,hrec5⟩
       ·rintro b o _ ⟨l,hl⟩
        exact g1.heap.sep l b o hl
       ·have h1:=g2.os; have h2:=g2.tape; have h3:=g2.output; have h4:=g2.size;rw[World.putObj_size] at h4;exact ⟨h1.trans q2.os,h2.trans q2.tape,h3.trans q2.output,by rw[World.putObj_size]; exact Nat.le_trans q2.size h4⟩
       ·intro b hb hj
        have hnl:b≠lp:=fun h=>hj ((k.jb b).2 (.inr h))
        have hnb:∀ l,¬ (ρ l).has b:=fun l hl=>hj ((k.jb b).2 (.inl ⟨l,hl⟩))
        have k1:=q2.keep b hb hnb
        have k2:=g2.keep b (by rw[World.putObj_size]; exact Nat.lt_of_lt_of_le hb q2.size) (fun l hl=>by
         rcases q2.new l b hl with h | ⟨l',h⟩
         ·omega
         ·exact hnb l' h)
        refine ⟨(World.putObj_heap_other hnl).trans (k2.1.trans ((World.putObj_heap_other hnl).trans k1.1)),fun o=>(k2.2 o).trans (k1.2 o)⟩
       ·rintro b (⟨l,hl⟩ | rfl)
        ·rcases g2.new l b hl with h | ⟨l',h⟩
         ·rw[World.putObj_size] at h; exact .inl (Nat.le_trans q2.size h)
         ·rcases q2.new l' b h with h | ⟨l2,h⟩
          ·exact .inl h
          ·exact .inr ((k.jb b).2 (.inl ⟨l2,h⟩))
        ·exact .inr ((k.jb _).2 (.inr rfl))
      show body.wpIn (Qd (some lp)) 0 _ _ _ _;refine hC (some lp) hp.length _ _ ec ρ2 H2 _ a2 _ ⟨hH3,q1.env,q1.only⟩ q4 ?_;rcases e2 with ⟨rfl,rfl,e2⟩ | ⟨rfl,rfl,rfl,rfl,rfl⟩
      ·intro rs ρ4 H4 a4 w4 r1 r2 g1 g2 g3 g4;obtain rfl:=r1 rfl;exact hfin (jump:=none) g1 g2 g3 g4 (fun _=>⟨ys',e2⟩) (fun h=>by cases h)
      ·intro rs ρ4 H4 a4 w4 r1 r2 g1 g2 g3 g4;obtain rfl:=r1 rfl;exact hfin (jump:=some .ret) g1 g2 g3 g4 (fun h=>by cases h) (fun _=>⟨rfl,rfl,rfl,rfl⟩)
    ·cases e1
   ·cases e1
  ·cases h
theorem qh9 (hcf:Qp B P cf) (hfs:∀ g vs hp r,cf g vs hp=some r→S6 P g=true) {g':Operand} {g:Opnd} {ps:Array Nat} {A C:Nat→St→Option (Ex × St)} {assign body:Code} {keep:List Nat} (hg:okO g' g=true)
 (hA:qj0 B P N A assign) (hC:qj0 B P N C body) (hnd:ps.toList.Nodup) (hlt:∀ t∈ps.toList,t < N) {st:St} {r:Ex × St}
 (e:bnd (evO st.env g) (YT T cf st.env keep p st.heap (vX ps.toList A C st.env))=some r) {ρ:Map} {H:Ice} {w:World} {a:Act} {Q:Exit→Act→World→Prop}
 (hS:StRel B ds fx ρ H N st a w) (hpl:p≤st.heap.length) (hp:kU false B ds fx ρ H w N p Q r):(Code.rangeFunc g' ps assign body).wpIn (Qd none) 0 P Q a w:=by
 obtain ⟨v,e1,e2⟩:=f7 e;unfold YT at e2;split at e2
 ·rename_i f caps;split at e2
  ·rename_i hf;obtain ⟨it,_,e3⟩:=f7 e2;obtain ⟨ys,_,e4⟩:=f7 e3;obtain ⟨⟨tr,ex,hp1⟩,e5,e6⟩:=f7 e4;unfold qxl at e6;split at e6
   ·rename_i rs e7;obtain ⟨us,hgv,hcaps⟩:∃ us,a.eval g'=vI f us∧p9 H caps us:=i7 hS.env hg e1;have hfo:=hfs _ _ _ _ e7;unfold vI at hgv;rw[if_pos hf] at hgv
    refine wpIn_rangeFunc fun fn _=>?_
    let rec_:Loop:={ state:=.ready,pending:=none,fn,tmps:=a.tmps,params:=ps,assign,body,defers:=w.heap.size }
    let w1:World:=(w.alloc (.deferred (some []))).alloc (.loop rec_)
    have hw1:w1.heap.size=w.heap.size + 2:=by show ((w.heap.push _).push _).size=_; simp
    have hlp1:w1.heap[w.heap.size + 1]? = some (.loop rec_):=by
     show ((w.heap.push _).push _)[_]? = _;rw[Array.getElem?_push,if_pos (by simp)]
    have hmk1:w1.heap[w.heap.size]? = some (.deferred (some [])):=by
     show ((w.heap.push _).push _)[_]? = _;rw[Array.getElem?_push,if_neg (by simp)];simp
    have hold:∀ b,b < w.heap.size→w1.heap[b]? = w.heap[b]?:=fun b hb=>by
     show ((w.heap.push _).push _)[b]? = _;rw[Array.getElem?_push,if_neg (by simp; omega),Array.getElem?_push,if_neg (by omega)]
    have hH1:HRel ρ H (j5 st.heap) w1:=(hS.heap.allocF _).allocF _;refine ⟨w.heap.size + 1,[mk w.heap.size],w1,{ target:=.fn (.func f) ⟨us⟩,args:=#[.func (.yield (w.heap.size + 1)) #[] #[]] },w1,f,#[.func (.yield (w.heap.size + 1)) #[] #[]]++⟨us⟩,w1,run_enterLoop_outer ..,?_,fun _ _=>trivial,?_,(fun h=>by cases h),?_⟩
    ·simp only[resolve,hgv,Deferred.ofValue];simp[Sem.run,Act.eval]
    ·simp only[invoke];rw[V6 hfo]
    ·let R:List (List D × Bool)→(Nat→Prop)→(Nat→Nat→Prop)→Ice→World→Prop:=fun rem JB OW H w'=>∃ hp ρo,OutSt B st.env ρ st.heap.length rec_ (w.heap.size + 1) (vX ps.toList A C st.env) ex hp1 rem JB OW H w' hp ρo
     let JB:Nat→Prop:=fun b=>(∃ l,(ρ l).has b)∨b=w.heap.size + 1
     let OW:Nat→Nat→Prop:=fun b o=>∃ l,(ρ l).owns b o
     have hfree:∀ l,¬ (ρ l).has (w.heap.size + 1):=fun l hl=>by have:=hS.heap.lt hl; omega
     have hR0:R tr JB OW H w1:=⟨st.heap,ρ,hH1.objs,hH1.gone,hH1.inj,hS.only,j4.refl _,Nat.le_refl _,hS.env.base,hS.env.rel,fun _=>Iff.rfl,fun _ _=>Iff.rfl,hfree,(by
      rintro b (⟨l,hl⟩ | rfl)
      ·exact hH1.lt hl
      ·omega),.inl ⟨ys,e5,hlp1⟩⟩
     have hO:OutOk (w.heap.size + 1) R:=qw8 hcf.1 hA hC hnd hlt rfl rfl rfl rfl rfl hS.env.size
     let ρ1:Map:=fun l=>if l = .b 0 then .out (w.heap.size + 1) JB OW R else .none
     have hρ0:ρ1 (.b 0) = .out (w.heap.size + 1) JB OW R:=if_pos rfl
     have hρn:∀ l,l ≠ .b 0→ρ1 l = .none:=fun l h=>if_neg h
     have hHr:HRel ρ1 H (j5 [.tr tr]) w1:=by
      refine ⟨hH1.ice,fun l o h=>?_,fun l h=>?_,fun l l' b h1 h2=>?_,fun l b o h=>?_⟩
      ·by_cases hl:l = .b 0
       ·subst hl; cases h; rw[hρ0]; exact ⟨hR0,hO⟩
       ·exfalso
        cases l with
        | n i k=>cases h
        | b k=>cases k with
          | zero=>exact hl rfl
          | succ k=>cases h
      ·by_cases hl:l = .b 0
       ·subst hl; cases h
       ·exact .inl (hρn l hl)
      ·by_cases hl:l = .b 0
       ·by_cases hl':l' = .b 0
        ·rw[hl,hl']
        ·rw[hρn l' hl'] at h2; cases h2
       ·rw[hρn l hl] at h1; cases h1
      ·by_cases hl:l = .b 0
       ·subst hl; rw[hρ0] at h; obtain ⟨_,l',h⟩:=h; exact hS.heap.sep l' b o h
       ·rw[hρn l hl] at h; cases h
     have hc:=hcf.2 f _ _ _ e7 ρ1 H w1 (#[.func (.yield (w.heap.size + 1)) #[] #[]]++⟨us⟩) hS.env.base hHr (by
      show f9 ρ1 H (.iter (.b 0) :: caps.map .d) _;rw[Array.toList_append]
      exact ⟨_,_,rfl,(show jt (ρ1 (.b 0)) _ by rw[hρ0]; rfl),hcaps.toV⟩) (fun l hl=>by
      by_cases h:l = .b 0
      ·exact ⟨0,by simp,h⟩
      ·exact (hl (hρn l h)).elim)
     refine ZI fun cs=>?_
     obtain ⟨en,w',fr,hE,rest⟩:=hc cs;refine ⟨en,w',fr,?_,rest⟩
     cases en with
     | outgrown=>cases hE
     | panicked chain=>obtain ⟨_,_,_,_,_,h,_⟩:=hE; cases h
     | returned v=>
       obtain ⟨rs',os',ρ',H',h,ce,_⟩:=hE;cases h;have hob:=ce.heap.objs (.b 0) (.tr []) rfl
       obtain ⟨JB',OW',hpl'⟩:∃ JB' OW',ρ' (.b 0) = .out (w.heap.size + 1) JB' OW' R:=by
        rcases ce.stays (.b 0) (by rw[hρ0]; simp) with h | h
        ·rw[hρ0] at h; exact Place.core_out h
        ·rw[h] at hob; exact hob.elim
       rw[hpl'] at hob;obtain ⟨⟨hp2,ρo,k⟩,_⟩:=hob;have hi:qhk JB' OW' H' w':=⟨ce.heap.ice,fun b o h1 h2=>ce.heap.sep (.b 0) b o (by rw[hpl']; exact ⟨h1,h2⟩)⟩;have hH:=k.heap hi
       have hjb:∀ {b},(∀ l,¬ (ρ l).has b)→b≠w.heap.size + 1→∀ l,¬ (ρ1 l).has b:=fun {b} h1 h2 l hl=>by
        by_cases h:l = .b 0
        ·rw[h,hρ0] at hl;rcases hl with ⟨l',hl⟩ | hl
         ·exact h1 l' hl
         ·exact h2 hl
        ·rw[hρn l h] at hl; cases hl
       have hnew:∀ l b,(ρo l).has b→w.heap.size + 2≤b∨b=w.heap.size + 1 ∨ ∃ l',(ρ l').has b:=fun l b hl=>by
        rcases ce.trans.new (.b 0) b (by rw[hpl']; exact (k.jb b).2 (.inl ⟨l,hl⟩)) with h | ⟨l',h⟩
        ·left; omega
        ·by_cases hl':l' = .b 0
         ·rw[hl',hρ0] at h;rcases h with h | h
          ·exact .inr (.inr h)
          ·exact .inr (.inl h)
         ·rw[hρn l' hl'] at h; cases h
       have ht:Trans ρ H w ρo H' w':=⟨ce.trans.os,ce.trans.tape,ce.trans.output,Nat.le_trans (by omega) ce.trans.size,fun b hb hn=>by
        have:=ce.trans.keep b (by omega) (hjb hn (by omega))
        exact ⟨this.1.trans (hold b hb),this.2⟩,fun l b hl=>by
        rcases hnew l b hl with h | h | h
        ·exact .inl (by omega)
        ·exact .inl (by omega)
        ·exact .inr h,ce.trans.grows⟩
       have hnm:∀ l,¬ (ρo l).has w.heap.size:=fun l hl=>by
        rcases hnew l _ hl with h | h | ⟨l',h⟩
        ·omega
        ·omega
        ·have:=hS.heap.lt h; omega
       have hmk:w'.heap[w.heap.size]? = some (.deferred (some [])):=(ce.trans.keep w.heap.size (by omega) (hjb (fun l hl=>by have:=hS.heap.lt hl; omega) (by omega))).1.trans hmk1
       have hfin:∀ {x:Go.Loop},w'.heap[w.heap.size + 1]? = some (.loop x)→HRel ρo H' (j5 hp2) (w'.putObj (w.heap.size + 1) (.loop { x with state:=.exhausted }))∧Trans ρ H w ρo H' (w'.putObj (w.heap.size + 1) (.loop { x with state:=.exhausted })) ∧
        Marks w.heap.size ρo (w'.putObj (w.heap.size + 1) (.loop { x with state:=.exhausted })) [w.heap.size]:=fun {x} hx=>
        ⟨hH.putF k.free (qc4 hH hx) _,ht.putF (by omega) _,⟨by simp,fun r hr=>by
         obtain rfl:=List.mem_singleton.1 hr
         exact ⟨Nat.le_refl _,(World.putObj_heap_other (by omega)).trans hmk,hnm⟩⟩⟩
       have hEv:EnvRel B ([w.heap.size].map mk++ds) fx ρo H' N st.env { a with defers:=[mk w.heap.size]++a.defers }:=⟨hS.env.size,by rw[hS.env.defers]; rfl,k.rel,k.base,hS.env.fix⟩;rcases k.state with ⟨ys',e8,hrec⟩ | ⟨_,rfl,rfl,hrec⟩
       ·obtain ⟨rfl,rfl⟩:=qk2 e8;simp only at e6;obtain ⟨st',e9,e10⟩:=f7 e6;cases e10;obtain ⟨h1,h2,h3⟩:=hfin hrec;obtain ⟨M,m1,m2,m3,m4⟩:=Jc h1 hEv e9;exact ⟨none,_,run_endLoop hrec (by simp[rec_]),hp [w.heap.size] _ _ _ _ (fun h=>by cases h) (h3.trans m3) m1 (h2.trans m3) ((k.stays.toP p).trans m2) m4⟩
       ·cases e6;obtain ⟨h1,h2,h3⟩:=hfin hrec;exact ⟨some .ret,_,run_endLoop hrec (by simp),wpIn_ret (hp [w.heap.size] _ _ _ _ (fun h=>by cases h) h3 ⟨h1,hEv,k.only⟩ h2 (k.stays.toP p) (Nat.le_trans hpl k.len))⟩
   ·cases e6
  ·cases e2
 ·cases e2
end
end Go.Rf

set_option linter.unusedSectionVars false
namespace Go.Rf
variable [Prg]
variable {B:Ice} {ds:List Deferred} {fx:List (Nat × Value)}
def qck (P:Program) (N:Nat) (ops:Array Oper) (L:List AIns):Bool:=
 decide (L.map (·.i)=List.range ops.size) && L.all fun ai=>match ops[ai.i]? with
  | some o=>qcn P N ops o ai
  | none=>false
section
variable {P:Program} {T:Tab} {cf:CF} {N p:Nat}
theorem qh8 {ro:Option Nat} (hcf:Qp B P cf) (hfs:∀ g vs hp r,cf g vs hp=some r→S6 P g=true) {ops:Array Oper} {L:List AIns} {keep:List Nat} {id:Nat} (hok:qck P N ops L=true) (hav:∀ ai∈L,∀ x∈fx,ai.dst≠some x.1) {st:St} {r:Ex × St}
 (e:region T cf p L none keep st=some r) {ρ:Map} {H:Ice} {w:World} {a:Act} {Q:Exit→Act→World→Prop} (hS:StRel B ds fx ρ H N st a w) {pl:Bool} (hp:kU pl B ds fx ρ H w N p Q r) :
 (Code.region id ops false).wpIn (Qd ro) 0 P Q a w:=by
 simp only[qck,Bool.and_eq_true,decide_eq_true_eq] at hok;obtain ⟨h1,h2⟩:=hok;obtain ⟨⟨rr,rs⟩,e1,e2⟩:=f7 (show (bnd _ _:Option _)=some r from e);apply wpIn_region;rw[← h1];refine Ke hcf hfs L _ _ rr rs (fun ai hai=>?_) (by rw[h1]; exact List.nodup_range) hav e1 ρ H w a hS.heap hS.env (fun ai _ k=>?_) ?_
 ·have:=List.all_eq_true.1 h2 ai hai;split at this
  ·rename_i o ho; exact ⟨o,ho,this⟩
  ·cases this
 ·cases hq:ρ (.n ai.i k) with
  | none=>rfl
  | _=>
    obtain ⟨_,_,hk⟩:=hS.only (.n ai.i k) (by rw[hq]; intro h; cases h);cases hk
 ·cases rr with
  | out=>(cases e2; exact hp)
  | nrm s'=>
    intro ρ' H' a' w' q1 q2 q3 q4 _;obtain ⟨st',e3,e4⟩:=f7 e2;cases e4;obtain ⟨M,m1,m2,m3,m4⟩:=Jc q1 q2 e3;exact hp [] _ _ _ _ (fun _=>rfl) Marks.nil m1 (q3.trans m3) ((q4.toP p).trans m2) m4
  | pan j v s'=>
    intro ρ' H' a' w' u q1 q2 q2' q3 q4 _ q5;obtain ⟨ex,st'⟩:=r;obtain ⟨x,ρ2,H2,rfl,m1,m2,m3,m4,m5,m6⟩:=qmv q1 q5 (show qmw p v s'.h=some (ex,st') from e2);exact hp [] _ _ _ _ u (fun _=>rfl) Marks.nil m1 m2 m3 q2 q2' (q3.trans m4) ((q4.toP p).trans m5) m6
def plain:ACode→Bool
 | .seq a b=>plain a && plain b
 | .cond _ a b=>plain a && plain b
 | .block _ a=>plain a
 | .loop _ a=>plain a
 | .scope a=>plain a
 | .rangeF ..=>false
 | _=>true
theorem qib {a b:Bool} {q:Prop} (h:(a && b)=true∨q):a=true∨q:=h.imp (fun h=>(Bool.and_eq_true_iff.1 h).1) id
theorem qrd {a b:Bool} {q:Prop} (h:(a && b)=true∨q):b=true∨q:=h.imp (fun h=>(Bool.and_eq_true_iff.1 h).2) id
def okC (P:Program) (N:Nat):ACode→Code→Bool
 | .skip,c=>match c with | .skip=>true | .label _=>true | _=>false
 | .region L draw _,c=>match c,draw with | .region _ ops false,none=>qck P N ops L | .region _ ops true,some d=>YZ P N ops L d | _,_=>false
 | .seq a b,c=>match c with | .seq x y=>okC P N a x && okC P N b y | _=>false
 | .cond x a b,c=>match c with | .cond x' y z=>okO x' x && okC P N a y && okC P N b z | _=>false
 | .block id a,c=>match c with | .block id' x=>decide (id=id') && okC P N a x | _=>false
 | .loop _ a,c=>match c with | .loop x=>okC P N a x | _=>false
 | .exit id _,c=>match c with | .exit id'=>decide (id=id') | _=>false
 | .scope a,c=>match c with | .scope x=>okC P N a x | _=>false
 | .ret,c=>match c with | .ret=>true | _=>false
 | .refuse,_=>false
 | .rangeF g ps a b _,c=>match c with | .rangeFunc g' ps' x y=>okO g' g && decide (ps'.toList=ps) && decide ps.Nodup && ps.all (fun t=>decide (t < N)) && plain a && plain b && okC P N a x && okC P N b y | _=>false
def M8 (ks:List Nat):ACode→Bool
 | .region L _ _=>L.all fun ai=>match ai.dst with | some t=>!ks.contains t | none=>true
 | .seq a b=>M8 ks a && M8 ks b
 | .cond _ a b=>M8 ks a && M8 ks b
 | .block _ a=>M8 ks a
 | .loop _ a=>M8 ks a
 | .scope a=>M8 ks a
 | _=>true
theorem C1:∀ a:ACode,M8 [] a=true
 | .skip=>rfl
 | .region L _ _=>by
   simp only[M8,List.all_eq_true];intro ai _
   cases ai.dst <;> simp
 | .seq a b=>by simp[M8,C1 a,C1 b]
 | .cond _ a b=>by simp[M8,C1 a,C1 b]
 | .block _ a=>by simp[M8,C1 a]
 | .loop _ a=>by simp[M8,C1 a]
 | .exit _ _=>rfl
 | .scope a=>by simp[M8,C1 a]
 | .ret=>rfl
 | .refuse=>rfl
 | .rangeF ..=>rfl
theorem JX {L:List AIns} {d:Option (List (Nat × Nat) × List Nat)} {keep:List Nat} (h:M8 (fx.map (·.1)) (.region L d keep)=true):∀ ai∈L,∀ x∈fx,ai.dst≠some x.1:=fun ai hai x hx he=>by
 simp only[M8,List.all_eq_true] at h;have:=h ai hai;rw[he] at this;simp only[Bool.not_eq_true'] at this;have hm:(fx.map (·.1)).contains x.1=true:=List.contains_iff_mem.2 (List.mem_map_of_mem hx);rw[hm] at this;cases this
theorem ZC {q:Nat→Prop} (h:∃ n,q n):∃ n,q n ∧ ∀ m,q m→n≤m:=by
 obtain ⟨n,hn⟩:=h
 induction n using Nat.strongRecOn with
 | _ n ih=>
   by_cases hm:∃ m,m < n∧q m
   ·obtain ⟨m,h1,h2⟩:=hm;exact ih m h1 h2
   ·refine ⟨n,hn,fun m hq=>?_⟩
    by_cases hmn:n≤m
    ·exact hmn
    ·exact (hm ⟨m,by omega,hq⟩).elim
noncomputable def ql3 {q:Nat→Prop} (h:∃ n,q n):Nat:=Classical.choose (ZC h)
theorem qpu {q:Nat→Prop} (h:∃ n,q n):q (ql3 h):=(Classical.choose_spec (ZC h)).1
theorem qyy {q:Nat→Prop} (h:∃ n,q n) {m:Nat} (hm:q m):ql3 h≤m:=(Classical.choose_spec (ZC h)).2 m hm
theorem qpr {ro:Option Nat} {pl:Bool} {c:Code} {f:St→Option (Ex × St)} {Q:Exit→Act→World→Prop}
 (hround:∀ ds st r,f st=some r→∀ ρ H w a (Q:Exit→Act→World→Prop),StRel B ds fx ρ H N st a w→p≤st.heap.length→kU pl B ds fx ρ H w N p Q r→c.wpIn (Qd ro) 0 P Q a w) :
 ∀ (n:Nat) ds st r,XM n f st=some r→∀ ρ H w a,StRel B ds fx ρ H N st a w→p≤st.heap.length→kU pl B ds fx ρ H w N p Q r→(Code.loop c).wpIn (Qd ro) 0 P Q a w:=by
 classical
 let n9:Nat→Act→World→Prop:=fun n a w=>∃ ds st r ρ H,XM n f st=some r∧StRel B ds fx ρ H N st a w∧p≤st.heap.length∧kU pl B ds fx ρ H w N p Q r
 intro n ds st r e ρ H w a hS hpl hp;refine wpIn_loop (fun a w=>∃ n,n9 n a w) (fun a w=>if h:∃ n,n9 n a w then ql3 h else 0) ⟨n,ds,st,r,ρ,H,e,hS,hpl,hp⟩ (fun a w hI=>?_);have hg:=qpu hI
 have hmin:∀ {k a' w'},n9 k a' w'→(if h:∃ n,n9 n a' w' then ql3 h else 0)≤k:=fun {k a' w'} hk=>by
  rw[dif_pos ⟨k,hk⟩];exact qyy _ hk
 obtain ⟨ds,st,r,ρ,H,e,hS,hpl,hp⟩:=hg;rw[dif_pos hI]
 cases hn:ql3 hI with
 | zero=>rw[hn] at e; cases e
 | succ k=>
   rw[hn] at e;simp only[XM] at e;split at e
   ·rename_i st' hf;refine hround ds st _ hf ρ H w a _ hS hpl (fun rs ρ' H' a' w' r1 r2 q1 q2 q3 q4=>?_);have hg:n9 k a' w':=⟨_,st',r,ρ',H',e,q1,q4,hp.shift q2 q3 r1 r2⟩;exact ⟨⟨k,hg⟩,Nat.lt_succ_of_le (hmin hg)⟩
   ·rename_i hne;refine hround ds st r e ρ H w a _ hS hpl ?_;obtain ⟨ex,st'⟩:=r
    cases ex with
    | nrm=>exact (hne st' e).elim
    | exit id=>exact hp
    | ret=>exact hp
    | pan v=>exact hp
    | out=>obtain ⟨a0,w0,h0⟩:=hp; exact ⟨a0,w0,h0⟩
theorem jY {b:Frame} {a:Act} {k:List Go.Item} {cs:List Frame} {w:World} {c:Code}:Go.step P (lone (b.atR a (.code (.scope c) :: k)) cs w) = .next (lone (b.atR a (.code c :: .inScope c :: k)) cs w):=
 step_lone_go (by simp[stepG,stepG.exec,Frame.atR])
theorem qeq {b:Frame} {a:Act} {k:List Go.Item} {cs:List Frame} {w:World} {c:Code}:Go.step P (lone (b.atR a (.inScope c :: k)) cs w) = .next (lone (b.atR a k) cs w):=
 step_lone_go (by simp[stepG,stepG.exec,Frame.atR])
theorem JH {F:Fence} {n:Nat} {Q:Exit→Act→World→Prop} {a:Act} {w:World} {c:Code} (h:c.wpIn F n P (Exit.noGoto Q) a w):(Code.scope c).wpIn F n P Q a w:=by
 intro b k cs hro hb hr;have h0:(lone (b.atR a (.code (.scope c) :: k)) cs w).fenced P F:=fenced_calm hb hr rfl;obtain ⟨e,a₁,w₁,hq,harr⟩:=h b (.inScope c :: k) cs hro hb hr
 cases e with
 | normal=>exact ⟨.normal,a₁,w₁,hq,.head h0 jY (StepsIn.trans harr (.one (fenced_calm hb hr rfl) qeq))⟩
 | goto l=>exact hq.elim
 | exit id=>exact ⟨.exit id,a₁,w₁,hq,.of_steps (.one h0 jY) ⟨fun k' hk=>harr.1 k' (by simpa [exitTo] using hk),fun hr hk=>harr.2 hr (by simpa [exitTo] using hk)⟩⟩
 | ret=>exact ⟨.ret,a₁,w₁,hq,.of_steps (.one h0 jY) harr⟩
 | panic ch=>exact ⟨_,a₁,w₁,hq,.of_steps (.one h0 jY) harr⟩
 | outgrown=>exact ⟨_,a₁,w₁,hq,.of_steps (.one h0 jY) harr⟩
theorem C0 {fx:List (Nat × Value)} {p:Nat} {ro:Option Nat} {pl:Bool} (hcf:Qp B P cf) (hfs:∀ g vs hp r,cf g vs hp=some r→S6 P g=true):∀ (ac:ACode) (c:Code),okC P N ac c=true→(plain ac=true∨ro=none∧pl=false)→M8 (fx.map (·.1)) ac=true→∀ ds n st r,code T cf p n ac st=some r→
 ∀ ρ H w a (Q:Exit→Act→World→Prop),StRel B ds fx ρ H N st a w→p≤st.heap.length→kU pl B ds fx ρ H w N p Q r→c.wpIn (Qd ro) 0 P Q a w
 | .skip,c,hok,hro,hav,ds,n,st,r,e,ρ,H,w,a,Q,hS,hpl,hp=>by
   cases c <;> first | (simp[okC] at hok; done) | skip
   ·cases e;exact wpIn_skip (hp [] ρ H a w (fun _=>rfl) Marks.nil hS (Trans.refl ..) (A2.refl _ _) hpl)
   ·cases e;exact wpIn_label (hp [] ρ H a w (fun _=>rfl) Marks.nil hS (Trans.refl ..) (A2.refl _ _) hpl)
 | .region L draw keep,c,hok,hro,hav,ds,n,st,r,e,ρ,H,w,a,Q,hS,hpl,hp=>by
   cases c <;> first | (simp[okC] at hok; done) | skip
   rename_i id ops d
   cases d <;> cases draw <;> first | (simp[okC] at hok; done) | skip
   ·exact qh8 hcf hfs hok (JX hav) e hS hp
   ·exact qes hcf hfs hok (JX hav) e hS hp
 | .seq x y,c,hok,hro,hav,ds,n,st,r,e,ρ,H,w,a,Q,hS,hpl,hp=>by
   cases c <;> first | (simp[okC] at hok; done) | skip
   simp only[okC,Bool.and_eq_true] at hok;simp only[code] at e;apply wpIn_seq;split at e
   ·rename_i st' e1
    exact C0 (pl:=pl) hcf hfs x _ hok.1 (qib hro) (by simp only[M8,Bool.and_eq_true] at hav; exact hav.1) ds n st _ e1 ρ H w a _ hS hpl (fun rs ρ' H' a' w' r1 r2 q1 q2 q3 q4=>
     C0 hcf hfs y _ hok.2 (qrd hro) (by simp only[M8,Bool.and_eq_true] at hav; exact hav.2) _ n st' r e ρ' H' w' a' Q q1 q4 (hp.shift q2 q3 r1 r2))
   ·rename_i hne;refine C0 (pl:=pl) hcf hfs x _ hok.1 (qib hro) (by simp only[M8,Bool.and_eq_true] at hav; exact hav.1) ds n st r e ρ H w a _ hS hpl ?_;obtain ⟨ex,st'⟩:=r
    cases ex with
    | nrm=>exact (hne st' e).elim
    | exit id=>exact hp
    | ret=>exact hp
    | pan v=>exact hp
    | out=>obtain ⟨a0,w0,h0⟩:=hp; exact ⟨a0,w0,h0⟩
 | .cond x y z,c,hok,hro,hav,ds,n,st,r,e,ρ,H,w,a,Q,hS,hpl,hp=>by
   cases c <;> first | (simp[okC] at hok; done) | skip
   simp only[okC,Bool.and_eq_true] at hok;obtain ⟨⟨h1,h2⟩,h3⟩:=hok;simp only[code] at e;split at e
   ·rename_i hc;exact wpIn_cond_true (i7 hS.env h1 hc) (C0 hcf hfs y _ h2 (qib hro) (by simp only[M8,Bool.and_eq_true] at hav; exact hav.1) ds n st r e ρ H w a Q hS hpl hp)
   ·rename_i hc;exact wpIn_cond_false (i7 hS.env h1 hc) (C0 hcf hfs z _ h3 (qrd hro) (by simp only[M8,Bool.and_eq_true] at hav; exact hav.2) ds n st r e ρ H w a Q hS hpl hp)
   ·cases e
 | .block id x,c,hok,hro,hav,ds,n,st,r,e,ρ,H,w,a,Q,hS,hpl,hp=>by
   cases c <;> first | (simp[okC] at hok; done) | skip
   simp only[okC,Bool.and_eq_true,decide_eq_true_eq] at hok;obtain ⟨rfl,h2⟩:=hok;simp only[code] at e;apply wpIn_block;split at e
   ·rename_i id' st' e1;refine C0 (pl:=pl) hcf hfs x _ h2 hro hav ds n st _ e1 ρ H w a _ hS hpl (fun rs ρ' H' a' w' r1 r2 q1 q2 q3 q4=>?_);simp only[Exit.inBlock];split at e
    ·rename_i hid;cases e;rw[if_pos hid];exact hp rs ρ' H' a' w' r1 r2 q1 q2 q3 q4
    ·rename_i hid;cases e;rw[if_neg hid];exact hp rs ρ' H' a' w' r1 r2 q1 q2 q3 q4
   ·rename_i hne;refine C0 (pl:=pl) hcf hfs x _ h2 hro hav ds n st r e ρ H w a _ hS hpl ?_;obtain ⟨ex,st'⟩:=r
    cases ex with
    | nrm=>exact hp
    | exit id=>exact (hne _ _ e).elim
    | ret=>exact hp
    | pan v=>exact hp
    | out=>obtain ⟨a0,w0,h0⟩:=hp; exact ⟨a0,w0,h0⟩
 | .loop keep x,c,hok,hro,hav,ds,n,st,r,e,ρ,H,w,a,Q,hS,hpl,hp=>by
   cases c <;> first | (simp[okC] at hok; done) | skip
   simp only[okC] at hok;rename_i body;simp only[code] at e
   have hround:∀ ds st1 r1,(match wb p keep st1.env (j5 st1.heap) with
    | some st=>code T cf p n x st
    | none=>none)=some r1→∀ ρ H w a (Q:Exit→Act→World→Prop),StRel B ds fx ρ H N st1 a w→p≤st1.heap.length→kU pl B ds fx ρ H w N p Q r1→body.wpIn (Qd ro) 0 P Q a w:=by
    intro ds st1 r1 e1 ρ H w a Q hS hpl hp;split at e1
    ·rename_i st2 e2;obtain ⟨M,m1,m2,m3,m4⟩:=Jc hS.heap hS.env e2;exact C0 (pl:=pl) hcf hfs x _ hok hro hav ds n st2 r1 e1 _ H w a Q m1 m4 (hp.shift0 m3 m2)
    ·cases e1
   exact qpr hround n ds st r e ρ H w a hS hpl hp
 | .exit id keep,c,hok,hro,hav,ds,n,st,r,e,ρ,H,w,a,Q,hS,hpl,hp=>by
   cases c <;> first | (simp[okC] at hok; done) | skip
   simp only[okC,decide_eq_true_eq] at hok;subst hok;obtain ⟨st2,e1,e2⟩:=f7 e;cases e2;obtain ⟨M,m1,m2,m3,m4⟩:=Jc hS.heap hS.env e1;exact wpIn_exit (hp [] _ _ _ _ (fun _=>rfl) Marks.nil m1 m3 m2 m4)
 | .scope x,c,hok,hro,hav,ds,n,st,r,e,ρ,H,w,a,Q,hS,hpl,hp=>by
   cases c <;> first | (simp[okC] at hok; done) | skip
   simp only[okC] at hok;apply JH;refine C0 (pl:=pl) hcf hfs x _ hok hro hav ds n st r e ρ H w a _ hS hpl ?_;obtain ⟨ex,st'⟩:=r
   cases ex with
   | nrm=>exact hp
   | exit id=>exact hp
   | ret=>exact hp
   | pan v=>exact hp
   | out=>obtain ⟨a0,w0,h0⟩:=hp; exact ⟨a0,w0,h0⟩
 | .ret,c,hok,hro,hav,ds,n,st,r,e,ρ,H,w,a,Q,hS,hpl,hp=>by
   cases c <;> first | (simp[okC] at hok; done) | skip
   cases e;exact wpIn_ret (hp [] ρ H a w (fun _=>rfl) Marks.nil hS (Trans.refl ..) (A2.refl _ _) hpl)
 | .refuse,c,hok,hro,hav,ds,n,st,r,e,_,_,_,_,_,_,_,_=>by cases e
 | .rangeF g ps x y keep,c,hok,hro,hav,ds,n,st,r,e,ρ,H,w,a,Q,hS,hpl,hp=>by
   cases c <;> first | (simp[okC] at hok; done) | skip
   simp only[okC,Bool.and_eq_true,decide_eq_true_eq,List.all_eq_true] at hok;obtain ⟨⟨⟨⟨⟨⟨⟨h1,rfl⟩,h3⟩,h4⟩,h5⟩,h6⟩,h7⟩,h8⟩:=hok;obtain ⟨rfl,rfl⟩:=hro.resolve_left (by simp[plain]);simp only[code] at e
   exact qh9 hcf hfs h1 (fun ro p st r e ρ H w a Q hS hpl hp=>C0 (fx:=[]) (pl:=true) hcf hfs x _ h7 (.inl h5) (C1 x) [] n st r e ρ H w a Q hS hpl hp)
    (fun ro p st r e ρ H w a Q hS hpl hp=>C0 (fx:=[]) (pl:=true) hcf hfs y _ h8 (.inl h6) (C1 y) [] n st r e ρ H w a Q hS hpl hp) h3 h4 e hS hpl hp
def q1v (P:Program) (N:Nat) (a:ACode) (c:Code):Bool:=plain a && okC P N a c
theorem vN (hcf:Qp B P cf) (hfs:∀ g vs hp r,cf g vs hp=some r→S6 P g=true) (ac:ACode) (c:Code) (hok:q1v P N ac c=true) (hav:M8 (fx.map (·.1)) ac=true) (n st r) (e:code T cf p n ac st=some r)
 (ρ H w a) (Q:Exit→Act→World→Prop) (hS:StRel B ds fx ρ H N st a w) (hpl:p≤st.heap.length) (hp:qaj B ds fx ρ H w N p Q r):c.wp P Q a w:=
 (wpIn_wide (n:=0)).1 (C0 (ro:=none) hcf hfs ac c (Bool.and_eq_true_iff.1 hok).2 (.inl (Bool.and_eq_true_iff.1 hok).1) hav ds n st r e ρ H w a Q hS hpl (qaj.toC hp))
end
end Go.Rf

set_option linter.unusedSectionVars false
namespace Go.Rf
variable [Prg]
variable {B:Ice} {ds:List Deferred} {fx:List (Nat × Value)}
def QD (P:Program):List ResultVar→List (ARes × Bool)→Bool
 | [],[]=>true
 | .tmp t :: rs,(.tmp t',_) :: c8=>decide (t=t') && QD P rs c8
 | .cell x t :: rs,(.cell x' n ag,_) :: c8=>decide (x=x') && vV P t n ag && QD P rs c8
 | _,_=>false
section
variable {P:Program} {N p:Nat} {ρ:Map} {H:Ice} {w:World}
theorem qve {t:TypeId} {v u:Value} (h:(Instr.loadAt t v).run P w = .ok u w):(do loadVar t (← asAddr v):Sem Value).run P w = .ok u w:=by
 cases v <;> first | exact h | (simp[Instr.loadAt,Instr.sureAddr] at h; done) | skip
 rename_i q
 cases q with
 | none=>simp[Instr.loadAt,Instr.sureAddr] at h
 | some q=>exact h
theorem JR {α β:Type} {f:α→Sem β} {x:α} {xs:List α} {y:β} {ys:List β} (h1:(f x).run P w = .ok y w) (h2:(xs.mapM f).run P w = .ok ys w):((x :: xs).mapM f).run P w = .ok (y :: ys) w:=by
 rw[List.mapM_cons,Sem.run_bind,h1,Result.andThen_ok,Sem.run_bind,h2,Result.andThen_ok];rfl
def qw9 (tmps:Array Value):ResultVar→Sem Value
 | .tmp t=>pure (tmps.getD t undef)
 | .cell a t=>do loadVar t (← asAddr (tmps.getD a undef))
theorem qh7 {h:Loc→Option Obj} {env:List (Nat × V)} {a:Act} (hH:HRel ρ H h w) (hE:∀ t v,A5 env t=some v→j9 ρ H v (a.tmps.getD t undef)):∀ {rs:List ResultVar} {c8:List (ARes × Bool)} {vs:List (V × Bool)},QD P rs c8=true→xG env h c8=some vs→
 ∃ us,(rs.mapM (qw9 a.tmps)).run P w = .ok us w∧f9 ρ H (vs.map (·.1)) us
 | [],[],vs,_,e=>by cases e; exact ⟨[],rfl,rfl⟩
 | [],_ :: _,_,hk,_=>by simp[QD] at hk
 | .tmp _ :: _,[],_,hk,_=>by simp[QD] at hk
 | .cell _ _ :: _,[],_,hk,_=>by simp[QD] at hk
 | .tmp _ :: _,(.cell _ _ _,_) :: _,_,hk,_=>by simp[QD] at hk
 | .cell _ _ :: _,(.tmp _,_) :: _,_,hk,_=>by simp[QD] at hk
 | .tmp t :: rs,(.tmp t',fl) :: c8,vs,hk,e=>by
   simp only[QD,Bool.and_eq_true,decide_eq_true_eq] at hk;obtain ⟨rfl,hk⟩:=hk;simp only[xG] at e;split at e
   ·rename_i v vs' e1 e2;cases e;obtain ⟨us,h1,h2⟩:=qh7 hH hE hk e2;exact ⟨_,JR (f:=qw9 a.tmps) (y:=a.tmps.getD t undef) rfl h1,_,_,rfl,hE t v e1,h2⟩
   ·cases e
 | .cell x t :: rs,(.cell x' n ag,fl) :: c8,vs,hk,e=>by
   simp only[QD,Bool.and_eq_true,decide_eq_true_eq] at hk;obtain ⟨⟨rfl,ht⟩,hk⟩:=hk;simp only[xG] at e;split at e
   ·rename_i v vs' e1 e2;cases e;obtain ⟨us,h1,h2⟩:=qh7 hH hE hk e2;simp only[qbu] at e1;split at e1
    ·rename_i y ey;split at e1
     ·rename_i ef hl;cases e1;obtain ⟨e',he,_,_,u,hr,hu⟩:=qlx hH ht (hE x y ey) hl;cases he;exact ⟨_,JR (f:=qw9 a.tmps) (qve hr) h1,_,_,rfl,hu,h2⟩
     ·cases e1
    ·cases e1
   ·cases e
theorem qta {vs:List V} {us:Array Value} (k:f9 ρ H vs us.toList):j9 ρ H (Xg vs) (if h:us.size=1 then us[0] else .tuple us):=by
 have hl:=k.length;simp only[Array.length_toList] at hl
 cases vs with
 | nil=>
   have:us = #[]:=by apply Array.toList_inj.1; exact List.eq_nil_of_length_eq_zero (by simpa using hl.symm)
   subst this;exact ⟨[],rfl,rfl⟩
 | cons v vs=>
   cases vs with
   | nil=>
     have h1:us.size=1:=by simpa using hl.symm
     rw[dif_pos h1];obtain ⟨u,us',hu,k1,k2⟩:=k;cases k2;have:us = #[u]:=Array.toList_inj.1 hu;subst this;exact k1
   | cons v' vs=>
     have h1:¬ us.size=1:=by simp at hl; omega
     rw[dif_neg h1];exact ⟨us.toList,rfl,k⟩
theorem qdg {fn:Func} {res:List (ARes × Bool)} {st:St} {a:Act} {r:CRes} (hH:HRel ρ H (j5 st.heap) w) (hE:∀ t v,A5 st.env t=some v→j9 ρ H v (a.tmps.getD t undef)) (hok:QD P fn.results.toList res=true) (e:qz p res st=some r) :
 ∃ rs os ρ' H' v,r = .ret rs os∧(results fn a.tmps).run P w = .ok v w∧HRel ρ' H' (j5 os) w∧Trans ρ H w ρ' H' w∧(∀ l,ρ' l ≠ .none→∃ k,l = .b k)∧A2 p ρ ρ'∧p≤os.length∧j9 ρ' H' (Xg rs) v:=by
 obtain ⟨vals,e1,e2⟩:=f7 e;obtain ⟨⟨vs,fm⟩,e3,e4⟩:=f7 e2;split at e4
 ·obtain ⟨⟨vs',os,M⟩,e5,e6⟩:=f7 e4;cases e6;obtain ⟨us,h1,h2⟩:=qh7 (P:=P) hH hE hok e1;obtain ⟨f1,f2,f3,f4⟩:=Q9 hH fm;have hv1:=vH hH vals vs fm e3 fm (fun _ h=>h) us h2;obtain ⟨n1,n2,n3,n4,n5⟩:=XC f1 (Ki p) e5;have hv2:=n2 us hv1;refine ⟨vs',os,_,_,(if h:us.toArray.size=1 then us.toArray[0] else .tuple us.toArray),rfl,?_,n1,f2.trans (Kg M),fun l hl=>?_,(f3.toP p).trans (Kh n3),?_,qta (us:=us.toArray) hv2⟩
  ·have:(fn.results.mapM (qw9 a.tmps)).run P w = .ok us.toArray w:=by
    rw[Array.mapM_eq_mapM_toList,Sem.run_map,h1];rfl
   unfold results;show Sem.run P ((fn.results.mapM (qw9 a.tmps)) >>= _) w=_;rw[Sem.run_bind,this];rfl
  ·obtain ⟨k,_,hk⟩:=YS n5 l hl; exact ⟨k,hk⟩
  ·have:=n3.length_le;rw[Xu] at this;omega
 ·cases e4
def qf5 (P:Program) (f:FuncId) (af:AFun):Bool:=S6 P f && match P.funcs[f]? with
 | some fn=>(match fn.body with | some c=>okC P fn.ntmps af.code c | none=>false) && QD P fn.results.toList af.res && decide (af.np≤fn.ntmps)
 | none=>false
def qnx (B:Ice) (P:Program) (f:FuncId) (e:CF→List V→List Obj→Option CRes):Prop:=
 S6 P f=true ∧ ∀ cf,Qp B P cf→∀ vs heap r,e cf vs heap=some r→∀ (ρ:Map) (H:Ice) (w:World) (args:Array Value),B.le H→HRel ρ H (j5 heap) w→f9 ρ H vs args.toList→
  (∀ l,ρ l ≠ .none→∃ k,k < heap.length∧l = .b k)→wu P f args w ρ H heap.length r
theorem qd9 {vs:List V} {args:Array Value} {n:Nat} (hB:B.le H) (k:f9 ρ H vs args.toList) (hn:vs.length≤n) :
 EnvRel B [] [] ρ H n ((List.range vs.length).zip vs) { tmps:=args++Array.replicate (n - args.size) undef,defers:=[] }:=by
 have hl:=k.length;simp only[Array.length_toList] at hl;refine ⟨by simp; omega,rfl,fun t v hg=>?_,hB,fun _ _ h=>by cases h⟩
 have hmap:args.toList=(List.range vs.length).map fun t=>args.getD t undef:=by
  apply List.ext_getElem?;intro j
  by_cases hj:j < args.size
  ·simp[hj,hl]
  ·simp[hj,hl]
 rw[hmap] at k;have:=qap k t v hg
 have ht:t < vs.length:=by
  have mem:∀ {ts:List Nat} {vs:List V},A5 (ts.zip vs) t=some v→t∈ts:=by
   intro ts
   induction ts with
   | nil=>intro vs h; simp[A5] at h
   | cons s ts ih=>
     intro vs h
     cases vs with
     | nil=>simp[A5] at h
     | cons x vs=>
       simp only[List.zip_cons_cons,A5] at h;split at h
       ·rename_i hs; subst hs; exact List.mem_cons_self ..
       ·exact List.mem_cons_of_mem _ (ih h)
  have:=mem hg
  simpa using this
 have:(args++Array.replicate (n - args.size) undef).getD t undef=args.getD t undef:=by
  simp only[Array.getD_eq_getD_getElem?];rw[Array.getElem?_append_left (by omega)]
 rw[this]
 assumption
end
end Go.Rf
