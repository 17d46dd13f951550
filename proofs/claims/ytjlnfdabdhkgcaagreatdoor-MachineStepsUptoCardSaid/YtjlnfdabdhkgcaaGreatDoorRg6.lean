/- Parts of the proof: RfLent, RfStep, RfCode, RfOnly. -/
import Derived.Test.YtjlnfdabdhkgcaaGreatDoorRg5

set_option linter.unusedSimpArgs false
set_option linter.unusedVariables false
set_option linter.unnecessarySimpa false
set_option linter.unusedSectionVars false
set_option linter.all false
namespace Go.Rf
variable {B:Ice} {ds:List Deferred} {fx:List (Nat × Value)}
def Ice.off (H:Ice) (S:Nat→Prop) [DecidablePred S]:Ice:=fun b o=>if S b then none else H b o
mutual
theorem ql0 {H:Ice} {S:Nat→Prop} [DecidablePred S] (hS:∀ b o k n,S b→H b o≠some (.int k n)):∀ (x:D) {v:Value},qaa x=true→S3 H x v→S3 (H.off S) x v
 | .bool _,_,_,k=>k
 | .int _ _,_,_,k=>k
 | .str _,_,_,k=>k
 | .nilp,_,_,k=>k
 | .nili,_,_,k=>k
 | .nilf,_,_,k=>k
 | .nils,_,_,k=>k
 | .agg cs,_,h,k=>by
   obtain ⟨vs,e,k1,k2⟩:=k;exact ⟨vs,e,WZ hS cs (by simpa [qaa] using h) k1,k2⟩
 | .sl xs,_,h,k=>by
   obtain ⟨a,c,e,k1,k2,k3⟩:=k;refine ⟨a,c,e,k1,k2,fun hx=>?_⟩;obtain ⟨b,off,sz,us,e1,k4,k5,k6⟩:=k3 hx;simp only[qaa,List.all_eq_true] at h
   have hint:∀ (xs:List D) (us:List Value),(∀ x∈xs,(match x with | .int _ _=>true | _=>false)=true)→B6 H xs us→(∀ u∈us,∃ k n,u = .int k n)∧B6 (H.off S) xs us:=by
    intro xs
    induction xs with
    | nil=>intro us _ hr; cases hr; exact ⟨fun u hu=>(List.not_mem_nil hu).elim,rfl⟩
    | cons x xs ih=>
      intro us hm hr;obtain ⟨u,us',rfl,r1,r2⟩:=hr;have hx:=hm x (List.mem_cons_self ..);obtain ⟨i1,i2⟩:=ih us' (fun y hy=>hm y (List.mem_cons_of_mem _ hy)) r2
      cases x with
      | int k n=>
        have r1:u = .int k n:=r1;subst r1;refine ⟨fun u hu=>?_,⟨_,_,rfl,rfl,i2⟩⟩;rcases List.mem_cons.1 hu with rfl | hu
        ·exact ⟨_,_,rfl⟩
        ·exact i1 u hu
      | _=>cases hx
   obtain ⟨h1,h2⟩:=hint xs us h k4;refine ⟨b,off,sz,us,e1,h2,k5,fun i v hi=>?_⟩;have hv:=k6 i v hi
   have hvi:∃ k n,v = .int k n:=by
    obtain ⟨u,hu,hm⟩:=List.mem_flatMap.1 (List.mem_of_getElem? hi);obtain ⟨k,n,rfl⟩:=h1 u hu;simp[Value.cells] at hm;exact ⟨k,n,hm⟩
   obtain ⟨k,n,rfl⟩:=hvi;unfold Ice.off;rw[if_neg (fun hs=>hS _ _ _ _ hs hv)];exact hv
 | .iface _ _,_,h,_=>by simp[qaa] at h
 | .box _,_,h,_=>by simp[qaa] at h
 | .fn _ _,_,h,_=>by simp[qaa] at h
 | .nilm,_,h,_=>by simp[qaa] at h
theorem WZ {H:Ice} {S:Nat→Prop} [DecidablePred S] (hS:∀ b o k n,S b→H b o≠some (.int k n)):∀ (xs:List D) {vs:List Value},Jn xs=true→B6 H xs vs→B6 (H.off S) xs vs
 | [],_,_,k=>k
 | x :: xs,_,h,k=>by
   obtain ⟨v,vs',e,k1,k2⟩:=k;simp only[Jn,Bool.and_eq_true] at h;exact ⟨v,vs',e,ql0 hS x h.1 k1,WZ hS xs h.2 k2⟩
end
theorem qhb {H:Ice} {x:D} {v:Value} (h:qbj x=true) (k:S3 H x v):∀ kk n,v ≠ .int kk n:=by
 intro kk n e;subst e
 cases x with
 | int _ _=>cases h
 | bool b=>cases k
 | str s=>obtain ⟨k,_⟩:=k; cases k
 | agg cs=>obtain ⟨_,k,_⟩:=k; cases k
 | iface t y=>obtain ⟨_,k,_⟩:=k; cases k
 | sl xs=>obtain ⟨_,_,k,_⟩:=k; cases k
 | box y=>obtain ⟨_,_,_,k,_⟩:=k; cases k
 | fn f cap=>obtain ⟨us,k,_⟩:=k; unfold XU at k; split at k <;> cases k
 | nilp=>cases k
 | nili=>cases k
 | nilf=>cases k
 | nilm=>obtain ⟨_,k⟩:=k; cases k
 | nils=>cases k
theorem qoi {H:Ice} {x:D} {u:Value} (h:x.cells.all qbj=true) (k:S3 H x u):∀ v∈u.cells.toList,∀ kk n,v ≠ .int kk n:=by
 have one':jB x=false→∀ v∈u.cells.toList,∀ kk n,v ≠ .int kk n:=fun ha v hv=>by
  rw[r9 (S3.one k ha)] at hv;simp at hv;subst hv;refine qhb (x:=x) ?_ k
  have:x.cells=[x]:=by cases x <;> first | rfl | cases ha
  rw[this] at h
  simpa using h
 cases x with
 | agg cs=>
   obtain ⟨vs,rfl,k1,_⟩:=k
   have:∀ (cs:List D) (vs:List Value),cs.all qbj=true→B6 H cs vs→∀ v∈vs,∀ kk n,v ≠ .int kk n:=by
    intro cs
    induction cs with
    | nil=>intro vs _ k v hv; cases k; cases hv
    | cons c cs ih=>
      intro vs hh k v hv;obtain ⟨u,vs',rfl,r1,r2⟩:=k;simp only[List.all_cons,Bool.and_eq_true] at hh;rcases List.mem_cons.1 hv with rfl | hv
      ·exact qhb hh.1 r1
      ·exact ih vs' hh.2 r2 v hv
   exact this cs vs (by simpa [D.cells] using h) k1
 | _=>exact one' rfl
section
variable {P:Program} {T:Tab} {cf:CF} {o:Oper} {a:Act} {w:World} {ρ:Map} {H:Ice} {h:Loc→Option Obj} {i N:Nat} {env:List (Nat × V)} {r:R}
open Classical
def qo1 (ρ:Map) (fm:List Loc) (b:Nat):Prop:=∃ l∈fm,(ρ l).has b
noncomputable def qQ (ρ:Map) (H:Ice) (w:World) (fm:List Loc):Ice:=fun b o=>if qo1 ρ fm b then (match w.cell? ⟨b,o,Option.none⟩ with | some (.int _ _)=>none | x=>x) else H b o
theorem qcj (hH:HRel ρ H h w) (fm:List Loc):H.le (qQ ρ H w fm):=fun b o v e=>by
 unfold qQ;rw[if_neg]
 ·exact e
 ·rintro ⟨l,_,hl⟩
  rw[hH.sep l b hl o] at e;cases e
theorem qyy (hH:HRel ρ H h w) (fm:List Loc) (b o:Nat) (v:Value) (e:qQ ρ H w fm b o=some v):w.cell? ⟨b,o,Option.none⟩=some v:=by
 unfold qQ at e;split at e
 ·split at e
  ·cases e
  ·exact e
 ·exact hH.ice b o v e
theorem q29 (hH:HRel ρ H h w) {x:V × Bool} {d:D} {m fm:List Loc} (e:brw h x=some (d,m)) (hm:∀ l∈m,l∈fm) {u:Value} (hu:m7 ρ H x.1 u):S3 (qQ ρ H w fm) d u:=by
 obtain ⟨v,fl⟩:=x;unfold brw at e;split at e
 ·rename_i y _ heq;cases heq; cases e;exact S3.mono (qcj hH fm) _ hu
 ·rename_i l sz off len heq;cases heq;split at e
  ·rename_i xs sz' hl;split at e
   ·rename_i hle;obtain ⟨ds,e1,e2⟩:=d9 e;split at e2
    ·rename_i hc;obtain ⟨hw,hni⟩:=hc;cases e2;have hxs:=KK e1;subst hxs;have hobj:=hH.objs l _ hl;have hu:I1 (ρ l) sz off len u:=hu
     cases hp:ρ l with
     | none=>rw[hp] at hu; exact hu.elim
     | dead=>rw[hp] at hobj; exact hobj.elim
     | blk q=>rw[hp] at hu; exact hu.elim
     | lol b1 b2 b3 b4 b5=>rw[hp] at hobj; exact hobj.elim
     | virt s=>
       rw[hp] at hu;obtain ⟨_,rfl,rfl,rfl⟩:=hu;exact ⟨Option.none,0,by simp,by simp,by simp,fun h=>absurd (by simp) h⟩
     | at_ b base s size=>
       rw[hp] at hobj hu;obtain ⟨rfl,arr,elem,fr,us,hb,hsize,hus,hj,hs,hc,_⟩:=hobj;obtain ⟨rfl,c,rfl,q1,q2,q3,q4,_⟩:=hu;have hd:B6 H ds us:=g9.toD hus;have hr:B6 H ((ds.drop off).take len) ((us.drop off).take len):=(hd.drop off).take len
       have hlen:((ds.drop off).take len).length=len:=by simp at hle; rw[List.length_take,List.length_drop]; omega
       refine ⟨some ⟨b,base + off * s.c,Option.none⟩,c,by rw[hlen],by omega,?_,fun _=>⟨b,base + off * s.c,s.c,_,rfl,B6.mono (qcj hH fm) _ hr,fun u hu=>hs u (List.mem_of_mem_drop (List.mem_of_mem_take hu)),fun j v hjv=>?_⟩⟩
       ·rw[hlen]; exact Nat.le_trans (Nat.mul_le_mul_left _ hw) q2
       ·have q:=JQ hjv;rw[YA off hs,List.getElem?_drop] at q;have hcell:=hc _ _ q
        have hcl:w.cell? ⟨b,base + off * s.c + j,Option.none⟩=some v:=by
         simp only[World.cell?,hb]
         simpa [Nat.add_assoc] using hcell
        have hv:∀ kk n,v ≠ .int kk n:=by
         obtain ⟨u,hu,hm⟩:=List.mem_flatMap.1 (List.mem_of_getElem? q);obtain ⟨e',he⟩:=List.getElem?_of_mem hu;obtain ⟨x,hx⟩:∃ x,ds[e']? = some x:=⟨_,List.getElem?_eq_getElem (by rw[hd.length]; exact (List.getElem?_eq_some_iff.1 he).1)⟩;obtain ⟨u',g1,g2⟩:=hd.get hx;rw[he] at g1;cases g1;exact qoi (List.all_eq_true.1 hni x (List.mem_of_getElem? hx)) g2 v hm
        unfold qQ;rw[if_pos ⟨l,hm l (List.mem_singleton_self _),by rw[hp]; rfl⟩,hcl]
        cases v <;> first | rfl | exact absurd rfl (hv _ _)
    ·cases e2
   ·cases e
  ·cases e
 ·cases e
theorem qol (hH:HRel ρ H h w) {fm:List Loc}:∀ {vs:List (V × Bool)} {ds:List D} {m:List Loc},qe9 h vs=some (ds,m)→(∀ l∈m,l∈fm)→∀ {us:List Value},g9 ρ H (vs.map (·.1)) us→B6 (qQ ρ H w fm) ds us
 | [],ds,m,e,_,us,k=>by cases e; exact k
 | x :: vs,ds,m,e,hm,us,k=>by
   simp only[qe9] at e;obtain ⟨⟨d,m1⟩,e1,e2⟩:=d9 e;obtain ⟨⟨ds',m2⟩,e3,e4⟩:=d9 e2;cases e4;obtain ⟨u,us',rfl,k1,k2⟩:=k;exact ⟨u,us',rfl,q29 hH e1 (fun l hl=>hm l (List.mem_append_left _ hl)) k1,qol hH e3 (fun l hl=>hm l (List.mem_append_right _ hl)) k2⟩
theorem qqh {f:FuncId} {args:List (V × Bool)} {us:List Value} (hcf:XN B P cf) (hB:B.le H) (hH:HRel ρ H h w) (hv:g9 ρ H (args.map (·.1)) us) (e:Ky cf f h args=some r)
 (hrun:(execOp a.eval o).run P w = .ok (.enter f ⟨us⟩) w):f7 P o a w ρ H h i r:=by
 obtain ⟨⟨ds',fm⟩,e1,e2⟩:=d9 e;have hd:=qol hH (fm:=fm) e1 (fun _ h=>h) hv;have hHc:HRel (fun _=>.none) (qQ ρ H w fm) (n7 []) w:=⟨qyy hH fm,fun l o ho=>by cases l <;> simp[n7] at ho,fun _ _=>.inl rfl,fun _ _ _ h=>h.elim,fun _ _ h=>h.elim⟩;have hd2:g9 (fun _=>.none) (qQ ρ H w fm) (ds'.map .d) us:=hd.toV;rw[hd2.fits,j6] at e2;obtain ⟨cr,e3,e4⟩:=d9 e2;have hc:=hcf f _ _ cr e3 (fun _=>.none) (qQ ρ H w fm) w ⟨us⟩ (fun b o v e=>qcj hH fm b o v (hB b o v e)) hHc hd2 (fun l hl=>(hl rfl).elim);intro K Q hpost;refine .inl ?_;unfold Oper.wp;rw[hrun];show Calls P f ⟨us⟩ w _;intro cs;obtain ⟨en,w',fr,hR,rest⟩:=hc cs;refine ⟨en,w',fr,?_,rest⟩
 cases en with
 | outgrown=>
   have hR:cr = .out:=hR;subst hR;cases e4;exact hpost
 | panicked chain=>
   obtain ⟨x,os',ρ',H',u,rfl,_⟩:=hR;cases e4
 | returned v=>
   obtain ⟨rs,os',ρ',H',rfl,ce,hx⟩:=hR
   cases os' with
   | cons _ _=>cases e4
   | nil=>
     obtain ⟨ds2,e5,e6⟩:=d9 e4;have hrs:=KK e5;subst hrs
     cases hsh:Jn ds2 with
     | false=>rw[hsh] at e6; cases e6
     | true=>
     rw[hsh] at e6;cases e6
     have hkeep:∀ b,b < w.heap.size→w'.heap[b]? = w.heap[b]? ∧ ∀ o,H' b o=qQ ρ H w fm b o:=fun b hb=>ce.trans.keep b hb fun l hl=>hl
     have hle:H.le (H'.off (qo1 ρ fm)):=fun b o v e=>by
      unfold Ice.off;rw[if_neg]
      ·rw[(hkeep b (hH.iceLt e)).2 o]; exact qcj hH fm b o v e
      ·rintro ⟨l,_,hl⟩
       rw[hH.sep l b hl o] at e;cases e
     have hni:∀ b o k n,qo1 ρ fm b→H' b o≠some (.int k n):=fun b o k n hb e=>by
      obtain ⟨l,h1,h2⟩:=hb;rw[(hkeep b (hH.lt h2)).2 o] at e;unfold qQ at e;rw[if_pos ⟨l,h1,h2⟩] at e;split at e
      ·cases e
      ·rename_i hne;exact hne _ _ e
     refine hpost ρ (H'.off (qo1 ρ fm)) v w' ⟨⟨?_,?_,hH.gone,hH.inj,?_⟩,⟨ce.trans.os,ce.trans.tape,ce.trans.output,ce.trans.size,?_,fun l b h=>.inr ⟨l,h⟩⟩,n9.refl _,L7.refl _ _,?_⟩
     ·intro b o v e;unfold Ice.off at e;split at e
      ·cases e
      ·exact ce.heap.ice b o v e
     ·intro l o ho
      exact (hH.objs l o ho).mono (n9.refl _) hle fun b hb=>(hkeep b (hH.lt hb)).1
     ·intro l b hb o;unfold Ice.off;split
      ·rfl
      ·rename_i hn;rw[(hkeep b (hH.lt hb)).2 o];unfold qQ;rw[if_neg hn];exact hH.sep l b hb o
     ·intro b hb hn;refine ⟨(hkeep b hb).1,fun o=>?_⟩
      have hno:¬ qo1 ρ fm b:=fun ⟨l,_,hl⟩=>hn l hl
      unfold Ice.off;rw[if_neg hno,(hkeep b hb).2 o];unfold qQ;rw[if_neg hno]
     ·
      cases ds2 with
      | nil=>
        obtain ⟨us2,hv2,hr⟩:=hx;exact ⟨us2,hv2,hr⟩
      | cons d1 ds3=>
        cases ds3 with
        | nil=>exact ql0 hni d1 (by simpa [Jn] using hsh) hx
        | cons d2 ds4=>
          obtain ⟨us2,hv2,hr⟩:=hx;exact ⟨us2,hv2,(WZ hni _ hsh (g9.toD (ds:=d1 :: d2 :: ds4) hr)).toV⟩
def qdt (f:FuncId) (args:List (Opnd × Bool)) (P:Program):Op→Bool:=Wc f args P
theorem q1d {f args} (hcf:XN B P cf) (hH:HRel ρ H h w) (hE:EnvRel B ds fx ρ H N env a) (hok:qdt f args P o.op=true) (e:j7 T cf i (.callB f args) (evO env) h=some r):f7 P o a w ρ H h i r:=by
 unfold qdt Wc at hok;split at hok
 ·rename_i c hop;simp only[Bool.and_eq_true] at hok;obtain ⟨⟨h1,h2⟩,h3⟩:=hok;obtain ⟨vs,e1,e2⟩:=d9 e;refine qqh hcf hE.base hH (zh hE h3 e1) e2 ?_;split at h1
  ·rename_i g hc;simp only[decide_eq_true_eq] at h1;subst h1;unfold execOp;simp only[hop,resolve,hc,Act.eval,Deferred.ofValue];rw[Sem.run_bind];show Result.andThen (.ok _ w) _=_;rw[Result.andThen_ok];simp only[invoke];rw[zJ h2]
   congr 2
   apply Array.toList_inj.1;simp
  ·cases h1
 ·cases hok
end
end Go.Rf

namespace Go.Rf
variable {B:Ice} {ds:List Deferred} {fx:List (Nat × Value)}
def q7r (P:Program):AOp→Op→Bool
 | .mv x=>qxx x
 | .own n=>qp0 n
 | .pick c x y=>qji c x y
 | .alloc z own=>vL z own P
 | .allocT t z own=>qam t z own P
 | .box n x=>qp6 n x P
 | .build z ps own=>qdu z ps own P
 | .buildSl n z len ps=>Yu n z len ps P
 | .load n ag x=>Wb n ag x P
 | .store n x y=>Wa n x y P
 | .nilCk x=>qdn x
 | .bin op x y=>qp7 op x y
 | .un op x=>qxv op x
 | .isN eq ifc x=>qp3 eq ifc x P
 | .eqB eq x y=>qp5 eq x y P
 | .conv (.int k) x=>qdr k x P
 | .conv .rune x=>qdq x P
 | .conv .b2s x=>qp8 x P
 | .mkI t x=>qp1 t x P
 | .mkF f cap=>Ys f cap
 | .mkSl n z len cap=>qjk n z len cap P
 | .slice n x lo hi=>qdk n x lo hi P
 | .fieldA off n ag x=>qal off n ag x P
 | .field off n ag x=>qdp off n ag x P
 | .idxA n x k=>qjo n x k P
 | .idxS x k=>qjm x k P
 | .extract x k=>Yt x k
 | .tass t ok z x=>qjh t ok z x P
 | .call f args=>Wc f args P
 | .callB f args=>qdt f args P
 | .callV f args=>qds f args
 | .inv m x args=>qp4 m x args P
 | .len s x=>qp2 s x P
 | .app n x y=>qjp n x y P
 | .mx x y=>qxw x y
 | .mn x y=>qxy x y
 | .lload x=>qmr x P
 | .lstore x y=>qg6 x y P
 | .lapp n x y=>qr6 n x y P
 | .idxF n x k=>qjn n x k P
 | .loadH x=>qmq x P
 | .panic x=>qdm x
 | .range x=>qdl x P
 | .next x=>qjj x
 | .mkMap=>qdo
 | .look s z x k=>qjl s z x k P
 | .upd s x k v=>qpz s x k v P
section
variable {P:Program} {T:Tab} {cf:CF} {o:Oper} {a:Act} {w:World} {ρ:Map} {H:Ice} {h:Loc→Option Obj} {i N:Nat} {env:List (Nat × V)} {r:R}
theorem YH {op:AOp} (hcf:XN B P cf) (hfs:∀ g vs hp r,cf g vs hp=some r→qR P g=true) (hH:HRel ρ H h w) (hE:EnvRel B ds fx ρ H N env a) (hN:∀ k,ρ (.n i k) = .none) (hok:q7r P op o.op=true)
 (e:j7 T cf i op (evO env) h=some r):f7 P o a w ρ H h i r:=by
 cases op with
 | mv x=>exact s_mv hH hE hok e
 | own n=>exact zgk hH hN hok e
 | pick c x y=>exact q6u hH hE hok e
 | alloc z own=>exact q1f hH hN hok e
 | allocT t z own=>exact qwz hH hN hok e
 | box n x=>exact zgr hH hE hN hok e
 | build z ps own=>exact q1e hH hE hN hok e
 | buildSl n z len ps=>exact qty hH hE hN hok e
 | load n ag x=>exact qpm hH hE hok e
 | store n x y=>exact qrx hH hE hok e
 | nilCk x=>exact q05 hH hE hok e
 | bin op x y=>exact zgs hH hE hok e
 | un op x=>exact s_un hH hE hok e
 | isN eq ifc x=>exact zgo hH hE hok e
 | eqB eq x y=>exact zgq hH hE hok e
 | conv k x=>
   cases k with
   | int k=>exact q1b hH hE hok e
   | rune=>exact q1a hH hE hok e
   | b2s=>exact zgt hH hE hok e
 | mkI t x=>exact zgl hH hE hok e
 | mkF f cap=>exact zgm hH hE hok e
 | mkSl n z len cap=>exact q6w hH hE hN hok e
 | slice n x lo hi=>exact q02 hH hE hok e
 | fieldA off n ag x=>exact qwy hH hE hok e
 | field off n ag x=>exact q09 hH hE hok e
 | idxA n x k=>exact q61 hH hE hok e
 | idxS x k=>exact q6z hH hE hok e
 | extract x k=>exact qtx hH hE hok e
 | tass t ok z x=>exact q6t hH hE hok e
 | call f args=>exact q62 hcf hH hE hN hok e
 | callB f args=>exact q1d hcf hH hE hok e
 | callV f args=>exact q1c hcf hH hE hN hfs hok e
 | inv m x args=>exact zgp hcf hH hE hN hok e
 | len s x=>exact zgn hH hE hok e
 | app n x y=>exact q3u hH hE (hN 0) hok e
 | mx x y=>exact s_mx hH hE hok e
 | mn x y=>exact s_mn hH hE hok e
 | lload x=>exact q08 hH hE hN hok e
 | lstore x y=>exact qwx hH hE hN hok e
 | lapp n x y=>exact q6y hH hE hN hok e
 | idxF n x k=>exact q60 hH hE hok e
 | loadH x=>exact q07 hH hE hok e
 | panic x=>exact q04 hH hE hok e
 | range x=>exact q03 hH hE hN hok e
 | next x=>exact q6v hH hE hok e
 | mkMap=>exact q06 hH hN hok e
 | look s z x k=>exact q6x hH hE hok e
 | upd s x k v=>exact zgj hH hE hok e
end
def okG (ops:Array Oper):Option (Nat × Bool)→Option (Nat × Bool)→Bool
 | none,none=>true
 | some (j,b),some (t,c)=>decide ((ops[j]?).bind (·.dst)=some t) && decide (b=c)
 | _,_=>false
def qdy (P:Program) (N:Nat) (ops:Array Oper) (o:Oper) (ai:AIns):Bool:=
 q7r P ai.op o.op && decide (o.dst=ai.dst) && (match ai.dst with | some t=>decide (t < N) | none=>true) && okG ops o.guard ai.guard
section
variable {P:Program} {T:Tab} {cf:CF} {N:Nat} {ops:Array Oper}
theorem vE {ρ H env a} {o:Oper} {g:Option (Nat × Bool)} {b:Bool} (hE:EnvRel B ds fx ρ H N env a) (hok:okG ops o.guard g=true) (e:wanted env g=some b):Region.wanted o (yielded ops a.tmps)=b:=by
 unfold okG at hok;split at hok
 ·rename_i hg;cases e;simp[Region.wanted,hg]
 ·rename_i j b' t c hg;simp only[Bool.and_eq_true,decide_eq_true_eq] at hok;obtain ⟨h1,rfl⟩:=hok;simp only[wanted] at e;unfold Region.wanted;rw[hg];simp only;unfold yielded;rw[h1];simp only[Option.bind_some];split at e
  ·rename_i q hq;cases e;have hv:a.tmps.getD t undef = .bool q:=hE.rel t _ hq
   have:a.tmps[t]? = some (.bool q):=by
    rw[Array.getD_eq_getD_getElem?] at hv
    cases ht:a.tmps[t]? with
    | none=>rw[ht] at hv; cases hv
    | some x=>rw[ht] at hv; simp at hv; rw[hv]
   rw[this];rfl
  ·rename_i hq;cases e;obtain ⟨us,hv,hu⟩:=hE.rel t _ hq;cases hu
   cases ht:a.tmps[t]? with
   | none=>rfl
   | some x=>
     rw[Array.getD_eq_getD_getElem?,ht] at hv;simp at hv;subst hv;rfl
  ·cases e
 ·cases hok
def zl0 (B:Ice) (ds:List Deferred) (fx:List (Nat × Value)) (ρ:Map) (H:Ice) (w:World) (N:Nat) (L:List AIns) (Q:Exit→Act→World→Prop):RR→Prop
 | .nrm s'=>∀ ρ' H' a' w',HRel ρ' H' s'.h w'→EnvRel B ds fx ρ' H' N s'.env a'→Trans ρ H w ρ' H' w'→n9 ρ ρ'→(∀ l,ρ l = .none→ρ' l ≠ .none→∃ ai∈L,∃ k,l = .n ai.i k)→Q .normal a' w'
 | .pan _ v s'=>∀ ρ' H' a' w' u,HRel ρ' H' s'.h w'→a'.defers=ds→(∀ t u,(t,u)∈fx→a'.tmps.getD t undef=u)→Trans ρ H w ρ' H' w'→n9 ρ ρ'→(∀ l,ρ l = .none→ρ' l ≠ .none→∃ ai∈L,∃ k,l = .n ai.i k)→m7 ρ' H' v u→Q (.panic [{ v:=u,recovered:=false }]) a' w'
 | .out=>LetsOut Q
theorem Yl (hcf:XN B P cf) (hfs:∀ g vs hp r,cf g vs hp=some r→qR P g=true) {Q:Exit→Act→World→Prop}:∀ (L:List AIns) (s:RS) (rs:List Rec) (rr:RR) (rs':List Rec),
 (∀ ai∈L,∃ o,ops[ai.i]? = some o∧qdy P N ops o ai=true)→(L.map (·.i)).Nodup→(∀ ai∈L,∀ x∈fx,ai.dst≠some x.1)→XX T cf L s rs=some (rr,rs')→
 ∀ ρ H w a,HRel ρ H s.h w→EnvRel B ds fx ρ H N s.env a→(∀ ai∈L,∀ k,ρ (.n ai.i k) = .none)→zl0 B ds fx ρ H w N L Q rr→wpOps P ops Q (L.map (·.i)) a w
 | [],s,rs,rr,rs',_,_,_,e,ρ,H,w,a,hH,hE,_,hp=>by
   cases e;exact hp ρ H a w hH hE (Trans.refl ..) (n9.refl _) (fun l h1 h2=>(h2 h1).elim)
 | ai :: L,s,rs,rr,rs',hL,hnd,hav,e,ρ,H,w,a,hH,hE,hN,hp=>by
   obtain ⟨o,ho,hok⟩:=hL ai (List.mem_cons_self ..);simp only[qdy,Bool.and_eq_true,decide_eq_true_eq] at hok;obtain ⟨⟨⟨k1,k2⟩,k3⟩,k4⟩:=hok;rw[List.map_cons,List.nodup_cons] at hnd;simp only[XX] at e;obtain ⟨x,e1,e2⟩:=d9 e;simp only[step] at e1;obtain ⟨b,e3,e4⟩:=d9 e1;have hw:=vE (ops:=ops) (o:=o) hE k4 e3
   have hdst:∀ t,o.dst=some t→t < N ∧ ∀ x∈fx,x.1≠t:=fun t ht=>by
    rw[k2] at ht;refine ⟨?_,fun x hx he=>hav ai (List.mem_cons_self ..) x hx (by rw[ht,he])⟩;rw[ht] at k3
    simpa using k3
   simp only[List.map_cons,wpOps,ho];rw[hw]
   cases b with
   | false=>
     simp only[k8] at e4;cases e4;simp only[Bool.false_eq_true,if_false];refine Yl hcf hfs L _ _ rr rs' (fun x hx=>hL x (List.mem_cons_of_mem _ hx)) hnd.2 (fun y hy=>hav y (List.mem_cons_of_mem _ hy)) e2 ρ H w _ hH (by rw[← k2]; exact hE.put o.dst hdst ⟨[],rfl,rfl⟩) (fun x hx=>hN x (List.mem_cons_of_mem _ hx)) ?_
     cases rr with
     | nrm s'=>exact fun ρ' H' a' w' q1 q2 q3 q4 q5=>hp ρ' H' a' w' q1 q2 q3 q4 (fun l h1 h2=>by obtain ⟨x,hx,h3⟩:=q5 l h1 h2; exact ⟨x,List.mem_cons_of_mem _ hx,h3⟩)
     | pan j v s'=>exact fun ρ' H' a' w' u q1 q2 q2' q3 q4 q5=>hp ρ' H' a' w' u q1 q2 q2' q3 q4 (fun l h1 h2=>by obtain ⟨x,hx,h3⟩:=q5 l h1 h2; exact ⟨x,List.mem_cons_of_mem _ hx,h3⟩)
     | out=>exact hp
   | true=>
     simp only[j6] at e4;obtain ⟨r,e5,e6⟩:=d9 e4;cases e6;simp only[if_true];have hs:=YH (o:=o) hcf hfs hH hE (hN ai (List.mem_cons_self ..)) k1 e5;refine hs _ _ ?_
     cases r with
     | out=>
       simp only[qlw,qt8] at e2;cases e2;exact hp
     | pan ev=>
       intro ρ' H' v w' hpost;simp only[qlw,qt8] at e2;cases e2;exact hp ρ' H' a w' v hpost.heap hE.defers hE.fix hpost.trans hpost.stays (fun l h1 h2=>by obtain ⟨k,hk⟩:=hpost.new l h1 h2; exact ⟨ai,List.mem_cons_self ..,k,hk⟩) hpost.val
     | ok ev=>
       intro ρ' H' v w' hpost;simp only[qlw,qt8] at e2;have hle:=hpost.trans.le hH;refine Yl hcf hfs L _ _ rr rs' (fun x hx=>hL x (List.mem_cons_of_mem _ hx)) hnd.2 (fun y hy=>hav y (List.mem_cons_of_mem _ hy)) e2 ρ' H' w' _ hpost.heap (by rw[← k2]; exact (hE.mono hpost.stays hle).put o.dst hdst hpost.val) (fun x hx k=>?_) ?_
       ·cases hq:ρ' (.n x.i k) with
        | none=>rfl
        | _=>
          exfalso
          obtain ⟨k',hk'⟩:=hpost.new _ (hN x (List.mem_cons_of_mem _ hx) k) (by rw[hq]; intro h; cases h)
          injection hk' with hk' _
          exact hnd.1 (hk' ▸ List.mem_map_of_mem hx)
       ·have new:∀ {ρ2:Map},(∀ l,ρ' l = .none→ρ2 l ≠ .none→∃ x∈L,∃ k,l=Loc.n x.i k)→∀ l,ρ l = .none→ρ2 l ≠ .none→∃ x∈ai :: L,∃ k,l=Loc.n x.i k:=fun q5 l h1 h2=>by
         by_cases h3:ρ' l = .none
         ·obtain ⟨x,hx,h4⟩:=q5 l h3 h2; exact ⟨x,List.mem_cons_of_mem _ hx,h4⟩
         ·obtain ⟨k,hk⟩:=hpost.new l h1 h3; exact ⟨ai,List.mem_cons_self ..,k,hk⟩
        cases rr with
        | nrm s'=>exact fun ρ2 H2 a2 w2 q1 q2 q3 q4 q5=>hp ρ2 H2 a2 w2 q1 q2 (hpost.trans.trans q3) (hpost.stays.trans q4) (new q5)
        | pan j v s'=>exact fun ρ2 H2 a2 w2 u q1 q2 q2' q3 q4 q5=>hp ρ2 H2 a2 w2 u q1 q2 q2' (hpost.trans.trans q3) (hpost.stays.trans q4) (new q5)
        | out=>exact hp
end
end Go.Rf

namespace Go.Rf
variable {B:Ice} {ds:List Deferred} {fx:List (Nat × Value)}
structure StRel (B:Ice) (ds:List Deferred) (fx:List (Nat × Value)) (ρ:Map) (H:Ice) (N:Nat) (st:St) (a:Act) (w:World):Prop where
 heap:HRel ρ H (n7 st.heap) w
 env:EnvRel B ds fx ρ H N st.env a
 only:∀ l,ρ l ≠ .none→∃ k,k < st.heap.length∧l = .b k
def F5 (p:Nat) (ρ ρ':Map):Prop:=∀ k,k < p→ρ (.b k) ≠ .none→(ρ' (.b k)).core=(ρ (.b k)).core ∨ ρ' (.b k) = .dead
theorem F5.refl (p ρ):F5 p ρ ρ:=fun _ _ _=>.inl rfl
theorem n9.toP {ρ ρ':Map} (h:n9 ρ ρ') (p:Nat):F5 p ρ ρ':=fun _ _ hk=>h _ hk
theorem F5.trans {p ρ ρ1 ρ2} (h:F5 p ρ ρ1) (k:F5 p ρ1 ρ2):F5 p ρ ρ2:=fun j hj hn=>by
 rcases h j hj hn with e | e
 ·rcases k j hj (fun h=>hn (Place.core_none (by rw[← e,h]; rfl))) with e' | e'
  ·exact .inl (e'.trans e)
  ·exact .inr e'
 ·rcases k j hj (by rw[e]; simp) with e' | e'
  ·exact .inr (Place.core_dead (by rw[e',e]; rfl))
  ·exact .inr e'
theorem qxm {n k:Nat} (h:k < n):(Yr n)[k]? = some (.b k):=by simp[Yr,h]
theorem Yq (n:Nat):(Yr n).Nodup:=by
 unfold Yr;rw[List.Nodup,List.pairwise_map];exact List.Pairwise.imp (fun h e=>h (by injection e)) List.nodup_range
theorem Jv (n:Nat):(Yr n).length=n:=by simp[Yr]
theorem Yn {ρ:Map} {H:Ice} {w:World} (M:List Loc):Trans ρ H w (xx ρ M) H w:=⟨rfl,rfl,rfl,Nat.le_refl _,fun _ _ _=>⟨rfl,fun _=>rfl⟩,fun l b h=>by
 cases l with
 | n i k=>cases h
 | b k=>
   simp only[xx] at h;split at h
   ·rename_i l _; exact .inr ⟨l,h⟩
   ·cases h⟩
theorem Yo {ρ:Map} {p:Nat} {M:List Loc} (h:Yr p <+: M):F5 p ρ (xx ρ M):=fun k hk _=>.inl (congrArg _ (Jr (Xd h (qxm hk))))
theorem qaj {ρ:Map} {M:List Loc} {n:Nat} (hn:n=M.length):∀ l,xx ρ M l ≠ .none→∃ k,k < n∧l = .b k:=fun l hl=>by
 cases l with
 | n i k=>exact (hl rfl).elim
 | b k=>
   refine ⟨k,?_,rfl⟩
   by_cases hk:k < n
   ·exact hk
   ·exfalso
    apply hl;have:M[k]? = none:=List.getElem?_eq_none_iff.2 (by omega);simp only[xx,this]
theorem qee {ρ:Map} {H:Ice} {N:Nat} {env:List (Nat × V)} {a:Act} (hE:EnvRel B ds fx ρ H N env a):∀ keep:List Nat,g9 ρ H (xy env keep).2 ((xy env keep).1.map fun t=>a.tmps.getD t undef)
 | []=>rfl
 | t :: ks=>by
   have ih:=qee hE ks;simp only[xy]
   cases hg:B7 env t with
   | none=>exact ih
   | some v=>
     cases hk:xy env ks with
     | mk ts vs=>
       rw[hk] at ih;exact ⟨_,_,rfl,hE.rel t v hg,ih⟩
theorem qb8 {ρ:Map} {H:Ice} {f:Nat→Value}:∀ {ts:List Nat} {vs:List V},g9 ρ H vs (ts.map f)→∀ t v,B7 (ts.zip vs) t=some v→m7 ρ H v (f t)
 | [],vs,k,t,v,e=>by simp[B7] at e
 | s :: ts,vs,k,t,v,e=>by
   cases vs with
   | nil=>simp[g9] at k
   | cons x vs=>
     obtain ⟨u,us,hu,k1,k2⟩:=k;simp only[List.map_cons,List.cons.injEq] at hu;obtain ⟨rfl,rfl⟩:=hu;simp only[List.zip_cons_cons,B7] at e;split at e
     ·rename_i h; cases e; subst h; exact k1
     ·exact qb8 k2 t v e
theorem WH {ρ:Map} {H:Ice} {N p:Nat} {keep:List Nat} {env:List (Nat × V)} {h:Loc→Option Obj} {a:Act} {w:World} {st:St} (hH:HRel ρ H h w) (hE:EnvRel B ds fx ρ H N env a) (e:kG p keep env h=some st) :
 ∃ M,StRel B ds fx (xx ρ M) H N st a w∧F5 p ρ (xx ρ M)∧Trans ρ H w (xx ρ M) H w∧p≤st.heap.length:=by
 obtain ⟨⟨vs',os,M⟩,e1,e2⟩:=d9 e;cases e2;obtain ⟨n1,n2,n3,n4,n5⟩:=JB hH (Yq p) e1;have hk:=n2 _ (qee hE keep);refine ⟨M,⟨n1,⟨hE.size,hE.defers,fun t v hg=>?_,hE.base,hE.fix⟩,qaj n5⟩,Yo n3,Yn M,?_⟩
 ·exact qb8 hk t v hg
 ·have:=n3.length_le;rw[Jv] at this;simp only;omega
def Ko (B:Ice) (ds:List Deferred) (fx:List (Nat × Value)) (ρ:Map) (H:Ice) (w:World) (N p:Nat) (Q:Exit→Act→World→Prop):Ex × St→Prop
 | (.nrm,st)=>∀ ρ' H' a' w',StRel B ds fx ρ' H' N st a' w'→Trans ρ H w ρ' H' w'→F5 p ρ ρ'→p≤st.heap.length→Q .normal a' w'
 | (.exit id,st)=>∀ ρ' H' a' w',StRel B ds fx ρ' H' N st a' w'→Trans ρ H w ρ' H' w'→F5 p ρ ρ'→p≤st.heap.length→Q (.exit id) a' w'
 | (.ret,st)=>∀ ρ' H' a' w',StRel B ds fx ρ' H' N st a' w'→Trans ρ H w ρ' H' w'→F5 p ρ ρ'→p≤st.heap.length→Q .ret a' w'
 | (.pan v,st)=>∀ ρ' H' a' w' u,HRel ρ' H' (n7 st.heap) w'→(∀ l,ρ' l ≠ .none→∃ k,k < st.heap.length∧l = .b k)→m7 ρ' H' v u→a'.defers=ds→(∀ t u,(t,u)∈fx→a'.tmps.getD t undef=u)→Trans ρ H w ρ' H' w'→F5 p ρ ρ'→p≤st.heap.length→Q (.panic [{ v:=u,recovered:=false }]) a' w'
 | (.out,_)=>LetsOut Q
theorem Ko.shift {ρ ρ1:Map} {H H1:Ice} {w w1:World} {N p:Nat} {Q:Exit→Act→World→Prop} {x:Ex × St} (h:Ko B ds fx ρ H w N p Q x) (ht:Trans ρ H w ρ1 H1 w1) (hs:F5 p ρ ρ1):Ko B ds fx ρ1 H1 w1 N p Q x:=by
 obtain ⟨e,st⟩:=x
 cases e with
 | nrm=>exact fun ρ' H' a' w' q1 q2 q3 q4=>h ρ' H' a' w' q1 (ht.trans q2) (hs.trans q3) q4
 | exit id=>exact fun ρ' H' a' w' q1 q2 q3 q4=>h ρ' H' a' w' q1 (ht.trans q2) (hs.trans q3) q4
 | ret=>exact fun ρ' H' a' w' q1 q2 q3 q4=>h ρ' H' a' w' q1 (ht.trans q2) (hs.trans q3) q4
 | pan v=>exact fun ρ' H' a' w' u q1 q2 q3 q3' q3x q4 q5 q6=>h ρ' H' a' w' u q1 q2 q3 q3' q3x (ht.trans q4) (hs.trans q5) q6
 | out=>exact h
theorem qn4 {ρ:Map} {H:Ice} {p:Nat} {v:V} {u:Value} {h:Loc→Option Obj} {w:World} {ex:Ex} {st:St} (hH:HRel ρ H h w) (hv:m7 ρ H v u) (e:qn5 p v h=some (ex,st)) :
 ∃ x ρ' H',ex = .pan x∧HRel ρ' H' (n7 st.heap) w∧(∀ l,ρ' l ≠ .none→∃ k,k < st.heap.length∧l = .b k)∧m7 ρ' H' x u∧Trans ρ H w ρ' H' w∧F5 p ρ ρ'∧p≤st.heap.length:=by
 obtain ⟨⟨x,fm⟩,e1,e2⟩:=d9 e;split at e2
 ·obtain ⟨⟨vs',os,M⟩,e3,e4⟩:=d9 e2;cases e4;obtain ⟨f1,f2,f3,f4⟩:=Y7 hH fm;obtain ⟨n1,n2,n3,n4,n5⟩:=JB f1 (Yq p) e3;refine ⟨.d x,xx (jl ρ fm) M,kA ρ H w fm,rfl,n1,fun l hl=>?_,(QG hH 24 v x fm e1).2.2 fm (fun _ h=>h) u hv,f2.trans (Yn M),(f3.toP p).trans (Yo n3),?_⟩
  ·exact qaj n5 l hl
  ·have:=n3.length_le;rw[Jv] at this;simp only;omega
 ·cases e2
end Go.Rf

namespace Go.Rf
mutual
def Y6:V→List Loc
 | .d _=>[]
 | .ref l _ _ _=>[l]
 | .ptr l _ _=>[l]
 | .agg cs=>vO cs
 | .iface _ x=>Y6 x
 | .fn _ cs=>vO cs
 | .tup cs=>vO cs
 | .map l=>[l]
 | .iter l=>[l]
 | .junk=>[]
def vO:List V→List Loc
 | []=>[]
 | v :: vs=>Y6 v++vO vs
end
def qbo:List (D × V)→List Loc
 | []=>[]
 | (_,v) :: es=>Y6 v++qbo es
def qbn:Obj→List Loc
 | .arr xs _=>vO xs
 | .map es=>qbo es
 | _=>[]
mutual
theorem m7.congr {ρ ρ':Map} {H:Ice}:∀ (x:V) {v:Value},(∀ l∈Y6 x,ρ l = ρ' l)→m7 ρ H x v→m7 ρ' H x v
 | .d _,_,_,k=>k
 | .ref l _ _ _,_,h,k=>by
   simp only[m7] at k ⊢;rw[← h l (by simp[Y6])]; exact k
 | .ptr l _ _,_,h,k=>by
   simp only[m7] at k ⊢;rw[← h l (by simp[Y6])]; exact k
 | .map l,_,h,k=>by
   simp only[m7] at k ⊢;rw[← h l (by simp[Y6])]; exact k
 | .iter l,_,h,k=>by
   simp only[m7] at k ⊢;rw[← h l (by simp[Y6])]; exact k
 | .agg cs,_,h,k=>by
   obtain ⟨vs,e,k,n⟩:=k;exact ⟨vs,e,g9.congr cs (fun l hl=>h l (by simpa [Y6] using hl)) k,n⟩
 | .iface _ x,_,h,k=>by
   obtain ⟨u,e,k⟩:=k;exact ⟨u,e,m7.congr x (fun l hl=>h l (by simpa [Y6] using hl)) k⟩
 | .fn _ cs,_,h,k=>by
   obtain ⟨us,e,k⟩:=k;exact ⟨us,e,g9.congr cs (fun l hl=>h l (by simpa [Y6] using hl)) k⟩
 | .tup cs,_,h,k=>by
   obtain ⟨us,e,k⟩:=k;exact ⟨us,e,g9.congr cs (fun l hl=>h l (by simpa [Y6] using hl)) k⟩
 | .junk,_,_,k=>k
theorem g9.congr {ρ ρ':Map} {H:Ice}:∀ (xs:List V) {vs:List Value},(∀ l∈vO xs,ρ l = ρ' l)→g9 ρ H xs vs→g9 ρ' H xs vs
 | [],_,_,k=>k
 | x :: xs,_,h,k=>by
   obtain ⟨v,vs',e,k1,k2⟩:=k;exact ⟨v,vs',e,m7.congr x (fun l hl=>h l (by simp[vO,hl])) k1,g9.congr xs (fun l hl=>h l (by simp[vO,hl])) k2⟩
end
theorem ERels.congr {ρ ρ':Map} {H:Ice}:∀ (es:List (D × V)) {ents:List MapEntry},(∀ l∈qbo es,ρ l = ρ' l)→All2 (qfs ρ H) es ents→All2 (qfs ρ' H) es ents
 | [],_,_,.nil=>.nil
 | (_,v) :: es,_,h,.cons ⟨k1,k2,k3⟩ k=>.cons ⟨k1,m7.congr v (fun l hl=>h l (by simp[qbo,hl])) k2,k3⟩ (ERels.congr es (fun l hl=>h l (by simp[qbo,hl])) k)
theorem A6.congr {ρ ρ':Map} {H:Ice} {w:World} {o:Obj} {p:Place} (h:∀ l∈qbn o,ρ l = ρ' l) (k:A6 ρ H w o p):A6 ρ' H w o p:=by
 cases o with
 | arr xs sz=>
   cases p with
   | virt s=>exact k
   | at_ b base s size=>
     obtain ⟨e,arr,elem,fr,us,h1,h2,h3,h4⟩:=k;exact ⟨e,arr,elem,fr,us,h1,h2,g9.congr xs h h3,h4⟩
   | _=>exact k.elim
 | map es=>
   cases p with
   | blk r=>
     obtain ⟨ents,clock,h1,h2⟩:=k;exact ⟨ents,clock,h1,ERels.congr es h h2⟩
   | _=>exact k.elim
 | iter s pos=>
   cases p with
   | blk r=>exact k
   | _=>exact k.elim
 | lol ls=>cases p <;> exact k
 | dead=>cases p <;> exact k.elim
mutual
theorem ZD {f:Loc→Loc} {G:Loc→Prop} (hf:∀ l,G (f l)):∀ (v:V),∀ l∈Y6 (V.mapL f v),G l
 | .d _,l,h=>by simp[V.mapL,Y6] at h
 | .ref _ _ _ _,l,h=>by simp only[V.mapL,Y6,List.mem_singleton] at h; subst h; exact hf _
 | .ptr _ _ _,l,h=>by simp only[V.mapL,Y6,List.mem_singleton] at h; subst h; exact hf _
 | .map _,l,h=>by simp only[V.mapL,Y6,List.mem_singleton] at h; subst h; exact hf _
 | .iter _,l,h=>by simp only[V.mapL,Y6,List.mem_singleton] at h; subst h; exact hf _
 | .agg cs,l,h=>vN hf cs l (by simpa [V.mapL,Y6] using h)
 | .iface _ x,l,h=>ZD hf x l (by simpa [V.mapL,Y6] using h)
 | .fn _ cs,l,h=>vN hf cs l (by simpa [V.mapL,Y6] using h)
 | .tup cs,l,h=>vN hf cs l (by simpa [V.mapL,Y6] using h)
 | .junk,l,h=>by simp[V.mapL,Y6] at h
theorem vN {f:Loc→Loc} {G:Loc→Prop} (hf:∀ l,G (f l)):∀ (vs:List V),∀ l∈vO (zi f vs),G l
 | [],l,h=>by simp[zi,vO] at h
 | v :: vs,l,h=>by
   simp only[zi,vO,List.mem_append] at h;rcases h with h | h
   ·exact ZD hf v l h
   ·exact vN hf vs l h
end
theorem qd9 {f:Loc→Loc} {G:Loc→Prop} (hf:∀ l,G (f l)):∀ (es:List (D × V)),∀ l∈qbo (XR f es),G l
 | [],l,h=>by simp[XR,qbo] at h
 | (_,v) :: es,l,h=>by
   simp only[XR,qbo,List.mem_append] at h;rcases h with h | h
   ·exact ZD hf v l h
   ·exact qd9 hf es l h
theorem qqg {f:Loc→Loc} {G:Loc→Prop} (hf:∀ l,G (f l)) {o o':Obj} (e:o.mapL f=some o'):∀ l∈qbn o',G l:=by
 cases o <;> simp only[Obj.mapL,Option.some.injEq,reduceCtorEq] at e <;> subst e
 ·exact vN hf _
 ·exact qd9 hf _
 ·intro l h; simp[qbn] at h
 ·intro l h; simp[qbn] at h
theorem vZ:∀ (ws:List (Loc × Option Obj)) (h:Loc→Option Obj) (l:Loc),l∈ws.map (·.1)→∃ x,(l,x)∈ws ∧ ∀ h',j4 h' ws l=x
 | [],_,_,e=>by simp at e
 | (l',o) :: ws,h,l,e=>by
   by_cases hl:l∈ws.map (·.1)
   ·obtain ⟨x,h1,h2⟩:=vZ ws h l hl;exact ⟨x,List.mem_cons_of_mem _ h1,fun h'=>h2 _⟩
   ·have e':l=l':=by
     simp only[List.map_cons,List.mem_cons] at e;rcases e with e | e
     ·exact e
     ·exact (hl e).elim
    subst e';refine ⟨o,List.mem_cons_self ..,fun h'=>?_⟩
    have miss:∀ (ws:List (Loc × Option Obj)) (h:Loc→Option Obj),l ∉ ws.map (·.1)→j4 h ws l=h l:=by
     intro ws
     induction ws with
     | nil=>intros; rfl
     | cons x ws ih=>
       intro h hn;obtain ⟨a,b⟩:=x;simp only[List.map_cons,List.mem_cons,not_or] at hn;show j4 (fun l'=>if l'=a then b else h l') ws l=h l;rw[ih _ hn.2,if_neg hn.1]
    show j4 (fun l'=>if l'=l then o else h' l') ws l=o;rw[miss ws _ hl,if_pos rfl]
theorem N2:∀ (ws:List (Loc × Option Obj)) (h:Loc→Option Obj) (l:Loc),l ∉ ws.map (·.1)→j4 h ws l=h l
 | [],_,_,_=>rfl
 | (a,b) :: ws,h,l,hn=>by
   simp only[List.map_cons,List.mem_cons,not_or] at hn;show j4 (fun l'=>if l'=a then b else h l') ws l=h l;rw[N2 ws _ l hn.2,if_neg hn.1]
theorem qef {i:Nat} {l:Loc}:l.isOf i=true ↔ ∃ k,l = .n i k:=by
 cases l with
 | b n=>simp[Loc.isOf]
 | n j k=>simp only[Loc.isOf,beq_iff_eq,Loc.n.injEq,exists_and_left,exists_eq',and_true]
def wh (p:Loc→Bool) (ρ:Map):Map:=fun l=>if p l=true then ρ l else match ρ l with
 | .none=>.none
 | _=>.dead
theorem Zx {p:Loc→Bool} {h:Loc→Option Obj} {l:Loc} (e:p l=true):only p h l=h l:=by simp only[only,e,j6]
theorem Jy {p:Loc→Bool} {h:Loc→Option Obj} {l:Loc} (e:p l=false):only p h l=none:=by simp only[only,e,k8]
theorem qg5 {p:Loc→Bool} {ρ:Map} {l:Loc} (e:p l=true):wh p ρ l = ρ l:=by simp only[wh,e,if_true]
theorem zf {p:Loc→Bool} {ρ:Map} {l:Loc} {b:Nat} (e:(wh p ρ l).has b):p l=true∧(ρ l).has b:=by
 unfold wh at e;split at e
 ·rename_i h; exact ⟨h,e⟩
 ·split at e <;> cases e
theorem qdj {p:Loc→Bool} {ρ:Map} {l:Loc} (e:ρ l = .none):wh p ρ l = .none:=by
 unfold wh;split
 ·exact e
 ·rw[e]
theorem qmm (p:Loc→Bool) (ρ:Map) (l:Loc):wh p ρ l = ρ l∨(wh p ρ l = .dead ∧ ρ l ≠ .none):=by
 unfold wh;split
 ·exact .inl rfl
 ·cases ρ l <;> simp
theorem QA (p:Loc→Bool) (ρ:Map):n9 ρ (wh p ρ):=fun l _=>(qmm p ρ l).imp (congrArg _) (·.1)
theorem HRel.only {ρ:Map} {H:Ice} {h:Loc→Option Obj} {w:World} (k:HRel ρ H h w) (p:Loc→Bool):HRel (wh p ρ) H (Rf.only p h) w where
 ice:=k.ice
 objs:=fun l o e=>by
  cases hp:p l with
  | false=>rw[Jy hp] at e; cases e
  | true=>
    rw[Zx hp] at e;rw[qg5 hp];exact (k.objs l o e).mono (QA p ρ) (fun _ _ _ e=>e) (fun _ _=>rfl)
 gone:=fun l e=>by
  rcases qmm p ρ l with h | h
  ·cases hp:p l with
   | true=>rw[Zx hp] at e; rw[h]; exact k.gone l e
   | false=>
     unfold wh at h ⊢;simp only[hp,Bool.false_eq_true,if_false] at h ⊢;split
     ·exact .inl rfl
     ·exact .inr rfl
  ·exact .inr h.1
 inj:=fun l l' b e e'=>k.inj l l' b (zf e).2 (zf e').2
 sep:=fun l b e=>k.sep l b (zf e).2
theorem qml (p:Loc→Bool) (ρ:Map) (H:Ice) (w:World):Trans ρ H w (wh p ρ) H w:=
 ⟨rfl,rfl,rfl,Nat.le_refl _,fun _ _ _=>⟨rfl,fun _=>rfl⟩,fun l _ e=>.inr ⟨l,(zf e).2⟩⟩
def qbd (ρ ρ':Map) (q:Loc→Bool):Map:=fun l=>if q l=true then ρ' l else ρ l
theorem Post.widen {ρ ρ':Map} {H H':Ice} {h:Loc→Option Obj} {w w':World} {i:Nat} {e:Eff} {v:Value} {A:List Loc} (hH:HRel ρ H h w) (hN:∀ k,ρ (.n i k) = .none)
 (k:Post (wh A.contains ρ) H (Rf.only A.contains h) w i e ρ' H' v w') (hw:okW A i e.wr=true)
 (h3:∀ l∈Y6 e.v,l∈A∨l.isOf i=true) (h4:∀ l o,(l,some o)∈e.wr→∀ l'∈qbn o,l'∈A∨l'.isOf i=true) :
 Post ρ H h w i e (qbd ρ ρ' fun l=>A.contains l || l.isOf i) H' v w':=by
 simp only[okW,Bool.and_eq_true,List.all_eq_true,Bool.or_eq_true,List.contains_iff_mem] at hw;obtain ⟨h1,h2⟩:=hw
 let q:Loc→Bool:=fun l=>A.contains l || l.isOf i
 have hq:∀ l,q l=true↔(l∈A∨l.isOf i=true):=fun l=>by simp[q]
 show Post ρ H h w i e (qbd ρ ρ' q) H' v w'
 have wp:∀ l,q l=true→qbd ρ ρ' q l = ρ' l:=fun l h=>by simp only[qbd,h,if_true]
 have wn:∀ l,q l=false→qbd ρ ρ' q l = ρ l:=fun l h=>by simp only[qbd,h,Bool.false_eq_true,if_false]
 have hst:n9 ρ (qbd ρ ρ' q):=fun l hl=>by
  cases hql:q l with
  | false=>exact .inl (congrArg _ (wn l hql))
  | true=>
    rw[wp l hql];rcases (hq l).1 hql with hA | hi
    ·have e1:wh A.contains ρ l = ρ l:=qg5 (List.contains_iff_mem.2 hA);rcases k.stays l (by rw[e1]; exact hl) with e2 | e2
     ·exact .inl (e2.trans (congrArg _ e1))
     ·exact .inr e2
    ·obtain ⟨j,rfl⟩:=qef.1 hi;exact (hl (hN j)).elim
 have htr:Trans ρ H w (qbd ρ ρ' q) H' w':=⟨k.trans.os,k.trans.tape,k.trans.output,k.trans.size,fun b hb hn=>k.trans.keep b hb (fun l hl=>hn l (zf hl).2),fun l b hb=>by
  cases hql:q l with
  | false=>rw[wn l hql] at hb; exact .inr ⟨l,hb⟩
  | true=>
    rw[wp l hql] at hb;rcases k.trans.new l b hb with h | ⟨l',h⟩
    ·exact .inl h
    ·exact .inr ⟨l',(zf h).2⟩⟩
 have hle:H.le H':=k.trans.le (hH.only _)
 have out:∀ l b,q l=false→(ρ l).has b→w'.heap[b]? = w.heap[b]? ∧ (∀ o,H' b o=H b o) ∧ ∀ l',¬ (ρ' l').has b:=fun l b hql hb=>by
  have hA:l ∉ A:=fun hA=>by rw[(hq l).2 (.inl hA)] at hql; cases hql
  have hno:∀ l',¬ (wh A.contains ρ l').has b:=fun l' hl'=>by
   obtain ⟨a1,a2⟩:=zf hl';have:=hH.inj l' l b a2 hb;subst this;exact hA (List.contains_iff_mem.1 a1)
  obtain ⟨b1,b2⟩:=k.trans.keep b (hH.lt hb) hno;refine ⟨b1,b2,fun l' hl'=>?_⟩;rcases k.trans.new l' b hl' with h | ⟨l2,h⟩
  ·have:=hH.lt hb; omega
  ·exact hno l2 h
 have hin:∀ l,q l=true→j4 h e.wr l=j4 (Rf.only A.contains h) e.wr l ∧ ∀ o,j4 h e.wr l=some o→(l,some o)∈e.wr:=fun l hql=>by
  by_cases hm:l∈e.wr.map (·.1)
  ·obtain ⟨x,a1,a2⟩:=vZ e.wr h l hm;rw[a2,a2];exact ⟨rfl,fun o ho=>ho ▸ a1⟩
  ·rw[N2 _ _ _ hm,N2 _ _ _ hm];rcases (hq l).1 hql with hA | hi
   ·exact (hm (h1 l hA)).elim
   ·obtain ⟨j,rfl⟩:=qef.1 hi
    have hn:h (.n i j)=none:=by
     cases ho:h (.n i j) with
     | none=>rfl
     | some o=>
       have:=hH.objs _ o ho;rw[hN j] at this
       cases o <;> exact this.elim
    refine ⟨?_,fun o ho=>by rw[hn] at ho; cases ho⟩;simp only[Rf.only,hn]
    cases A.contains (.n i j) <;> rfl
 have hout:∀ l,q l=false→j4 h e.wr l=h l:=fun l hql=>N2 _ _ _ (fun hm=>by rw[(hq l).2 (h2 l hm)] at hql; cases hql)
 refine ⟨⟨k.heap.ice,fun l o ho=>?_,fun l ho=>?_,fun l l' b hb hb'=>?_,fun l b hb=>?_⟩,htr,hst,fun l a1 a2=>?_,?_⟩
 ·cases hql:q l with
  | true=>
    obtain ⟨a1,a2⟩:=hin l hql;have ho':=ho;rw[a1] at ho';rw[wp l hql]
    exact (k.heap.objs l o ho').congr fun l' hl'=>(wp l' ((hq l').2 (h4 l o (a2 o ho) l' hl'))).symm
  | false=>
    rw[hout l hql] at ho;rw[wn l hql]
    exact (hH.objs l o ho).mono hst hle fun b hb=>(out l b hql hb).1
 ·cases hql:q l with
  | true=>rw[(hin l hql).1] at ho; rw[wp l hql]; exact k.heap.gone l ho
  | false=>rw[hout l hql] at ho; rw[wn l hql]; exact hH.gone l ho
 ·cases hql:q l with
  | true=>
    rw[wp l hql] at hb
    cases hql':q l' with
    | true=>rw[wp l' hql'] at hb'; exact k.heap.inj l l' b hb hb'
    | false=>rw[wn l' hql'] at hb'; exact ((out l' b hql' hb').2.2 l hb).elim
  | false=>
    rw[wn l hql] at hb
    cases hql':q l' with
    | true=>rw[wp l' hql'] at hb'; exact ((out l b hql hb).2.2 l' hb').elim
    | false=>rw[wn l' hql'] at hb'; exact hH.inj l l' b hb hb'
 ·intro o
  cases hql:q l with
  | true=>rw[wp l hql] at hb; exact k.heap.sep l b hb o
  | false=>
    rw[wn l hql] at hb;rw[(out l b hql hb).2.1 o];exact hH.sep l b hb o
 ·cases hql:q l with
  | true=>rw[wp l hql] at a2; exact k.new l (qdj a1) a2
  | false=>rw[wn l hql] at a2; exact (a2 a1).elim
 ·exact m7.congr e.v (fun l hl=>(wp l ((hq l).2 (h3 l hl))).symm) k.val
theorem f7.widen {P:Program} {o:Oper} {a:Act} {ρ:Map} {H:Ice} {h:Loc→Option Obj} {w:World} {i:Nat} {A:List Loc} {r:R} (hH:HRel ρ H h w) (hN:∀ k,ρ (.n i k) = .none)
 (k:f7 P o a w (wh A.contains ρ) H (Rf.only A.contains h) i r)
 (hr:∀ e,r = .ok e∨r = .pan e→okW A i e.wr=true∧(∀ l∈Y6 e.v,l∈A∨l.isOf i=true) ∧ ∀ l o,(l,some o)∈e.wr→∀ l'∈qbn o,l'∈A∨l'.isOf i=true) :
 f7 P o a w ρ H h i r:=fun K Q hk=>by
 refine k K Q ?_
 cases r with
 | out=>exact hk
 | ok e=>
   obtain ⟨h1,h2,h3⟩:=hr e (.inl rfl)
   exact fun ρ' H' v w' hp=>hk _ _ _ _ (hp.widen hH hN h1 h2 h3)
 | pan e=>
   obtain ⟨h1,h2,h3⟩:=hr e (.inr rfl)
   exact fun ρ' H' v w' hp=>hk _ _ _ _ (hp.widen hH hN h1 h2 h3)
theorem Wg {m:List Loc} {i:Nat}:∀ (os:List Obj) (k:Nat) {l:Loc} {x:Option Obj},(l,x)∈P1 m i k os→∃ o,x=Obj.mapL (R1 m i) o
 | [],_,_,_,h=>by cases h
 | o :: os,k,l,x,h=>by
   rcases List.mem_cons.1 h with h | h
   ·cases h; exact ⟨o,rfl⟩
   ·exact Wg os (k + 1) h
theorem qk2 {cf:CF} {f:FuncId} {i:Nat} {h:Loc→Option Obj} {A:List Loc} {args:List (V × Bool)} {r:R} (e:Z9 cf f i (Rf.only A.contains h) args=some r) :
 ∀ ef,r = .ok ef∨r = .pan ef→(∀ l∈Y6 ef.v,l∈A∨l.isOf i=true) ∧ ∀ l o,(l,some o)∈ef.wr→∀ l'∈qbn o,l'∈A∨l'.isOf i=true:=by
 obtain ⟨⟨vs,fm⟩,e1,e2⟩:=d9 e;obtain ⟨⟨vs',os,m⟩,e3,e4⟩:=d9 e2
 have hm:∀ l∈m,l∈A:=fun l hl=>by
  rcases qd1 e3 l hl with h' | h'
  ·cases h'
  ·simp only[S4] at h';split at h'
   ·cases h'
   ·simp only[Rf.only] at h'
    cases hc:A.contains l with
    | true=>exact List.contains_iff_mem.1 hc
    | false=>rw[hc] at h'; cases h'
 have hf:∀ l,R1 m i l∈A∨(R1 m i l).isOf i=true:=fun l=>by
  cases l with
  | n a b=>exact .inr (by simp[R1,Loc.isOf])
  | b k=>
    by_cases hk:k < m.length
    ·rw[xB (List.getElem?_eq_getElem hk)];exact .inl (hm _ (List.getElem_mem hk))
    ·rw[zm (by omega)];exact .inr (by simp[Loc.isOf])
 intro ef hef
 cases hs:(vs'.all P6) with
 | false=>
   simp only[hs,k8] at e4;cases e4
 | true=>
   simp only[hs,j6] at e4;obtain ⟨cr,e5,e6⟩:=d9 e4;cases e6
   have hw:∀ {os:List Obj},∀ l o,(l,some o)∈fm.map (·,(none:Option Obj))++P1 m i 0 os→∀ l'∈qbn o,l'∈A∨l'.isOf i=true:=fun {os} l o hmem=>by
    rcases List.mem_append.1 hmem with hmem | hmem
    ·obtain ⟨_,_,h⟩:=List.mem_map.1 hmem;cases h
    ·obtain ⟨o',ho'⟩:=Wg os 0 hmem;exact qqg hf ho'.symm
   cases cr with
   | out=>rcases hef with h | h <;> cases h
   | ret rs hp=>
     rcases hef with h | h <;> cases h
     exact ⟨ZD hf _,hw⟩
   | pan v hp=>
     rcases hef with h | h <;> cases h
     exact ⟨ZD hf _,hw⟩
end Go.Rf
