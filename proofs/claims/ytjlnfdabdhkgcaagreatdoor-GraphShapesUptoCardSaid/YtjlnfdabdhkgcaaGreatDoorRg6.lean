/- Parts of the proof: RfLent, RfStep, RfCode, RfOnly. -/
import Derived.Test.YtjlnfdabdhkgcaaGreatDoorRg5

set_option linter.unusedSimpArgs false
set_option linter.unusedVariables false
set_option linter.unnecessarySimpa false
set_option linter.unusedSectionVars false
set_option linter.all false
namespace Go.Rf
variable {B:Ice} {ds:List Deferred} {fx:List (Nat × Value)}
def Ice.off (H:Ice) (S:Nat→Prop) [DecidablePred S]:Ice:=fun b o=>if S b then none else H b o
mutual
theorem qj2 {H:Ice} {S:Nat→Prop} [DecidablePred S] (hS:∀ b o k n,S b→H b o≠some (.int k n)):∀ (x:D) {v:Value},Wh x=true→Q6 H x v→Q6 (H.off S) x v
 | .bool _,_,_,k=>k
 | .int _ _,_,_,k=>k
 | .str _,_,_,k=>k
 | .nilp,_,_,k=>k
 | .nili,_,_,k=>k
 | .nilf,_,_,k=>k
 | .nils,_,_,k=>k
 | .agg cs,_,h,k=>by
   obtain ⟨vs,e,k1,k2⟩:=k;exact ⟨vs,e,Wg hS cs (by simpa [Wh] using h) k1,k2⟩
 | .sl xs,_,h,k=>by
   obtain ⟨a,c,e,k1,k2,k3⟩:=k;refine ⟨a,c,e,k1,k2,fun hx=>?_⟩;obtain ⟨b,off,sz,us,e1,k4,k5,k6⟩:=k3 hx;simp only[Wh,List.all_eq_true] at h
   have hint:∀ (xs:List D) (us:List Value),(∀ x∈xs,(match x with | .int _ _=>true | _=>false)=true)→B1 H xs us→(∀ u∈us,∃ k n,u = .int k n)∧B1 (H.off S) xs us:=by
    intro xs
    induction xs with
    | nil=>intro us _ hr; cases hr; exact ⟨fun u hu=>(List.not_mem_nil hu).elim,rfl⟩
    | cons x xs ih=>
      intro us hm hr;obtain ⟨u,us',rfl,r1,r2⟩:=hr;have hx:=hm x (List.mem_cons_self ..);obtain ⟨i1,i2⟩:=ih us' (fun y hy=>hm y (List.mem_cons_of_mem _ hy)) r2
      cases x with
      | int k n=>
        have r1:u = .int k n:=r1;subst r1;refine ⟨fun u hu=>?_,⟨_,_,rfl,rfl,i2⟩⟩;rcases List.mem_cons.1 hu with rfl | hu
        ·exact ⟨_,_,rfl⟩
        ·exact i1 u hu
      | _=>cases hx
   obtain ⟨h1,h2⟩:=hint xs us h k4;refine ⟨b,off,sz,us,e1,h2,k5,fun i v hi=>?_⟩;have hv:=k6 i v hi
   have hvi:∃ k n,v = .int k n:=by
    obtain ⟨u,hu,hm⟩:=List.mem_flatMap.1 (List.mem_of_getElem? hi);obtain ⟨k,n,rfl⟩:=h1 u hu;simp[Value.cells] at hm;exact ⟨k,n,hm⟩
   obtain ⟨k,n,rfl⟩:=hvi;unfold Ice.off;rw[if_neg (fun hs=>hS _ _ _ _ hs hv)];exact hv
 | .iface _ _,_,h,_=>by simp[Wh] at h
 | .box _,_,h,_=>by simp[Wh] at h
 | .fn _ _,_,h,_=>by simp[Wh] at h
 | .nilm,_,h,_=>by simp[Wh] at h
theorem Wg {H:Ice} {S:Nat→Prop} [DecidablePred S] (hS:∀ b o k n,S b→H b o≠some (.int k n)):∀ (xs:List D) {vs:List Value},Xv xs=true→B1 H xs vs→B1 (H.off S) xs vs
 | [],_,_,k=>k
 | x :: xs,_,h,k=>by
   obtain ⟨v,vs',e,k1,k2⟩:=k;simp only[Xv,Bool.and_eq_true] at h;exact ⟨v,vs',e,qj2 hS x h.1 k1,Wg hS xs h.2 k2⟩
end
theorem qf1 {H:Ice} {x:D} {v:Value} (h:qae x=true) (k:Q6 H x v):∀ kk n,v ≠ .int kk n:=by
 intro kk n e;subst e
 cases x with
 | int _ _=>cases h
 | bool b=>cases k
 | str s=>obtain ⟨k,_⟩:=k; cases k
 | agg cs=>obtain ⟨_,k,_⟩:=k; cases k
 | iface t y=>obtain ⟨_,k,_⟩:=k; cases k
 | sl xs=>obtain ⟨_,_,k,_⟩:=k; cases k
 | box y=>obtain ⟨_,_,_,k,_⟩:=k; cases k
 | fn f cap=>obtain ⟨us,k,_⟩:=k; unfold ZY at k; split at k <;> cases k
 | nilp=>cases k
 | nili=>cases k
 | nilf=>cases k
 | nilm=>obtain ⟨_,k⟩:=k; cases k
 | nils=>cases k
theorem qmt {H:Ice} {x:D} {u:Value} (h:x.cells.all qae=true) (k:Q6 H x u):∀ v∈u.cells.toList,∀ kk n,v ≠ .int kk n:=by
 have one':jk x=false→∀ v∈u.cells.toList,∀ kk n,v ≠ .int kk n:=fun ha v hv=>by
  rw[v7 (Q6.one k ha)] at hv;simp at hv;subst hv;refine qf1 (x:=x) ?_ k
  have:x.cells=[x]:=by cases x <;> first | rfl | cases ha
  rw[this] at h
  simpa using h
 cases x with
 | agg cs=>
   obtain ⟨vs,rfl,k1,_⟩:=k
   have:∀ (cs:List D) (vs:List Value),cs.all qae=true→B1 H cs vs→∀ v∈vs,∀ kk n,v ≠ .int kk n:=by
    intro cs
    induction cs with
    | nil=>intro vs _ k v hv; cases k; cases hv
    | cons c cs ih=>
      intro vs hh k v hv;obtain ⟨u,vs',rfl,r1,r2⟩:=k;simp only[List.all_cons,Bool.and_eq_true] at hh;rcases List.mem_cons.1 hv with rfl | hv
      ·exact qf1 hh.1 r1
      ·exact ih vs' hh.2 r2 v hv
   exact this cs vs (by simpa [D.cells] using h) k1
 | _=>exact one' rfl
section
variable {P:Program} {T:Tab} {cf:CF} {o:Oper} {a:Act} {w:World} {ρ:Map} {H:Ice} {h:Loc→Option Obj} {i N:Nat} {env:List (Nat × V)} {r:R}
open Classical
def qne (ρ:Map) (fm:List Loc) (b:Nat):Prop:=∃ l∈fm,(ρ l).has b
noncomputable def qA (ρ:Map) (H:Ice) (w:World) (fm:List Loc):Ice:=fun b o=>if qne ρ fm b then (match w.cell? ⟨b,o,Option.none⟩ with | some (.int _ _)=>none | x=>x) else H b o
theorem qbb (hH:HRel ρ H h w) (fm:List Loc):H.le (qA ρ H w fm):=fun b o v e=>by
 unfold qA;rw[if_neg]
 ·exact e
 ·rintro ⟨l,_,hl⟩
  rw[hH.sep l b hl o] at e;cases e
theorem qw1 (hH:HRel ρ H h w) (fm:List Loc) (b o:Nat) (v:Value) (e:qA ρ H w fm b o=some v):w.cell? ⟨b,o,Option.none⟩=some v:=by
 unfold qA at e;split at e
 ·split at e
  ·cases e
  ·exact e
 ·exact hH.ice b o v e
theorem q1l (hH:HRel ρ H h w) {x:V × Bool} {d:D} {m fm:List Loc} (e:brw h x=some (d,m)) (hm:∀ l∈m,l∈fm) {u:Value} (hu:m7 ρ H x.1 u):Q6 (qA ρ H w fm) d u:=by
 obtain ⟨v,fl⟩:=x;unfold brw at e;split at e
 ·rename_i y _ heq;cases heq; cases e;exact Q6.mono (qbb hH fm) _ hu
 ·rename_i l sz off len heq;cases heq;split at e
  ·rename_i xs sz' hl;split at e
   ·rename_i hle;obtain ⟨ds,e1,e2⟩:=d9 e;split at e2
    ·rename_i hc;obtain ⟨hw,hni⟩:=hc;cases e2;have hxs:=JP e1;subst hxs;have hobj:=hH.objs l _ hl;have hu:H0 (ρ l) sz off len u:=hu
     cases hp:ρ l with
     | none=>rw[hp] at hu; exact hu.elim
     | dead=>rw[hp] at hobj; exact hobj.elim
     | blk q=>rw[hp] at hu; exact hu.elim
     | lol b1 b2 b3 b4 b5=>rw[hp] at hobj; exact hobj.elim
     | virt s=>
       rw[hp] at hu;obtain ⟨_,rfl,rfl,rfl⟩:=hu;exact ⟨Option.none,0,by simp,by simp,by simp,fun h=>absurd (by simp) h⟩
     | at_ b base s size=>
       rw[hp] at hobj hu;obtain ⟨rfl,arr,elem,fr,us,hb,hsize,hus,hj,hs,hc,_⟩:=hobj;obtain ⟨rfl,c,rfl,q1,q2,q3,q4,_⟩:=hu;have hd:B1 H ds us:=f9.toD hus;have hr:B1 H ((ds.drop off).take len) ((us.drop off).take len):=(hd.drop off).take len
       have hlen:((ds.drop off).take len).length=len:=by simp at hle; rw[List.length_take,List.length_drop]; omega
       refine ⟨some ⟨b,base + off * s.c,Option.none⟩,c,by rw[hlen],by omega,?_,fun _=>⟨b,base + off * s.c,s.c,_,rfl,B1.mono (qbb hH fm) _ hr,fun u hu=>hs u (List.mem_of_mem_drop (List.mem_of_mem_take hu)),fun j v hjv=>?_⟩⟩
       ·rw[hlen]; exact Nat.le_trans (Nat.mul_le_mul_left _ hw) q2
       ·have q:=XY hjv;rw[KC off hs,List.getElem?_drop] at q;have hcell:=hc _ _ q
        have hcl:w.cell? ⟨b,base + off * s.c + j,Option.none⟩=some v:=by
         simp only[World.cell?,hb]
         simpa [Nat.add_assoc] using hcell
        have hv:∀ kk n,v ≠ .int kk n:=by
         obtain ⟨u,hu,hm⟩:=List.mem_flatMap.1 (List.mem_of_getElem? q);obtain ⟨e',he⟩:=List.getElem?_of_mem hu;obtain ⟨x,hx⟩:∃ x,ds[e']? = some x:=⟨_,List.getElem?_eq_getElem (by rw[hd.length]; exact (List.getElem?_eq_some_iff.1 he).1)⟩;obtain ⟨u',g1,g2⟩:=hd.get hx;rw[he] at g1;cases g1;exact qmt (List.all_eq_true.1 hni x (List.mem_of_getElem? hx)) g2 v hm
        unfold qA;rw[if_pos ⟨l,hm l (List.mem_singleton_self _),by rw[hp]; rfl⟩,hcl]
        cases v <;> first | rfl | exact absurd rfl (hv _ _)
    ·cases e2
   ·cases e
  ·cases e
 ·cases e
theorem qmw (hH:HRel ρ H h w) {fm:List Loc}:∀ {vs:List (V × Bool)} {ds:List D} {m:List Loc},qdx h vs=some (ds,m)→(∀ l∈m,l∈fm)→∀ {us:List Value},f9 ρ H (vs.map (·.1)) us→B1 (qA ρ H w fm) ds us
 | [],ds,m,e,_,us,k=>by cases e; exact k
 | x :: vs,ds,m,e,hm,us,k=>by
   simp only[qdx] at e;obtain ⟨⟨d,m1⟩,e1,e2⟩:=d9 e;obtain ⟨⟨ds',m2⟩,e3,e4⟩:=d9 e2;cases e4;obtain ⟨u,us',rfl,k1,k2⟩:=k;exact ⟨u,us',rfl,q1l hH e1 (fun l hl=>hm l (List.mem_append_left _ hl)) k1,qmw hH e3 (fun l hl=>hm l (List.mem_append_right _ hl)) k2⟩
theorem qo3 {f:FuncId} {args:List (V × Bool)} {us:List Value} (hcf:ZU B P cf) (hB:B.le H) (hH:HRel ρ H h w) (hv:f9 ρ H (args.map (·.1)) us) (e:JC cf f h args=some r)
 (hrun:(execOp a.eval o).run P w = .ok (.enter f ⟨us⟩) w):f8 P o a w ρ H h i r:=by
 obtain ⟨⟨ds',fm⟩,e1,e2⟩:=d9 e;have hd:=qmw hH (fm:=fm) e1 (fun _ h=>h) hv;have hHc:HRel (fun _=>.none) (qA ρ H w fm) (o5 []) w:=⟨qw1 hH fm,fun l o ho=>by cases l <;> simp[o5] at ho,fun _ _=>.inl rfl,fun _ _ _ h=>h.elim,fun _ _ h=>h.elim⟩;have hd2:f9 (fun _=>.none) (qA ρ H w fm) (ds'.map .d) us:=hd.toV;rw[hd2.fits,j6] at e2;obtain ⟨cr,e3,e4⟩:=d9 e2;have hc:=hcf f _ _ cr e3 (fun _=>.none) (qA ρ H w fm) w ⟨us⟩ (fun b o v e=>qbb hH fm b o v (hB b o v e)) hHc hd2 (fun l hl=>(hl rfl).elim);intro K Q hpost;refine .inl ?_;unfold Oper.wp;rw[hrun];show Calls P f ⟨us⟩ w _;intro cs;obtain ⟨en,w',fr,hR,rest⟩:=hc cs;refine ⟨en,w',fr,?_,rest⟩
 cases en with
 | outgrown=>
   have hR:cr = .out:=hR;subst hR;cases e4;exact hpost
 | panicked chain=>
   obtain ⟨x,os',ρ',H',u,rfl,_⟩:=hR;cases e4
 | returned v=>
   obtain ⟨rs,os',ρ',H',rfl,ce,hx⟩:=hR
   cases os' with
   | cons _ _=>cases e4
   | nil=>
     obtain ⟨ds2,e5,e6⟩:=d9 e4;have hrs:=JP e5;subst hrs
     cases hsh:Xv ds2 with
     | false=>rw[hsh] at e6; cases e6
     | true=>
     rw[hsh] at e6;cases e6
     have hkeep:∀ b,b < w.heap.size→w'.heap[b]? = w.heap[b]? ∧ ∀ o,H' b o=qA ρ H w fm b o:=fun b hb=>ce.trans.keep b hb fun l hl=>hl
     have hle:H.le (H'.off (qne ρ fm)):=fun b o v e=>by
      unfold Ice.off;rw[if_neg]
      ·rw[(hkeep b (hH.iceLt e)).2 o]; exact qbb hH fm b o v e
      ·rintro ⟨l,_,hl⟩
       rw[hH.sep l b hl o] at e;cases e
     have hni:∀ b o k n,qne ρ fm b→H' b o≠some (.int k n):=fun b o k n hb e=>by
      obtain ⟨l,h1,h2⟩:=hb;rw[(hkeep b (hH.lt h2)).2 o] at e;unfold qA at e;rw[if_pos ⟨l,h1,h2⟩] at e;split at e
      ·cases e
      ·rename_i hne;exact hne _ _ e
     refine hpost ρ (H'.off (qne ρ fm)) v w' ⟨⟨?_,?_,hH.gone,hH.inj,?_⟩,⟨ce.trans.os,ce.trans.tape,ce.trans.output,ce.trans.size,?_,fun l b h=>.inr ⟨l,h⟩⟩,n9.refl _,K4.refl _ _,?_⟩
     ·intro b o v e;unfold Ice.off at e;split at e
      ·cases e
      ·exact ce.heap.ice b o v e
     ·intro l o ho
      exact (hH.objs l o ho).mono (n9.refl _) hle fun b hb=>(hkeep b (hH.lt hb)).1
     ·intro l b hb o;unfold Ice.off;split
      ·rfl
      ·rename_i hn;rw[(hkeep b (hH.lt hb)).2 o];unfold qA;rw[if_neg hn];exact hH.sep l b hb o
     ·intro b hb hn;refine ⟨(hkeep b hb).1,fun o=>?_⟩
      have hno:¬ qne ρ fm b:=fun ⟨l,_,hl⟩=>hn l hl
      unfold Ice.off;rw[if_neg hno,(hkeep b hb).2 o];unfold qA;rw[if_neg hno]
     ·
      cases ds2 with
      | nil=>
        obtain ⟨us2,hv2,hr⟩:=hx;exact ⟨us2,hv2,hr⟩
      | cons d1 ds3=>
        cases ds3 with
        | nil=>exact qj2 hni d1 (by simpa [Xv] using hsh) hx
        | cons d2 ds4=>
          obtain ⟨us2,hv2,hr⟩:=hx;exact ⟨us2,hv2,(Wg hni _ hsh (f9.toD (ds:=d1 :: d2 :: ds4) hr)).toV⟩
def qci (f:FuncId) (args:List (Opnd × Bool)) (P:Program):Op→Bool:=Ym f args P
theorem qzs {f args} (hcf:ZU B P cf) (hH:HRel ρ H h w) (hE:EnvRel B ds fx ρ H N env a) (hok:qci f args P o.op=true) (e:j4 T cf i (.callB f args) (evO env) h=some r):f8 P o a w ρ H h i r:=by
 unfold qci Ym at hok;split at hok
 ·rename_i c hop;simp only[Bool.and_eq_true] at hok;obtain ⟨⟨h1,h2⟩,h3⟩:=hok;obtain ⟨vs,e1,e2⟩:=d9 e;refine qo3 hcf hE.base hH (qQ hE h3 e1) e2 ?_;split at h1
  ·rename_i g hc;simp only[decide_eq_true_eq] at h1;subst h1;unfold execOp;simp only[hop,resolve,hc,Act.eval,Deferred.ofValue];rw[Sem.run_bind];show Result.andThen (.ok _ w) _=_;rw[Result.andThen_ok];simp only[invoke];rw[zn h2]
   congr 2
   apply Array.toList_inj.1;simp
  ·cases h1
 ·cases hok
end
end Go.Rf

namespace Go.Rf
variable {B:Ice} {ds:List Deferred} {fx:List (Nat × Value)}
def q6z (P:Program):AOp→Op→Bool
 | .mv x=>qv5 x
 | .own n=>qol n
 | .pick c x y=>qhq c x y
 | .alloc z own=>wS z own P
 | .allocT t z own=>Wt t z own P
 | .box n x=>qor n x P
 | .build z ps own=>qcj z ps own P
 | .buildSl n z len ps=>Kw n z len ps P
 | .load n ag x=>Yl n ag x P
 | .store n x y=>Yk n x y P
 | .nilCk x=>qcc x
 | .bin op x y=>qos op x y
 | .un op x=>qv3 op x
 | .isN eq ifc x=>qoo eq ifc x P
 | .eqB eq x y=>qoq eq x y P
 | .conv (.int k) x=>qcg k x P
 | .conv .rune x=>qcf x P
 | .conv .b2s x=>qot x P
 | .mkI t x=>qom t x P
 | .mkF f cap=>Ku f cap
 | .mkSl n z len cap=>qhs n z len cap P
 | .slice n x lo hi=>qb9 n x lo hi P
 | .fieldA off n ag x=>Ws off n ag x P
 | .field off n ag x=>qce off n ag x P
 | .idxA n x k=>qhw n x k P
 | .idxS x k=>qhu x k P
 | .extract x k=>Kv x k
 | .tass t ok z x=>qhp t ok z x P
 | .call f args=>Ym f args P
 | .callB f args=>qci f args P
 | .callV f args=>qch f args
 | .inv m x args=>qop m x args P
 | .len s x=>qon s x P
 | .app n x y=>qhx n x y P
 | .mx x y=>qv4 x y
 | .mn x y=>qv6 x y
 | .lload x=>qkr x P
 | .lstore x y=>qfx x y P
 | .lapp n x y=>qqh n x y P
 | .idxF n x k=>qhv n x k P
 | .loadH x=>qkq x P
 | .panic x=>qcb x
 | .range x=>qca x P
 | .next x=>qhr x
 | .mkMap=>qcd
 | .look s z x k=>qht s z x k P
 | .upd s x k v=>qok s x k v P
section
variable {P:Program} {T:Tab} {cf:CF} {o:Oper} {a:Act} {w:World} {ρ:Map} {H:Ice} {h:Loc→Option Obj} {i N:Nat} {env:List (Nat × V)} {r:R}
theorem KJ {op:AOp} (hcf:ZU B P cf) (hfs:∀ g vs hp r,cf g vs hp=some r→qB P g=true) (hH:HRel ρ H h w) (hE:EnvRel B ds fx ρ H N env a) (hN:∀ k,ρ (.n i k) = .none) (hok:q6z P op o.op=true)
 (e:j4 T cf i op (evO env) h=some r):f8 P o a w ρ H h i r:=by
 cases op with
 | mv x=>exact s_mv hH hE hok e
 | own n=>exact zg3 hH hN hok e
 | pick c x y=>exact q54 hH hE hok e
 | alloc z own=>exact qzu hH hN hok e
 | allocT t z own=>exact qu8 hH hN hok e
 | box n x=>exact zha hH hE hN hok e
 | build z ps own=>exact qzt hH hE hN hok e
 | buildSl n z len ps=>exact qsb hH hE hN hok e
 | load n ag x=>exact qn6 hH hE hok e
 | store n x y=>exact qp8 hH hE hok e
 | nilCk x=>exact qzk hH hE hok e
 | bin op x y=>exact zhb hH hE hok e
 | un op x=>exact s_un hH hE hok e
 | isN eq ifc x=>exact zg7 hH hE hok e
 | eqB eq x y=>exact zg9 hH hE hok e
 | conv k x=>
   cases k with
   | int k=>exact qzq hH hE hok e
   | rune=>exact qzp hH hE hok e
   | b2s=>exact zhc hH hE hok e
 | mkI t x=>exact zg4 hH hE hok e
 | mkF f cap=>exact zg5 hH hE hok e
 | mkSl n z len cap=>exact q56 hH hE hN hok e
 | slice n x lo hi=>exact qzh hH hE hok e
 | fieldA off n ag x=>exact qu7 hH hE hok e
 | field off n ag x=>exact qzo hH hE hok e
 | idxA n x k=>exact q6b hH hE hok e
 | idxS x k=>exact q59 hH hE hok e
 | extract x k=>exact qsa hH hE hok e
 | tass t ok z x=>exact q53 hH hE hok e
 | call f args=>exact q6c hcf hH hE hN hok e
 | callB f args=>exact qzs hcf hH hE hok e
 | callV f args=>exact qzr hcf hH hE hN hfs hok e
 | inv m x args=>exact zg8 hcf hH hE hN hok e
 | len s x=>exact zg6 hH hE hok e
 | app n x y=>exact q2f hH hE (hN 0) hok e
 | mx x y=>exact s_mx hH hE hok e
 | mn x y=>exact s_mn hH hE hok e
 | lload x=>exact qzn hH hE hN hok e
 | lstore x y=>exact qu6 hH hE hN hok e
 | lapp n x y=>exact q58 hH hE hN hok e
 | idxF n x k=>exact q6a hH hE hok e
 | loadH x=>exact qzm hH hE hok e
 | panic x=>exact qzj hH hE hok e
 | range x=>exact qzi hH hE hN hok e
 | next x=>exact q55 hH hE hok e
 | mkMap=>exact qzl hH hN hok e
 | look s z x k=>exact q57 hH hE hok e
 | upd s x k v=>exact zg2 hH hE hok e
end
def okG (ops:Array Oper):Option (Nat × Bool)→Option (Nat × Bool)→Bool
 | none,none=>true
 | some (j,b),some (t,c)=>decide ((ops[j]?).bind (·.dst)=some t) && decide (b=c)
 | _,_=>false
def qcn (P:Program) (N:Nat) (ops:Array Oper) (o:Oper) (ai:AIns):Bool:=
 q6z P ai.op o.op && decide (o.dst=ai.dst) && (match ai.dst with | some t=>decide (t < N) | none=>true) && okG ops o.guard ai.guard
section
variable {P:Program} {T:Tab} {cf:CF} {N:Nat} {ops:Array Oper}
theorem wN {ρ H env a} {o:Oper} {g:Option (Nat × Bool)} {b:Bool} (hE:EnvRel B ds fx ρ H N env a) (hok:okG ops o.guard g=true) (e:wanted env g=some b):Region.wanted o (yielded ops a.tmps)=b:=by
 unfold okG at hok;split at hok
 ·rename_i hg;cases e;simp[Region.wanted,hg]
 ·rename_i j b' t c hg;simp only[Bool.and_eq_true,decide_eq_true_eq] at hok;obtain ⟨h1,rfl⟩:=hok;simp only[wanted] at e;unfold Region.wanted;rw[hg];simp only;unfold yielded;rw[h1];simp only[Option.bind_some];split at e
  ·rename_i q hq;cases e;have hv:a.tmps.getD t undef = .bool q:=hE.rel t _ hq
   have:a.tmps[t]? = some (.bool q):=by
    rw[Array.getD_eq_getD_getElem?] at hv
    cases ht:a.tmps[t]? with
    | none=>rw[ht] at hv; cases hv
    | some x=>rw[ht] at hv; simp at hv; rw[hv]
   rw[this];rfl
  ·rename_i hq;cases e;obtain ⟨us,hv,hu⟩:=hE.rel t _ hq;cases hu
   cases ht:a.tmps[t]? with
   | none=>rfl
   | some x=>
     rw[Array.getD_eq_getD_getElem?,ht] at hv;simp at hv;subst hv;rfl
  ·cases e
 ·cases hok
def zm8 (B:Ice) (ds:List Deferred) (fx:List (Nat × Value)) (ρ:Map) (H:Ice) (w:World) (N:Nat) (L:List AIns) (Q:Exit→Act→World→Prop):RR→Prop
 | .nrm s'=>∀ ρ' H' a' w',HRel ρ' H' s'.h w'→EnvRel B ds fx ρ' H' N s'.env a'→Trans ρ H w ρ' H' w'→n9 ρ ρ'→(∀ l,ρ l = .none→ρ' l ≠ .none→∃ ai∈L,∃ k,l = .n ai.i k)→Q .normal a' w'
 | .pan _ v s'=>∀ ρ' H' a' w' u,HRel ρ' H' s'.h w'→a'.defers=ds→(∀ t u,(t,u)∈fx→a'.tmps.getD t undef=u)→Trans ρ H w ρ' H' w'→n9 ρ ρ'→(∀ l,ρ l = .none→ρ' l ≠ .none→∃ ai∈L,∃ k,l = .n ai.i k)→m7 ρ' H' v u→Q (.panic [{ v:=u,recovered:=false }]) a' w'
 | .out=>LetsOut Q
theorem Kn (hcf:ZU B P cf) (hfs:∀ g vs hp r,cf g vs hp=some r→qB P g=true) {Q:Exit→Act→World→Prop}:∀ (L:List AIns) (s:RS) (rs:List Rec) (rr:RR) (rs':List Rec),
 (∀ ai∈L,∃ o,ops[ai.i]? = some o∧qcn P N ops o ai=true)→(L.map (·.i)).Nodup→(∀ ai∈L,∀ x∈fx,ai.dst≠some x.1)→Xc T cf L s rs=some (rr,rs')→
 ∀ ρ H w a,HRel ρ H s.h w→EnvRel B ds fx ρ H N s.env a→(∀ ai∈L,∀ k,ρ (.n ai.i k) = .none)→zm8 B ds fx ρ H w N L Q rr→wpOps P ops Q (L.map (·.i)) a w
 | [],s,rs,rr,rs',_,_,_,e,ρ,H,w,a,hH,hE,_,hp=>by
   cases e;exact hp ρ H a w hH hE (Trans.refl ..) (n9.refl _) (fun l h1 h2=>(h2 h1).elim)
 | ai :: L,s,rs,rr,rs',hL,hnd,hav,e,ρ,H,w,a,hH,hE,hN,hp=>by
   obtain ⟨o,ho,hok⟩:=hL ai (List.mem_cons_self ..);simp only[qcn,Bool.and_eq_true,decide_eq_true_eq] at hok;obtain ⟨⟨⟨k1,k2⟩,k3⟩,k4⟩:=hok;rw[List.map_cons,List.nodup_cons] at hnd;simp only[Xc] at e;obtain ⟨x,e1,e2⟩:=d9 e;simp only[step] at e1;obtain ⟨b,e3,e4⟩:=d9 e1;have hw:=wN (ops:=ops) (o:=o) hE k4 e3
   have hdst:∀ t,o.dst=some t→t < N ∧ ∀ x∈fx,x.1≠t:=fun t ht=>by
    rw[k2] at ht;refine ⟨?_,fun x hx he=>hav ai (List.mem_cons_self ..) x hx (by rw[ht,he])⟩;rw[ht] at k3
    simpa using k3
   simp only[List.map_cons,wpOps,ho];rw[hw]
   cases b with
   | false=>
     simp only[k8] at e4;cases e4;simp only[Bool.false_eq_true,if_false];refine Kn hcf hfs L _ _ rr rs' (fun x hx=>hL x (List.mem_cons_of_mem _ hx)) hnd.2 (fun y hy=>hav y (List.mem_cons_of_mem _ hy)) e2 ρ H w _ hH (by rw[← k2]; exact hE.put o.dst hdst ⟨[],rfl,rfl⟩) (fun x hx=>hN x (List.mem_cons_of_mem _ hx)) ?_
     cases rr with
     | nrm s'=>exact fun ρ' H' a' w' q1 q2 q3 q4 q5=>hp ρ' H' a' w' q1 q2 q3 q4 (fun l h1 h2=>by obtain ⟨x,hx,h3⟩:=q5 l h1 h2; exact ⟨x,List.mem_cons_of_mem _ hx,h3⟩)
     | pan j v s'=>exact fun ρ' H' a' w' u q1 q2 q2' q3 q4 q5=>hp ρ' H' a' w' u q1 q2 q2' q3 q4 (fun l h1 h2=>by obtain ⟨x,hx,h3⟩:=q5 l h1 h2; exact ⟨x,List.mem_cons_of_mem _ hx,h3⟩)
     | out=>exact hp
   | true=>
     simp only[j6] at e4;obtain ⟨r,e5,e6⟩:=d9 e4;cases e6;simp only[if_true];have hs:=KJ (o:=o) hcf hfs hH hE (hN ai (List.mem_cons_self ..)) k1 e5;refine hs _ _ ?_
     cases r with
     | out=>
       simp only[qj0,qsi] at e2;cases e2;exact hp
     | pan ev=>
       intro ρ' H' v w' hpost;simp only[qj0,qsi] at e2;cases e2;exact hp ρ' H' a w' v hpost.heap hE.defers hE.fix hpost.trans hpost.stays (fun l h1 h2=>by obtain ⟨k,hk⟩:=hpost.new l h1 h2; exact ⟨ai,List.mem_cons_self ..,k,hk⟩) hpost.val
     | ok ev=>
       intro ρ' H' v w' hpost;simp only[qj0,qsi] at e2;have hle:=hpost.trans.le hH;refine Kn hcf hfs L _ _ rr rs' (fun x hx=>hL x (List.mem_cons_of_mem _ hx)) hnd.2 (fun y hy=>hav y (List.mem_cons_of_mem _ hy)) e2 ρ' H' w' _ hpost.heap (by rw[← k2]; exact (hE.mono hpost.stays hle).put o.dst hdst hpost.val) (fun x hx k=>?_) ?_
       ·cases hq:ρ' (.n x.i k) with
        | none=>rfl
        | _=>
          exfalso
          obtain ⟨k',hk'⟩:=hpost.new _ (hN x (List.mem_cons_of_mem _ hx) k) (by rw[hq]; intro h; cases h)
          injection hk' with hk' _
          exact hnd.1 (hk' ▸ List.mem_map_of_mem hx)
       ·have new:∀ {ρ2:Map},(∀ l,ρ' l = .none→ρ2 l ≠ .none→∃ x∈L,∃ k,l=Loc.n x.i k)→∀ l,ρ l = .none→ρ2 l ≠ .none→∃ x∈ai :: L,∃ k,l=Loc.n x.i k:=fun q5 l h1 h2=>by
         by_cases h3:ρ' l = .none
         ·obtain ⟨x,hx,h4⟩:=q5 l h3 h2; exact ⟨x,List.mem_cons_of_mem _ hx,h4⟩
         ·obtain ⟨k,hk⟩:=hpost.new l h1 h3; exact ⟨ai,List.mem_cons_self ..,k,hk⟩
        cases rr with
        | nrm s'=>exact fun ρ2 H2 a2 w2 q1 q2 q3 q4 q5=>hp ρ2 H2 a2 w2 q1 q2 (hpost.trans.trans q3) (hpost.stays.trans q4) (new q5)
        | pan j v s'=>exact fun ρ2 H2 a2 w2 u q1 q2 q2' q3 q4 q5=>hp ρ2 H2 a2 w2 u q1 q2 q2' (hpost.trans.trans q3) (hpost.stays.trans q4) (new q5)
        | out=>exact hp
end
end Go.Rf

namespace Go.Rf
variable {B:Ice} {ds:List Deferred} {fx:List (Nat × Value)}
structure StRel (B:Ice) (ds:List Deferred) (fx:List (Nat × Value)) (ρ:Map) (H:Ice) (N:Nat) (st:St) (a:Act) (w:World):Prop where
 heap:HRel ρ H (o5 st.heap) w
 env:EnvRel B ds fx ρ H N st.env a
 only:∀ l,ρ l ≠ .none→∃ k,k < st.heap.length∧l = .b k
def D8 (p:Nat) (ρ ρ':Map):Prop:=∀ k,k < p→ρ (.b k) ≠ .none→(ρ' (.b k)).core=(ρ (.b k)).core ∨ ρ' (.b k) = .dead
theorem D8.refl (p ρ):D8 p ρ ρ:=fun _ _ _=>.inl rfl
theorem n9.toP {ρ ρ':Map} (h:n9 ρ ρ') (p:Nat):D8 p ρ ρ':=fun _ _ hk=>h _ hk
theorem D8.trans {p ρ ρ1 ρ2} (h:D8 p ρ ρ1) (k:D8 p ρ1 ρ2):D8 p ρ ρ2:=fun j hj hn=>by
 rcases h j hj hn with e | e
 ·rcases k j hj (fun h=>hn (Place.core_none (by rw[← e,h]; rfl))) with e' | e'
  ·exact .inl (e'.trans e)
  ·exact .inr e'
 ·rcases k j hj (by rw[e]; simp) with e' | e'
  ·exact .inr (Place.core_dead (by rw[e',e]; rfl))
  ·exact .inr e'
theorem qvt {n k:Nat} (h:k < n):(Kt n)[k]? = some (.b k):=by simp[Kt,h]
theorem Ks (n:Nat):(Kt n).Nodup:=by
 unfold Kt;rw[List.Nodup,List.pairwise_map];exact List.Pairwise.imp (fun h e=>h (by injection e)) List.nodup_range
theorem XD (n:Nat):(Kt n).length=n:=by simp[Kt]
theorem Kq {ρ:Map} {H:Ice} {w:World} (M:List Loc):Trans ρ H w (zV ρ M) H w:=⟨rfl,rfl,rfl,Nat.le_refl _,fun _ _ _=>⟨rfl,fun _=>rfl⟩,fun l b h=>by
 cases l with
 | n i k=>cases h
 | b k=>
   simp only[zV] at h;split at h
   ·rename_i l _; exact .inr ⟨l,h⟩
   ·cases h⟩
theorem Kr {ρ:Map} {p:Nat} {M:List Loc} (h:Kt p <+: M):D8 p ρ (zV ρ M):=fun k hk _=>.inl (congrArg _ (Xz (Zp h (qvt hk))))
theorem Wq {ρ:Map} {M:List Loc} {n:Nat} (hn:n=M.length):∀ l,zV ρ M l ≠ .none→∃ k,k < n∧l = .b k:=fun l hl=>by
 cases l with
 | n i k=>exact (hl rfl).elim
 | b k=>
   refine ⟨k,?_,rfl⟩
   by_cases hk:k < n
   ·exact hk
   ·exfalso
    apply hl;have:M[k]? = none:=List.getElem?_eq_none_iff.2 (by omega);simp only[zV,this]
theorem qc2 {ρ:Map} {H:Ice} {N:Nat} {env:List (Nat × V)} {a:Act} (hE:EnvRel B ds fx ρ H N env a):∀ keep:List Nat,f9 ρ H (zY env keep).2 ((zY env keep).1.map fun t=>a.tmps.getD t undef)
 | []=>rfl
 | t :: ks=>by
   have ih:=qc2 hE ks;simp only[zY]
   cases hg:B2 env t with
   | none=>exact ih
   | some v=>
     cases hk:zY env ks with
     | mk ts vs=>
       rw[hk] at ih;exact ⟨_,_,rfl,hE.rel t v hg,ih⟩
theorem qa2 {ρ:Map} {H:Ice} {f:Nat→Value}:∀ {ts:List Nat} {vs:List V},f9 ρ H vs (ts.map f)→∀ t v,B2 (ts.zip vs) t=some v→m7 ρ H v (f t)
 | [],vs,k,t,v,e=>by simp[B2] at e
 | s :: ts,vs,k,t,v,e=>by
   cases vs with
   | nil=>simp[f9] at k
   | cons x vs=>
     obtain ⟨u,us,hu,k1,k2⟩:=k;simp only[List.map_cons,List.cons.injEq] at hu;obtain ⟨rfl,rfl⟩:=hu;simp only[List.zip_cons_cons,B2] at e;split at e
     ·rename_i h; cases e; subst h; exact k1
     ·exact qa2 k2 t v e
theorem YP {ρ:Map} {H:Ice} {N p:Nat} {keep:List Nat} {env:List (Nat × V)} {h:Loc→Option Obj} {a:Act} {w:World} {st:St} (hH:HRel ρ H h w) (hE:EnvRel B ds fx ρ H N env a) (e:vi p keep env h=some st) :
 ∃ M,StRel B ds fx (zV ρ M) H N st a w∧D8 p ρ (zV ρ M)∧Trans ρ H w (zV ρ M) H w∧p≤st.heap.length:=by
 obtain ⟨⟨vs',os,M⟩,e1,e2⟩:=d9 e;cases e2;obtain ⟨n1,n2,n3,n4,n5⟩:=XJ hH (Ks p) e1;have hk:=n2 _ (qc2 hE keep);refine ⟨M,⟨n1,⟨hE.size,hE.defers,fun t v hg=>?_,hE.base,hE.fix⟩,Wq n5⟩,Kr n3,Kq M,?_⟩
 ·exact qa2 hk t v hg
 ·have:=n3.length_le;rw[XD] at this;simp only;omega
def Jr (B:Ice) (ds:List Deferred) (fx:List (Nat × Value)) (ρ:Map) (H:Ice) (w:World) (N p:Nat) (Q:Exit→Act→World→Prop):Ex × St→Prop
 | (.nrm,st)=>∀ ρ' H' a' w',StRel B ds fx ρ' H' N st a' w'→Trans ρ H w ρ' H' w'→D8 p ρ ρ'→p≤st.heap.length→Q .normal a' w'
 | (.exit id,st)=>∀ ρ' H' a' w',StRel B ds fx ρ' H' N st a' w'→Trans ρ H w ρ' H' w'→D8 p ρ ρ'→p≤st.heap.length→Q (.exit id) a' w'
 | (.ret,st)=>∀ ρ' H' a' w',StRel B ds fx ρ' H' N st a' w'→Trans ρ H w ρ' H' w'→D8 p ρ ρ'→p≤st.heap.length→Q .ret a' w'
 | (.pan v,st)=>∀ ρ' H' a' w' u,HRel ρ' H' (o5 st.heap) w'→(∀ l,ρ' l ≠ .none→∃ k,k < st.heap.length∧l = .b k)→m7 ρ' H' v u→a'.defers=ds→(∀ t u,(t,u)∈fx→a'.tmps.getD t undef=u)→Trans ρ H w ρ' H' w'→D8 p ρ ρ'→p≤st.heap.length→Q (.panic [{ v:=u,recovered:=false }]) a' w'
 | (.out,_)=>LetsOut Q
theorem Jr.shift {ρ ρ1:Map} {H H1:Ice} {w w1:World} {N p:Nat} {Q:Exit→Act→World→Prop} {x:Ex × St} (h:Jr B ds fx ρ H w N p Q x) (ht:Trans ρ H w ρ1 H1 w1) (hs:D8 p ρ ρ1):Jr B ds fx ρ1 H1 w1 N p Q x:=by
 obtain ⟨e,st⟩:=x
 cases e with
 | nrm=>exact fun ρ' H' a' w' q1 q2 q3 q4=>h ρ' H' a' w' q1 (ht.trans q2) (hs.trans q3) q4
 | exit id=>exact fun ρ' H' a' w' q1 q2 q3 q4=>h ρ' H' a' w' q1 (ht.trans q2) (hs.trans q3) q4
 | ret=>exact fun ρ' H' a' w' q1 q2 q3 q4=>h ρ' H' a' w' q1 (ht.trans q2) (hs.trans q3) q4
 | pan v=>exact fun ρ' H' a' w' u q1 q2 q3 q3' q3x q4 q5 q6=>h ρ' H' a' w' u q1 q2 q3 q3' q3x (ht.trans q4) (hs.trans q5) q6
 | out=>exact h
theorem qme {ρ:Map} {H:Ice} {p:Nat} {v:V} {u:Value} {h:Loc→Option Obj} {w:World} {ex:Ex} {st:St} (hH:HRel ρ H h w) (hv:m7 ρ H v u) (e:qmf p v h=some (ex,st)) :
 ∃ x ρ' H',ex = .pan x∧HRel ρ' H' (o5 st.heap) w∧(∀ l,ρ' l ≠ .none→∃ k,k < st.heap.length∧l = .b k)∧m7 ρ' H' x u∧Trans ρ H w ρ' H' w∧D8 p ρ ρ'∧p≤st.heap.length:=by
 obtain ⟨⟨x,fm⟩,e1,e2⟩:=d9 e;split at e2
 ·obtain ⟨⟨vs',os,M⟩,e3,e4⟩:=d9 e2;cases e4;obtain ⟨f1,f2,f3,f4⟩:=X2 hH fm;obtain ⟨n1,n2,n3,n4,n5⟩:=XJ f1 (Ks p) e3;refine ⟨.d x,zV (xS ρ fm) M,jU ρ H w fm,rfl,n1,fun l hl=>?_,(vU hH 24 v x fm e1).2.2 fm (fun _ h=>h) u hv,f2.trans (Kq M),(f3.toP p).trans (Kr n3),?_⟩
  ·exact Wq n5 l hl
  ·have:=n3.length_le;rw[XD] at this;simp only;omega
 ·cases e2
end Go.Rf

namespace Go.Rf
mutual
def W7:V→List Loc
 | .d _=>[]
 | .ref l _ _ _=>[l]
 | .ptr l _ _=>[l]
 | .agg cs=>wW cs
 | .iface _ x=>W7 x
 | .fn _ cs=>wW cs
 | .tup cs=>wW cs
 | .map l=>[l]
 | .iter l=>[l]
 | .junk=>[]
def wW:List V→List Loc
 | []=>[]
 | v :: vs=>W7 v++wW vs
end
def qai:List (D × V)→List Loc
 | []=>[]
 | (_,v) :: es=>W7 v++qai es
def qah:Obj→List Loc
 | .arr xs _=>wW xs
 | .map es=>qai es
 | _=>[]
mutual
theorem m7.congr {ρ ρ':Map} {H:Ice}:∀ (x:V) {v:Value},(∀ l∈W7 x,ρ l = ρ' l)→m7 ρ H x v→m7 ρ' H x v
 | .d _,_,_,k=>k
 | .ref l _ _ _,_,h,k=>by
   simp only[m7] at k ⊢;rw[← h l (by simp[W7])]; exact k
 | .ptr l _ _,_,h,k=>by
   simp only[m7] at k ⊢;rw[← h l (by simp[W7])]; exact k
 | .map l,_,h,k=>by
   simp only[m7] at k ⊢;rw[← h l (by simp[W7])]; exact k
 | .iter l,_,h,k=>by
   simp only[m7] at k ⊢;rw[← h l (by simp[W7])]; exact k
 | .agg cs,_,h,k=>by
   obtain ⟨vs,e,k,n⟩:=k;exact ⟨vs,e,f9.congr cs (fun l hl=>h l (by simpa [W7] using hl)) k,n⟩
 | .iface _ x,_,h,k=>by
   obtain ⟨u,e,k⟩:=k;exact ⟨u,e,m7.congr x (fun l hl=>h l (by simpa [W7] using hl)) k⟩
 | .fn _ cs,_,h,k=>by
   obtain ⟨us,e,k⟩:=k;exact ⟨us,e,f9.congr cs (fun l hl=>h l (by simpa [W7] using hl)) k⟩
 | .tup cs,_,h,k=>by
   obtain ⟨us,e,k⟩:=k;exact ⟨us,e,f9.congr cs (fun l hl=>h l (by simpa [W7] using hl)) k⟩
 | .junk,_,_,k=>k
theorem f9.congr {ρ ρ':Map} {H:Ice}:∀ (xs:List V) {vs:List Value},(∀ l∈wW xs,ρ l = ρ' l)→f9 ρ H xs vs→f9 ρ' H xs vs
 | [],_,_,k=>k
 | x :: xs,_,h,k=>by
   obtain ⟨v,vs',e,k1,k2⟩:=k;exact ⟨v,vs',e,m7.congr x (fun l hl=>h l (by simp[wW,hl])) k1,f9.congr xs (fun l hl=>h l (by simp[wW,hl])) k2⟩
end
theorem ERels.congr {ρ ρ':Map} {H:Ice}:∀ (es:List (D × V)) {ents:List MapEntry},(∀ l∈qai es,ρ l = ρ' l)→All2 (qeh ρ H) es ents→All2 (qeh ρ' H) es ents
 | [],_,_,.nil=>.nil
 | (_,v) :: es,_,h,.cons ⟨k1,k2,k3⟩ k=>.cons ⟨k1,m7.congr v (fun l hl=>h l (by simp[qai,hl])) k2,k3⟩ (ERels.congr es (fun l hl=>h l (by simp[qai,hl])) k)
theorem z7.congr {ρ ρ':Map} {H:Ice} {w:World} {o:Obj} {p:Place} (h:∀ l∈qah o,ρ l = ρ' l) (k:z7 ρ H w o p):z7 ρ' H w o p:=by
 cases o with
 | arr xs sz=>
   cases p with
   | virt s=>exact k
   | at_ b base s size=>
     obtain ⟨e,arr,elem,fr,us,h1,h2,h3,h4⟩:=k;exact ⟨e,arr,elem,fr,us,h1,h2,f9.congr xs h h3,h4⟩
   | _=>exact k.elim
 | map es=>
   cases p with
   | blk r=>
     obtain ⟨ents,clock,h1,h2⟩:=k;exact ⟨ents,clock,h1,ERels.congr es h h2⟩
   | _=>exact k.elim
 | iter s pos=>
   cases p with
   | blk r=>exact k
   | _=>exact k.elim
 | lol ls=>cases p <;> exact k
 | dead=>cases p <;> exact k.elim
mutual
theorem QS {f:Loc→Loc} {G:Loc→Prop} (hf:∀ l,G (f l)):∀ (v:V),∀ l∈W7 (V.mapL f v),G l
 | .d _,l,h=>by simp[V.mapL,W7] at h
 | .ref _ _ _ _,l,h=>by simp only[V.mapL,W7,List.mem_singleton] at h; subst h; exact hf _
 | .ptr _ _ _,l,h=>by simp only[V.mapL,W7,List.mem_singleton] at h; subst h; exact hf _
 | .map _,l,h=>by simp only[V.mapL,W7,List.mem_singleton] at h; subst h; exact hf _
 | .iter _,l,h=>by simp only[V.mapL,W7,List.mem_singleton] at h; subst h; exact hf _
 | .agg cs,l,h=>wV hf cs l (by simpa [V.mapL,W7] using h)
 | .iface _ x,l,h=>QS hf x l (by simpa [V.mapL,W7] using h)
 | .fn _ cs,l,h=>wV hf cs l (by simpa [V.mapL,W7] using h)
 | .tup cs,l,h=>wV hf cs l (by simpa [V.mapL,W7] using h)
 | .junk,l,h=>by simp[V.mapL,W7] at h
theorem wV {f:Loc→Loc} {G:Loc→Prop} (hf:∀ l,G (f l)):∀ (vs:List V),∀ l∈wW (Q1 f vs),G l
 | [],l,h=>by simp[Q1,wW] at h
 | v :: vs,l,h=>by
   simp only[Q1,wW,List.mem_append] at h;rcases h with h | h
   ·exact QS hf v l h
   ·exact wV hf vs l h
end
theorem qcw {f:Loc→Loc} {G:Loc→Prop} (hf:∀ l,G (f l)):∀ (es:List (D × V)),∀ l∈qai (ZW f es),G l
 | [],l,h=>by simp[ZW,qai] at h
 | (_,v) :: es,l,h=>by
   simp only[ZW,qai,List.mem_append] at h;rcases h with h | h
   ·exact QS hf v l h
   ·exact qcw hf es l h
theorem qo1 {f:Loc→Loc} {G:Loc→Prop} (hf:∀ l,G (f l)) {o o':Obj} (e:o.mapL f=some o'):∀ l∈qah o',G l:=by
 cases o <;> simp only[Obj.mapL,Option.some.injEq,reduceCtorEq] at e <;> subst e
 ·exact wV hf _
 ·exact qcw hf _
 ·intro l h; simp[qah] at h
 ·intro l h; simp[qah] at h
theorem vo:∀ (ws:List (Loc × Option Obj)) (h:Loc→Option Obj) (l:Loc),l∈ws.map (·.1)→∃ x,(l,x)∈ws ∧ ∀ h',i9 h' ws l=x
 | [],_,_,e=>by simp at e
 | (l',o) :: ws,h,l,e=>by
   by_cases hl:l∈ws.map (·.1)
   ·obtain ⟨x,h1,h2⟩:=vo ws h l hl;exact ⟨x,List.mem_cons_of_mem _ h1,fun h'=>h2 _⟩
   ·have e':l=l':=by
     simp only[List.map_cons,List.mem_cons] at e;rcases e with e | e
     ·exact e
     ·exact (hl e).elim
    subst e';refine ⟨o,List.mem_cons_self ..,fun h'=>?_⟩
    have miss:∀ (ws:List (Loc × Option Obj)) (h:Loc→Option Obj),l ∉ ws.map (·.1)→i9 h ws l=h l:=by
     intro ws
     induction ws with
     | nil=>intros; rfl
     | cons x ws ih=>
       intro h hn;obtain ⟨a,b⟩:=x;simp only[List.map_cons,List.mem_cons,not_or] at hn;show i9 (fun l'=>if l'=a then b else h l') ws l=h l;rw[ih _ hn.2,if_neg hn.1]
    show i9 (fun l'=>if l'=l then o else h' l') ws l=o;rw[miss ws _ hl,if_pos rfl]
theorem L8:∀ (ws:List (Loc × Option Obj)) (h:Loc→Option Obj) (l:Loc),l ∉ ws.map (·.1)→i9 h ws l=h l
 | [],_,_,_=>rfl
 | (a,b) :: ws,h,l,hn=>by
   simp only[List.map_cons,List.mem_cons,not_or] at hn;show i9 (fun l'=>if l'=a then b else h l') ws l=h l;rw[L8 ws _ l hn.2,if_neg hn.1]
theorem qc3 {i:Nat} {l:Loc}:l.isOf i=true ↔ ∃ k,l = .n i k:=by
 cases l with
 | b n=>simp[Loc.isOf]
 | n j k=>simp only[Loc.isOf,beq_iff_eq,Loc.n.injEq,exists_and_left,exists_eq',and_true]
def kC (p:Loc→Bool) (ρ:Map):Map:=fun l=>if p l=true then ρ l else match ρ l with
 | .none=>.none
 | _=>.dead
theorem QM {p:Loc→Bool} {h:Loc→Option Obj} {l:Loc} (e:p l=true):only p h l=h l:=by simp only[only,e,j6]
theorem XG {p:Loc→Bool} {h:Loc→Option Obj} {l:Loc} (e:p l=false):only p h l=none:=by simp only[only,e,k8]
theorem qfw {p:Loc→Bool} {ρ:Map} {l:Loc} (e:p l=true):kC p ρ l = ρ l:=by simp only[kC,e,if_true]
theorem qO {p:Loc→Bool} {ρ:Map} {l:Loc} {b:Nat} (e:(kC p ρ l).has b):p l=true∧(ρ l).has b:=by
 unfold kC at e;split at e
 ·rename_i h; exact ⟨h,e⟩
 ·split at e <;> cases e
theorem qb8 {p:Loc→Bool} {ρ:Map} {l:Loc} (e:ρ l = .none):kC p ρ l = .none:=by
 unfold kC;split
 ·exact e
 ·rw[e]
theorem qkm (p:Loc→Bool) (ρ:Map) (l:Loc):kC p ρ l = ρ l∨(kC p ρ l = .dead ∧ ρ l ≠ .none):=by
 unfold kC;split
 ·exact .inl rfl
 ·cases ρ l <;> simp
theorem vO (p:Loc→Bool) (ρ:Map):n9 ρ (kC p ρ):=fun l _=>(qkm p ρ l).imp (congrArg _) (·.1)
theorem HRel.only {ρ:Map} {H:Ice} {h:Loc→Option Obj} {w:World} (k:HRel ρ H h w) (p:Loc→Bool):HRel (kC p ρ) H (Rf.only p h) w where
 ice:=k.ice
 objs:=fun l o e=>by
  cases hp:p l with
  | false=>rw[XG hp] at e; cases e
  | true=>
    rw[QM hp] at e;rw[qfw hp];exact (k.objs l o e).mono (vO p ρ) (fun _ _ _ e=>e) (fun _ _=>rfl)
 gone:=fun l e=>by
  rcases qkm p ρ l with h | h
  ·cases hp:p l with
   | true=>rw[QM hp] at e; rw[h]; exact k.gone l e
   | false=>
     unfold kC at h ⊢;simp only[hp,Bool.false_eq_true,if_false] at h ⊢;split
     ·exact .inl rfl
     ·exact .inr rfl
  ·exact .inr h.1
 inj:=fun l l' b e e'=>k.inj l l' b (qO e).2 (qO e').2
 sep:=fun l b e=>k.sep l b (qO e).2
theorem qkl (p:Loc→Bool) (ρ:Map) (H:Ice) (w:World):Trans ρ H w (kC p ρ) H w:=
 ⟨rfl,rfl,rfl,Nat.le_refl _,fun _ _ _=>⟨rfl,fun _=>rfl⟩,fun l _ e=>.inr ⟨l,(qO e).2⟩⟩
def WY (ρ ρ':Map) (q:Loc→Bool):Map:=fun l=>if q l=true then ρ' l else ρ l
theorem Post.widen {ρ ρ':Map} {H H':Ice} {h:Loc→Option Obj} {w w':World} {i:Nat} {e:Eff} {v:Value} {A:List Loc} (hH:HRel ρ H h w) (hN:∀ k,ρ (.n i k) = .none)
 (k:Post (kC A.contains ρ) H (Rf.only A.contains h) w i e ρ' H' v w') (hw:okW A i e.wr=true)
 (h3:∀ l∈W7 e.v,l∈A∨l.isOf i=true) (h4:∀ l o,(l,some o)∈e.wr→∀ l'∈qah o,l'∈A∨l'.isOf i=true) :
 Post ρ H h w i e (WY ρ ρ' fun l=>A.contains l || l.isOf i) H' v w':=by
 simp only[okW,Bool.and_eq_true,List.all_eq_true,Bool.or_eq_true,List.contains_iff_mem] at hw;obtain ⟨h1,h2⟩:=hw
 let q:Loc→Bool:=fun l=>A.contains l || l.isOf i
 have hq:∀ l,q l=true↔(l∈A∨l.isOf i=true):=fun l=>by simp[q]
 show Post ρ H h w i e (WY ρ ρ' q) H' v w'
 have wp:∀ l,q l=true→WY ρ ρ' q l = ρ' l:=fun l h=>by simp only[WY,h,if_true]
 have wn:∀ l,q l=false→WY ρ ρ' q l = ρ l:=fun l h=>by simp only[WY,h,Bool.false_eq_true,if_false]
 have hst:n9 ρ (WY ρ ρ' q):=fun l hl=>by
  cases hql:q l with
  | false=>exact .inl (congrArg _ (wn l hql))
  | true=>
    rw[wp l hql];rcases (hq l).1 hql with hA | hi
    ·have e1:kC A.contains ρ l = ρ l:=qfw (List.contains_iff_mem.2 hA);rcases k.stays l (by rw[e1]; exact hl) with e2 | e2
     ·exact .inl (e2.trans (congrArg _ e1))
     ·exact .inr e2
    ·obtain ⟨j,rfl⟩:=qc3.1 hi;exact (hl (hN j)).elim
 have htr:Trans ρ H w (WY ρ ρ' q) H' w':=⟨k.trans.os,k.trans.tape,k.trans.output,k.trans.size,fun b hb hn=>k.trans.keep b hb (fun l hl=>hn l (qO hl).2),fun l b hb=>by
  cases hql:q l with
  | false=>rw[wn l hql] at hb; exact .inr ⟨l,hb⟩
  | true=>
    rw[wp l hql] at hb;rcases k.trans.new l b hb with h | ⟨l',h⟩
    ·exact .inl h
    ·exact .inr ⟨l',(qO h).2⟩⟩
 have hle:H.le H':=k.trans.le (hH.only _)
 have out:∀ l b,q l=false→(ρ l).has b→w'.heap[b]? = w.heap[b]? ∧ (∀ o,H' b o=H b o) ∧ ∀ l',¬ (ρ' l').has b:=fun l b hql hb=>by
  have hA:l ∉ A:=fun hA=>by rw[(hq l).2 (.inl hA)] at hql; cases hql
  have hno:∀ l',¬ (kC A.contains ρ l').has b:=fun l' hl'=>by
   obtain ⟨a1,a2⟩:=qO hl';have:=hH.inj l' l b a2 hb;subst this;exact hA (List.contains_iff_mem.1 a1)
  obtain ⟨b1,b2⟩:=k.trans.keep b (hH.lt hb) hno;refine ⟨b1,b2,fun l' hl'=>?_⟩;rcases k.trans.new l' b hl' with h | ⟨l2,h⟩
  ·have:=hH.lt hb; omega
  ·exact hno l2 h
 have hin:∀ l,q l=true→i9 h e.wr l=i9 (Rf.only A.contains h) e.wr l ∧ ∀ o,i9 h e.wr l=some o→(l,some o)∈e.wr:=fun l hql=>by
  by_cases hm:l∈e.wr.map (·.1)
  ·obtain ⟨x,a1,a2⟩:=vo e.wr h l hm;rw[a2,a2];exact ⟨rfl,fun o ho=>ho ▸ a1⟩
  ·rw[L8 _ _ _ hm,L8 _ _ _ hm];rcases (hq l).1 hql with hA | hi
   ·exact (hm (h1 l hA)).elim
   ·obtain ⟨j,rfl⟩:=qc3.1 hi
    have hn:h (.n i j)=none:=by
     cases ho:h (.n i j) with
     | none=>rfl
     | some o=>
       have:=hH.objs _ o ho;rw[hN j] at this
       cases o <;> exact this.elim
    refine ⟨?_,fun o ho=>by rw[hn] at ho; cases ho⟩;simp only[Rf.only,hn]
    cases A.contains (.n i j) <;> rfl
 have hout:∀ l,q l=false→i9 h e.wr l=h l:=fun l hql=>L8 _ _ _ (fun hm=>by rw[(hq l).2 (h2 l hm)] at hql; cases hql)
 refine ⟨⟨k.heap.ice,fun l o ho=>?_,fun l ho=>?_,fun l l' b hb hb'=>?_,fun l b hb=>?_⟩,htr,hst,fun l a1 a2=>?_,?_⟩
 ·cases hql:q l with
  | true=>
    obtain ⟨a1,a2⟩:=hin l hql;have ho':=ho;rw[a1] at ho';rw[wp l hql]
    exact (k.heap.objs l o ho').congr fun l' hl'=>(wp l' ((hq l').2 (h4 l o (a2 o ho) l' hl'))).symm
  | false=>
    rw[hout l hql] at ho;rw[wn l hql]
    exact (hH.objs l o ho).mono hst hle fun b hb=>(out l b hql hb).1
 ·cases hql:q l with
  | true=>rw[(hin l hql).1] at ho; rw[wp l hql]; exact k.heap.gone l ho
  | false=>rw[hout l hql] at ho; rw[wn l hql]; exact hH.gone l ho
 ·cases hql:q l with
  | true=>
    rw[wp l hql] at hb
    cases hql':q l' with
    | true=>rw[wp l' hql'] at hb'; exact k.heap.inj l l' b hb hb'
    | false=>rw[wn l' hql'] at hb'; exact ((out l' b hql' hb').2.2 l hb).elim
  | false=>
    rw[wn l hql] at hb
    cases hql':q l' with
    | true=>rw[wp l' hql'] at hb'; exact ((out l b hql hb).2.2 l' hb').elim
    | false=>rw[wn l' hql'] at hb'; exact hH.inj l l' b hb hb'
 ·intro o
  cases hql:q l with
  | true=>rw[wp l hql] at hb; exact k.heap.sep l b hb o
  | false=>
    rw[wn l hql] at hb;rw[(out l b hql hb).2.1 o];exact hH.sep l b hb o
 ·cases hql:q l with
  | true=>rw[wp l hql] at a2; exact k.new l (qb8 a1) a2
  | false=>rw[wn l hql] at a2; exact (a2 a1).elim
 ·exact m7.congr e.v (fun l hl=>(wp l ((hq l).2 (h3 l hl))).symm) k.val
theorem f8.widen {P:Program} {o:Oper} {a:Act} {ρ:Map} {H:Ice} {h:Loc→Option Obj} {w:World} {i:Nat} {A:List Loc} {r:R} (hH:HRel ρ H h w) (hN:∀ k,ρ (.n i k) = .none)
 (k:f8 P o a w (kC A.contains ρ) H (Rf.only A.contains h) i r)
 (hr:∀ e,r = .ok e∨r = .pan e→okW A i e.wr=true∧(∀ l∈W7 e.v,l∈A∨l.isOf i=true) ∧ ∀ l o,(l,some o)∈e.wr→∀ l'∈qah o,l'∈A∨l'.isOf i=true) :
 f8 P o a w ρ H h i r:=fun K Q hk=>by
 refine k K Q ?_
 cases r with
 | out=>exact hk
 | ok e=>
   obtain ⟨h1,h2,h3⟩:=hr e (.inl rfl)
   exact fun ρ' H' v w' hp=>hk _ _ _ _ (hp.widen hH hN h1 h2 h3)
 | pan e=>
   obtain ⟨h1,h2,h3⟩:=hr e (.inr rfl)
   exact fun ρ' H' v w' hp=>hk _ _ _ _ (hp.widen hH hN h1 h2 h3)
theorem Yp {m:List Loc} {i:Nat}:∀ (os:List Obj) (k:Nat) {l:Loc} {x:Option Obj},(l,x)∈N8 m i k os→∃ o,x=Obj.mapL (P4 m i) o
 | [],_,_,_,h=>by cases h
 | o :: os,k,l,x,h=>by
   rcases List.mem_cons.1 h with h | h
   ·cases h; exact ⟨o,rfl⟩
   ·exact Yp os (k + 1) h
theorem qi5 {cf:CF} {f:FuncId} {i:Nat} {h:Loc→Option Obj} {A:List Loc} {args:List (V × Bool)} {r:R} (e:Y8 cf f i (Rf.only A.contains h) args=some r) :
 ∀ ef,r = .ok ef∨r = .pan ef→(∀ l∈W7 ef.v,l∈A∨l.isOf i=true) ∧ ∀ l o,(l,some o)∈ef.wr→∀ l'∈qah o,l'∈A∨l'.isOf i=true:=by
 obtain ⟨⟨vs,fm⟩,e1,e2⟩:=d9 e;obtain ⟨⟨vs',os,m⟩,e3,e4⟩:=d9 e2
 have hm:∀ l∈m,l∈A:=fun l hl=>by
  rcases qcq e3 l hl with h' | h'
  ·cases h'
  ·simp only[Q7] at h';split at h'
   ·cases h'
   ·simp only[Rf.only] at h'
    cases hc:A.contains l with
    | true=>exact List.contains_iff_mem.1 hc
    | false=>rw[hc] at h'; cases h'
 have hf:∀ l,P4 m i l∈A∨(P4 m i l).isOf i=true:=fun l=>by
  cases l with
  | n a b=>exact .inr (by simp[P4,Loc.isOf])
  | b k=>
    by_cases hk:k < m.length
    ·rw[xf (List.getElem?_eq_getElem hk)];exact .inl (hm _ (List.getElem_mem hk))
    ·rw[qT (by omega)];exact .inr (by simp[Loc.isOf])
 intro ef hef
 cases hs:(vs'.all N6) with
 | false=>
   simp only[hs,k8] at e4;cases e4
 | true=>
   simp only[hs,j6] at e4;obtain ⟨cr,e5,e6⟩:=d9 e4;cases e6
   have hw:∀ {os:List Obj},∀ l o,(l,some o)∈fm.map (·,(none:Option Obj))++N8 m i 0 os→∀ l'∈qah o,l'∈A∨l'.isOf i=true:=fun {os} l o hmem=>by
    rcases List.mem_append.1 hmem with hmem | hmem
    ·obtain ⟨_,_,h⟩:=List.mem_map.1 hmem;cases h
    ·obtain ⟨o',ho'⟩:=Yp os 0 hmem;exact qo1 hf ho'.symm
   cases cr with
   | out=>rcases hef with h | h <;> cases h
   | ret rs hp=>
     rcases hef with h | h <;> cases h
     exact ⟨QS hf _,hw⟩
   | pan v hp=>
     rcases hef with h | h <;> cases h
     exact ⟨QS hf _,hw⟩
end Go.Rf
