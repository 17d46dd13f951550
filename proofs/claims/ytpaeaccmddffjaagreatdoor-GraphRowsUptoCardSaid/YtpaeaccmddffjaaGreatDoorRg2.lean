/- Parts of the proof. -/
import Derived.Test.YtpaeaccmddffjaaGreatDoorRg1
import Derived.ChangeKeysEq
import Derived.RangeFuncLeaves
import Derived.OrdersIn
set_option linter.all false
set_option linter.unusedSectionVars false
namespace Go.Rf
variable [Prg]
open Classical
noncomputable def jx (ρ:Map) (H:Ice) (w:World) (S:List Loc):Ice:=fun b o=>if ∃ l∈S,(ρ l).has b then w.cell? ⟨b,o,Option.none⟩ else H b o
noncomputable def zJ (ρ:Map) (S:List Loc):Map:=fun l=>if l∈S then .dead else ρ l
theorem Q9 {ρ:Map} {H:Ice} {h:Loc→Option Obj} {w:World} (hH:HRel ρ H h w) (S:List Loc) :
 HRel (zJ ρ S) (jx ρ H w S) (O9 h S) w∧Trans ρ H w (zJ ρ S) (jx ρ H w S) w∧j4 ρ (zJ ρ S)∧H.le (jx ρ H w S):=by
 have hle:H.le (jx ρ H w S):=fun b o v e=>by
  unfold jx;split
  ·exact hH.ice b o v e
  ·exact e
 have hst:j4 ρ (zJ ρ S):=fun l _=>by
  unfold zJ;split
  ·exact .inr rfl
  ·exact .inl rfl
 have blk:∀ l b,(zJ ρ S l).has b→l ∉ S∧(ρ l).has b:=fun l b e=>by
  unfold zJ at e;split at e
  ·cases e
  ·rename_i h; exact ⟨h,e⟩
 refine ⟨⟨?_,?_,?_,?_,?_⟩,⟨rfl,rfl,rfl,Nat.le_refl _,?_,?_,hle⟩,hst,hle⟩
 ·intro b o v e;unfold jx at e;split at e
  ·exact e
  ·exact hH.ice b o v e
 ·intro l o e;unfold O9 at e;split at e
  ·cases e
  ·rename_i hn;have:=(hH.objs l o e).mono hst hle (fun _ _=>rfl);unfold zJ;rw[if_neg hn];exact this
 ·intro l e;unfold O9 at e;unfold zJ;split at e
  ·rename_i hn; rw[if_pos hn]; exact .inr rfl
  ·rename_i hn; rw[if_neg hn]; exact hH.gone l e
 ·intro l l' b e e';exact hH.inj l l' b (blk l b e).2 (blk l' b e').2
 ·intro l b o e;obtain ⟨hn,e1⟩:=blk l b e.has;unfold jx;rw[if_neg]
  ·unfold zJ at e;rw[if_neg hn] at e;exact hH.sep l b o e
  ·rintro ⟨l',h1,h2⟩
   exact hn (hH.inj l l' b e1 h2 ▸ h1)
 ·intro b _ hn;refine ⟨rfl,fun o=>?_⟩;unfold jx;rw[if_neg]
  rintro ⟨l',_,h2⟩
  exact hn l' h2
 ·intro l b e;exact .inr ⟨l,(blk l b e).2⟩
def q54 (ρ:Map) (H:Ice) (h:Loc→Option Obj) (w:World) (v:V) (x:D) (ms:List Loc):Prop:=
 (∀ l∈ms,∃ o,h l=some o)∧Y3 x=J7 v ∧ ∀ S:List Loc,(∀ l∈ms,l∈S)→∀ u,j9 ρ H v u→I3 (jx ρ H w S) x u
theorem Yp {ρ:Map} {H:Ice} {h:Loc→Option Obj} {w:World} {f:V→Option (D × List Loc)} (hf:∀ v x ms,f v=some (x,ms)→q54 ρ H h w v x ms) :
 ∀ (vs:List V) (ds:List D) (ms:List Loc),ju f vs=some (ds,ms)→(∀ l∈ms,∃ o,h l=some o)∧ds.any Y3=vs.any J7 ∧
   ∀ S:List Loc,(∀ l∈ms,l∈S)→∀ us,f9 ρ H vs us→p9 (jx ρ H w S) ds us
 | [],ds,ms,e=>by cases e; exact ⟨(fun l hl=>(List.not_mem_nil hl).elim),rfl,fun S _ us k=>k⟩
 | v :: vs,ds,ms,e=>by
   simp only[ju] at e;split at e
   ·rename_i x m xs m' e1 e2;cases e;obtain ⟨a1,a2,a3⟩:=hf v x m e1;obtain ⟨b1,b2,b3⟩:=Yp hf vs xs m' e2;refine ⟨fun l hl=>?_,by simp only[List.any_cons,a2,b2],fun S hS us k=>?_⟩
    ·rcases List.mem_append.1 hl with h | h
     ·exact a1 l h
     ·exact b1 l h
    ·obtain ⟨u,us',rfl,k1,k2⟩:=k;exact ⟨u,us',rfl,a3 S (fun l hl=>hS l (List.mem_append_left _ hl)) u k1,b3 S (fun l hl=>hS l (List.mem_append_right _ hl)) us' k2⟩
   ·cases e
theorem XQ {us:List Value} {n j:Nat} {v:Value} (h:(flat (us.take n))[j]? = some v):(flat us)[j]? = some v:=by
 have:flat us=flat (us.take n)++flat (us.drop n):=by rw[← qx,List.take_append_drop]
 rw[this];have hl:=(List.getElem?_eq_some_iff.1 h).1;rw[List.getElem?_append_left hl];exact h
theorem Kr {sz:Nat}:∀ {us:List Value} (n:Nat),(∀ u∈us,u.cells.size=sz)→flat (us.drop n)=(flat us).drop (n * sz)
 | us,0,_=>by simp
 | [],n + 1,_=>by simp[flat]
 | u :: us,n + 1,h=>by
   have hl:u.cells.toList.length=sz:=by simpa using h u (List.mem_cons_self ..)
   rw[List.drop_succ_cons,Kr n (fun x hx=>h x (List.mem_cons_of_mem _ hx)),H9,List.drop_append,hl]
   have:(n + 1) * sz - sz=n * sz:=by rw[Nat.add_mul]; omega
   have h0:List.drop ((n + 1) * sz) u.cells.toList=[]:=List.drop_eq_nil_of_le (by rw[hl,Nat.add_mul]; omega);rw[this,h0,List.nil_append]
theorem qc5 {ρ:Map} {H:Ice} {w:World} {S:List Loc} {l:Loc} {b:Nat} (hl:l∈S) (hb:(ρ l).has b) (o:Nat):jx ρ H w S b o=w.cell? ⟨b,o,Option.none⟩:=by
 unfold jx;rw[if_pos ⟨l,hl,hb⟩]
theorem p9.of_get {H:Ice}:∀ {ds:List D} {us:List Value},ds.length=us.length→(∀ (e:Nat) d u,ds[e]? = some d→us[e]? = some u→I3 H d u)→p9 H ds us
 | [],[],_,_=>rfl
 | [],_ :: _,h,_=>by cases h
 | _ :: _,[],h,_=>by cases h
 | d :: ds,u :: us,h,k=>⟨u,us,rfl,k 0 d u rfl rfl,p9.of_get (by simpa using h) fun e d u h1 h2=>k (e + 1) d u (by simpa using h1) (by simpa using h2)⟩
theorem qgs:∀ {vs:List Value},(∀ v∈vs,one v=true)→flat vs=vs
 | [],_=>rfl
 | v :: vs,h=>by
   rw[H9,qgs (fun x hx=>h x (List.mem_cons_of_mem _ hx)),o5 (h v (List.mem_cons_self ..))];rfl
theorem kV.one {H:Ice} {w:World} {c:GC} {q:Option (Nat × Nat)} {v:Value} (k:kV H w c q v):one v=true:=by
 cases c with
 | d x=>cases q with
   | none=>exact j9.one (ρ:=fun _=>.none) (x:=.d x) k.1 k.2
   | some q=>exact k.elim
 | g xs=>cases q with
   | none=>exact k.elim
   | some q=>obtain ⟨_,off,c,n,arr,elem,fr,rfl,_⟩:=k; rfl
theorem kV.data {H:Ice} {w:World} {c:GC} {q:Option (Nat × Nat)} {v:Value} (k:kV H w c q v):I3 H c.data v∧Y3 c.data=false:=by
 cases c with
 | d x=>cases q with
   | none=>exact k
   | some q=>exact k.elim
 | g xs=>cases q with
   | none=>exact k.elim
   | some q=>exact ⟨k.1.1,rfl⟩
theorem qlv {H:Ice} {w:World} {q:Option (Nat × Nat)} {c:GC} {u:Value} (g:kV H w c q u):I3 H c.look u:=by
 have:=g.data.1
 cases c with
 | g xs=>exact this
 | d x=>
   cases x with
   | nils=>obtain rfl:u = .slice Option.none 0 0:=this; exact ⟨Option.none,0,rfl,Nat.le_refl _,by simp,fun h=>absurd rfl h⟩
   | _=>exact this
theorem q9i {ρ:Map} {H:Ice} {h:Loc→Option Obj} {w:World} {l:Loc} {cs:List GC} {n sz:W} {S:List Loc} {u:Value} (hH:HRel ρ H h w) (hl:h l=some (.gl cs n)) (hn:n.c=1) (hw:wl (cs.map GC.look)≤sz.w) (hS:l∈S)
 (hu:A3 (ρ l) sz 0 cs.length u):I3 (jx ρ H w S) (.sl (cs.map GC.look)) u:=by
 have hobj:=hH.objs l _ hl
 cases hp:ρ l with
 | gl b base s size inn=>
   rw[hp] at hobj hu;obtain ⟨rfl,_,_,_,_,arr,elem,fr,vs,hb,hsize,hvl,hc,hi⟩:=hobj;obtain ⟨rfl,c,rfl,q1,q2,q3,q4,_⟩:=hu;have hle:H.le (jx ρ H w S):=(Q9 hH S).2.2.2
   have hcell:∀ (k:Nat) (v:Value),vs[k]? = some v→∃ c,cs[k]? = some c∧kV H w c (inn k) v:=fun k v hv=>by
    have hlt:=(List.getElem?_eq_some_iff.1 hv).1;have h1:=List.getElem?_eq_getElem (l:=cs) (i:=k) (by omega);exact ⟨_,h1,hi k _ v h1 hv⟩
   have hone:∀ v∈vs,one v=true:=fun v hv=>by
    obtain ⟨k,hk⟩:=List.getElem?_of_mem hv;obtain ⟨_,_,g⟩:=hcell k v hk;exact g.one
   refine ⟨some ⟨b,base + 0 * s.c,Option.none⟩,c,by simp,by simpa using q1,?_,fun hne=>⟨b,base + 0 * s.c,1,vs,rfl,?_,fun u hu=>by rw[o5 (hone u hu)]; rfl,fun j v hj=>?_⟩⟩
   ·rw[List.length_map]; exact Nat.le_trans (Nat.mul_le_mul_left _ hw) q2
   ·refine p9.of_get (by simp[hvl]) fun i d u hd hu=>?_
    obtain ⟨c,g1,g2⟩:=hcell i u hu;rw[List.getElem?_map,g1] at hd;cases hd;exact (qlv g2).mono hle
   ·rw[qgs hone] at hj;rw[qc5 hS (by rw[hp]; exact .inl rfl)];have:=hc _ _ hj;simp only[World.cell?,hb]
    simpa using this
 | _=>rw[hp] at hobj; exact hobj.elim
theorem qry {ρ:Map} {H:Ice} {w:World} {xs:List D} {n sz:W} {p:Place} {u:Value} (hobj:w5 ρ H w (.grw xs n) p) (hu:A3 p sz 0 xs.length u):I3 H (.sl xs) u:=by
 cases p with
 | grw b base s size m=>
   obtain ⟨rfl,_,_,h4,h5,arr,elem,fr,us,hb,hsize,hr,hus,hc⟩:=hobj;obtain ⟨rfl,c,rfl,q1,q2,q3,q4,_⟩:=hu;exact ⟨some ⟨b,base + 0 * s.c,Option.none⟩,c,rfl,q1,Nat.le_trans (Nat.mul_le_mul_left _ h4) h5,fun _=>⟨b,base + 0 * s.c,s.c,us,rfl,hr,hus,by simpa using hc⟩⟩
 | _=>exact hobj.elim
theorem vG {ρ:Map} {H:Ice} {h:Loc→Option Obj} {w:World} (hH:HRel ρ H h w):∀ (k:Nat) (v:V) (x:D) (ms:List Loc),frz h k v=some (x,ms)→q54 ρ H h w v x ms
 | k,.d y,x,ms,e=>by
   have:frz h k (.d y)=some (y,[]):=by cases k <;> rfl
   rw[this] at e;cases e;exact ⟨fun l hl=>(List.not_mem_nil hl).elim,rfl,fun S _ u k=>I3.mono (Q9 hH S).2.2.2 _ k⟩
 | 0,.ref ..,_,_,e | 0,.ptr ..,_,_,e | 0,.agg _,_,_,e | 0,.iface ..,_,_,e | 0,.fn ..,_,_,e | 0,.tup _,_,_,e | 0,.map _,_,_,e | 0,.iter _,_,_,e | 0,.junk,_,_,e=>by cases e
 | k + 1,.tup _,_,_,e | k + 1,.iter _,_,_,e | k + 1,.junk,_,_,e=>by cases e
 | k + 1,.map l,x,ms,e=>by
   simp only[frz] at e;split at e
   ·rename_i es hl;cases e;refine ⟨fun l' hl'=>⟨_,List.mem_singleton.1 hl' ▸ hl⟩,rfl,fun S _ u hu=>?_⟩;have hu:QR (ρ l) (fun r=>.map (some r)) u:=hu
    cases hp:ρ l with
    | dead=>rw[hp] at hu; obtain ⟨r,hu⟩:=hu; exact ⟨_,hu⟩
    | blk q=>rw[hp] at hu; exact ⟨_,hu⟩
    | none=>rw[hp] at hu; exact hu.elim
    | virt s=>rw[hp] at hu; exact hu.elim
    | at_ a b c d=>rw[hp] at hu; exact hu.elim
    | gl a b c d e=>rw[hp] at hu; exact hu.elim
    | grw a b c d e=>rw[hp] at hu; exact hu.elim
    | out _ _ _ _=>rw[hp] at hu; exact hu.elim
   ·cases e
 | k + 1,.agg cs,x,ms,e=>by
   simp only[frz,Option.map_eq_some_iff] at e;obtain ⟨⟨ds,m⟩,e1,e2⟩:=e;cases e2;obtain ⟨a1,a2,a3⟩:=Yp (fun v x ms=>vG hH k v x ms) cs ds _ e1;refine ⟨a1,rfl,fun S hS u hu=>?_⟩;obtain ⟨vs,rfl,k1,k2⟩:=hu;exact ⟨vs,rfl,a3 S hS vs k1,by rw[a2]; exact k2⟩
 | k + 1,.iface t v,x,ms,e=>by
   simp only[frz,Option.map_eq_some_iff] at e;obtain ⟨⟨y,m⟩,e1,e2⟩:=e;cases e2;obtain ⟨a1,a2,a3⟩:=vG hH k v y _ e1;refine ⟨a1,rfl,fun S hS u hu=>?_⟩;obtain ⟨u',rfl,k1⟩:=hu;exact ⟨u',rfl,a3 S hS u' k1⟩
 | k + 1,.fn f cs,x,ms,e=>by
   simp only[frz,Option.map_eq_some_iff] at e;obtain ⟨⟨ds,m⟩,e1,e2⟩:=e;cases e2;obtain ⟨a1,a2,a3⟩:=Yp (fun v x ms=>vG hH k v x ms) cs ds _ e1;refine ⟨a1,rfl,fun S hS u hu=>?_⟩;obtain ⟨vs,rfl,k1⟩:=hu;exact ⟨vs,rfl,a3 S hS vs k1⟩
 | k + 1,.ref l sz off len,x,ms,e=>by
   simp only[frz] at e;split at e
   ·rename_i xs sz' hl;split at e
    ·rename_i hle;simp only[Option.bind_eq_some_iff] at e;obtain ⟨⟨ds,m⟩,e1,e2⟩:=e;split at e2
     ·rename_i hwl;cases e2;obtain ⟨a1,a2,a3⟩:=Yp (fun v x ms=>vG hH k v x ms) _ ds m e1;refine ⟨fun l' hl'=>?_,rfl,fun S hS u hu=>?_⟩
      ·rcases List.mem_cons.1 hl' with rfl | h'
       ·exact ⟨_,hl⟩
       ·exact a1 l' h'
      ·have hobj:=hH.objs l _ hl;have hu:A3 (ρ l) sz off len u:=hu
       cases hp:ρ l with
       | none=>rw[hp] at hu; exact hu.elim
       | dead=>rw[hp] at hobj; exact hobj.elim
       | blk q=>rw[hp] at hu; exact hu.elim
       | gl b base s size inn=>rw[hp] at hobj; exact hobj.elim
       | grw b base s size inn=>rw[hp] at hobj; exact hobj.elim
       | out _ _ _ _=>rw[hp] at hobj; exact hobj.elim
       | virt s=>
         rw[hp] at hobj hu;obtain ⟨rfl,_⟩:=hobj;obtain ⟨_,rfl,rfl,rfl⟩:=hu;cases e1;exact ⟨Option.none,0,rfl,Nat.le_refl _,by simp,fun h=>absurd rfl h⟩
       | at_ b base s size=>
         rw[hp] at hobj hu;obtain ⟨rfl,arr,elem,fr,us,hb,hsize,hus,hj,hs,hc,_⟩:=hobj;obtain ⟨rfl,c,rfl,q1,q2,q3,q4,_⟩:=hu;have hr:f9 ρ H ((xs.drop off).take len) ((us.drop off).take len):=(hus.drop off).take len;have hd:=a3 S (fun l' hl'=>hS l' (List.mem_cons_of_mem _ hl')) _ hr
         have hlen:ds.length=len:=by
          rw[hd.length,← hr.length,List.length_take,List.length_drop]; omega
         show I3 _ (.sl ds) _;refine ⟨some ⟨b,base + off * s.c,Option.none⟩,c,by rw[hlen],by omega,?_,fun _=>⟨b,base + off * s.c,s.c,_,rfl,hd,fun u hu=>hs u (List.mem_of_mem_drop (List.mem_of_mem_take hu)),fun j v hjv=>?_⟩⟩
         ·rw[hlen];exact Nat.le_trans (Nat.mul_le_mul_left _ hwl) q2
         ·rw[qc5 (hS l (List.mem_cons_self ..)) (by rw[hp]; rfl)];have q:=XQ hjv;rw[Kr off hs,List.getElem?_drop] at q;have:=hc _ _ q;simp only[World.cell?,hb]
          simpa [Nat.add_assoc] using this
     ·cases e2
    ·cases e
   ·rename_i cs n hl;split at e
    ·rename_i hc;obtain ⟨rfl,rfl,hn,hw⟩:=hc;cases e;exact ⟨fun l' hl'=>⟨_,List.mem_singleton.1 hl' ▸ hl⟩,rfl,fun S hS u hu=>q9i hH hl hn hw (hS l (List.mem_singleton_self _)) hu⟩
    ·cases e
   ·rename_i xs n hl;split at e
    ·rename_i hc;obtain ⟨rfl,rfl,hw⟩:=hc;cases e;exact ⟨fun l' hl'=>⟨_,List.mem_singleton.1 hl' ▸ hl⟩,rfl,fun S hS u hu=>(qry (hH.objs l _ hl) hu).mono (Q9 hH S).2.2.2⟩
    ·cases e
   ·cases e
 | k + 1,.ptr l e' j,x,ms,e=>by
   simp only[frz] at e;split at e
   ·rename_i xs sz' hl;split at e
    ·rename_i hj0;subst hj0;split at e
     ·rename_i v hv;simp only[Option.map_eq_some_iff] at e;obtain ⟨⟨y,m⟩,e1,e2⟩:=e;cases e2;obtain ⟨a1,a2,a3⟩:=vG hH k v y m e1;refine ⟨fun l' hl'=>?_,rfl,fun S hS u hu=>?_⟩
      ·rcases List.mem_cons.1 hl' with rfl | h'
       ·exact ⟨_,hl⟩
       ·exact a1 l' h'
      ·have hobj:=hH.objs l _ hl;have hu:D8 (ρ l) e' 0 u:=hu
       cases hp:ρ l with
       | none=>rw[hp] at hu; exact hu.elim
       | dead=>rw[hp] at hobj; exact hobj.elim
       | blk q=>rw[hp] at hu; exact hu.elim
       | virt s=>rw[hp] at hu; exact hu.elim
       | gl b base s size inn=>rw[hp] at hobj; exact hobj.elim
       | grw b base s size inn=>rw[hp] at hobj; exact hobj.elim
       | out _ _ _ _=>rw[hp] at hobj; exact hobj.elim
       | at_ b base s size=>
         rw[hp] at hobj hu;obtain ⟨u',r1,r2,r3,r4⟩:=qlo hobj hv;refine ⟨b,base + e' * s.c,u',hu,a3 S (fun l' hl'=>hS l' (List.mem_cons_of_mem _ hl')) u' r1,fun q v hq=>?_⟩;rw[qc5 (hS l (List.mem_cons_self ..)) (by rw[hp]; rfl)];exact r4 q v hq
     ·cases e
    ·cases e
   ·cases e
end Go.Rf

set_option linter.unusedSectionVars false
namespace Go.Rf
variable [Prg]
variable {B:Ice} {ds:List Deferred} {fx:List (Nat × Value)}
structure EnvRel (B:Ice) (ds:List Deferred) (fx:List (Nat × Value)) (ρ:Map) (H:Ice) (N:Nat) (env:List (Nat × V)) (a:Act):Prop where
 size:a.tmps.size=N
 defers:a.defers=ds
 rel:∀ t v,A5 env t=some v→j9 ρ H v (a.tmps.getD t undef)
 base:Ice.le B H
 fix:∀ t u,(t,u)∈fx→a.tmps.getD t undef=u
theorem EnvRel.mono {ρ ρ' H H' N env a} (k:EnvRel B ds fx ρ H N env a) (hs:j4 ρ ρ') (hl:H.le H'):EnvRel B ds fx ρ' H' N env a:=
 ⟨k.size,k.defers,fun t v e=>(k.rel t v e).mono hs hl,fun b o v e=>hl b o v (k.base b o v e),k.fix⟩
theorem EnvRel.put {ρ H N env a x v} (k:EnvRel B ds fx ρ H N env a) (d:Option Nat) (hd:∀ t,d=some t→t < N ∧ ∀ x∈fx,x.1≠t) (hv:j9 ρ H x v):EnvRel B ds fx ρ H N (U7 env d x) (a.put d v):=by
 cases d with
 | none=>exact k
 | some t=>
   obtain ⟨ht,hfx⟩:=hd t rfl;refine ⟨by simpa [Act.put] using k.size,k.defers,fun t' v' e=>?_,k.base,fun t' u' hm=>?_⟩
   ·simp only[U7,A5] at e
    by_cases h:t=t'
    ·subst h;rw[if_pos rfl] at e
     injection e with e
     subst e
     have:(a.tmps.setIfInBounds t v).getD t undef=v:=by
      simp[Array.getD,k.size,ht]
     simpa [Act.put,this] using hv
    ·rw[if_neg h] at e
     have:(a.tmps.setIfInBounds t v).getD t' undef=a.tmps.getD t' undef:=by
      simp only[Array.getD_eq_getD_getElem?,Array.getElem?_setIfInBounds,if_neg h]
     simpa [Act.put,this] using k.rel t' v' e
   ·have hne:=hfx _ hm
    have:(a.tmps.setIfInBounds t v).getD t' undef=a.tmps.getD t' undef:=by
     simp only[Array.getD_eq_getD_getElem?,Array.getElem?_setIfInBounds,if_neg (Ne.symm hne)]
    simpa [Act.put,this] using k.fix t' u' hm
mutual
def Y7:D→Value→Bool
 | .bool b,v=>match v with | .bool c=>b == c | _=>false
 | .int k n,v=>match v with | .int j m=>decide (k=j) && decide (n=m) | _=>false
 | .str b,v=>match v with | .string s=>decide (s.data.toList=b) && decide (b.length≤long) | _=>false
 | .agg ds,v=>match v with | .agg vs=>JA ds vs.toList && !ds.any Y3 | _=>false
 | .sl l,v=>match l,v with | [],.slice none 0 0=>true | _,_=>false
 | .nilp,v=>match v with | .pointer none=>true | _=>false
 | .nili,v=>match v with | .nilIface=>true | _=>false
 | .nilf,v=>match v with | .nilFunc=>true | _=>false
 | .nilm,v=>match v with | .map none=>true | _=>false
 | .nils,v=>match v with | .slice none 0 0=>true | _=>false
 | .fn f l,v=>match l,v with | [],.func (.func g) a b=>(decide (f=g) && decide (f < fB)) && a.toList.isEmpty && b.toList.isEmpty | _,_=>false
 | .iface t x,v=>match v with | .iface u v=>decide (t=u) && Y7 x v | _=>false
 | .box _,_=>false
def JA:List D→List Value→Bool
 | [],vs=>match vs with | []=>true | _=>false
 | d :: ds,vs=>match vs with | v :: vs=>Y7 d v && JA ds vs | []=>false
end
theorem vP {α:Type} {a:Array α} (h:a.toList.isEmpty=true):a = #[]:=by
 cases a with
 | mk l=>cases l <;> simp_all
mutual
theorem wV {H:Ice}:∀ (x:D) (v:Value),Y7 x v=true→I3 H x v
 | .bool b,v,h=>by cases v <;> simp_all [Y7,I3]
 | .int k n,v,h=>by cases v <;> simp_all [Y7,I3]
 | .str b,v,h=>by
   cases v <;> simp_all only [Y7,Bool.false_eq_true]
   rename_i s;simp only[Bool.and_eq_true,decide_eq_true_eq] at h;obtain ⟨h1,h2⟩:=h;subst h1;exact ⟨rfl,h2⟩
 | .agg ds,v,h=>by
   cases v <;> simp_all only [Y7,Bool.false_eq_true]
   rename_i vs;simp only[Bool.and_eq_true,Bool.not_eq_true'] at h;exact ⟨vs.toList,rfl,qaa ds _ h.1,h.2⟩
 | .sl l,v,h=>by
   unfold Y7 at h;split at h
   ·exact ⟨none,0,rfl,Nat.le_refl _,by simp[wl],fun h=>absurd rfl h⟩
   ·cases h
 | .nilp,v,h=>by unfold Y7 at h; split at h <;> first | rfl | cases h
 | .nili,v,h=>by unfold Y7 at h; split at h <;> first | rfl | cases h
 | .nilf,v,h=>by unfold Y7 at h; split at h <;> first | rfl | cases h
 | .nilm,v,h=>by unfold Y7 at h; split at h <;> first | exact ⟨_,rfl⟩ | cases h
 | .nils,v,h=>by unfold Y7 at h; split at h <;> first | rfl | cases h
 | .fn f l,v,h=>by
   unfold Y7 at h;split at h
   ·simp only[Bool.and_eq_true,decide_eq_true_eq] at h;obtain ⟨⟨⟨rfl,h0⟩,h1⟩,h2⟩:=h;rw[vP h1,vP h2];exact ⟨[],by simp[vI,h0],rfl⟩
   ·cases h
 | .iface t x,v,h=>by
   cases v <;> simp_all only [Y7,Bool.false_eq_true]
   rename_i u v;simp only[Bool.and_eq_true,decide_eq_true_eq] at h;obtain ⟨rfl,h⟩:=h;exact ⟨v,rfl,wV x v h⟩
 | .box _,_,h=>by simp[Y7] at h
theorem qaa {H:Ice}:∀ (xs:List D) (vs:List Value),JA xs vs=true→p9 H xs vs
 | [],vs,h=>by cases vs <;> simp_all [JA,p9]
 | x :: xs,vs,h=>by
   cases vs with
   | nil=>simp[JA] at h
   | cons v vs=>
     simp only[JA,Bool.and_eq_true] at h;exact ⟨v,vs,rfl,wV x v h.1,qaa xs vs h.2⟩
end
def okO:Operand→Opnd→Bool
 | .tmp t,.t n=>decide (t=n)
 | .const v,.c x=>Y7 x v
 | .func f,.c (.fn g [])=>decide (f=g) && decide (f < fB)
 | _,_=>false
theorem i7 {ρ H N env a} (k:EnvRel B ds fx ρ H N env a) {o:Operand} {x:Opnd} (h:okO o x=true) {v:V} (e:evO env x=some v):j9 ρ H v (a.eval o):=by
 unfold okO at h;split at h
 ·simp only[decide_eq_true_eq] at h; subst h; exact k.rel _ _ e
 ·simp only[evO,Option.some.injEq] at e; subst e; exact wV _ _ h
 ·simp only[Bool.and_eq_true,decide_eq_true_eq] at h;obtain ⟨rfl,h0⟩:=h;simp only[evO,Option.some.injEq] at e; subst e;exact ⟨[],by rw[vI,if_pos h0]; rfl,rfl⟩
 ·cases h
def aggT:TypeDesc→Bool
 | .struct _ | .array _ _=>true
 | _=>false
def vV (P:Program) (t:TypeId) (n:Nat) (ag:Bool):Bool:=
 match P.info? t,P.underlying t with
 | some i,some d=>decide (i.size=n) && (aggT d == ag)
 | _,_=>false
def Y1 (P:Program) (t:TypeId) (n:Nat):Bool:=match P.info? t with
 | some i=>decide (i.size=n)
 | none=>false
def T2 (P:Program) (t:TypeId) (z:D):Bool:=match P.info? t with
 | some i=>match i.zero with
   | some v=>Y7 z v && !(match v with | .tuple _=>true | _=>false)
   | none=>false
 | none=>false
theorem Y1.run {P:Program} {t n} (h:Y1 P t n=true) (w:World):(sizeOf t).run P w = .ok n w:=by
 unfold Y1 at h;split at h
 ·rename_i i hi;simp only[decide_eq_true_eq] at h;rw[run_sizeOf w hi,Program.cellsOf,hi];simp[h]
 ·cases h
theorem vV.size {P:Program} {t n ag} (h:vV P t n ag=true):Y1 P t n=true:=by
 unfold vV at h;unfold Y1
 cases hi:P.info? t with
 | none=>simp[hi] at h
 | some i=>
   cases hu:P.underlying t with
   | none=>simp[hi,hu] at h
   | some d=>simp[hi,hu] at h; simp[h.1]
theorem vV.isAgg {P:Program} {t n ag} (h:vV P t n ag=true) (w:World):(Go.isAgg t).run P w = .ok ag w:=by
 unfold vV at h
 cases hi:P.info? t with
 | none=>simp[hi] at h
 | some i=>
   cases hu:P.underlying t with
   | none=>simp[hi,hu] at h
   | some d=>
     simp[hi,hu] at h;have h2:=h.2;unfold Go.isAgg;rw[Sem.run_bind,run_underlying hu,Result.andThen_ok,← h2]
     cases d <;> rfl
theorem T2.run {P:Program} {t z} (h:T2 P t z=true) (w:World):∃ v,(zeroValue t).run P w = .ok v w ∧ ∀ H,I3 H z v:=by
 unfold T2 at h;split at h
 ·rename_i i hi;split at h
  ·rename_i v hv;simp only[Bool.and_eq_true] at h;refine ⟨v,?_,fun H=>wV z v h.1⟩;unfold zeroValue;rw[Sem.run_bind,run_typeInfo w hi,Result.andThen_ok,hv];rfl
  ·cases h
 ·cases h
def H8 (i:Nat) (ρ ρ':Map):Prop:=∀ l,ρ l = .none→ρ' l ≠ .none→∃ k,l = .n i k
theorem H8.refl (i ρ):H8 i ρ ρ:=fun _ h h'=>absurd h h'
theorem H8.upd {i ρ} (k:Nat) (p:Place):H8 i ρ (B5 ρ (.n i k) p):=fun l h h'=>by
 by_cases e:l = .n i k
 ·exact ⟨k,e⟩
 ·rw[n6 e] at h'; exact absurd h h'
theorem H8.trans {i ρ ρ1 ρ2} (h:H8 i ρ ρ1) (k:H8 i ρ1 ρ2):H8 i ρ ρ2:=fun l h1 h2=>by
 by_cases e:ρ1 l = .none
 ·exact k l e h2
 ·exact h l h1 e
theorem H8.kill {i ρ l} (h:ρ l ≠ .none) (p:Place):H8 i ρ (B5 ρ l p):=fun l' h1 h2=>by
 by_cases e:l'=l
 ·subst e; exact absurd h1 h
 ·rw[n6 e] at h2; exact absurd h1 h2
structure Post (ρ:Map) (H:Ice) (h:Loc→Option Obj) (w:World) (i:Nat) (e:Eff) (ρ':Map) (H':Ice) (v:Value) (w':World):Prop where
 heap:HRel ρ' H' (j8 h e.wr) w'
 trans:Trans ρ H w ρ' H' w'
 stays:j4 ρ ρ'
 new:H8 i ρ ρ'
 val:j9 ρ' H' e.v v
def Qd (ro:Option Nat):Fence:={ Fence.wide with round:=ro }
theorem ZI {ro:Option Nat} {n:Nat} {P:Program} {f:FuncId} {args:Array Value} {w:World} {R:Ending→World→Prop} (h:Calls P f args w R):CallsIn (Qd ro) n P f args w R:=(callsIn_wide (n:=n)).2 h
theorem Qw {P:Program} {o:Oper} {a:Act} {w w':World} {r:Next} (ro:Option Nat) (hd:∀ d,r ≠ .defer d) (h:(execOp a.eval o).run P w = .ok r w'):(o.semAt ro a.eval).run P w = .ok r w':=by
 by_cases hop:∃ c,o.op = .defer c
 ·obtain ⟨c,hop⟩:=hop;unfold execOp at h;simp only[hop,Sem.run_bind] at h
  cases hr:(resolve a.eval c o.type).run P w with
  | ok d w2=>rw[hr] at h; cases h; exact absurd rfl (hd d)
  | halt x w2=>rw[hr] at h; cases h
 ·rw[Oper.semAt_eq ro a.eval o fun c hc=>hop ⟨c,hc⟩];exact h
def f8 (P:Program) (o:Oper) (a:Act) (w:World) (ρ:Map) (H:Ice) (h:Loc→Option Obj) (i:Nat) (r:R):Prop:=
 ∀ (ro:Option Nat) (K:Act→World→Prop) (Q:Exit→Act→World→Prop),
   (match r with
    | .ok e=>∀ ρ' H' v w',Post ρ H h w i e ρ' H' v w'→K (a.put o.dst v) w'
    | .pan e=>∀ ρ' H' v w',Post ρ H h w i e ρ' H' v w'→Q (.panic [{ v,recovered:=false }]) a w'
    | .out=>LetsOut Q)→o.wpIn (Qd ro) 0 P a w K Q
theorem f8.of {P:Program} {o:Oper} {a:Act} {w w':World} {ρ ρ':Map} {H H':Ice} {h i} {e:Eff} {v:Value} (hr:(execOp a.eval o).run P w = .ok (.value v) w')
 (hp:Post ρ H h w i e ρ' H' v w'):f8 P o a w ρ H h i (.ok e):=fun ro K Q hk=>⟨fun _ _=>trivial,by
 rw[show (Qd ro).round=ro from rfl,Qw ro (fun _ h=>by cases h) hr]
 exact hk _ _ _ _ hp⟩
theorem f8.ofU {P:Program} {o:Oper} {a:Act} {w w':World} {ρ ρ':Map} {H H':Ice} {h i} {e:Eff} (hr:(execOp a.eval o).run P w = .ok .skip w')
 (hp:Post ρ H h w i e ρ' H' undef w'):f8 P o a w ρ H h i (.ok e):=fun ro K Q hk=>⟨fun _ _=>trivial,by
 rw[show (Qd ro).round=ro from rfl,Qw ro (fun _ h=>by cases h) hr]
 exact hk _ _ _ _ hp⟩
theorem Post.pure {ρ H h w i} {x:V} {v:Value} (hH:HRel ρ H h w) (hv:j9 ρ H x v) (rd:List Loc):Post ρ H h w i { v:=x,rd:=rd } ρ H v w:=
 ⟨hH,Trans.refl ..,j4.refl _,H8.refl _ _,hv⟩
theorem f8.pure {P:Program} {o:Oper} {a:Act} {w:World} {ρ:Map} {H:Ice} {h i} {x:V} {v:Value} (hr:(execOp a.eval o).run P w = .ok (.value v) w)
 (hH:HRel ρ H h w) (hv:j9 ρ H x v) (rd:List Loc:=[]):f8 P o a w ρ H h i (.ok { v:=x,rd:=rd }):=f8.of hr (Post.pure hH hv rd)
theorem w7 {x:V} {r:R} (h:Rf.val x=some r):r = .ok { v:=x }:=by cases h; rfl
theorem f7 {α β:Type} {x:Option α} {k:α→Option β} {r:β} (h:bnd x k=some r):∃ a,x=some a∧k a=some r:=by
 cases x with
 | none=>cases h
 | some a=>exact ⟨a,rfl,h⟩
end Go.Rf

set_option linter.unusedSectionVars false
namespace Go.Rf
variable [Prg]
theorem vH {ρ:Map} {H:Ice} {h:Loc→Option Obj} {w:World} (hH:HRel ρ H h w):∀ (args:List (V × Bool)) (vs:List V) (m:List Loc),F2 h args=some (vs,m)→
 ∀ S:List Loc,(∀ l∈m,l∈S)→∀ us,f9 ρ H (args.map (·.1)) us→f9 (zJ ρ S) (jx ρ H w S) vs us
 | [],vs,m,e,S,_,us,k=>by cases e; exact k
 | (v,fl) :: l,vs,m,e,S,hS,us,k=>by
   obtain ⟨u,us',rfl,k1,k2⟩:=k;simp only[F2] at e;split at e
   ·rename_i v' m1 vs' m2 e1 e2;cases e;have tail:=vH hH l vs' m2 e2 S (fun x hx=>hS x (List.mem_append_right _ hx)) us' k2;refine ⟨u,us',rfl,?_,tail⟩
    cases fl with
    | true=>
      simp only[if_true,Option.map_eq_some_iff] at e1;obtain ⟨⟨x,m'⟩,f1,f2⟩:=e1;cases f2;exact (vG hH 24 v x _ f1).2.2 S (fun x hx=>hS x (List.mem_append_left _ hx)) u k1
    | false=>
      simp only[Bool.false_eq_true,if_false] at e1;cases e1;exact k1.mono (Q9 hH S).2.2.1 (Q9 hH S).2.2.2
   ·cases e
section
variable {m:List Loc} {i:Nat}
theorem zM {k:Nat} {l:Loc} (h:m[k]? = some l):N6 m i (.b k)=l:=by
 have hk:=(List.getElem?_eq_some_iff.1 h).1;simp only[N6,if_pos hk,List.getD,h,Option.getD_some]
theorem qC {k:Nat} (h:m.length≤k):N6 m i (.b k) = .n i (k - m.length):=by
 simp only[N6,if_neg (Nat.not_lt.2 h)]
theorem qva (hnd:m.Nodup) (hm:∀ j,.n i j ∉ m) {a b:Nat} (h:N6 m i (.b a)=N6 m i (.b b)):a=b:=by
 by_cases ha:a < m.length <;> by_cases hb:b < m.length
 ·have h1:=List.getElem?_eq_getElem ha;have h2:=List.getElem?_eq_getElem hb;rw[zM h1,zM h2] at h;exact (List.getElem_inj hnd).1 h
 ·have h1:=List.getElem?_eq_getElem ha;rw[zM h1,qC (by omega)] at h;exact (hm _ (h ▸ List.getElem_mem ha)).elim
 ·have h2:=List.getElem?_eq_getElem hb;rw[zM h2,qC (by omega)] at h;exact (hm _ (h.symm ▸ List.getElem_mem hb)).elim
 ·rw[qC (by omega),qC (by omega)] at h
  injection h with _ h
  omega
theorem qai (hinj:∀ a b,N6 m i (.b a)=N6 m i (.b b)→a=b):∀ (os:List Obj) (k:Nat) (h:Loc→Option Obj),
 (∀ j o,os[j]? = some o→j8 h (M1 m i k os) (N6 m i (.b (k + j)))=o.mapL (N6 m i)) ∧
 (∀ l,(∀ j,j < os.length→N6 m i (.b (k + j))≠l)→j8 h (M1 m i k os) l=h l)
 | [],k,h=>⟨fun j o e=>by simp at e,fun l _=>rfl⟩
 | o :: os,k,h=>by
   obtain ⟨a1,a2⟩:=qai hinj os (k + 1) (F5 h (N6 m i (.b k)) (o.mapL (N6 m i)));refine ⟨fun j o' e=>?_,fun l hl=>?_⟩
   ·cases j with
    | zero=>
      simp at e;subst e;simp only[M1,Jg];rw[a2]
      ·exact m9 ..
      ·intro j hj he;have:=hinj _ _ he;omega
    | succ j=>
      have:=a1 j o' (by simpa using e);simp only[M1,Jg];rw[show k + (j + 1)=k + 1 + j from by omega];exact this
   ·simp only[M1,Jg];rw[a2 l (fun j hj he=>hl (j + 1) (by simp; omega) (by rw[← he]; congr 2; omega))];exact I4 (fun he=>hl 0 (by simp) he.symm)
end
mutual
theorem j9.mapL {ρ ρ':Map} {H:Ice} {f:Loc→Loc} (hf:∀ l,ρ l ≠ .none→ρ' (f l) = ρ l):∀ (v:V) {u:Value},j9 ρ H v u→j9 ρ' H (V.mapL f v) u
 | .d x,_,k=>k
 | .ref l sz o n,u,k=>by
   have k:A3 (ρ l) sz o n u:=k;show A3 (ρ' (f l)) sz o n u;rw[hf l (fun h=>by rw[h] at k; exact k)];exact k
 | .ptr l e j,u,k=>by
   have k:D8 (ρ l) e j u:=k;show D8 (ρ' (f l)) e j u;rw[hf l (fun h=>by rw[h] at k; exact k)];exact k
 | .map l,u,k=>by
   have k:QR (ρ l) (fun r=>.map (some r)) u:=k;show QR (ρ' (f l)) (fun r=>.map (some r)) u;rw[hf l (fun h=>by rw[h] at k; exact k)];exact k
 | .iter l,u,k=>by
   have k:jt (ρ l) u:=k;show jt (ρ' (f l)) u;rw[hf l (fun h=>by rw[h] at k; exact k)];exact k
 | .agg cs,u,k=>by
   obtain ⟨vs,e,k1,k2⟩:=k;exact ⟨vs,e,(f9.mapL hf cs k1).1,by rw[(f9.mapL hf cs k1).2.1]; exact k2⟩
 | .iface t x,u,k=>by
   obtain ⟨v,e,k1⟩:=k;exact ⟨v,e,j9.mapL hf x k1⟩
 | .fn g cs,u,k=>by
   obtain ⟨vs,e,k1⟩:=k;exact ⟨vs,e,(f9.mapL hf cs k1).1⟩
 | .tup cs,u,k=>by
   obtain ⟨vs,e,k1⟩:=k;exact ⟨vs,e,(f9.mapL hf cs k1).1⟩
 | .junk,_,k=>k
theorem f9.mapL {ρ ρ':Map} {H:Ice} {f:Loc→Loc} (hf:∀ l,ρ l ≠ .none→ρ' (f l) = ρ l):∀ (vs:List V) {us:List Value},f9 ρ H vs us→
 f9 ρ' H (X5 f vs) us∧(X5 f vs).any J7=vs.any J7∧(X5 f vs).any w5.isJunk=vs.any w5.isJunk
 | [],_,k=>⟨k,rfl,rfl⟩
 | v :: vs,us,k=>by
   obtain ⟨u,us',rfl,k1,k2⟩:=k;obtain ⟨a1,a2,a3⟩:=f9.mapL hf vs k2;refine ⟨⟨u,us',rfl,j9.mapL hf v k1,a1⟩,?_,?_⟩
   ·simp only[X5,List.any_cons,a2]
    congr 1
    cases v <;> rfl
   ·simp only[X5,List.any_cons,a3]
    congr 1
    cases v <;> rfl
end
theorem qge {ρ ρ':Map} {H:Ice} {f:Loc→Loc} (hf:∀ l,ρ l ≠ .none→ρ' (f l) = ρ l):∀ (es:List (D × V)) {ents:List MapEntry},All2 (qeo ρ H) es ents→All2 (qeo ρ' H) (ZW f es) ents
 | [],_,k=>by cases k; exact .nil
 | (key,v) :: es,_,k=>by
   cases k with
   | cons k1 k2=>
     obtain ⟨c1,c2,c3⟩:=k1;refine .cons ⟨c1,j9.mapL hf v c2,?_⟩ (qge hf es k2);rw[← c3]
     cases v <;> rfl
theorem w5.mapL {ρ ρ':Map} {H:Ice} {w:World} {f:Loc→Loc} (hf:∀ l,ρ l ≠ .none→ρ' (f l) = ρ l) {o:Obj} {p:Place} (k:w5 ρ H w o p):∃ o',o.mapL f=some o'∧w5 ρ' H w o' p:=by
 cases o with
 | arr xs sz=>
   refine ⟨_,rfl,?_⟩
   cases p with
   | virt s=>
     obtain ⟨rfl,k2⟩:=k;exact ⟨rfl,k2⟩
   | at_ b base s size=>
     obtain ⟨e,arr,elem,fr,us,h1,h2,h3,h4,h5,h6⟩:=k;obtain ⟨a1,a2,a3⟩:=f9.mapL hf xs h3;exact ⟨e,arr,elem,fr,us,h1,h2,a1,by rw[a3]; exact h4,h5,h6⟩
   | _=>exact k.elim
 | map es=>
   refine ⟨_,rfl,?_⟩
   cases p with
   | blk r=>
     obtain ⟨ents,clock,h1,h2⟩:=k;exact ⟨ents,clock,h1,qge hf es h2⟩
   | _=>exact k.elim
 | iter s pos=>exact ⟨_,rfl,by cases p <;> exact k⟩
 | gl cs sz=>exact ⟨_,rfl,by cases p <;> exact k⟩
 | grw xs sz=>exact ⟨_,rfl,by cases p <;> exact k⟩
 | tr rem=>exact ⟨_,rfl,by cases p <;> exact k⟩
 | dead=>cases p <;> exact k.elim
end Go.Rf

set_option linter.unusedSectionVars false
namespace Go.Rf
variable [Prg]
def QP (ρ1 ρ':Map) (m:List Loc) (i:Nat):Map:=fun l=>match idx m l with
 | some k=>ρ' (.b k)
 | none=>match l with
   | .n a j=>if a=i then ρ' (.b (m.length + j)) else ρ1 (.n a j)
   | .b k=>ρ1 (.b k)
theorem q9c {m:List Loc} (hnd:m.Nodup) {k:Nat} {l:Loc} (h:m[k]? = some l):idx m l=some k:=by
 cases hi:idx m l with
 | none=>exact (Yi hi (List.mem_of_getElem? h)).elim
 | some k'=>rw[qf7 hnd (Yj hi) h]
theorem q2f {m:List Loc} {l:Loc} (h:l ∉ m):idx m l=none:=by
 cases hi:idx m l with
 | none=>rfl
 | some k=>exact (h (List.mem_of_getElem? (Yj hi))).elim
theorem qz2 {ρ1 ρ':Map} {H1 H':Ice} {h1:Loc→Option Obj} {w w':World} {m:List Loc} {i:Nat} {os:List Obj} (hH:HRel ρ1 H1 h1 w) (hnd:m.Nodup) (hm:∀ l∈m,ρ1 l ≠ .none) (hN:∀ k,ρ1 (.n i k) = .none)
 (hH':HRel ρ' H' (j5 os) w') (ht:Trans (zI ρ1 m) H1 w ρ' H' w') (hst:j4 (zI ρ1 m) ρ') (hb:∀ l,ρ' l ≠ .none→∃ k,l = .b k) (hlen:m.length≤os.length) :
 HRel (QP ρ1 ρ' m i) H' (j8 h1 (M1 m i 0 os)) w'∧Trans ρ1 H1 w (QP ρ1 ρ' m i) H' w'∧j4 ρ1 (QP ρ1 ρ' m i)∧H8 i ρ1 (QP ρ1 ρ' m i) ∧
  ∀ v u,j9 ρ' H' v u→j9 (QP ρ1 ρ' m i) H' (V.mapL (N6 m i) v) u:=by
 have hni:∀ j,Loc.n i j ∉ m:=fun j hj=>hm _ hj (hN j)
 have hinj:∀ a b,N6 m i (.b a)=N6 m i (.b b)→a=b:=fun a b=>qva hnd hni
 have hback:∀ k,QP ρ1 ρ' m i (N6 m i (.b k)) = ρ' (.b k):=by
  intro k
  by_cases hk:k < m.length
  ·have e:=List.getElem?_eq_getElem hk;rw[zM e];simp only[QP,q9c hnd e]
  ·rw[qC (by omega)];simp only[QP,q2f (hni _),if_true]
   congr 2
   omega
 have hf:∀ l,ρ' l ≠ .none→QP ρ1 ρ' m i (N6 m i l) = ρ' l:=fun l hl=>by
  obtain ⟨k,rfl⟩:=hb l hl;exact hback k
 have hcases:∀ l,(∃ k,l=N6 m i (.b k))∨(l ∉ m∧(∀ k,l≠N6 m i (.b k))∧QP ρ1 ρ' m i l = ρ1 l):=by
  intro l
  cases hi:idx m l with
  | some k=>exact .inl ⟨k,(zM (Yj hi)).symm⟩
  | none=>
    have hlm:=Yi hi
    by_cases hni':∃ j,l = .n i j
    ·obtain ⟨j,rfl⟩:=hni';refine .inl ⟨m.length + j,?_⟩;rw[qC (by omega)]
     congr 1
     omega
    ·refine .inr ⟨hlm,fun k hk=>?_,?_⟩
     ·by_cases h:k < m.length
      ·rw[zM (List.getElem?_eq_getElem h)] at hk;exact hlm (hk ▸ List.getElem_mem h)
      ·rw[qC (by omega)] at hk;exact hni' ⟨_,hk⟩
     ·simp only[QP,hi]
      cases l with
      | b k=>rfl
      | n a j=>
        simp only;rw[if_neg (fun h=>hni' ⟨j,by rw[h]⟩)]
 have hnew:∀ k b,(ρ' (.b k)).has b→w.heap.size≤b ∨ ∃ l∈m,(ρ1 l).has b:=by
  intro k b hkb;rcases ht.new _ b hkb with h | ⟨l',h⟩
  ·exact .inl h
  ·right
   cases l' with
   | n a j=>cases h
   | b k'=>
     simp only[zI] at h;split at h
     ·rename_i l e; exact ⟨l,List.mem_of_getElem? e,h⟩
     ·cases h
 have hstay:j4 ρ1 (QP ρ1 ρ' m i):=by
  intro l hl;rcases hcases l with ⟨k,rfl⟩ | ⟨_,_,e⟩
  ·rw[hback]
   by_cases hk:k < m.length
   ·have e:=List.getElem?_eq_getElem hk;rw[zM e] at hl ⊢;have:=hst (.b k);rw[Xo e] at this;exact this hl
   ·rw[qC (by omega)] at hl;exact (hl (hN _)).elim
  ·exact .inl (by rw[e])
 have hnoc:∀ b,b < w.heap.size→(∀ l∈m,¬ (ρ1 l).has b)→w'.heap[b]? = w.heap[b]? ∧ ∀ o,H' b o=H1 b o:=fun b hb hn=>ht.keep b hb (fun l hl=>by
  cases l with
  | n a j=>cases hl
  | b k=>
    simp only[zI] at hl;split at hl
    ·rename_i l e; exact hn l (List.mem_of_getElem? e) hl
    ·cases hl)
 have hlt:∀ {l b},(ρ1 l).has b→b < w.heap.size:=fun e=>hH.lt e
 have hle:H1.le H':=ht.grows;obtain ⟨w1,w2⟩:=qai (m:=m) (i:=i) hinj os 0 h1
 have ofl:∀ {k o},j5 os (.b k)=some o→os[k]? = some o:=fun {k o} ho=>by
  simp only[j5] at ho;split at ho
  ·cases ho
  ·exact ho
 refine ⟨⟨hH'.ice,?_,?_,?_,?_⟩,⟨ht.os,ht.tape,ht.output,ht.size,?_,?_,hle⟩,hstay,?_,fun v u k=>j9.mapL hf v k⟩
 ·
  intro l o ho;rcases hcases l with ⟨k,rfl⟩ | ⟨hlm,hne,e⟩
  ·rw[hback]
   cases hk:os[k]? with
   | some o'=>
     have:=w1 k o' hk;rw[Nat.zero_add] at this;rw[this] at ho
     cases hd:j5 os (.b k) with
     | some o''=>
       have h2:=ofl hd;rw[hk] at h2;cases h2;obtain ⟨o3,q1,q2⟩:=w5.mapL hf (hH'.objs _ _ hd);rw[q1] at ho;cases ho;exact q2
     | none=>
       simp only[j5,hk] at hd;split at hd
       ·rename_i hdd; cases hdd; cases ho
       ·cases hd
   | none=>
     have hkl:=List.getElem?_eq_none_iff.1 hk
     rw[w2 _ (fun j hj he=>by
      rw[Nat.zero_add] at he;have:=hinj _ _ he
      omega)] at ho
     exfalso
     rw[qC (by omega)] at ho;have:=hH.objs _ _ ho;rw[hN] at this
     cases o <;> exact this.elim
  ·rw[w2 l (fun j _ he=>hne _ he.symm)] at ho;rw[e];refine (hH.objs l o ho).mono hstay hle (fun b hbk=>?_);exact (hnoc b (hlt hbk) (fun l' hl' he=>hlm (hH.inj l l' b hbk he ▸ hl'))).1
 ·
  intro l ho;rcases hcases l with ⟨k,rfl⟩ | ⟨hlm,hne,e⟩
  ·rw[hback]
   cases hd:j5 os (.b k) with
   | none=>exact hH'.gone _ hd
   | some o=>
     exfalso
     have h2:=ofl hd;have:=w1 k o h2;rw[Nat.zero_add] at this;obtain ⟨o3,q1,_⟩:=w5.mapL hf (hH'.objs _ _ hd);rw[this,q1] at ho;cases ho
  ·rw[w2 l (fun j _ he=>hne _ he.symm)] at ho;rw[e];exact hH.gone l ho
 ·
  intro l l' b e1 e2
  rcases hcases l with ⟨k,rfl⟩ | ⟨hlm,hne,e⟩ <;> rcases hcases l' with ⟨k',rfl⟩ | ⟨hlm',hne',e'⟩
  ·rw[hback] at e1 e2;have:=hH'.inj _ _ b e1 e2;rw[this]
  ·rw[hback] at e1;rw[e'] at e2;rcases hnew k b e1 with h | ⟨l2,h2,h3⟩
   ·have:=hlt e2; omega
   ·exact (hlm' (hH.inj l' l2 b e2 h3 ▸ h2)).elim
  ·rw[e] at e1;rw[hback] at e2;rcases hnew k' b e2 with h | ⟨l2,h2,h3⟩
   ·have:=hlt e1; omega
   ·exact (hlm (hH.inj l l2 b e1 h3 ▸ h2)).elim
  ·rw[e] at e1;rw[e'] at e2;exact hH.inj l l' b e1 e2
 ·
  intro l b o e1;rcases hcases l with ⟨k,rfl⟩ | ⟨hlm,hne,e⟩
  ·rw[hback] at e1;exact hH'.sep _ b o e1
  ·rw[e] at e1;rw[(hnoc b (hlt e1.has) (fun l' hl' he=>hlm (hH.inj l l' b e1.has he ▸ hl'))).2 o];exact hH.sep l b o e1
 ·intro b hb hn;exact hnoc b hb (fun l _=>hn l)
 ·intro l b e1;rcases hcases l with ⟨k,rfl⟩ | ⟨hlm,hne,e⟩
  ·rw[hback] at e1;rcases hnew k b e1 with h | ⟨l2,_,h3⟩
   ·exact .inl h
   ·exact .inr ⟨l2,h3⟩
  ·rw[e] at e1;exact .inr ⟨l,e1⟩
 ·intro l h2 h3;rcases hcases l with ⟨k,rfl⟩ | ⟨hlm,hne,e⟩
  ·by_cases hk:k < m.length
   ·have e:=List.getElem?_eq_getElem hk;rw[zM e] at h2;exact (hm _ (List.getElem_mem hk) h2).elim
   ·exact ⟨_,qC (by omega)⟩
  ·rw[e] at h3;exact (h3 h2).elim
end Go.Rf

set_option linter.unusedSectionVars false
namespace Go.Rf
variable [Prg]
variable {B:Ice} {ds:List Deferred} {fx:List (Nat × Value)}
section
variable {P:Program} {T:Tab} {cf:CF} {o:Oper} {a:Act} {w:World} {ρ:Map} {H:Ice} {h:Loc→Option Obj} {i N:Nat} {env:List (Nat × V)} {r:R}
def qx1 (x:Opnd):Op→Bool
 | .move y | .assign y=>okO y x
 | _=>false
theorem s_mv {x} (hH:HRel ρ H h w) (hE:EnvRel B ds fx ρ H N env a) (hok:qx1 x o.op=true) (e:exec T cf i (.mv x) (evO env) h=some r):f8 P o a w ρ H h i r:=by
 obtain ⟨v,e1,e2⟩:=f7 e;rw[w7 e2];unfold qx1 at hok;split at hok
 ·rename_i y hop;exact f8.pure (by unfold execOp; rw[hop]; rfl) hH (i7 hE hok e1)
 ·rename_i y hop;exact f8.pure (by unfold execOp; rw[hop]; rfl) hH (i7 hE hok e1)
 ·cases hok
def qif (c x y:Opnd):Op→Bool
 | .pick c' x' y'=>okO c' c && okO x' x && okO y' y
 | _=>false
theorem q66 {c x y} (hH:HRel ρ H h w) (hE:EnvRel B ds fx ρ H N env a) (hok:qif c x y o.op=true) (e:exec T cf i (.pick c x y) (evO env) h=some r):f8 P o a w ρ H h i r:=by
 unfold qif at hok;split at hok
 ·rename_i c' x' y' hop;simp only[Bool.and_eq_true] at hok;obtain ⟨⟨h1,h2⟩,h3⟩:=hok;simp only[exec] at e;split at e
  ·rename_i hc;obtain ⟨v,e1,e2⟩:=f7 e;rw[w7 e2];have hc':a.eval c' = .bool true:=i7 hE h1 hc;exact f8.pure (by unfold execOp; simp only[hop,hc']; rfl) hH (i7 hE h2 e1)
  ·rename_i hc;obtain ⟨v,e1,e2⟩:=f7 e;rw[w7 e2];have hc':a.eval c' = .bool false:=i7 hE h1 hc;exact f8.pure (by unfold execOp; simp only[hop,hc']; rfl) hH (i7 hE h3 e1)
  ·cases e
 ·cases hok
def qxz (op:UnOp) (x:Opnd):Op→Bool
 | .unOp op' _ x'=>decide (op'=op) && okO x' x
 | _=>false
theorem s_un {op x} (hH:HRel ρ H h w) (hE:EnvRel B ds fx ρ H N env a) (hok:qxz op x o.op=true) (e:exec T cf i (.un op x) (evO env) h=some r):f8 P o a w ρ H h i r:=by
 unfold qxz at hok;split at hok
 ·rename_i op' t x' hop;simp only[Bool.and_eq_true,decide_eq_true_eq] at hok;obtain ⟨h1,h2⟩:=hok;subst h1;obtain ⟨v,e1,e2⟩:=f7 e;obtain ⟨d,e3,e4⟩:=f7 e2;rw[w7 e4];have hx:=i7 hE h2 e1;unfold un at e3;split at e3
  ·cases e3;have hx':a.eval x' = .bool _:=hx;rename_i b;exact f8.pure (x:=.d (.bool (!b))) (v:=.bool (!b)) (by unfold execOp; simp only[hop,hx']; rfl) hH rfl
  ·cases e3;have hx':a.eval x' = .int _ _:=hx;rename_i k n;exact f8.pure (x:=.d (.int k (k.wrap (0 - n)))) (v:=.int k (k.wrap (0 - n))) (by unfold execOp; simp only[hop,hx']; rfl) hH rfl
  ·cases e3
 ·cases hok
def qpa (t:TypeId) (x:Opnd) (P:Program):Op→Bool
 | .makeInterface t' x'=>decide (t'=t) && okO x' x && (match P.underlying t with | some (.interface _)=>false | some _=>true | none=>false)
 | _=>false
theorem zge {t x} (hH:HRel ρ H h w) (hE:EnvRel B ds fx ρ H N env a) (hok:qpa t x P o.op=true) (e:exec T cf i (.mkI t x) (evO env) h=some r):f8 P o a w ρ H h i r:=by
 unfold qpa at hok;split at hok
 ·rename_i t' x' hop;simp only[Bool.and_eq_true,decide_eq_true_eq] at hok;obtain ⟨⟨h1,h2⟩,h3⟩:=hok;subst h1;obtain ⟨v,e1,e2⟩:=f7 e;rw[w7 e2];have hx:=i7 hE h2 e1;refine f8.pure (v:=.iface t' (a.eval x')) ?_ hH ?_
  ·unfold execOp;simp only[hop,Instr.makeInterface]
   cases hu:P.underlying t' with
   | none=>rw[hu] at h3; cases h3
   | some d=>
     rw[hu] at h3;simp only[Sem.run_bind,run_underlying hu,Result.andThen_ok]
     cases d <;> first | rfl | cases h3
  ·unfold Ju;split
   ·exact ⟨_,rfl,hx⟩
   ·exact ⟨_,rfl,hx⟩
 ·cases hok
theorem qou {op k x y d} (e:J8 op k x y=some d):∃ v,I3 H d v∧(binOp op 0 (.int k x) (.int k y)).run P w = .ok v w∧(∀ t,binOp op t (.int k x) (.int k y)=binOp op 0 (.int k x) (.int k y)):=by
 unfold J8 at e;split at e
 all_goals first
  | (injection e with e; subst e; refine ⟨_,rfl,?_,fun t=>rfl⟩; simp only[binOp,ne_eq,not_true_eq_false,if_false,Op.intArith,Op.intBits,Op.intCmp]; rfl)
  | (split at e
     ·cases e
     ·rename_i hy
      injection e with e; subst e; refine ⟨_,rfl,?_,fun t=>rfl⟩; simp only[binOp,ne_eq,not_true_eq_false,if_false,Op.intDiv,if_neg hy]; rfl)
  | cases e
theorem qh1 {op k x k' y d} (e:KK op k x y=some d):∃ v,I3 H d v ∧ ∀ t,(binOp op t (.int k x) (.int k' y)).run P w = .ok v w:=by
 unfold KK at e;split at e
 ·cases e
 ·rename_i hy;split at e
  ·cases e; exact ⟨_,rfl,fun t=>by simp only[binOp,Op.shift,if_neg hy]; rfl⟩
  ·cases e; exact ⟨_,rfl,fun t=>by simp only[binOp,Op.shift,if_neg hy]; rfl⟩
  ·cases e
theorem xS (op:BinOp) (t:TypeId) (x y:Operand) (u v:Value) (h:(match u,v with | .nilIface,.nilIface=>false | .agg _,.agg _=>false | _,_=>true)=true) :
 (eqGuard op t x y u v).run P w = .ok () w:=by
 unfold eqGuard
 cases op <;> first
  | rfl
  | (split at h
     ·cases h
     ·cases h
     ·simp only[Bool.not_true,Bool.false_eq_true,if_false]
      first
       | rfl
       | (split
          ·simp_all
          ·simp_all
          ·rfl))
def qph (op:BinOp) (x y:Opnd):Op→Bool
 | .binOp op' _ x' y' _=>decide (op'=op) && okO x' x && okO y' y
 | _=>false
theorem qhf (a b:List UInt8):((⟨a.toArray⟩:ByteArray).toList == (⟨b.toArray⟩:ByteArray).toList)=(a == b):=by
 rw[ByteArray.toList_mk,ByteArray.toList_mk]
theorem zgm {op x y} (hH:HRel ρ H h w) (hE:EnvRel B ds fx ρ H N env a) (hok:qph op x y o.op=true) (e:exec T cf i (.bin op x y) (evO env) h=some r):f8 P o a w ρ H h i r:=by
 unfold qph at hok;split at hok
 ·rename_i op' t x' y' yt hop;simp only[Bool.and_eq_true,decide_eq_true_eq] at hok;obtain ⟨⟨h1,h2⟩,h3⟩:=hok;subst h1;obtain ⟨u,e1,e2⟩:=f7 e;obtain ⟨v,e3,e4⟩:=f7 e2;obtain ⟨d,e5,e6⟩:=f7 e4;rw[w7 e6];have hx:=i7 hE h2 e1;have hy:=i7 hE h3 e3
  have go:∀ z,(match a.eval x',a.eval y' with | .nilIface,.nilIface=>false | .agg _,.agg _=>false | _,_=>true)=true→I3 H d z→(binOp op' t (a.eval x') (a.eval y')).run P w = .ok z w→f8 P o a w ρ H h i (.ok { v:=.d d }):=by
   intro z hg hz hr;refine f8.pure (x:=.d d) (v:=z) ?_ hH hz;unfold execOp;simp only[hop,Sem.run_bind,xS _ _ _ _ _ _ hg,Result.andThen_ok,hr];rfl
  unfold bin at e5;split at e5
  ·rename_i k m k' n;have hx':a.eval x' = .int k m:=hx;have hy':a.eval y' = .int k' n:=hy;rw[hx',hy'] at go
   have sh:∀ d,KK op' k m n=some d→∃ z,I3 H d z∧(binOp op' t (.int k m) (.int k' n)).run P w = .ok z w:=fun d e=>by
    obtain ⟨z,h1,h2⟩:=qh1 (P:=P) (w:=w) (H:=H) (k':=k') e;exact ⟨z,h1,h2 t⟩
   split at e5
   ·obtain ⟨z,h1,h2⟩:=sh d e5;exact go z rfl h1 h2
   ·obtain ⟨z,h1,h2⟩:=sh d e5;exact go z rfl h1 h2
   ·split at e5
    ·rename_i hk;subst hk;obtain ⟨z,h1,h2,h3⟩:=qou (P:=P) (w:=w) (H:=H) e5;exact go z rfl h1 (by rw[h3]; exact h2)
    ·cases e5
  ·rename_i s s';obtain ⟨hx',hl⟩:=(hx:a.eval x' = .string ⟨s.toArray⟩∧s.length≤long);obtain ⟨hy',hl'⟩:=(hy:a.eval y' = .string ⟨s'.toArray⟩∧s'.length≤long);rw[hx',hy'] at go;unfold YJ at e5;split at e5
   ·split at e5
    ·rename_i hlen;cases e5;refine go (.string ⟨(s++s').toArray⟩) rfl ⟨rfl,by simpa using hlen⟩ ?_
     have h1:¬ ((((⟨s.toArray⟩:ByteArray).size + (⟨s'.toArray⟩:ByteArray).size:Nat):Int) > IntKind.i64.max):=by
      have:(⟨s.toArray⟩:ByteArray).size + (⟨s'.toArray⟩:ByteArray).size=s.length + s'.length:=by simp[ByteArray.size]
      rw[this]
      have:IntKind.i64.max=9223372036854775807:=by decide
      rw[this];unfold long at hlen;omega
     simp only[binOp,Op.stringOp,if_neg h1]
     have h2:(⟨s.toArray⟩:ByteArray)++⟨s'.toArray⟩=⟨(s++s').toArray⟩:=by
      apply ByteArray.ext;simp
     rw[h2];rfl
    ·cases e5
   ·cases e5;refine go (.bool (s == s')) rfl rfl ?_;simp only[binOp,Op.stringOp,qhf];rfl
   ·cases e5;refine go (.bool (!(s == s'))) rfl rfl ?_;simp only[binOp,Op.stringOp,qhf];rfl
   ·cases e5
  ·cases e5
 ·cases hok
theorem ZD (t:TypeId) (x y:Value):Op.equal t x y=Op.equalIn (9999 + 1) t x y:=rfl
def qpf (eq:Bool) (x y:Opnd) (P:Program):Op→Bool
 | .binOp op t x' y' _=>(match op with | .eql=>eq | .neq=>!eq | _=>false) && okO x' x && okO y' y && (match P.underlying t with | some .bool=>true | _=>false)
 | _=>false
theorem zgk {eq x y} (hH:HRel ρ H h w) (hE:EnvRel B ds fx ρ H N env a) (hok:qpf eq x y P o.op=true) (e:exec T cf i (.eqB eq x y) (evO env) h=some r):f8 P o a w ρ H h i r:=by
 unfold qpf at hok;split at hok
 ·rename_i op t x' y' yt hop;simp only[Bool.and_eq_true] at hok;obtain ⟨⟨⟨h1,h2⟩,h3⟩,h4⟩:=hok;simp only[exec] at e;split at e
  ·rename_i b c e1 e2;rw[w7 e];have hx:a.eval x' = .bool b:=i7 hE h2 e1;have hy:a.eval y' = .bool c:=i7 hE h3 e2
   have hu:P.underlying t=some .bool:=by split at h4 <;> first | assumption | cases h4
   have he:(Op.equal t (.bool b) (.bool c)).run P w = .ok (b == c) w:=by
    rw[ZD,Op.equalIn,Sem.run_bind,run_underlying hu,Result.andThen_ok];rfl
   refine f8.pure (x:=.d (.bool ((b == c) == eq))) (v:=.bool ((b == c) == eq)) ?_ hH rfl;unfold execOp;split at h1
   ·subst h1;simp only[hop,Sem.run_bind,hx,hy,xS _ _ _ _ (.bool b) (.bool c) rfl,Result.andThen_ok,binOp,he];simp
   ·have:eq=false:=by simpa using h1
    subst this;simp only[hop,Sem.run_bind,hx,hy,xS _ _ _ _ (.bool b) (.bool c) rfl,Result.andThen_ok,binOp,he];simp
   ·cases h1
  ·cases e
 ·cases hok
def qpd (eq ifc:Bool) (x:Opnd) (P:Program):Op→Bool
 | .binOp op t x' y' _=>(match op with | .eql=>eq | .neq=>!eq | _=>false) && okO x' x &&
  (match P.underlying t,y' with | some (.pointer _),.const (.pointer none)=>!ifc | some (.interface _),.const .nilIface=>ifc | _,_=>false)
 | _=>false
theorem zgi {eq ifc x} (hH:HRel ρ H h w) (hE:EnvRel B ds fx ρ H N env a) (hok:qpd eq ifc x P o.op=true) (e:exec T cf i (.isN eq ifc x) (evO env) h=some r):f8 P o a w ρ H h i r:=by
 unfold qpd at hok;split at hok
 ·rename_i op t x' y' yt hop;simp only[Bool.and_eq_true] at hok;obtain ⟨⟨h1,h2⟩,h4⟩:=hok;obtain ⟨v,e1,e2⟩:=f7 e;obtain ⟨b,e3,e4⟩:=f7 e2;rw[w7 e4];have hx:=i7 hE h2 e1
  have key:(eqGuard op t x' y' (a.eval x') (a.eval y')).run P w = .ok () w∧(∀ op',op' = .eql∨op' = .neq→binOp op' t (a.eval x') (a.eval y')=(match op' with | .eql=>(do pure (.bool (← Op.equal t (a.eval x') (a.eval y')))) | _=>(do pure (.bool (!(← Op.equal t (a.eval x') (a.eval y'))))))) ∧
   (Op.equal t (a.eval x') (a.eval y')).run P w = .ok b w:=by
   split at h4
   ·rename_i el hu
    have hi:ifc=false:=by simpa using h4
    subst hi;have hy:a.eval (.const (.pointer none)) = .pointer none:=rfl;rw[hy]
    have hp:∃ p,a.eval x' = .pointer p∧b=p.isNone:=by
     unfold JS at e3
     split at e3 <;> first | contradiction | cases e3
     ·exact ⟨none,hx,rfl⟩
     ·obtain ⟨b',off,u,hv,_⟩:=hx;exact ⟨_,hv,rfl⟩
     ·rename_i l e j _;have hx:D8 (ρ l) e j (a.eval x'):=hx
      cases hp:ρ l with
      | dead=>rw[hp] at hx; obtain ⟨q,hq⟩:=hx; exact ⟨_,hq,rfl⟩
      | at_ b1 b2 b3 b4=>rw[hp] at hx; exact ⟨_,hx,rfl⟩
      | gl b1 b2 b3 b4 b5=>rw[hp] at hx; exact ⟨_,hx,rfl⟩
      | grw b1 b2 b3 b4 b5=>rw[hp] at hx; exact ⟨_,hx,rfl⟩
      | _=>rw[hp] at hx; exact hx.elim
    obtain ⟨p,hp,rfl⟩:=hp;rw[hp];refine ⟨xS _ _ _ _ _ _ rfl,?_,?_⟩
    ·rintro op' (rfl | rfl) <;> rfl
    ·rw[ZD,Op.equalIn,Sem.run_bind,run_underlying hu,Result.andThen_ok]
     cases p <;> rfl
   ·rename_i ms hu;subst h4;have hy:a.eval (.const .nilIface) = .nilIface:=rfl;rw[hy]
    have hp:(a.eval x' = .nilIface∧b=true) ∨ ∃ t u,a.eval x' = .iface t u∧b=false:=by
     unfold JS at e3
     split at e3 <;> first | contradiction | cases e3
     ·exact .inl ⟨hx,rfl⟩
     ·obtain ⟨u,hv,_⟩:=hx;exact .inr ⟨_,_,hv,rfl⟩
     ·obtain ⟨u,hv,_⟩:=hx;exact .inr ⟨_,_,hv,rfl⟩
    rcases hp with ⟨hp,rfl⟩ | ⟨t',u,hp,rfl⟩
    ·rw[hp];refine ⟨?_,?_,?_⟩
     ·unfold eqGuard
      cases op <;> first | rfl | simp
     ·rintro op' (rfl | rfl) <;> rfl
     ·rw[ZD,Op.equalIn,Sem.run_bind,run_underlying hu,Result.andThen_ok];rfl
    ·rw[hp];refine ⟨xS _ _ _ _ _ _ rfl,?_,?_⟩
     ·rintro op' (rfl | rfl) <;> rfl
     ·rw[ZD,Op.equalIn,Sem.run_bind,run_underlying hu,Result.andThen_ok];rfl
   ·cases h4
  obtain ⟨k1,k2,k3⟩:=key;refine f8.pure (x:=.d (.bool (b == eq))) (v:=.bool (b == eq)) ?_ hH rfl;unfold execOp;split at h1
  ·subst h1;simp only[hop,Sem.run_bind,k1,Result.andThen_ok,k2 .eql (.inl rfl),k3];simp
  ·have:eq=false:=by simpa using h1
   subst this;simp only[hop,Sem.run_bind,k1,Result.andThen_ok,k2 .neq (.inr rfl),k3];simp
  ·cases h1
 ·cases hok
end
end Go.Rf

set_option linter.unusedSectionVars false
namespace Go.Rf
variable [Prg]
variable {B:Ice} {ds:List Deferred} {fx:List (Nat × Value)}
section
variable {P:Program} {T:Tab} {cf:CF} {o:Oper} {a:Act} {w:World} {ρ:Map} {H:Ice} {h:Loc→Option Obj} {i N:Nat} {env:List (Nat × V)} {r:R}
theorem xv (s:List UInt8):(⟨s.toArray⟩:ByteArray).size=s.length:=by simp[ByteArray.size]
def qcg (k:IntKind) (x:Opnd) (P:Program):Op→Bool
 | .convert src dst x'=>okO x' x && (P.underlying src).isSome && (match P.underlying dst with | some (.int k')=>decide (k'=k) | _=>false)
 | _=>false
theorem q1b {k x} (hH:HRel ρ H h w) (hE:EnvRel B ds fx ρ H N env a) (hok:qcg k x P o.op=true) (e:exec T cf i (.conv (.int k) x) (evO env) h=some r):f8 P o a w ρ H h i r:=by
 unfold qcg at hok;split at hok
 ·rename_i src dst x' hop;simp only[Bool.and_eq_true] at hok;obtain ⟨⟨h1,h2⟩,h3⟩:=hok;obtain ⟨v,e1,e2⟩:=f7 e
  cases v with
  | d x0=>
    cases x0 with
    | int j n=>
      rw[w7 e2];have hx:a.eval x' = .int j n:=i7 hE h1 e1;obtain ⟨d,hd⟩:=Option.isSome_iff_exists.1 h2
      have hu:P.underlying dst=some (.int k):=by
       split at h3
       ·rename_i k'' hh; simp only[decide_eq_true_eq] at h3; subst h3; exact hh
       ·cases h3
      refine f8.pure (x:=.d (.int k (k.wrap n))) (v:=.int k (k.wrap n)) ?_ hH rfl;unfold execOp;simp only[hop,hx,convert,Sem.run_bind,run_underlying hd,run_underlying hu,Result.andThen_ok];rfl
    | _=>simp at e2
  | _=>simp at e2
 ·cases hok
def qcf (x:Opnd) (P:Program):Op→Bool
 | .convert src dst x'=>okO x' x && (P.underlying src).isSome && (match P.underlying dst with | some .string=>true | _=>false)
 | _=>false
theorem q1a {x} (hH:HRel ρ H h w) (hE:EnvRel B ds fx ρ H N env a) (hok:qcf x P o.op=true) (e:exec T cf i (.conv .rune x) (evO env) h=some r):f8 P o a w ρ H h i r:=by
 unfold qcf at hok;split at hok
 ·rename_i src dst x' hop;simp only[Bool.and_eq_true] at hok;obtain ⟨⟨h1,h2⟩,h3⟩:=hok;obtain ⟨v,e1,e2⟩:=f7 e
  cases v with
  | d x0=>
    cases x0 with
    | int j n=>
      rw[w7 e2];have hx:a.eval x' = .int j n:=i7 hE h1 e1;obtain ⟨d,hd⟩:=Option.isSome_iff_exists.1 h2
      have hu:P.underlying dst=some .string:=by
       split at h3
       ·assumption
       ·cases h3
      refine f8.pure (x:=.d (.str (Utf8.encode n).data.toList)) (v:=.string (Utf8.encode n)) ?_ hH ⟨rfl,?_⟩
      ·unfold execOp;simp only[hop,hx,convert,Sem.run_bind,run_underlying hd,run_underlying hu,Result.andThen_ok]
       cases d <;> rfl
      ·have:(Utf8.encode n).data.toList.length≤8:=by
        unfold Utf8.encode;simp only
        repeat' split
        all_goals simp
       unfold long;omega
    | _=>simp at e2
  | _=>simp at e2
 ·cases hok
def Kk (f:FuncId) (cap:List Opnd):Op→Bool
 | .makeFunc (.func g) first cs=>(decide (f=g) && decide (f < fB) && first.toList.isEmpty && okOs cs.toList cap) || (decide (f=g + fB) && cs.toList.isEmpty && okOs first.toList cap)
 | _=>false
 where okOs:List Operand→List Opnd→Bool
 | [],[]=>true
 | x :: xs,y :: ys=>okO x y && okOs xs ys
 | _,_=>false
theorem qcm (hE:EnvRel B ds fx ρ H N env a):∀ {xs ys vs},Kk.okOs xs ys=true→evl (evO env) ys=some vs→f9 ρ H vs (xs.map a.eval)
 | [],[],vs,_,e=>by cases e; rfl
 | [],_ :: _,_,h,_=>by simp[Kk.okOs] at h
 | _ :: _,[],_,h,_=>by simp[Kk.okOs] at h
 | x :: xs,y :: ys,vs,h,e=>by
   simp only[Kk.okOs,Bool.and_eq_true] at h;simp only[evl] at e;split at e
   ·rename_i v vs' e1 e2;cases e;exact ⟨_,_,rfl,i7 hE h.1 e1,qcm hE h.2 e2⟩
   ·cases e
theorem zgg {f cap} (hH:HRel ρ H h w) (hE:EnvRel B ds fx ρ H N env a) (hok:Kk f cap o.op=true) (e:exec T cf i (.mkF f cap) (evO env) h=some r):f8 P o a w ρ H h i r:=by
 unfold Kk at hok;split at hok
 ·rename_i g first cs hop
  simp only[Bool.or_eq_true,Bool.and_eq_true,decide_eq_true_eq] at hok;obtain ⟨vs,e1,e2⟩:=f7 e;rw[w7 e2]
  have rel:∀ us,f9 ρ H vs us→j9 ρ H (qt8 f vs) (vI f us):=fun us hv=>by
   unfold qt8
   cases hd:qE vs with
   | none=>exact ⟨_,rfl,hv⟩
   | some ds=>
     have:=wd hd;subst this;exact ⟨_,rfl,hv.toD⟩
  rcases hok with ⟨⟨⟨h1,h0⟩,h2⟩,h3⟩ | ⟨⟨h1,h2⟩,h3⟩
  ·subst h1;have hf:=vP h2;subst hf;refine f8.pure ?_ hH (rel _ (qcm hE h3 e1));unfold execOp;simp only[hop,Instr.makeFunc,vI,if_pos h0];have:Array.map a.eval cs=⟨cs.toList.map a.eval⟩:=Array.toList_inj.1 (by simp);rw[this];simp
  ·subst h1;have hf:=vP h2;subst hf;refine f8.pure ?_ hH (rel _ (qcm hE h3 e1));unfold execOp;have h0:¬ g + fB < fB:=Nat.not_lt.2 (Nat.le_add_left ..);simp only[hop,Instr.makeFunc,vI,if_neg h0,Nat.add_sub_cancel]
   have:Array.map a.eval first=⟨first.toList.map a.eval⟩:=Array.toList_inj.1 (by simp)
   rw[this];simp
 ·cases hok
def qpc (s:Bool) (x:Opnd) (P:Program):Op→Bool
 | .call c=>(match c.callee with | .builtin .len=>true | _=>false) && (match c.args.toList,c.argTypes.toList with
   | [x'],t :: _=>okO x' x && (match P.underlying t with | some (.slice _)=>!s | some .string=>s | _=>false)
   | _,_=>false)
 | _=>false
theorem qgg {x:V} {n:Nat} {v:Value} (hv:j9 ρ H x v) (e:lenOf x=some n):(kg x=true ∧ ∃ s:ByteArray,v = .string s∧s.size=n)∨(kg x=false ∧ ∃ a c,v = .slice a n c):=by
 unfold lenOf at e;split at e
 ·cases e; cases hv; exact .inr ⟨rfl,_,_,rfl⟩
 ·cases e;obtain ⟨a,c,rfl,_⟩:=hv;exact .inr ⟨rfl,a,c,rfl⟩
 ·cases e;obtain ⟨rfl,_⟩:=hv;exact .inl ⟨rfl,_,rfl,xv _⟩
 ·cases e;rename_i l sz off;have hv:A3 (ρ l) sz off n v:=hv
  cases hp:ρ l with
  | none=>rw[hp] at hv; exact hv.elim
  | dead=>rw[hp] at hv; obtain ⟨a,c,rfl,_⟩:=hv; exact .inr ⟨rfl,a,c,rfl⟩
  | virt s=>rw[hp] at hv; obtain ⟨_,_,rfl,rfl⟩:=hv; exact .inr ⟨rfl,_,_,rfl⟩
  | at_ b base s size=>rw[hp] at hv; obtain ⟨_,c,rfl,_⟩:=hv; exact .inr ⟨rfl,_,c,rfl⟩
  | gl b base s size inn=>rw[hp] at hv; obtain ⟨_,c,rfl,_⟩:=hv; exact .inr ⟨rfl,_,c,rfl⟩
  | grw b base s size inn=>rw[hp] at hv; obtain ⟨_,c,rfl,_⟩:=hv; exact .inr ⟨rfl,_,c,rfl⟩
  | blk q=>rw[hp] at hv; exact hv.elim
  | out _ _ _ _=>rw[hp] at hv; exact hv.elim
 ·cases e
theorem I3.fits {x:D} {v:Value} (hv:I3 H x v):XS x=true:=by
 cases x with
 | sl xs=>obtain ⟨a,c,_,_,hl,_⟩:=hv; simpa [XS] using hl
 | str s=>obtain ⟨_,hl⟩:=hv; simpa [XS] using hl
 | _=>rfl
theorem p9.fits:∀ {xs:List D} {vs:List Value},p9 H xs vs→xs.all XS=true
 | [],_,_=>rfl
 | x :: xs,_,k=>by
   obtain ⟨v,vs',rfl,k1,k2⟩:=k;simp[k1.fits,k2.fits]
theorem j9.fits {x:V} {v:Value} (hv:j9 ρ H x v):S1 x=true:=by
 cases x with
 | d x=>
   cases x with
   | agg cs=>obtain ⟨vs,_,k,_⟩:=hv; exact k.fits
   | _=>exact I3.fits hv
 | ref l sz off len=>
   have hv:A3 (ρ l) sz off len v:=hv
   cases hp:ρ l with
   | none=>rw[hp] at hv; exact hv.elim
   | dead=>rw[hp] at hv; obtain ⟨a,c,rfl,h1,_⟩:=hv; simpa [S1] using h1
   | virt s=>rw[hp] at hv; obtain ⟨_,_,rfl,rfl⟩:=hv; simp[S1]
   | at_ b base s size=>
     rw[hp] at hv;obtain ⟨_,c,rfl,h1,h2,_⟩:=hv;have:=Nat.mul_le_mul_right sz.w h1;simp only[S1,decide_eq_true_eq];omega
   | gl b base s size inn=>
     rw[hp] at hv;obtain ⟨_,c,rfl,h1,h2,_⟩:=hv;have:=Nat.mul_le_mul_right sz.w h1;simp only[S1,decide_eq_true_eq];omega
   | grw b base s size inn=>
     rw[hp] at hv;obtain ⟨_,c,rfl,h1,h2,_⟩:=hv;have:=Nat.mul_le_mul_right sz.w h1;simp only[S1,decide_eq_true_eq];omega
   | blk q=>rw[hp] at hv; exact hv.elim
   | out _ _ _ _=>rw[hp] at hv; exact hv.elim
 | _=>rfl
theorem zgh {s x} (hH:HRel ρ H h w) (hE:EnvRel B ds fx ρ H N env a) (hok:qpc s x P o.op=true) (e:exec T cf i (.len s x) (evO env) h=some r):f8 P o a w ρ H h i r:=by
 unfold qpc at hok;split at hok
 ·rename_i c hop;simp only[Bool.and_eq_true] at hok;obtain ⟨h1,h2⟩:=hok;split at h1
  ·rename_i hc;split at h2
   ·rename_i x' t ts ha ht;simp only[Bool.and_eq_true] at h2;obtain ⟨h3,h4⟩:=h2;obtain ⟨v,e1,e2⟩:=f7 e
    have hs:kg v=s:=by
     cases hb:(kg v == s) with
     | true=>simpa using hb
     | false=>rw[hb] at e2; cases e2
    simp only[hs,beq_self_eq_true,j3] at e2;obtain ⟨n,e3,e4⟩:=f7 e2;have hx:=i7 hE h3 e1;rw[hx.fits] at e4;rw[w7 e4];have ha':c.args = #[x']:=Array.toList_inj.1 ha
    have ht':c.argTypes[0]? = some t:=by rw[← Array.getElem?_toList,ht]; rfl
    refine f8.pure (x:=.d (.int .i64 n)) (v:=.int .i64 n) ?_ hH rfl;unfold execOp;simp only[hop,resolve,hc,ha',invoke,builtin]
    have hlen:(Builtin.len_ c.argTypes o.type #[a.eval x']).run P w = .ok (.int .i64 n) w:=by
     simp only[Builtin.len_,ht'];split at h4
     ·rename_i el hu;rcases qgg hx e3 with ⟨h7,s',h5,h6⟩ | ⟨h7,b,c',h5⟩
      ·rw[← hs,h7] at h4; cases h4
      ·rw[h5];simp only[List.getElem?_toArray,List.getElem?_cons_zero,Sem.run_bind,run_underlying hu,Result.andThen_ok];rfl
     ·rename_i hu;rcases qgg hx e3 with ⟨h7,s',h5,h6⟩ | ⟨h7,b,c',h5⟩
      ·rw[h5];simp only[List.getElem?_toArray,List.getElem?_cons_zero,Sem.run_bind,run_underlying hu,Result.andThen_ok];subst h6;rfl
      ·rw[← hs,h7] at h4; cases h4
     ·cases h4
    rw[Sem.run_bind];show Result.andThen (.ok _ w) _=_;rw[Result.andThen_ok];simp only[List.map_toArray,List.map_cons,List.map_nil];rw[Sem.run_bind,hlen];rfl
   ·cases h2
  ·cases h1
 ·cases hok
end
end Go.Rf
