/- Parts of the proof: RfOpA, RfOpB, RfOpC, RfOpD, RfOpE, RfOpF. -/
import Derived.Test.YtjlnfdabdhkgcaaGreatDoorRg3
import Derived.Laws.MakeOwn
import Derived.Room.Make
import Derived.Room.AppendAny
import Derived.Room.FrozenHead

set_option linter.unusedSimpArgs false
set_option linter.unusedVariables false
set_option linter.unnecessarySimpa false
set_option linter.unusedSectionVars false
set_option linter.all false
namespace Go.Rf
variable {B:Ice} {ds:List Deferred} {fx:List (Nat × Value)}
section
variable {P:Program} {T:Tab} {cf:CF} {o:Oper} {a:Act} {w:World} {ρ:Map} {H:Ice} {h:Loc→Option Obj} {i N:Nat} {env:List (Nat × V)} {r:R}
theorem WZ {α β:Type} {f:α→Sem β} {g:α→β}:∀ (l:List α),(∀ x∈l,(f x).run P w = .ok (g x) w)→(l.mapM f).run P w = .ok (l.map g) w
 | [],_=>by simp
 | x :: l,hx=>by
   rw[List.mapM_cons,Sem.run_bind,hx x (List.mem_cons_self ..),Result.andThen_ok,Sem.run_bind,WZ l (fun y hy=>hx y (List.mem_cons_of_mem _ hy)),Result.andThen_ok];rfl
theorem qft:∀ (l:List Value) (k off:Nat) (cells:Array Value),(l.zipIdx k).foldl (fun cs (x:Value × Nat)=>cs.setIfInBounds (off + x.2) x.1) cells=⟨putL cells.toList (off + k) l⟩
 | [],k,off,cells=>rfl
 | x :: l,k,off,cells=>by
   rw[List.zipIdx_cons,List.foldl_cons,qft l (k + 1) off];simp only[putL,Array.toList_setIfInBounds,Nat.add_assoc]
theorem qb1 (v cells:Array Value) (off:Nat):v.zipIdx.foldl (fun cs (x:Value × Nat)=>cs.setIfInBounds (off + x.2) x.1) cells=⟨putL cells.toList off v.toList⟩:=by
 rw[← Array.foldl_toList,Array.toList_zipIdx,qft,Nat.add_zero]
def Zr (place:Nat→Option (Nat × Nat)):List (Nat × Operand)→List (Nat × Nat × Opnd)→Bool
 | [],[]=>true
 | (k,x) :: xs,(off,n,y) :: ys=>decide (place k=some (off,n)) && decide (n≠0) && okO x y && Zr place xs ys
 | _,_=>false
theorem qdd (hE:EnvRel B ds fx ρ H N env a) {place:Nat→Option (Nat × Nat)}:∀ {xs:List (Nat × Operand)} {ys:List (Nat × Nat × Opnd)} {ps:List (Nat × Nat × V)} {cs cs':List V} {vs:List Value},
 Zr place xs ys=true→evp (evO env) ys=some ps→f9 ρ H cs vs→cs.any K7=false→wR cs ps=some cs'→
 ∃ vs',Instr.fill place ⟨vs⟩ (xs.map fun x=>(x.1,a.eval x.2))=some ⟨vs'⟩∧f9 ρ H cs' vs'∧cs'.any K7=false
 | [],[],ps,cs,cs',vs,_,e,hv,hn,hp=>by
   cases e; cases hp;exact ⟨vs,rfl,hv,hn⟩
 | [],_ :: _,_,_,_,_,hk,_,_,_,_=>by simp[Zr] at hk
 | _ :: _,[],_,_,_,_,hk,_,_,_,_=>by simp[Zr] at hk
 | (k,x) :: xs,(off,n,y) :: ys,ps,cs,cs',vs,hk,e,hv,hn,hp=>by
   simp only[Zr,Bool.and_eq_true,decide_eq_true_eq] at hk;obtain ⟨⟨⟨h1,h2⟩,h3⟩,h4⟩:=hk;simp only[evp] at e;split at e
   ·rename_i v ps' e1 e2;cases e;have hx:=j9 hE h3 e1;simp only[wR] at hp;split at hp
    ·rename_i hc;obtain ⟨hc1,hc2⟩:=hc;have hsol:=Xp hc1 h2;obtain ⟨kc,kn⟩:=hx.cells hsol;have hl:=kc.length;have hl2:=hv.length;simp only[Array.length_toList] at hl;rw[XC] at hp;obtain ⟨vs',q1,q2,q3⟩:=qdd hE h4 e2 (hv.putL off kc) (qd5 off hn kn) hp;refine ⟨vs',?_,q2,q3⟩;simp only[List.map_cons,Instr.fill,h1];rw[if_neg (by simp; omega),qb1];exact q1
    ·cases hp
   ·cases e
def Yf (P:Program) (fs:Array Field):Array (Nat × Nat):=⟨fs.toList.map fun (f:Field)=>(f.offset,P.cellsOf f.type)⟩
theorem qn7 {fs:Array Field} (hf:fs.toList.all (fun f=>(P.info? f.type).isSome)=true) :
 (fs.mapM fun (f:Field)=>(do pure (f.offset,← sizeOf f.type):Sem (Nat × Nat))).run P w = .ok (Yf P fs) w:=by
 rw[Array.mapM_eq_mapM_toList,Sem.run_map]
 have:=WZ (P:=P) (w:=w) (f:=fun f:Field=>(do pure (f.offset,← sizeOf f.type):Sem (Nat × Nat))) (g:=fun f=>(f.offset,P.cellsOf f.type)) fs.toList (fun f hfm=>by
  obtain ⟨inf,hi⟩:=Option.isSome_iff_exists.1 (List.all_eq_true.1 hf f hfm);simp only[Sem.run_bind,run_sizeOf w hi,Result.andThen_ok]
  rfl)
 rw[this];rfl
def qcj (z:D) (parts:List (Nat × Nat × Opnd)) (own:List (Nat × W)) (P:Program):Op→Bool
 | .build t ps=>(V2 P t z && jk z) && (match P.underlying t with
   | some (.struct fs)=>fs.toList.all (fun f=>(P.info? f.type).isSome) && Zr (fun k=>(Yf P fs).toList[k]?) ps.toList parts
   | some (.array _ e)=>(match P.info? e with | some inf=>Zr (fun k=>some (k * inf.size,inf.size)) ps.toList parts | none=>false)
   | _=>false) && wS.ownOkT P t own
 | _=>false
theorem qzt {z parts own} (hH:HRel ρ H h w) (hE:EnvRel B ds fx ρ H N env a) (hN:∀ k,ρ (.n i k) = .none) (hok:qcj z parts own P o.op=true) (e:j4 T cf i (.build z parts own) (evO env) h=some r):f8 P o a w ρ H h i r:=by
 unfold qcj at hok;split at hok
 ·rename_i t ps hop;simp only[Bool.and_eq_true] at hok;obtain ⟨⟨⟨h1,h2⟩,h3⟩,h4⟩:=hok;obtain ⟨v,hz,hr⟩:=V2.run h1 w;obtain ⟨pv,e1,e2⟩:=d9 e
  cases e0:kB i 0 own (.d z) with
  | mk x wr=>
  simp only[e0] at e2;obtain ⟨cs,e3,e4⟩:=d9 e2;cases e4;obtain ⟨ρ',p1,p2,p3,p4,p5,p6,_⟩:=qb6 (k:=0) hH (fun j _=>hN j) (x:=.d z) (hr H) rfl (qbf hz h4) e0;obtain ⟨kc,kn⟩:=m7.cells p5 p6;have hE':=hE.mono p3 (fun _ _ _ e=>e);have hvc:(⟨v.cells.toList⟩:Array Value)=v.cells:=rfl
  have go:∀ vs',f9 ρ' H cs vs'→cs.any K7=false→(Instr.build t (ps.map fun (i,x)=>(i,a.eval x))).run P w = .ok (.agg ⟨vs'⟩) w→f8 P o a w ρ H h i (.ok { v:=wT cs,wr:=wr }):=fun vs' q2 q3 hr=>by
   refine f8.of (v:=.agg ⟨vs'⟩) ?_ ⟨p1,p2,p3,p4,JB q2 q3⟩;unfold execOp;simp only[hop,Sem.run_bind,hr,Result.andThen_ok];rfl
  have hps:(ps.map fun (x:Nat × Operand)=>(x.1,a.eval x.2)).toList=ps.toList.map fun x=>(x.1,a.eval x.2):=by simp
  split at h3
  ·rename_i fs hu;simp only[Bool.and_eq_true] at h3;obtain ⟨vs',q1,q2,q3⟩:=qdd hE' h3.2 e1 kc kn e3;refine go vs' q2 q3 ?_;unfold Instr.build;simp only[Sem.run_bind,hz,run_underlying hu,Result.andThen_ok,qn7 h3.1];rw[hps,← hvc]
   have hpl:(fun (k:Nat)=>(Yf P fs)[k]?)=fun (k:Nat)=>(Yf P fs).toList[k]?:=by funext k; simp
   rw[hpl,q1];rfl
  ·rename_i len el hu;split at h3
   ·rename_i inf hi;obtain ⟨vs',q1,q2,q3⟩:=qdd hE' h3 e1 kc kn e3;refine go vs' q2 q3 ?_;unfold Instr.build
    have hsz:(sizeOf el).run P w = .ok inf.size w:=by rw[run_sizeOf w hi,Program.cellsOf,hi]; rfl
    simp only[Sem.run_bind,hz,run_underlying hu,Result.andThen_ok,hsz];rw[hps,← hvc,q1];rfl
   ·cases h3
  ·cases h3
 ·cases hok
end
end Go.Rf

namespace Go.Rf
variable {B:Ice} {ds:List Deferred} {fx:List (Nat × Value)}
section
variable {P:Program} {T:Tab} {cf:CF} {o:Oper} {a:Act} {w:World} {ρ:Map} {H:Ice} {h:Loc→Option Obj} {i N:Nat} {env:List (Nat × V)} {r:R}
theorem qf7 (zv:Value) (sz len:Nat) (hz:zv.cells.size=sz):(madeCells zv.cells (len * sz)).toList=flat (List.replicate len zv):=by
 have hs:∀ u∈List.replicate len zv,u.cells.size=sz:=fun u hu=>by rw[List.eq_of_mem_replicate hu]; exact hz
 apply List.ext_getElem?;intro j
 by_cases hj:j < len * sz
 ·have hsz:0 < sz:=by
   rcases Nat.eq_zero_or_pos sz with h | h
   ·rw[h] at hj; simp at hj
   ·exact h
  have he:j / sz < len:=(Nat.div_lt_iff_lt_mul hsz).2 hj;have h1:=XZ hs (e:=j / sz) (u:=zv) (j:=j % sz) (by simp[he]) (Nat.mod_lt _ hsz)
  have h2:j / sz * sz + j % sz=j:=by rw[Nat.mul_comm]; exact Nat.div_add_mod j sz
  rw[h2] at h1;rw[h1]
  have hm:j % sz < zv.cells.size:=by rw[hz]; exact Nat.mod_lt _ hsz
  simp[madeCells,hj,hz];rw[getElem!_pos zv.cells _ (by rw[hz]; exact Nat.mod_lt _ hsz)];simp[hm]
 ·rw[List.getElem?_eq_none,List.getElem?_eq_none]
  ·rw[C5 hs]; simp; omega
  ·simp[madeCells]; omega
theorem qly {sz:Nat} {us:List Value} {e:Nat} {u':Value} (h:∀ u∈us,u.cells.size=sz) (hu:u'.cells.size=sz) (he:e < us.length) :
 flat (us.set e u')=putL (flat us) (e * sz) u'.cells.toList:=by
 apply List.ext_getElem?;intro j;have hle:(e + 1) * sz≤us.length * sz:=Nat.mul_le_mul_right _ he;rw[Nat.add_mul] at hle;rw[qda h hu he,XB _ _ _ _ (by rw[C5 h]; simp[hu]; omega)];simp only[Array.length_toList,hu]
theorem f9.replicate {x:V} {v:Value} (k:m7 ρ H x v):∀ n,f9 ρ H (List.replicate n x) (List.replicate n v)
 | 0=>rfl
 | n + 1=>⟨v,List.replicate n v,rfl,k,f9.replicate k n⟩
def Jx (n:Nat):List (Nat × Operand)→List (Nat × Opnd)→Bool
 | [],[]=>true
 | (k,x) :: xs,(k',y) :: ys=>decide (k=k') && okO x y && Jx n xs ys
 | _,_=>false
theorem qgg (hE:EnvRel B ds fx ρ H N env a) {n:W} (hn:n.c≠0):∀ {ps:List (Nat × Operand)} {qs:List (Nat × Opnd)} {es:List (Nat × V)} {xs xs':List V} {us:List Value},
 Jx n.c ps qs=true→evq (evO env) qs=some es→f9 ρ H xs us→xs.any z7.isJunk=false→(∀ u∈us,u.cells.size=n.c)→jc n xs es=some xs'→
 ∃ us',Instr.fill (fun i=>some (i * n.c,n.c)) ⟨flat us⟩ (ps.map fun x=>(x.1,a.eval x.2))=some ⟨flat us'⟩∧f9 ρ H xs' us'∧xs'.any z7.isJunk=false∧(∀ u∈us',u.cells.size=n.c)
 | [],[],es,xs,xs',us,_,e,hv,hj,hs,hp=>by
   cases e; cases hp;exact ⟨us,rfl,hv,hj,hs⟩
 | [],_ :: _,_,_,_,_,hk,_,_,_,_,_=>by simp[Jx] at hk
 | _ :: _,[],_,_,_,_,hk,_,_,_,_,_=>by simp[Jx] at hk
 | (k,x) :: ps,(k',y) :: qs,es,xs,xs',us,hk,e,hv,hj,hs,hp=>by
   simp only[Jx,Bool.and_eq_true,decide_eq_true_eq] at hk;obtain ⟨⟨rfl,h2⟩,h3⟩:=hk;simp only[evq] at e;split at e
   ·rename_i v es' e1 e2;cases e;have hx:=j9 hE h2 e1;simp only[jc] at hp;split at hp
    ·rename_i hc;obtain ⟨hc1,hc2⟩:=hc;have hsol:=Xp hc1 hn;have hl:=(hx.cells hsol).1.length;have hl2:=hv.length;simp only[Array.length_toList] at hl
     have hus:(a.eval x).cells.size=n.c:=by omega
     have hke:k < us.length:=by omega
     obtain ⟨us',q1,q2,q3,q4⟩:=qgg hE hn h3 e2 (hv.set k hx) (qbe hj (jb hsol) k) (fun u hu=>by
      rcases List.mem_or_eq_of_mem_set hu with h' | rfl
      ·exact hs u h'
      ·exact hus) hp
     refine ⟨us',?_,q2,q3,q4⟩;have hle:(k + 1) * n.c≤us.length * n.c:=Nat.mul_le_mul_right _ hke;rw[Nat.add_mul] at hle;simp only[List.map_cons,Instr.fill];rw[if_neg (by simp[hus,C5 hs]; omega),qb1];rw[qly hs hus hke] at q1;exact q1
    ·cases hp
   ·cases e
def Kw (n:W) (z:D) (len:Nat) (parts:List (Nat × Opnd)) (P:Program):Op→Bool
 | .buildSlice t len' ps=>M5 P t n && decide (len'=len) && decide (n.c≠0) && decide (len * n.c≤16777216) && (match P.underlying t with | some (.slice e)=>V2 P e z | _=>false) &&
   Jx n.c ps.toList parts
 | _=>false
theorem qsb {n z len parts} (hH:HRel ρ H h w) (hE:EnvRel B ds fx ρ H N env a) (hN:∀ k,ρ (.n i k) = .none) (hok:Kw n z len parts P o.op=true) (e:j4 T cf i (.buildSl n z len parts) (evO env) h=some r):f8 P o a w ρ H h i r:=by
 unfold Kw at hok;split at hok
 ·rename_i t len' ps hop;simp only[Bool.and_eq_true,decide_eq_true_eq] at hok;obtain ⟨⟨⟨⟨⟨h1,rfl⟩,h2⟩,h3⟩,h4⟩,h5⟩:=hok;obtain ⟨el,inf,hu,hi,hsz,hby,hsi⟩:=M5.get h1;rw[hu] at h4;obtain ⟨zv,hz,hzr⟩:=V2.run h4 w;obtain ⟨es,e1,e2⟩:=d9 e;split at e2
  ·rename_i hc;obtain ⟨hc1,hc2⟩:=hc;obtain ⟨xs,e3,e4⟩:=d9 e2;cases e4
   have hzc:zv.cells.size=n.c:=by
    have:=(m7.cells (ρ:=ρ) (x:=.d z) (hzr H) rfl).1.length
    have h2:z.cells.length=(V.cells (.d z)).length:=by cases z <;> simp[D.cells,V.cells]
    simp at this;omega
   have hv0:f9 ρ H (List.replicate len' (.d z)) (List.replicate len' zv):=f9.replicate (x:=.d z) (v:=zv) (hzr H) len'
   obtain ⟨us',q1,q2,q3,q4⟩:=qgg hE h2 h5 e1 hv0 (by
    rw[List.any_eq_false]; intro x hx; rw[List.eq_of_mem_replicate hx]; simp[z7.isJunk]) (fun u hu=>by rw[List.eq_of_mem_replicate hu]; exact hzc) e3
   have hxl:xs.length=len':=by
    have:∀ {es:List (Nat × V)} {xs xs':List V},jc n xs es=some xs'→xs'.length=xs.length:=by
     intro es
     induction es with
     | nil=>intro xs xs' h; cases h; rfl
     | cons p es ih=>
       intro xs xs' h;obtain ⟨k,v⟩:=p;simp only[jc] at h;split at h
       ·rw[ih h]; simp
       ·cases h
    rw[this e3]; simp
   have hul:us'.length=len':=by rw[← q2.length]; exact hxl
   obtain ⟨k1,k2,k3⟩:=QK hH (hN 0) q2 q3 q4 ⟨flat us'⟩ (fun j v hj=>by simpa using hj) el (fun hw=>absurd hw (by have:=M5.small h1; omega));refine f8.of (v:=.slice (some ⟨w.heap.size,0,Option.none⟩) len' len') ?_ ⟨k1,k2,k3,K4.upd 0 _,?_⟩
   ·unfold execOp
    have hmade:(Array.range (len' * n.c)).map (zv.cells[· % zv.cells.size]!)=⟨flat (List.replicate len' zv)⟩:=by
     apply Array.toList_inj.1;exact qf7 zv n.c len' hzc
    have hps:(ps.map fun (x:Nat × Operand)=>(x.1,a.eval x.2)).toList=ps.toList.map fun x=>(x.1,a.eval x.2):=by simp
    have hrun:(Instr.buildSlice t len' (ps.map fun (x:Nat × Operand)=>(x.1,a.eval x.2))).run P w = .ok (.slice (some ⟨w.heap.size,0,Option.none⟩) len' len') { w with heap:=w.heap.push (.cells ⟨flat us'⟩ el (0,0)) }:=by
     unfold Instr.buildSlice;simp only[Sem.run_bind,run_underlying hu,Result.andThen_ok,qM.run hsi];rw[if_neg (by omega)]
     by_cases hl0:len' * n.c=0
     ·simp only[hl0,if_true,Sem.run_pure,Result.andThen_ok,Sem.run_bind];rw[hps]
      have h00:(Array.range 0).map ((#[]:Array Value)[· % (#[]:Array Value).size]!)=⟨flat (List.replicate len' zv)⟩:=by
       rw[← hmade,hl0]; simp
      rw[h00,q1];rfl
     ·simp only[hl0,if_false,Sem.run_bind,hz,Result.andThen_ok,Sem.run_pure];rw[hps,hmade,q1];rfl
    simp only[hop,Sem.run_bind,hrun,Result.andThen_ok];rfl
   ·show H0 (O3 ρ (.n i 0) _ _) _ _ _ _;rw[q8];refine ⟨rfl,len',by simp,Nat.le_refl _,hc2,?_,?_,fun hw=>absurd hw (by have:=M5.small h1; omega)⟩
    ·simp[C5 q4,hul]
    ·have:len' * 1≤len' * n.c:=Nat.mul_le_mul_left _ (Nat.pos_of_ne_zero h2);unfold A5;omega
  ·cases e2
 ·cases hok
def qhs (n:W) (z:D) (len cap:Opnd) (P:Program):Op→Bool
 | .makeSlice t l c=>M5 P t n && decide (n.c≠0) && decide (n.w≠0) && (match P.underlying t with | some (.slice e)=>V2 P e z | _=>false) && okO l len && okO c cap
 | _=>false
theorem V2.info {t:TypeId} {z:D} (hz:V2 P t z=true):∃ inf v,P.info? t=some inf∧inf.zero=some v ∧ ∀ H,Q6 H z v:=by
 unfold V2 at hz;split at hz
 ·rename_i inf hi;split at hz
  ·rename_i v hv;simp only[Bool.and_eq_true] at hz;exact ⟨inf,v,hi,hv,fun H=>vk z v hz.1⟩
  ·cases hz
 ·cases hz
theorem q56 {n z len cap} (hH:HRel ρ H h w) (hE:EnvRel B ds fx ρ H N env a) (hN:∀ k,ρ (.n i k) = .none) (hok:qhs n z len cap P o.op=true) (e:j4 T cf i (.mkSl n z len cap) (evO env) h=some r):f8 P o a w ρ H h i r:=by
 unfold qhs at hok;split at hok
 ·rename_i t lo co hop;simp only[Bool.and_eq_true,decide_eq_true_eq] at hok;obtain ⟨⟨⟨⟨⟨h1,h2⟩,h3⟩,h4⟩,h5⟩,h6⟩:=hok;obtain ⟨el,inf,hu,hi,hsz,hby,hsi⟩:=M5.get h1;rw[hu] at h4;obtain ⟨inf',zv,hi',hz,hzr⟩:=V2.info h4
  have:inf'=inf:=by rw[hi] at hi'; injection hi' with q; exact q.symm
  subst this;obtain ⟨vl,e1,e2⟩:=d9 e;obtain ⟨vc,e3,e4⟩:=d9 e2;split at e4
  ·rename_i l c el' ec';obtain ⟨kl,hl⟩:=xF (j9 hE h5 e1) el';obtain ⟨kc,hc⟩:=xF (j9 hE h6 e3) ec';split at e4
   ·rename_i hcond;obtain ⟨c1,c2,c3⟩:=hcond
    have hpos:1≤n.w:=by omega
    have hcap:c≤281474976710656:=by
     have:c * 1≤c * n.w:=Nat.mul_le_mul_left _ hpos;unfold A5 at c3;omega
    have hb':(inf'.bytes:Int) * (c:Int)≤281474976710656:=by
     have h7:((n.w * c:Nat):Int)≤281474976710656:=by
      rw[Nat.mul_comm]; unfold A5 at c3; omega
     rw[hby]
     rwa [Int.natCast_mul] at h7
    have hrun:=run_make (P:=P) w t el inf' zv hu hi hz kl kc (l:Int) (c:Int) (by omega) (by omega) hb' (by omega);simp only[Int.toNat_natCast,hsz] at hrun;cases e4
    have hzc:zv.cells.size=n.c:=by
     have:=(m7.cells (ρ:=ρ) (x:=.d z) (hzr H) rfl).1.length
     have h2:z.cells.length=(V.cells (.d z)).length:=by cases z <;> simp[D.cells,V.cells]
     simp at this;omega
    have hmade:madeCells zv.cells (c * n.c)=⟨flat (List.replicate c zv)⟩:=Array.toList_inj.1 (qf7 zv n.c c hzc)
    have hsub:∀ (j:Nat) (v:Value),(flat (List.replicate l zv))[j]? = some v→(madeCells zv.cells (c * n.c))[j]? = some v:=by
     intro j v hj;rw[hmade]
     have:flat (List.replicate c zv)=flat (List.replicate l zv)++flat (List.replicate (c - l) zv):=by
      rw[← kG,List.replicate_append_replicate]
      congr 2
      omega
     rw[List.getElem?_toArray,this,List.getElem?_append_left (List.getElem?_eq_some_iff.1 hj).1];exact hj
    obtain ⟨k1,k2,k3⟩:=QK hH (hN 0) (f9.replicate (x:=.d z) (v:=zv) (hzr H) l) (sz:=n) (by
     rw[List.any_eq_false]; intro x hx; rw[List.eq_of_mem_replicate hx]; simp[z7.isJunk]) (fun u hu=>by rw[List.eq_of_mem_replicate hu]; exact hzc) (madeCells zv.cells (c * n.c)) hsub el (fun hw=>absurd hw (by have:=M5.small h1; omega))
    refine f8.of (v:=.slice (some ⟨w.heap.size,0,Option.none⟩) l c) ?_ ⟨k1,k2,k3,K4.upd 0 _,?_⟩
    ·unfold execOp;simp only[hop,Sem.run_bind,hl,hc,hrun,Result.andThen_ok];rfl
    ·show H0 (O3 ρ (.n i 0) _ _) _ _ _ _;rw[q8];refine ⟨rfl,c,by simp,c1,Nat.le_trans (Nat.mul_le_mul_right _ c1) c3,?_,?_,fun hw=>absurd hw (by have:=M5.small h1; omega)⟩
     ·simp[size_madeCells]
     ·have:c * 1≤c * n.w:=Nat.mul_le_mul_left _ hpos;omega
   ·cases e4
  ·cases e4
 ·cases hok
end
end Go.Rf

namespace Go.Rf
variable {B:Ice} {ds:List Deferred} {fx:List (Nat × Value)}
section
variable {P:Program} {T:Tab} {cf:CF} {o:Oper} {a:Act} {w:World} {ρ:Map} {H:Ice} {h:Loc→Option Obj} {i N:Nat} {env:List (Nat × V)} {r:R}
structure Row (ρ:Map) (H:Ice) (w:World) (m:List Loc) (ys:List V) (us:List Value) (v:Value):Prop where
 rel:f9 ρ H ys us
 junk:ys.any z7.isJunk=false
 lies:∃ ad c,v = .slice ad ys.length c∧(ys≠[]→∃ b off sz,ad=some ⟨b,off,Option.none⟩∧(∀ u∈us,u.cells.size=sz) ∧
  (∀ j u,(flat us)[j]? = some u→w.cell? ⟨b,off + j,Option.none⟩=some u)∧(sz≠0→∀ l,(ρ l).has b→l∈m))
theorem qgn {y:V} {v:Value} {ys:List V} {m:List Loc} (hH:HRel ρ H h w) (hv:m7 ρ H y v) (e:K1 h y=some (ys,m)) :
 (∃ s,y = .d (.str s)∧ys=s.map (fun b=>V.d (.int .u8 b.toNat))∧m=[]) ∨ ∃ us,Row ρ H w m ys us v:=by
 unfold K1 at e;split at e
 ·rename_i xs;cases e;obtain ⟨ad,c,rfl,hc,hl,hrow⟩:=hv
  by_cases hx:xs=[]
  ·subst hx;exact .inr ⟨[],rfl,rfl,ad,c,rfl,fun h=>absurd rfl h⟩
  ·obtain ⟨b,off,sz,us,rfl,hus,hs,hcell⟩:=hrow hx;refine .inr ⟨us,hus.toV,by rw[List.any_eq_false]; intro x hx; obtain ⟨y,_,rfl⟩:=List.mem_map.1 hx; simp[z7.isJunk],some ⟨b,off,Option.none⟩,c,by simp,fun _=>⟨b,off,sz,rfl,hs,fun j u hj=>hH.ice _ _ _ (hcell j u hj),fun hsz l hlb=>?_⟩⟩
   exfalso
   have hne:us≠[]:=fun h=>by
    have:=hus.length;rw[h] at this;exact hx (List.eq_nil_of_length_eq_zero this)
   have hpos:0 < (flat us).length:=by
    rw[C5 hs];exact Nat.mul_pos (List.length_pos_iff.2 hne) (Nat.pos_of_ne_zero hsz)
   have:=hcell 0 _ (List.getElem?_eq_getElem hpos);rw[hH.sep l b hlb] at this;cases this
 ·rename_i s;cases e;exact .inl ⟨s,rfl,rfl,rfl⟩
 ·rename_i l sz off len;split at e
  ·rename_i xs sz' hl;split at e
   ·rename_i hle;cases e;have hobj:=hH.objs l _ hl;have hv:H0 (ρ l) sz off len v:=hv
    cases hp:ρ l with
    | none=>rw[hp] at hv; exact hv.elim
    | dead=>rw[hp] at hobj; exact hobj.elim
    | virt s=>
      rw[hp] at hobj hv;obtain ⟨rfl,_⟩:=hobj;obtain ⟨_,rfl,rfl,rfl⟩:=hv;exact .inr ⟨[],rfl,rfl,Option.none,0,rfl,fun h=>absurd rfl h⟩
    | at_ b base s size=>
      rw[hp] at hobj hv;obtain ⟨rfl,arr,elem,fr,us,hb,hsize,hus,hj,hs,hc,_⟩:=hobj;obtain ⟨rfl,c,rfl,_,_,_⟩:=hv
      have hlen:((xs.drop off).take len).length=len:=by rw[List.length_take,List.length_drop]; omega
      refine .inr ⟨(us.drop off).take len,(hus.drop off).take len,qd4 (qd6 hj off) len,some ⟨b,base + off * s.c,Option.none⟩,c,by rw[hlen],fun _=>⟨b,_,s.c,rfl,fun u hu=>hs u (List.mem_of_mem_drop (List.mem_of_mem_take hu)),fun j u hju=>?_,fun _ l' hl'=>?_⟩⟩
      ·have q:=Qn hju;rw[JG off hs,List.getElem?_drop] at q;have:=hc _ _ q;simp only[World.cell?,hb]
       simpa [Nat.add_assoc] using this
      ·rw[hH.inj l' l b hl' (by rw[hp]; rfl)];exact List.mem_singleton.2 rfl
    | blk q=>rw[hp] at hv; exact hv.elim
    | lol b1 b2 b3 b4 b5=>rw[hp] at hobj; exact hobj.elim
   ·cases e
  ·cases e
 ·cases e
theorem qdv:∀ (s:List UInt8),zr (s.map fun b=>V.d (.int .u8 b.toNat))=some s
 | []=>rfl
 | b :: s=>by
   simp only[List.map_cons,zr,qdv s,Option.map_some];simp
def qot (x:Opnd) (P:Program):Op→Bool
 | .convert src dst x'=>okO x' x && (match P.underlying src with | some (.slice e)=>(match P.underlying e with | some (.int .u8)=>true | _=>false) | _=>false) && (match P.underlying dst with | some .string=>true | _=>false)
 | _=>false
theorem qau:∀ {ys:List V} {us:List Value} {s:List UInt8},zr ys=some s→f9 ρ H ys us→∃ ns:List Int,us=ns.map (Value.int .u8)∧s=ns.map (fun n=>UInt8.ofNat n.toNat)∧flat us=us
 | [],us,s,e,k=>by cases e; cases k; exact ⟨[],rfl,rfl,rfl⟩
 | y :: ys,us,s,e,k=>by
   obtain ⟨u,us',rfl,k1,k2⟩:=k
   cases y with
   | d x=>
     cases x with
     | int q n=>
       cases q with
       | u8=>
         simp only[zr,Option.map_eq_some_iff] at e;obtain ⟨s',e1,rfl⟩:=e;obtain ⟨ns,rfl,rfl,h3⟩:=qau e1 k2;have hu:u = .int .u8 n:=k1;subst hu;exact ⟨n :: ns,rfl,rfl,by rw[M6,h3]; rfl⟩
       | _=>cases e
     | _=>cases e
   | _=>cases e
theorem qb2:∀ (ns:List Int) (acc:List UInt8),ns.foldl (fun r n=>r.push (UInt8.ofNat n.toNat)) (⟨acc.toArray⟩:ByteArray)=⟨(acc++ns.map (fun n=>UInt8.ofNat n.toNat)).toArray⟩
 | [],acc=>by simp
 | n :: ns,acc=>by
   rw[List.foldl_cons]
   have:(⟨acc.toArray⟩:ByteArray).push (UInt8.ofNat n.toNat)=⟨(acc++[UInt8.ofNat n.toNat]).toArray⟩:=by
    apply ByteArray.ext;simp[ByteArray.push]
   rw[this,qb2 ns];simp
theorem qs8 {y:V} {v:Value} {ys:List V} {m:List Loc} (hv:m7 ρ H y v) (e:K1 h y=some (ys,m)) (hs:kF y=false):ys.length≤A5:=by
 unfold K1 at e;split at e
 ·rename_i xs;cases e;obtain ⟨ad,c,rfl,hc,hl,hrow⟩:=hv;have:=Nat.mul_le_mul_left xs.length (qnm xs);simp only[List.length_map];omega
 ·cases hs
 ·rename_i l sz off len;split at e
  ·split at e
   ·rename_i hle;cases e;have hlen:=List.length_take_le len (List.drop off ‹List V›);have hv:H0 (ρ l) sz off len v:=hv
    have:len≤A5:=by
     cases hp:ρ l with
     | none=>rw[hp] at hv; exact hv.elim
     | dead=>rw[hp] at hv; obtain ⟨_,_,_,_,_,_,h3⟩:=hv; exact h3
     | virt s=>rw[hp] at hv; obtain ⟨_,_,rfl,_⟩:=hv; exact Nat.zero_le _
     | at_ b base s size=>rw[hp] at hv; obtain ⟨_,c,_,h1,_,_,h3,_⟩:=hv; omega
     | blk q=>rw[hp] at hv; exact hv.elim
     | lol b1 b2 b3 b4 b5=>rw[hp] at hv; obtain ⟨_,c,_,h1,_,_,h3,_⟩:=hv; omega
    omega
   ·cases e
  ·cases e
 ·cases e
theorem zhc {x} (hH:HRel ρ H h w) (hE:EnvRel B ds fx ρ H N env a) (hok:qot x P o.op=true) (e:j4 T cf i (.conv .b2s x) (evO env) h=some r):f8 P o a w ρ H h i r:=by
 unfold qot at hok;split at hok
 ·rename_i src dst x' hop;simp only[Bool.and_eq_true] at hok;obtain ⟨⟨h1,h2⟩,h3⟩:=hok;obtain ⟨v,e1,e2⟩:=d9 e;have hx:=j9 hE h1 e1
  obtain ⟨el,hu1,hu2⟩:∃ el,P.underlying src=some (.slice el)∧P.underlying el=some (.int .u8):=by
   split at h2
   ·rename_i el hu;split at h2
    ·rename_i hu2; exact ⟨el,hu,hu2⟩
    ·cases h2
   ·cases h2
  have hu3:P.underlying dst=some .string:=by
   split at h3
   ·assumption
   ·cases h3
  have e2:(bnd (K1 h v) fun (xs,m)=>bnd (zr xs) fun s=>some (R.ok { v:=.d (.str s),rd:=m }))=some r:=by
   cases v <;> first | exact e2 | (rename_i x; cases x <;> exact e2)
  obtain ⟨⟨ys,m⟩,e3,e4⟩:=d9 e2;obtain ⟨s,e5,e6⟩:=d9 e4;cases e6;rcases qgn hH hx e3 with ⟨s',rfl,rfl,rfl⟩ | ⟨us,hrow⟩
  ·rw[qdv] at e5;cases e5;obtain ⟨hv,hl⟩:=(hx:a.eval x' = .string ⟨s.toArray⟩∧s.length≤long);refine f8.pure (x:=.d (.str s)) (v:=.string ⟨s.toArray⟩) ?_ hH ⟨rfl,hl⟩;unfold execOp;simp only[hop,hv,convert,Sem.run_bind,run_underlying hu1,run_underlying hu3,Result.andThen_ok];rfl
  ·have hstr:kF v=false:=by
    cases hb:kF v with
    | false=>rfl
    | true=>
      exfalso
      obtain ⟨ad,c,hv,_⟩:=hrow.lies;unfold kF at hb;split at hb
      ·obtain ⟨hv',_⟩:=hx;rw[hv] at hv'; cases hv'
      ·cases hb
   obtain ⟨ns,rfl,rfl,hflat⟩:=qau e5 hrow.rel;have hlen:=hrow.rel.length;obtain ⟨ad,c,hv,hl⟩:=hrow.lies;refine f8.pure (x:=.d (.str (ns.map fun n=>UInt8.ofNat n.toNat))) (v:=.string ⟨(ns.map fun n=>UInt8.ofNat n.toNat).toArray⟩) ?_ hH ⟨rfl,?_⟩ m
   ·unfold execOp;simp only[hop,hv,Sem.run_bind,run_convert_bytes_string w src dst el ad _ c hu1 hu2 hu3]
    by_cases hy:ys=[]
    ·subst hy
     have:ns=[]:=by cases ns <;> simp at hlen ⊢
     subst this
     cases ad with
     | none=>rfl
     | some q=>
       rw[run_bytesToString w q _ c [] (by simp[loadCells,loadCellsFrom])];rfl
    ·obtain ⟨b,off,sz,rfl,hs,hc,_⟩:=hl hy;rw[hflat] at hc;have hld:=run_loadCells_list (P:=P) w ⟨b,off,Option.none⟩ (ns.map (Value.int .u8)) (fun j v hj=>by rw[zM]; exact hc j v hj);rw[← hlen] at hld;rw[run_bytesToString w _ _ c ns hld,Result.andThen_ok];have:=qb2 ns [];simp only[List.nil_append] at this;have h0:(ByteArray.empty)=⟨([]:List UInt8).toArray⟩:=rfl;rw[h0,this];rfl
   ·have:=qs8 hx e3 hstr;simp only[List.length_map] at hlen ⊢;unfold A5 at this;unfold long;omega
 ·cases hok
end
end Go.Rf

namespace Go.Rf
section
variable {P:Program} {T:Tab} {cf:CF} {o:Oper} {a:Act} {w:World} {ρ:Map} {H:Ice} {h:Loc→Option Obj} {i N:Nat} {env:List (Nat × V)} {r:R}
theorem qgf {ys:List V} {us:List Value} (k:f9 ρ H ys us) (hj:ys.any z7.isJunk=false):∀ u∈flat us,u.oneCell'=true:=by
 induction ys generalizing us with
 | nil=>cases k; intro u hu; cases hu
 | cons y ys ih=>
   obtain ⟨v,vs',rfl,k1,k2⟩:=k;simp only[List.any_cons,Bool.or_eq_false_iff] at hj;intro u hu;rw[M6] at hu;rcases List.mem_append.1 hu with hu | hu
   ·have:=k1.cells (Zx hj.1);exact qgu this.1 this.2 u hu
   ·exact ih k2 hj.2 u hu
theorem q5o {n:W} {tx:TypeId} {ys:List V} {us:List Value} {m:List Loc} {v:Value} (hk:(∃ e',P.underlying tx=some (.slice e'))∨P.underlying tx=some .string) (k:Row ρ H w m ys us v)
 (hs:∀ u∈us,u.cells.size=n.c) (hys:ys≠[]→True):Src P n.c tx v ys.length (flat us) w∧Builtin.lenOf v=Sem.pure ys.length:=by
 obtain ⟨ad,c,rfl,hl⟩:=k.lies;have hlen:=k.rel.length
 have hfl:(flat us).length=ys.length * n.c:=by rw[C5 hs,hlen]
 refine ⟨?_,rfl⟩
 by_cases hy:ys=[]
 ·subst hy;have hus:us=[]:=List.eq_nil_of_length_eq_zero (by simpa using hlen.symm);subst hus
  have hf:∀ w':World,(Builtin.firstCells n.c 0 (.slice ad 0 c)).run P w' = .ok #[] w':=by
   intro w'
   cases ad with
   | none=>simp[Builtin.firstCells]
   | some q=>simp[Builtin.firstCells,loadCells,loadCellsFrom]
  exact ⟨hk,fun _=>rfl,hf w,hf w.drew,by simp[flat],fun _ h=>by cases h⟩
 ·obtain ⟨b,off,sz,rfl,_,hc,_⟩:=hl hy
  exact ⟨hk,fun _=>rfl,run_firstCells_some w n.c _ _ _ _ _ hfl (fun j u hj=>by rw[zM]; exact hc j u hj),
   run_firstCells_some w.drew n.c _ _ _ _ _ hfl (fun j u hj=>by rw[zM]; exact hc j u hj),hfl,qgf k.rel k.junk⟩
def Xt (P:Program) (t:TypeId) (n:W):Bool:=match P.underlying t with
 | some (.slice e)=>match P.info? e with
   | some i=>decide (i.size=n.c) && (decide (i.bytes=n.w) && decide (n.w < 1000000) || decide (e + 1000000=n.w) && decide (i.bytes < 1000000) && decide (0 < i.bytes) && decide (n.c=1))
   | none=>false
 | _=>false
theorem Xt.get {t n} (hs:Xt P t n=true) (h0:n.w≠0):∃ e inf,P.underlying t=some (.slice e)∧P.info? e=some inf∧inf.size=n.c∧inf.bytes≤n.w∧0 < inf.bytes∧(1000000≤n.w→e + 1000000=n.w∧n.c=1):=by
 unfold Xt at hs;split at hs
 ·rename_i e hu;split at hs
  ·rename_i inf hi;simp only[Bool.and_eq_true,Bool.or_eq_true,decide_eq_true_eq] at hs;refine ⟨e,inf,hu,hi,hs.1,?_⟩;rcases hs.2 with h | h
   ·exact ⟨by omega,by omega,fun hw=>absurd hw (by omega)⟩
   ·obtain ⟨⟨⟨a,b⟩,c⟩,d⟩:=h;have:1000000≤n.w:=a ▸ Nat.le_add_left _ _;exact ⟨by omega,c,fun _=>⟨a,d⟩⟩
  ·cases hs
 ·cases hs
def qhx (n:W) (x:Option Opnd) (y:Opnd) (P:Program):Op→Bool
 | .call c=>(match c.callee with | .builtin .append=>true | _=>false) && (match c.args.toList,c.argTypes.toList with
   | [x',y'],[t,tx]=>(match x with | some x=>okO x' x | none=>(match x' with | .const (.slice none 0 0)=>true | _=>false)) && okO y' y && Xt P t n && decide (n.c≠0) && decide (n.w≠0) &&
     (match P.underlying tx with | some (.slice _) | some .string=>true | _=>false) &&
     (match P.underlying t with | some (.slice e)=>(match P.info? e with | some inf=>(match inf.zero with | some z=>decide (z.cells.size=n.c) | none=>false) | none=>false) | _=>false)
   | _,_=>false)
 | _=>false
structure Addend (P:Program) (ρ:Map) (H:Ice) (w:World) (n:W) (tx:TypeId) (m:List Loc) (ys:List V) (us:List Value) (v:Value):Prop where
 rel:f9 ρ H ys us
 junk:ys.any z7.isJunk=false
 size:∀ u∈us,u.cells.size=n.c
 src:Src P n.c tx v ys.length (flat us) w
 len:Builtin.lenOf v=Sem.pure ys.length
 share:∀ base sLen,ys≠[]→(base=none→sLen=0)→(∀ q,base=some q→Room.holdsV w q (sLen * n.c)=true∧w.frozen? (q.add (sLen / 2 * n.c))=false ∧ ∃ l,(ρ l).has q.block∧l ∉ m)→(Builtin.mayShare n.c sLen ys.length base v).runT P w #[]=(.ok false w,#[])
theorem qc6 {b off k:Nat} {v:Value} (hk:0 < k) (h:w.cell? ⟨b,off + (k - 1),Option.none⟩=some v):Room.holdsV w ⟨b,off,Option.none⟩ k=true:=
 holdsV_of_last w b off k hk (by rw[h]; rfl) k (Nat.le_refl _)
theorem qts {n:W} (hn:n.c≠0) {tx:TypeId} {y:V} {v:Value} {ys:List V} {m:List Loc} (hH:HRel ρ H h w) (hv:m7 ρ H y v) (e:K1 h y=some (ys,m))
 (hall:ys.all (fun v=>v.cells.length == n.c)=true) (hk:(∃ e',P.underlying tx=some (.slice e'))∨P.underlying tx=some .string):∃ us,Addend P ρ H w n tx m ys us v:=by
 have hys:∀ y∈ys,y.cells.length=n.c:=fun y hy=>by simpa using List.all_eq_true.1 hall y hy
 rcases qgn hH hv e with ⟨s,rfl,rfl,rfl⟩ | ⟨us,k⟩
 ·obtain ⟨rfl,hl⟩:=(hv:v = .string ⟨s.toArray⟩∧s.length≤long)
  have hrel:∀ s:List UInt8,f9 ρ H (s.map fun b=>V.d (.int .u8 b.toNat)) (s.map fun b=>Value.int .u8 b.toNat):=by
   intro s
   induction s with
   | nil=>rfl
   | cons b s ih=>exact ⟨_,_,rfl,rfl,ih⟩
  have hflat:∀ s:List UInt8,flat (s.map fun b=>Value.int .u8 b.toNat)=s.map fun b=>Value.int .u8 b.toNat:=by
   intro s
   induction s with
   | nil=>rfl
   | cons b s ih=>rw[List.map_cons,M6,ih]; rfl
  have hn1:s=[]∨n.c=1:=by
   cases s with
   | nil=>exact .inl rfl
   | cons b s=>exact .inr (hys _ (List.mem_cons_self ..)).symm
  have hb:byteCells ⟨s.toArray⟩=s.map fun b=>Value.int .u8 b.toNat:=rfl
  refine ⟨s.map fun b=>Value.int .u8 b.toNat,hrel s,?_,?_,?_,?_,?_⟩
  ·rw[List.any_eq_false]; intro x hx; obtain ⟨y,_,rfl⟩:=List.mem_map.1 hx; simp[z7.isJunk]
  ·intro u hu;obtain ⟨b,hbm,rfl⟩:=List.mem_map.1 hu;rcases hn1 with rfl | hn1
   ·cases hbm
   ·rw[hn1]; rfl
  ·rw[hflat,List.length_map]
   have hf:∀ w':World,(Builtin.firstCells n.c s.length (.string ⟨s.toArray⟩)).run P w' = .ok (s.map fun b=>Value.int .u8 b.toNat).toArray w':=by
    intro w';have:=firstCells_string (P:=P) ⟨s.toArray⟩ w';rw[xU] at this;exact this
   refine ⟨hk,fun _=>?_,hf w,hf w.drew,?_,fun u hu=>?_⟩
   ·show Result.ok _ _=_;rw[xU]
   ·rcases hn1 with rfl | hn1
    ·simp
    ·rw[hn1]; simp
   ·obtain ⟨b,_,rfl⟩:=List.mem_map.1 hu; rfl
  ·rw[List.length_map];show Sem.pure _=_;rw[xU]
  ·intro base sLen hne h0 hb
   exact runT_mayShare_string w n.c sLen _ base _ fun q hq=>⟨(hb q hq).1,(hb q hq).2.1⟩
 ·have hlen:=k.rel.length
  have hs:∀ u∈us,u.cells.size=n.c:=by
   intro u hu;obtain ⟨j,hj⟩:=List.getElem?_of_mem hu
   have hjl:j < ys.length:=by rw[hlen]; exact (List.getElem?_eq_some_iff.1 hj).1
   obtain ⟨u',h1,h2⟩:=k.rel.get (List.getElem?_eq_getElem hjl);rw[hj] at h1;cases h1;have hc:=hys _ (List.getElem_mem hjl);have:=(h2.cells (Xp hc hn)).1.length;simp only[Array.length_toList] at this;omega
  obtain ⟨s1,s2⟩:=q5o (n:=n) (tx:=tx) hk k hs (fun _=>trivial);refine ⟨us,k.rel,k.junk,hs,s1,s2,fun base sLen hne h0 hb=>?_⟩;obtain ⟨ad,c,rfl,hl⟩:=k.lies;obtain ⟨b,off,sz,rfl,hsz,hcell,hsep⟩:=hl hne
  have hpos:0 < (flat us).length:=by
   rw[C5 hs,← hlen];exact Nat.mul_pos (List.length_pos_iff.2 hne) (Nat.pos_of_ne_zero hn)
  have hfl:(flat us).length=ys.length * n.c:=by rw[C5 hs,hlen]
  have hh:Room.holdsV w ⟨b,off,Option.none⟩ (ys.length * n.c)=true:=by
   rw[← hfl];exact qc6 hpos (hcell _ _ (List.getElem?_eq_getElem (by omega)))
  cases base with
  | none=>
    rw[h0 rfl];exact runT_mayShare_nil_cells w n.c ys.length _ c hh
  | some q=>
    obtain ⟨h1,h2,l,h3,h4⟩:=hb q rfl
    refine runT_mayShare_apart w n.c sLen ys.length q _ c h1 h2 hh fun hqb=>?_
    have hszn:sz≠0:=by
     intro h0
     cases us with
     | nil=>simp[flat] at hpos
     | cons u us=>have:=hsz u (List.mem_cons_self ..); have h9:=hs u (List.mem_cons_self ..); omega
    rw[hqb] at h3;exact h4 (hsep hszn l h3)
end
end Go.Rf

namespace Go.Rf
section
variable {P:Program} {T:Tab} {cf:CF} {o:Oper} {a:Act} {w:World} {ρ:Map} {H:Ice} {h:Loc→Option Obj} {i N:Nat} {env:List (Nat × V)} {r:R}
theorem qn9 (t tx ty e:TypeId) (inf:TypeInfo) (ht:P.underlying t=some (.slice e)) (hi:P.info? e=some inf) (b off sLen sCap:Nat) (x:Value) (n:Nat) (news:List Value) (hs:Src P inf.size tx x n news w)
 (hroom:sLen + n≤sCap) (w':World) (hst:(storeCells ⟨b,off + sLen * inf.size,Option.none⟩ news).run P w = .ok () w') :
 (Builtin.append_ #[t,tx] ty #[.slice (some ⟨b,off,Option.none⟩) sLen sCap,x]).run P w = .ok (.slice (some ⟨b,off,Option.none⟩) (sLen + n) sCap) w':=by
 rcases hs.kind with ⟨e',hk⟩ | hk <;> simp[Builtin.append_,run_underlying ht,run_underlying hk,sizeOf,typeInfo,hi,hs.len,hroom,hs.cells,zM,hst]
theorem qkb (t tx ty e:TypeId) (inf:TypeInfo) (ht:P.underlying t=some (.slice e)) (hi:P.info? e=some inf) (x:Value) (news:List Value) (hs:Src P inf.size tx x 0 news w) :
 (Builtin.append_ #[t,tx] ty #[.slice Option.none 0 0,x]).run P w = .ok (.slice Option.none 0 0) w:=by
 rcases hs.kind with ⟨e',hk⟩ | hk <;> simp[Builtin.append_,run_underlying ht,run_underlying hk,sizeOf,typeInfo,hi,hs.len,hs.cells]
theorem qm8 {n:W} {e:TypeId} (hw1:1000000≤n.w→e + 1000000=n.w∧n.c=1) (hw0:n.w≠0) {xs:List V} {us:List Value} (hH:HRel ρ H h w) {l:Loc} (hl:ρ l = .none) (hv:f9 ρ H xs us) (hj:xs.any z7.isJunk=false) (hs:∀ u∈us,u.cells.size=n.c)
 (z:Array Value) (hz:z.size=n.c) (need cap:Nat) (hn:xs.length=need) (hnc:need≤cap) (hfit:need * n.w≤A5) :
 ∃ ρ',HRel ρ' H (Zc h l (some (.arr xs n))) (w.drew.alloc (.cells ((flat us).toArray++Builtin.zeroCells z (cap - need)) e)) ∧
   Trans ρ H w ρ' H (w.drew.alloc (.cells ((flat us).toArray++Builtin.zeroCells z (cap - need)) e))∧n9 ρ ρ'∧(∀ l',l'≠l→ρ' l' = ρ l') ∧
   H0 (ρ' l) n 0 need (.slice (some ⟨w.heap.size,0,Option.none⟩) need cap):=by
 have hd:=hH.drawn (w.drawn + 1)
 obtain ⟨k1,k2,k3⟩:=QK hd hl hv hj hs ((flat us).toArray++Builtin.zeroCells z (cap - need)) (fun j v hjv=>by
  have:=(List.getElem?_eq_some_iff.1 hjv).1;rw[Array.getElem?_append_left (by simpa using this)]
  simpa using hjv) e (fun hw=>⟨(hw1 hw).1,fun hne=>absurd (hw1 hw).2 hne⟩)
 refine ⟨_,k1,(Trans.drawn ρ H w (w.drawn + 1)).trans k2,k3,fun l' hl'=>r8 hl',?_⟩;rw[q8]
 have hsz:((flat us).toArray++Builtin.zeroCells z (cap - need)).size=cap * n.c:=by
  simp only[Array.size_append,List.size_toArray,size_zeroCells,hz,C5 hs,← hv.length,hn];rw[← Nat.add_mul]
  congr 1
  omega
 refine ⟨rfl,cap,by simp,hnc,hfit,?_,?_,fun _=>⟨rfl,rfl,hsz.symm⟩⟩
 ·simp only[Array.size_append,List.size_toArray,size_zeroCells,hz,C5 hs,← hv.length,hn];rw[Nat.zero_add,Nat.zero_add,← Nat.add_mul]
  have:need + (cap - need)=cap:=by omega
  rw[this];exact Nat.le_refl _
 ·have:need * 1≤need * n.w:=Nat.mul_le_mul_left _ (Nat.pos_of_ne_zero hw0);omega
theorem qzv {P:Program} {o:Oper} {a:Act} {w w':World} {v:Value} {c:Call} {x y:Operand} {t tx:TypeId} (hop:o.op = .call c) (hc:c.callee = .builtin .append) (ha:c.args = #[x,y]) (ht:c.argTypes = #[t,tx])
 (h:(Builtin.append_ #[t,tx] o.type #[a.eval x,a.eval y]).run P w = .ok v w'):(execOp a.eval o).run P w = .ok (.value v) w':=by
 unfold execOp;simp only[hop,resolve,hc,ha,ht,invoke,builtin];rw[Sem.run_bind];show Result.andThen (.ok _ w) _=_;rw[Result.andThen_ok];simp only[List.map_toArray,List.map_cons,List.map_nil];rw[Sem.run_bind,h];rfl
end
end Go.Rf

namespace Go.Rf
variable {B:Ice} {ds:List Deferred} {fx:List (Nat × Value)}
section
variable {P:Program} {T:Tab} {cf:CF} {o:Oper} {a:Act} {w:World} {ρ:Map} {H:Ice} {h:Loc→Option Obj} {i N:Nat} {env:List (Nat × V)} {r:R}
def qri (P:Program) (t tx ty:TypeId) (n:W) (ρ:Map) (H:Ice) (h':Loc→Option Obj) (w:World) (l:Loc) (dead:Option Loc) (need:Nat) (first v:Value):Prop:=
 need * n.w≤A5→∃ v' w',(Builtin.append_ #[t,tx] ty #[first,v]).run P w = .ok v' w' ∧ ∃ ρ',HRel ρ' H h' w'∧Trans ρ H w ρ' H w'∧n9 ρ ρ'∧(∀ l',l'≠l→dead≠some l'→ρ' l' = ρ l')∧H0 (ρ' l) n 0 need v'
structure AppT (P:Program) (t tx:TypeId) (n:W) (el:TypeId) (inf:TypeInfo) (z:Value) (d:TypeDesc):Prop where
 ht:P.underlying t=some (.slice el)
 hi:P.info? el=some inf
 hz:inf.zero=some z
 htx:P.underlying tx=some d
 hd:∀ k,d ≠ .int k
 hsz:inf.size=n.c
 hby:inf.bytes≤n.w
 hb0:0 < inf.bytes
 hzs:z.cells.size=n.c
 hc0:n.c≠0
 hw0:n.w≠0
 hw1:1000000≤n.w→el + 1000000=n.w∧n.c=1
theorem qm9 {t tx ty:TypeId} {n:W} {el inf z d} (A:AppT P t tx n el inf z d) {m:List Loc} {ys:List V} {us:List Value} {v:Value} (hH:HRel ρ H h w) (D:Addend P ρ H w n tx m ys us v) {l:Loc} (hl:ρ l = .none) :
 qri P t tx ty n ρ H (Zc h l (some (.arr ys n))) w l none ys.length (.slice none 0 0) v:=by
 have hs:=D.src;rw[← A.hsz] at hs;intro hfit0
 have hfit:(0 + ys.length) * inf.bytes≤140737488355328:=by rw[Nat.zero_add]; exact Nat.le_trans (Nat.mul_le_mul_left _ A.hby) hfit0
 by_cases hy:ys=[]
 ·subst hy;refine ⟨_,_,qkb t tx ty el inf A.ht A.hi v (flat us) (by simpa using hs),?_⟩;obtain ⟨k1,k2,k3⟩:=hH.virt hl n;refine ⟨_,k1,k2,k3,fun l' hl' _=>r8 hl',?_⟩;rw[q8];exact ⟨rfl,rfl,rfl,rfl⟩
 ·have hpos:0 < ys.length:=List.length_pos_iff.2 hy
  have hg:=run_append_grow_src (P:=P) w t tx ty el inf z A.ht A.hi A.hz none 0 0 [] (run_firstCells_none w.drew inf.size 0 0 0) v ys.length (flat us) hs (by omega)
   (by
    have h1:(0 + ys.length) * 1≤(0 + ys.length) * inf.bytes:=Nat.mul_le_mul_left _ A.hb0
    omega)
   (growslice_fits (by omega) hfit)
  refine ⟨_,_,hg,?_⟩;obtain ⟨ρ',q1,q2,q3,q4,q5⟩:=qm8 (n:=n) A.hw1 A.hw0 hH hl D.rel D.junk D.size z.cells A.hzs (0 + ys.length) (grownCap w (0 + ys.length) 0 el) (by omega) (grownCap_ge ..) (by rw[Nat.zero_add]; exact hfit0);refine ⟨ρ',?_,?_,q3,fun l' hl' _=>q4 l' hl',?_⟩
  ·simpa using q1
  ·simpa using q2
  ·simpa using q5
theorem za8 {t tx ty:TypeId} {n:W} {el inf z d} (A:AppT P t tx n el inf z d) {m:List Loc} {ys:List V} {us:List Value} {v:Value} (hH:HRel ρ H h w) (D:Addend P ρ H w n tx m ys us v) {l l0:Loc} (hl:ρ l = .none)
 {xs:List V} {b base size off len cap:Nat} (hl0:h l0=some (.arr xs n)) (hp:ρ l0 = .at_ b base n size) (hm:l0 ∉ m) (hle:off + len≤xs.length)
 (h1:len≤cap) (h3:base + (off + cap) * n.c≤size) (h4:1000000≤n.w→off=0∧base=0∧cap * n.c=size) :
 qri P t tx ty n ρ H (Zc (Zc h l0 none) l (some (.arr ((xs.drop off).take len++ys) n))) w l (some l0) (len + ys.length) (.slice (some ⟨b,base + off * n.c,Option.none⟩) len cap) v:=by
 have hs:=D.src;rw[← A.hsz] at hs;have hobj:=hH.objs l0 _ hl0;rw[hp] at hobj;obtain ⟨_,arr,elem,fr,vs,hb,hsize,hvs,hj,hvz,hc,hty⟩:=hobj
 have hll:l0≠l:=fun e=>by rw[e,hl] at hp; cases hp
 have holdl:(((vs.drop off).take len)).length=len:=by rw[List.length_take,List.length_drop,← hvs.length]; omega
 have holdz:∀ u∈(vs.drop off).take len,u.cells.size=n.c:=fun u hu=>hvz u (List.mem_of_mem_drop (List.mem_of_mem_take hu))
 have holdr:f9 ρ H ((xs.drop off).take len) ((vs.drop off).take len):=(hvs.drop off).take len;have holdj:=qd4 (qd6 hj off) len
 have hxl:((xs.drop off).take len).length=len:=by rw[List.length_take,List.length_drop]; omega
 have hcell:∀ j u,(flat ((vs.drop off).take len))[j]? = some u→w.cell? ⟨b,base + off * n.c + j,Option.none⟩=some u:=fun j u hju=>by
  have q:=Qn hju;rw[JG off hvz,List.getElem?_drop] at q;have:=hc _ _ q;simp only[World.cell?,hb]
  simpa [Nat.add_assoc] using this
 have holdf:(flat ((vs.drop off).take len)).length=len * inf.size:=by rw[C5 holdz,holdl,A.hsz]
 have hold:(Builtin.firstCells inf.size len (.slice (some ⟨b,base + off * n.c,Option.none⟩) len cap)).run P w.drew = .ok (flat ((vs.drop off).take len)).toArray w.drew:=
  run_firstCells_some w.drew inf.size len _ len cap _ holdf (fun j u hj=>by rw[zM]; exact hcell j u hj)
 have hnew:f9 ρ H ((xs.drop off).take len++ys) ((vs.drop off).take len++us):=holdr.append D.rel
 have hnewj:((xs.drop off).take len++ys).any z7.isJunk=false:=by rw[List.any_append,holdj,D.junk]; rfl
 have hnewz:∀ u∈(vs.drop off).take len++us,u.cells.size=n.c:=fun u hu=>by
  rcases List.mem_append.1 hu with hu | hu
  ·exact holdz u hu
  ·exact D.size u hu
 intro hfit0;have hfit:(len + ys.length) * inf.bytes≤140737488355328:=Nat.le_trans (Nat.mul_le_mul_left _ A.hby) hfit0
 by_cases hroom:len + ys.length≤cap
 ·
  have hbound:base + off * n.c + len * n.c + (flat us).length≤arr.size:=by
   rw[C5 D.size,← D.rel.length];have:(off + (len + ys.length)) * n.c≤(off + cap) * n.c:=Nat.mul_le_mul_right _ (by omega);rw[Nat.add_mul,Nat.add_mul] at this;omega
  have hst:=zJ (P:=P) b (base + off * n.c + len * n.c) elem fr (flat us) 0 arr.toList w hb (by simpa using hbound) (qgf D.rel D.junk);simp only[Nat.add_zero] at hst;have hr:=qn9 (P:=P) (w:=w) t tx ty el inf A.ht A.hi b (base + off * n.c) len cap v ys.length (flat us) hs hroom _ (by rw[A.hsz]; exact hst);refine ⟨_,_,hr,?_⟩;have hlt:b < w.heap.size:=(Array.getElem?_eq_some_iff.1 hb).1
  obtain ⟨k1,k2,k3⟩:=hH.move (w':={ w with heap:=w.heap.setIfInBounds b (.cells ⟨putL arr.toList (base + off * n.c + len * n.c) (flat us)⟩ elem (fr,fr)) }) (l:=l0) (l':=l) (b:=b) (by rw[hp]; rfl) hl
   (.arr ((xs.drop off).take len++ys) n) (.at_ b (base + off * n.c) n size) (fun _ h=>h.symm) ⟨rfl,rfl,rfl,by simp⟩ (fun q hq=>by
    show (w.heap.setIfInBounds b _)[q]? = _
    rw[Array.getElem?_setIfInBounds_ne (Ne.symm hq)]) (by
    have hst':n9 ρ (O3 (O3 ρ l0 .dead) l (.at_ b (base + off * n.c) n size)):=(n9.upd .dead (.inr rfl)).trans (n9.upd _ (.inl (by rw[r8 (Ne.symm hll)]; exact hl)));refine ⟨rfl,⟨putL arr.toList (base + off * n.c + len * n.c) (flat us)⟩,elem,fr,(vs.drop off).take len++us,?_,?_,hnew.mono hst' (fun _ _ _ e=>e),hnewj,hnewz,fun k u hk=>?_,fun hw=>⟨(hty hw).1,(hty hw).2.1,by rw[(h4 hw).1,(h4 hw).2.1,Nat.zero_mul],(hty hw).2.2.2⟩⟩
    ·show (w.heap.setIfInBounds b _)[b]? = _;rw[Array.getElem?_setIfInBounds_self];simp[hlt]
    ·rw[← hsize]; simp[vN]
    ·rw[kG] at hk;rw[List.getElem?_toArray,XB _ _ _ _ (by simpa using hbound)]
     have hfl:(flat ((vs.drop off).take len)).length=len * n.c:=by rw[holdf,A.hsz]
     by_cases hkl:k < len * n.c
     ·rw[List.getElem?_append_left (by omega)] at hk;rw[if_neg (by omega)];have:=hcell k u hk;simp only[World.cell?,hb] at this
      simpa using this
     ·rw[List.getElem?_append_right (by omega),hfl] at hk;have hlt2:=(List.getElem?_eq_some_iff.1 hk).1;rw[if_pos (by omega)]
      have:base + off * n.c + k - (base + off * n.c + len * n.c)=k - len * n.c:=by omega
      rw[this]
      exact hk)
  refine ⟨_,k1,k2,k3,fun l' hl' hl''=>?_,?_⟩
  ·rw[r8 hl',r8 (fun e=>hl'' (by rw[e]))]
  ·rw[q8];refine ⟨rfl,cap,by simp,hroom,hfit0,?_,?_,fun hw=>⟨rfl,by rw[(h4 hw).1,(h4 hw).2.1,Nat.zero_mul],(h4 hw).2.2⟩⟩
   ·rw[Nat.zero_add];rw[Nat.add_mul] at h3;omega
   ·have:(len + ys.length) * 1≤(len + ys.length) * n.w:=Nat.mul_le_mul_left _ (Nat.pos_of_ne_zero A.hw0);omega
 ·
  have hg:=run_append_grow_src (P:=P) w t tx ty el inf z A.ht A.hi A.hz _ len cap _ hold v ys.length (flat us) hs (by omega)
   (by
    have h1:(len + ys.length) * 1≤(len + ys.length) * inf.bytes:=Nat.mul_le_mul_left _ A.hb0
    omega)
   (growslice_fits (by omega) hfit)
  refine ⟨_,_,hg,?_⟩;obtain ⟨k1,k2,k3⟩:=hH.kill l0
  obtain ⟨ρ',q1,q2,q3,q4,q5⟩:=qm8 (n:=n) A.hw1 A.hw0 k1 (l:=l) (by rw[r8 (Ne.symm hll)]; exact hl) (hnew.mono k3 (fun _ _ _ e=>e)) hnewj hnewz z.cells A.hzs (len + ys.length) (grownCap w (len + ys.length) cap el)
   (by rw[List.length_append,hxl]) (grownCap_ge ..) hfit0
  rw[kG] at q1 q2;exact ⟨ρ',q1,k2.trans q2,k3.trans q3,fun l' hl' hl''=>by rw[q4 l' hl',r8 (fun e=>hl'' (by rw[e]))],q5⟩
theorem f8.grown {c:Call} {x y:Operand} {t tx:TypeId} {n:W} {h':Loc→Option Obj} {dead:Option Loc} {need:Nat} {e:Eff} (hop:o.op = .call c) (hc:c.callee = .builtin .append) (ha:c.args = #[x,y]) (ht:c.argTypes = #[t,tx])
 (g:qri P t tx o.type n ρ H h' w (.n i 0) dead need (a.eval x) (a.eval y)) (hf:need * n.w≤A5) (hev:e.v = .ref (.n i 0) n 0 need) (hwr:i9 h e.wr=h') (hdead:∀ l,dead=some l→ρ l ≠ .none) :
 f8 P o a w ρ H h i (.ok e):=by
 obtain ⟨v',w',g1,ρ',g2,g3,g4,g5,g6⟩:=g hf;refine f8.of (qzv hop hc ha ht g1) ⟨by rw[hwr]; exact g2,g3,g4,fun l h1 h2=>?_,by rw[hev]; exact g6⟩
 by_cases hl:l = .n i 0
 ·exact ⟨0,hl⟩
 ·exfalso
  by_cases hd:dead=some l
  ·exact hdead l hd h1
  ·rw[g5 l hl hd] at h2;exact h2 h1
theorem q2f {n x y} (hH:HRel ρ H h w) (hE:EnvRel B ds fx ρ H N env a) (hN:ρ (.n i 0) = .none) (hok:qhx n x y P o.op=true) (e:j4 T cf i (.app n x y) (evO env) h=some r):f8 P o a w ρ H h i r:=by
 unfold qhx at hok;split at hok
 ·rename_i c hop;simp only[Bool.and_eq_true] at hok;obtain ⟨hok1,hok2⟩:=hok
  have hc:c.callee = .builtin .append:=by
   split at hok1
   ·assumption
   ·cases hok1
  split at hok2
  ·rename_i x' y' t tx ha ht;simp only[Bool.and_eq_true,decide_eq_true_eq] at hok2;obtain ⟨⟨⟨⟨⟨⟨h1,h2⟩,h3⟩,h4⟩,h5⟩,h6⟩,h7⟩:=hok2;have ha':c.args = #[x',y']:=Array.toList_inj.1 ha;have ht':c.argTypes = #[t,tx]:=Array.toList_inj.1 ht;obtain ⟨el,inf,hu,hi,hsz,hby,hb0,hsm⟩:=Xt.get h3 h5
   have htx:∃ d,P.underlying tx=some d∧(∀ k,d ≠ .int k)∧((∃ e',P.underlying tx=some (.slice e'))∨P.underlying tx=some .string):=by
    cases hq:P.underlying tx with
    | none=>rw[hq] at h6; cases h6
    | some d=>
      rw[hq] at h6
      cases d <;> first | exact ⟨_,rfl,(fun k h=>by cases h),.inl ⟨_,rfl⟩⟩ | exact ⟨_,rfl,(fun k h=>by cases h),.inr rfl⟩ | cases h6
   obtain ⟨d,hd1,hd2,hd3⟩:=htx;rw[hu] at h7;simp only[hi] at h7
   cases hz:inf.zero with
   | none=>rw[hz] at h7; cases h7
   | some z=>
   rw[hz] at h7;simp only[decide_eq_true_eq] at h7;have A:AppT P t tx n el inf z d:=⟨hu,hi,hz,hd1,hd2,hsz,hby,hb0,h7,h4,h5,hsm⟩
   have main:∀ vy,evO env y=some vy→∀ (fx:Option V),(fx=none∧a.eval x' = .slice Option.none 0 0 ∨ ∃ vx,fx=some vx∧m7 ρ H vx (a.eval x'))→qe8 h i n fx vy=some r→f8 P o a w ρ H h i r:=by
    intro vy ey fx hfx er;have hy:=j9 hE h2 ey;unfold qe8 at er;split at er
    ·cases er
    ·rename_i ys m he;split at er
     ·rename_i hall;obtain ⟨us,D⟩:=qts h4 hH hy he hall hd3;rcases hfx with ⟨rfl,hx⟩ | ⟨vx,rfl,hx⟩
      ·have g:=qm9 (ty:=o.type) A hH D hN;rw[← hx] at g;simp only at er;split at er
       ·rename_i hf;cases er;exact f8.grown (h:=h) (i:=i) (e:={ v:=.ref (.n i 0) n 0 ys.length,rd:=m,wr:=[(.n i 0,some (.arr ys n))] }) hop hc ha' ht' g hf rfl rfl (fun l hl=>by cases hl)
       ·cases er
      ·cases vx with
       | ref l sz off len=>
         simp only at er;split at er
         ·rename_i xs sz' hl;split at er
          ·rename_i hcond;obtain ⟨rfl,hle,hm⟩:=hcond;have hx:H0 (ρ l) sz off len (a.eval x'):=hx;have hobj:=hH.objs l _ hl
           have fin:qri P t tx o.type sz ρ H (Zc (Zc h l none) (.n i 0) (some (.arr ((xs.drop off).take len++ys) sz))) w (.n i 0) (some l) (len + ys.length) (a.eval x') (a.eval y')→ρ l ≠ .none→f8 P o a w ρ H h i r:=by
            intro g hne;split at er
            ·rename_i hf;cases er;exact f8.grown (h:=h) (i:=i) (e:={ v:=.ref (.n i 0) sz 0 (len + ys.length),rd:=l :: m,wr:=[(l,none),(.n i 0,some (.arr ((xs.drop off).take len++ys) sz))] }) hop hc ha' ht' g hf rfl rfl (fun l' hl'=>by cases hl'; exact hne)
            ·cases er
           cases hp:ρ l with
           | none=>rw[hp] at hx; exact hx.elim
           | dead=>rw[hp] at hobj; exact hobj.elim
           | blk q=>rw[hp] at hx; exact hx.elim
           | lol b1 b2 b3 b4 b5=>rw[hp] at hobj; exact hobj.elim
           | virt s=>
             rw[hp] at hobj hx;obtain ⟨rfl,_⟩:=hobj;obtain ⟨_,rfl,rfl,hx2⟩:=hx
             have hll:l ≠ .n i 0:=fun e=>by rw[e,hN] at hp; cases hp
             refine fin ?_ (by rw[hp]; intro h; cases h);obtain ⟨k1,k2,k3⟩:=hH.kill l
             have D':Addend P (O3 ρ l .dead) H w sz tx m ys us (a.eval y'):=⟨D.rel.mono k3 (fun _ _ _ e=>e),D.junk,D.size,D.src,D.len,fun base sLen g1 g2 g3=>D.share base sLen g1 g2 fun q hq=>by
              obtain ⟨r1,r2,l',r3,r4⟩:=g3 q hq;refine ⟨r1,r2,l',?_,r4⟩
              by_cases hl':l'=l
              ·rw[hl',q8] at r3; cases r3
              ·rw[r8 hl'] at r3; exact r3⟩
             have g:=qm9 (ty:=o.type) A k1 D' (l:=.n i 0) (by rw[r8 (Ne.symm hll)]; exact hN);rw[hx2];intro hf;obtain ⟨v',w',g1,ρ',g2,g3,g4,g5,g6⟩:=g (by simpa using hf);refine ⟨v',w',g1,ρ',?_,k2.trans g3,k3.trans g4,fun l' hl' hl''=>?_,?_⟩
             ·simpa using g2
             ·rw[g5 l' hl' (by intro h; cases h),r8 (fun e=>hl'' (by rw[e]))]
             ·simpa using g6
           | at_ b base s size=>
             rw[hp] at hobj hx;obtain ⟨rfl,_⟩:=hobj;obtain ⟨rfl,cap,hx2,q1,q2,q3,q4,q5⟩:=hx;refine fin ?_ (by rw[hp]; intro h; cases h);rw[hx2];exact za8 (ty:=o.type) A hH D hN hl hp hm hle q1 q3 q5
          ·cases er
         ·cases er
       | _=>cases er
     ·cases er
   cases x with
   | none=>
     obtain ⟨vy,ey,er⟩:=d9 e;refine main vy ey none (.inl ⟨rfl,?_⟩) er;split at h1
     ·rename_i hh; cases hh
     ·split at h1
      ·rfl
      ·cases h1
   | some q=>
     obtain ⟨vx,ex,e2⟩:=d9 e;obtain ⟨vy,ey,er⟩:=d9 e2;refine main vy ey (unN vx) ?_ er;have hx:=j9 hE h1 ex;unfold unN;split
     ·exact .inl ⟨rfl,hx⟩
     ·exact .inr ⟨_,rfl,hx⟩
  ·cases hok2
 ·cases hok
end
end Go.Rf
