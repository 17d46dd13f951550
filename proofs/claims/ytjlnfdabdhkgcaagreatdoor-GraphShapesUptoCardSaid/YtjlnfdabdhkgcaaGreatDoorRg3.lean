/- Parts of the proof: RfOp6, RfOp7, RfOp8, RfCall, RfOpG, RfOp9. -/
import Derived.Test.YtjlnfdabdhkgcaaGreatDoorRg2

set_option linter.unusedSimpArgs false
set_option linter.unusedVariables false
set_option linter.unnecessarySimpa false
set_option linter.unusedSectionVars false
set_option linter.all false
namespace Go.Rf
variable {B:Ice} {ds:List Deferred} {fx:List (Nat × Value)}
section
variable {P:Program} {T:Tab} {cf:CF} {o:Oper} {a:Act} {w:World} {ρ:Map} {H:Ice} {h:Loc→Option Obj} {i N:Nat} {env:List (Nat × V)} {r:R}
theorem qz (t n:Nat) (ag:Bool) (ht:Qi P t n ag=true) (b off:Nat) (cs:List Value) (hc:∀ j v,cs[j]? = some v→w.cell? ⟨b,off + j,Option.none⟩=some v) (v:Value)
 (h1:ag=true→cs.length=n∧v = .agg ⟨cs⟩) (h2:ag=false→cs[0]? = some v):(loadVar t ⟨b,off,Option.none⟩).run P w = .ok v w:=by
 unfold loadVar;rw[Sem.run_bind,Qi.isAgg ht,Result.andThen_ok]
 cases ag with
 | true=>
   obtain ⟨h3,rfl⟩:=h1 rfl;simp only[if_true,Sem.run_bind,qM.run (Qi.size ht),Result.andThen_ok];rw[← h3,run_loadCells_list w ⟨b,off,Option.none⟩ cs (fun j v hj=>by rw[zM]; exact hc j v hj)];rfl
 | false=>
   have:=hc 0 v (h2 rfl);simp only[Bool.false_eq_true,if_false,run_load];rw[Nat.add_zero] at this;rw[this]
def Yl (n:Nat) (ag:Bool) (x:Opnd) (P:Program):Op→Bool
 | .load t x'=>okO x' x && Qi P t n ag
 | _=>false
theorem qk5 {t n ag x r v} (hH:HRel ρ H h w) (ht:Qi P t n ag=true) (hv:m7 ρ H x v) (e:S7 h n ag x=some r) :
 ∃ e',r = .ok e'∧e'.wr=[]∧jR e'.v=true ∧ ∃ u,(Instr.loadAt t v).run P w = .ok u w∧m7 ρ H e'.v u:=by
 unfold S7 at e;split at e
 ·rename_i y;obtain ⟨b,off,u,rfl,hu,hc⟩:=hv
  have hc':∀ j v,u.cells.toList[j]? = some v→w.cell? ⟨b,off + j,Option.none⟩=some v:=fun j v hj=>hH.ice _ _ _ (hc j v hj)
  split at e
  ·rename_i cs;split at e
   ·rename_i hn;obtain ⟨vs,rfl,k1,k2⟩:=hu;refine ⟨_,x5 e,rfl,rfl,_,?_,⟨vs,rfl,k1,k2⟩⟩;have:=k1.length;simp only[Instr.loadAt,Instr.sureAddr,Sem.run_bind,Sem.run_pure,Result.andThen_ok];exact qz t n true ht b off vs hc' _ (fun _=>⟨by omega,rfl⟩) (fun h=>by cases h)
   ·cases e
  ·cases e
  ·cases e
  ·have hag:jk y=false:=by
    cases y <;> first | rfl | (simp_all; done)
   have hone:=Q6.one hu hag;refine ⟨_,x5 e,rfl,rfl,u,?_,hu⟩;simp only[Instr.loadAt,Instr.sureAddr,Sem.run_bind,Sem.run_pure,Result.andThen_ok];rw[v7 hone] at hc';exact qz t n false ht b off [u] hc' _ (fun h=>by cases h) (fun _=>rfl)
 ·rename_i l e' j;split at e
  ·rename_i xs sz hl;split at e
   ·rename_i x0 hx0;simp only[Option.map_eq_some_iff] at e;obtain ⟨y,hy,rfl⟩:=e;have hobj:=hH.objs l _ hl;have hv:M4 (ρ l) e' j v:=hv
    cases hp:ρ l with
    | at_ b base s size=>
      rw[hp] at hobj hv;obtain ⟨u,hu,hsol,hsz,hcell⟩:=qks hobj hx0;obtain ⟨p1,p2,p3⟩:=Yg hu hsol hy;have hv:v = .pointer (some ⟨b,base + e' * s.c + j,Option.none⟩):=hv;subst hv;refine ⟨_,rfl,rfl,p3,?_⟩;simp only[Instr.loadAt,Instr.sureAddr,Sem.run_bind,Sem.run_pure,Result.andThen_ok]
      cases ag with
      | true=>
        obtain ⟨q1,q2⟩:=p1 rfl;refine ⟨_,qz t n true ht b _ ((u.cells.toList.drop j).take n) (fun k v hk=>?_) _ (fun _=>⟨?_,rfl⟩) (fun h=>by cases h),q2⟩
        ·rw[List.getElem?_take] at hk;split at hk
         ·rw[List.getElem?_drop] at hk;have:=hcell _ _ hk
          rwa [← Nat.add_assoc] at this
         ·cases hk
        ·simp only[List.length_take,List.length_drop,Array.length_toList];omega
      | false=>
        obtain ⟨u',q1,q2,q3⟩:=p2 rfl;refine ⟨u',qz t n false ht b _ [u'] (fun k v hk=>?_) _ (fun h=>by cases h) (fun _=>rfl),q2⟩
        cases k with
        | zero=>simp at hk; subst hk; exact hcell _ _ q1
        | succ k=>simp at hk
    | none=>rw[hp] at hv; exact hv.elim
    | dead=>rw[hp] at hobj; exact hobj.elim
    | virt s=>rw[hp] at hv; exact hv.elim
    | lol b base s size inn=>rw[hp] at hobj; exact hobj.elim
    | blk q=>rw[hp] at hv; exact hv.elim
   ·cases e
  ·cases e
 ·cases e
theorem qn6 {n ag x} (hH:HRel ρ H h w) (hE:EnvRel B ds fx ρ H N env a) (hok:Yl n ag x P o.op=true) (e:j4 T cf i (.load n ag x) (evO env) h=some r):f8 P o a w ρ H h i r:=by
 unfold Yl at hok;split at hok
 ·rename_i t x' hop;simp only[Bool.and_eq_true] at hok;obtain ⟨h1,h2⟩:=hok;obtain ⟨v,e1,e2⟩:=d9 e;obtain ⟨⟨ev,rd,wr⟩,rfl,hwr,_,u,hr,hu⟩:=qk5 hH h2 (j9 hE h1 e1) e2;simp only at hwr;subst hwr;exact f8.pure (by unfold execOp; simp only[hop,Sem.run_bind,hr,Result.andThen_ok]; rfl) hH hu rd
 ·cases hok
def M5 (P:Program) (t:TypeId) (n:W):Bool:=match P.underlying t with
 | some (.slice e)=>match P.info? e with
   | some i=>decide (i.size=n.c) && decide (i.bytes=n.w) && decide (n.w < 1000000)
   | none=>false
 | _=>false
theorem M5.get {t n} (hs:M5 P t n=true):∃ e inf,P.underlying t=some (.slice e)∧P.info? e=some inf∧inf.size=n.c∧inf.bytes=n.w∧qM P e n.c=true:=by
 unfold M5 at hs;split at hs
 ·rename_i e hu;split at hs
  ·rename_i inf hi;simp only[Bool.and_eq_true,decide_eq_true_eq] at hs;exact ⟨e,inf,hu,hi,hs.1.1,hs.1.2,by simp[qM,hi,hs.1.1]⟩
  ·cases hs
 ·cases hs
theorem M5.small {t n} (hs:M5 P t n=true):n.w < 1000000:=by
 unfold M5 at hs;split at hs
 ·split at hs
  ·simp only[Bool.and_eq_true,decide_eq_true_eq] at hs;exact hs.2
  ·cases hs
 ·cases hs
def qhw (n:W) (x k:Opnd) (P:Program):Op→Bool
 | .indexAddr t x' k'=>okO x' x && okO k' k && M5 P t n
 | _=>false
theorem q6b {n x k} (hH:HRel ρ H h w) (hE:EnvRel B ds fx ρ H N env a) (hok:qhw n x k P o.op=true) (e:j4 T cf i (.idxA n x k) (evO env) h=some r):f8 P o a w ρ H h i r:=by
 unfold qhw at hok;split at hok
 ·rename_i t x' k' hop;simp only[Bool.and_eq_true] at hok;obtain ⟨⟨h1,h2⟩,h3⟩:=hok;obtain ⟨el,inf,hu,hi,_,_,hsz⟩:=M5.get h3;obtain ⟨v,e1,e2⟩:=d9 e;obtain ⟨m,e3,e4⟩:=d9 e2;have hx:=j9 hE h1 e1;have hk:=j9 hE h2 e3;split at e4
  ·cases e4
  ·rename_i j hj;obtain ⟨kk,hk'⟩:=xF hk hj
   have run:∀ q len cap,a.eval x' = .slice (some q) len cap→j < len→(execOp a.eval o).run P w = .ok (.value (.pointer (some (q.add (j * n.c))))) w:=fun q len cap hq hl=>by
    unfold execOp;have hjl:(0:Int)≤(j:Int)∧(j:Int) < (len:Int):=⟨by omega,by omega⟩;simp only[hop,hq,hk',Instr.indexAt,asIntOf,Sem.run_bind,Sem.run_pure,run_underlying hu,Result.andThen_ok,if_pos hjl,qM.run hsz];rfl
   split at e4
   ·rename_i xs;split at e4
    ·rename_i y hy;split at e4
     ·rename_i hn;rw[x5 e4];obtain ⟨ad,c,hv,_,_,hrow⟩:=hx
      have hne:xs≠[]:=fun h=>by rw[h] at hy; simp at hy
      obtain ⟨b,off,sz,us,rfl,hus,hs,hc⟩:=hrow hne;obtain ⟨u,hu1,hu2⟩:=hus.get hy;have hlt:j < xs.length:=(List.getElem?_eq_some_iff.1 hy).1;have hus':u.cells.size=sz:=hs u (List.mem_of_getElem? hu1)
      have hsn:sz=n.c:=by
       have:=(m7.cells (ρ:=ρ) (x:=.d y) hu2 rfl).1.length
       have h4:y.cells.length=(V.cells (.d y)).length:=by cases y <;> simp[D.cells,V.cells]
       simp at this;omega
      refine f8.pure (run _ _ _ hv hlt) hH ?_;rw[zM];refine ⟨b,off + j * n.c,u,rfl,hu2,fun q v hq=>?_⟩
      have hql:q < sz:=by
       have:=(List.getElem?_eq_some_iff.1 hq).1;simp at this;omega
      have:=hc _ _ ((XZ hs hu1 hql).trans hq);rw[hsn] at this
      rwa [← Nat.add_assoc] at this
     ·cases e4
    ·cases e4
   ·rename_i l sz off len;split at e4
    ·rename_i hc;obtain ⟨hlt,rfl⟩:=hc;rw[x5 e4];have hx:H0 (ρ l) sz off len (a.eval x'):=hx
     cases hp:ρ l with
     | none=>rw[hp] at hx; exact hx.elim
     | dead=>
       rw[hp] at hx;obtain ⟨ad,c,hv,_,_,hq,_⟩:=hx;obtain ⟨q,rfl⟩:=hq (by omega);exact f8.pure (x:=.ptr l (off + j) 0) (run _ _ _ hv hlt) hH (show M4 (ρ l) _ _ _ from by rw[hp]; exact ⟨_,rfl⟩)
     | virt s=>rw[hp] at hx; obtain ⟨_,_,rfl,_⟩:=hx; omega
     | at_ b base s size=>
       rw[hp] at hx;obtain ⟨rfl,c,hv,_⟩:=hx;refine f8.pure (x:=.ptr l (off + j) 0) (run _ _ _ hv hlt) hH (show M4 (ρ l) _ _ _ from ?_);rw[hp];show Value.pointer _=_;rw[zM,Nat.add_zero,Nat.add_mul,← Nat.add_assoc]
     | lol b base s size inn=>
       rw[hp] at hx;obtain ⟨rfl,c,hv,_⟩:=hx;refine f8.pure (x:=.ptr l (off + j) 0) (run _ _ _ hv hlt) hH (show M4 (ρ l) _ _ _ from ?_);rw[hp];show Value.pointer _=_;rw[zM,Nat.add_zero,Nat.add_mul,← Nat.add_assoc]
     | blk q=>rw[hp] at hx; exact hx.elim
    ·cases e4
   ·cases e4
 ·cases hok
end
end Go.Rf

namespace Go.Rf
variable {B:Ice} {ds:List Deferred} {fx:List (Nat × Value)}
section
variable {P:Program} {T:Tab} {cf:CF} {o:Oper} {a:Act} {w:World} {ρ:Map} {H:Ice} {h:Loc→Option Obj} {i N:Nat} {env:List (Nat × V)} {r:R}
def zif:Option Operand→Option Opnd→Bool
 | none,none=>true
 | some x,some y=>okO x y
 | _,_=>false
def qb9 (n:Option W) (x:Opnd) (lo hi:Option Opnd) (P:Program):Op→Bool
 | .slice t x' lo' hi' mx=>okO x' x && zif lo' lo && zif hi' hi && mx.isNone && (match n with
   | some n=>M5 P t n
   | none=>match P.underlying t with | some .string=>true | _=>false)
 | _=>false
theorem qnm:∀ xs:List D,1≤wl xs
 | []=>Nat.le_refl _
 | _ :: xs=>Nat.le_trans (qnm xs) (Nat.le_max_right ..)
theorem q4z {xs ys:List D} (hs:∀ x∈ys,x∈xs):wl ys≤wl xs:=by
 have h1:∀ {x:D} {l:List D},x∈l→wt x≤wl l:=by
  intro x l
  induction l with
  | nil=>intro h; cases h
  | cons y l ih=>
    intro h;simp only[wl];rcases List.mem_cons.1 h with rfl | h
    ·exact Nat.le_max_left ..
    ·exact Nat.le_trans (ih h) (Nat.le_max_right ..)
 have h0:1≤wl xs:=qnm xs
 induction ys with
 | nil=>exact h0
 | cons y ys ih=>
   simp only[wl];exact Nat.max_le.2 ⟨h1 (hs y (List.mem_cons_self ..)),ih fun x hx=>hs x (List.mem_cons_of_mem _ hx)⟩
theorem JG {sz:Nat}:∀ {us:List Value} (n:Nat),(∀ u∈us,u.cells.size=sz)→flat (us.drop n)=(flat us).drop (n * sz)
 | us,0,_=>by simp
 | [],n + 1,_=>by simp[flat]
 | u :: us,n + 1,h=>by
   have hl:u.cells.toList.length=sz:=by simpa using h u (List.mem_cons_self ..)
   rw[List.drop_succ_cons,JG n (fun x hx=>h x (List.mem_cons_of_mem _ hx)),M6,List.drop_append,hl]
   have:(n + 1) * sz - sz=n * sz:=by rw[Nat.add_mul]; omega
   have h0:List.drop ((n + 1) * sz) u.cells.toList=[]:=List.drop_eq_nil_of_le (by rw[hl,Nat.add_mul]; omega);rw[this,h0,List.nil_append]
theorem Qn {us:List Value} {n j:Nat} {v:Value} (h:(flat (us.take n))[j]? = some v):(flat us)[j]? = some v:=by
 have:flat us=flat (us.take n)++flat (us.drop n):=by rw[← kG,List.take_append_drop]
 rw[this];have hl:=(List.getElem?_eq_some_iff.1 h).1;rw[List.getElem?_append_left hl];exact h
theorem qbv {b:Bool} {len cap:Nat} {lo hi:Option Value} {l u:Nat} (hlo:lo=none∧l=0 ∨ ∃ k,lo=some (.int k (l:Int))) (hhi:hi=none∧u=len ∨ ∃ k,hi=some (.int k (u:Int)))
 (h1:l≤u) (h2:u≤cap):(Instr.sliceBounds b len cap lo hi none).run P w = .ok (l,u,cap) w:=by
 have sb:∀ k (x y:Nat) c,x≤y→(Instr.sliceBound (.int k (x:Int)) y c).run P w = .ok x w:=fun k x y c hxy=>by
  unfold Instr.sliceBound;have:(0:Int)≤(x:Int)∧(x:Int)≤(y:Int):=⟨by omega,by omega⟩;simp only[asIntOf,Sem.run_bind,Sem.run_pure,Result.andThen_ok,if_pos this];simp
 unfold Instr.sliceBounds
 rcases hlo with ⟨rfl,rfl⟩ | ⟨k,rfl⟩ <;> rcases hhi with ⟨rfl,rfl⟩ | ⟨k',rfl⟩
 ·simp
 ·simp[sb k' u cap _ h2]
 ·simp[sb k l u _ h1]
 ·simp[sb k' u cap _ h2,sb k l u _ h1]
theorem qzh {n x lo hi} (hH:HRel ρ H h w) (hE:EnvRel B ds fx ρ H N env a) (hok:qb9 n x lo hi P o.op=true) (e:j4 T cf i (.slice n x lo hi) (evO env) h=some r):f8 P o a w ρ H h i r:=by
 unfold qb9 at hok;split at hok
 ·rename_i t x' lo' hi' mx hop;simp only[Bool.and_eq_true,Option.isNone_iff_eq_none] at hok;obtain ⟨⟨⟨⟨h1,h2⟩,h3⟩,rfl⟩,h5⟩:=hok;obtain ⟨v,e1,e2⟩:=d9 e;have hx:=j9 hE h1 e1;split at e2
  ·rename_i l u el eu;obtain ⟨y,e3,e4⟩:=d9 e2;rw[x5 e4]
   have hlo:(lo'.map a.eval)=none∧l=0 ∨ ∃ k,(lo'.map a.eval)=some (.int k (l:Int)):=by
    cases lo with
    | none=>
      cases lo' with
      | none=>cases el; exact .inl ⟨rfl,rfl⟩
      | some q=>cases h2
    | some q=>
      cases lo' with
      | none=>cases h2
      | some q'=>
        obtain ⟨z,e5,e6⟩:=d9 el;obtain ⟨k,hk⟩:=xF (j9 hE h2 e5) e6;exact .inr ⟨k,by simp[hk]⟩
   have hhi:((hi'.map a.eval)=none∧lenOf v=some u) ∨ ∃ k,(hi'.map a.eval)=some (.int k (u:Int)):=by
    cases hi with
    | none=>
      cases hi' with
      | none=>exact .inl ⟨rfl,eu⟩
      | some q=>cases h3
    | some q=>
      cases hi' with
      | none=>cases h3
      | some q'=>
        obtain ⟨z,e5,e6⟩:=d9 eu;obtain ⟨k,hk⟩:=xF (j9 hE h3 e5) e6;exact .inr ⟨k,by simp[hk]⟩
   unfold Kk at e3;split at e3
   ·rename_i hle
    have slice_run:∀ n el,P.underlying t=some (.slice el)→qM P el n=true→∀ ad len cap,a.eval x' = .slice ad len cap→lenOf v=some len→u≤cap→
     (execOp a.eval o).run P w = .ok (.value (.slice (if cap=l then ad else ad.map (·.add (l * n))) (u - l) (cap - l))) w:=by
     intro n el hu hs ad len cap hv hlen hcap;have hb:=qbv (P:=P) (w:=w) (b:=true) (len:=len) (cap:=cap) hlo (hhi.imp (fun ⟨q1,q2⟩=>⟨q1,by rw[hlen] at q2; injection q2 with q2; exact q2.symm⟩) id) hle hcap;unfold execOp;simp only[hop,hv,Instr.sliceAt,Instr.slice,Sem.run_bind,run_underlying hu,Result.andThen_ok,Option.map_none,hb,qM.run hs];rfl
    split at e3
    ·rename_i s;split at e3
     ·rename_i hu;cases e3
      have hst:P.underlying t=some .string:=by
       simp only at h5;split at h5
       ·assumption
       ·cases h5
      obtain ⟨hv,hl⟩:=(hx:a.eval x' = .string ⟨s.toArray⟩∧s.length≤long);have hb:=qbv (P:=P) (w:=w) (b:=false) (len:=s.length) (cap:=s.length) hlo (hhi.imp (fun ⟨q1,q2⟩=>⟨q1,by cases q2; rfl⟩) id) hle hu;refine f8.pure (x:=.d (.str ((s.drop l).take (u - l)))) (v:=.string ⟨((s.drop l).take (u - l)).toArray⟩) ?_ hH ⟨rfl,?_⟩
      ·unfold execOp;simp only[hop,hv,Instr.sliceAt,Instr.slice,Sem.run_bind,run_underlying hst,Result.andThen_ok,Option.map_none,xU,Option.isSome_none,Bool.false_eq_true,if_false,hb]
       have:(⟨s.toArray⟩:ByteArray).extract l u=⟨((s.drop l).take (u - l)).toArray⟩:=by
        apply ByteArray.ext;simp[List.extract]
       rw[this];rfl
      ·have:=List.length_take_le (u - l) (s.drop l);have h8:=List.length_drop (i:=l) (l:=s)
       have h9:((s.drop l).take (u - l)).length≤s.length:=by
        rw[List.length_take,List.length_drop]; omega
       omega
     ·cases e3
    ·rename_i n xs;split at e3
     ·rename_i hc;obtain ⟨hu,hall⟩:=hc;cases e3;obtain ⟨el,inf,hut,_,_,_,hsz⟩:=M5.get h5;obtain ⟨ad,c,hv,hc1,hc2,hrow⟩:=id hx;refine f8.pure (x:=.d (.sl ((xs.drop l).take (u - l)))) (slice_run n.c el hut hsz _ _ _ hv rfl (Nat.le_trans hu hc1)) hH ?_
      have hlen:((xs.drop l).take (u - l)).length=u - l:=by rw[List.length_take,List.length_drop]; omega
      have hwl:wl ((xs.drop l).take (u - l))≤wl xs:=q4z fun x hx=>List.mem_of_mem_drop (List.mem_of_mem_take hx)
      refine ⟨_,c - l,by rw[hlen],by rw[hlen]; omega,?_,fun hne=>?_⟩
      ·rw[hlen];exact Nat.le_trans (Nat.mul_le_mul (by omega) hwl) hc2
      ·have hlu:l < u:=by
        by_cases q:l < u
        ·exact q
        ·exfalso; apply hne; apply List.eq_nil_of_length_eq_zero; omega
       have hxs:xs≠[]:=fun q=>by rw[q] at hu; simp at hu; omega
       obtain ⟨b,off,sz,us,rfl,hus,hs,hcell⟩:=hrow hxs
       have hsn:sz=n.c:=by
        obtain ⟨x0,hx0⟩:∃ x0,xs[0]? = some x0:=by
         cases xs with
         | nil=>exact absurd rfl hxs
         | cons x0 _=>exact ⟨x0,rfl⟩
        obtain ⟨u0,hu0,hr0⟩:=hus.get hx0;have q1:=(m7.cells (ρ:=ρ) (x:=.d x0) hr0 rfl).1.length
        have q2:x0.cells.length=(V.cells (.d x0)).length:=by cases x0 <;> simp[D.cells,V.cells]
        have q3:=hs u0 (List.mem_of_getElem? hu0)
        have q4:x0.cells.length=n.c:=by
         have:=List.all_eq_true.1 hall x0 (List.mem_of_getElem? hx0)
         simpa using this
        simp at q1;omega
       subst hsn
       have hcl:c≠l:=by omega
       refine ⟨b,off + l * n.c,n.c,(us.drop l).take (u - l),by rw[if_neg hcl]; simp[zM],(hus.drop l).take _,fun u hu=>hs u (List.mem_of_mem_drop (List.mem_of_mem_take hu)),fun j v hj=>?_⟩;have q:=Qn hj;rw[JG l hs,List.getElem?_drop] at q;rw[Nat.add_assoc];exact hcell _ _ q
     ·cases e3
    ·rename_i n l0 sz off len;split at e3
     ·rename_i hc;obtain ⟨hu,rfl⟩:=hc;obtain ⟨el,inf,hut,_,_,_,hsz⟩:=M5.get h5;have hsm:=M5.small h5
      have hx:H0 (ρ l0).core sz off len (a.eval x'):=by rw[vH]; exact hx
      have empty:∀ ad cap,a.eval x' = .slice ad len cap→u≤cap→l=u→f8 P o a w ρ H h i (.ok { v:=.d (.sl []) }):=by
       intro ad cap hv hcap hlu;refine f8.pure (x:=.d (.sl [])) (slice_run sz.c el hut hsz _ _ _ hv rfl hcap) hH ?_;subst hlu;refine ⟨(if cap=l then ad else ad.map (·.add (l * sz.c))),cap - l,by rw[Nat.sub_self]; rfl,Nat.zero_le _,by simp,fun h=>absurd rfl h⟩
      cases hp:(ρ l0).core with
      | none=>rw[hp] at hx; exact hx.elim
      | dead=>
        rw[hp] at hx;obtain ⟨ad,c,hv,hb,hc,hq,hll⟩:=hx;split at e3
        ·rename_i hl;cases e3;exact empty _ _ hv (by omega) hl
        ·rename_i hl;cases e3;obtain ⟨q,rfl⟩:=hq (by omega);refine f8.pure (x:=.ref l0 sz (off + l) (u - l)) (slice_run sz.c el hut hsz _ _ _ hv rfl (by omega)) hH (show H0 (ρ l0) _ _ _ _ from ?_);rw[← vH,hp];refine ⟨(if c=l then some q else (some q).map (·.add (l * sz.c))),c - l,rfl,Nat.le_trans (Nat.mul_le_mul_right _ (by omega)) hb,by omega,fun _=>?_,by omega⟩;rw[if_neg (by omega)];exact ⟨_,rfl⟩
      | virt s=>
        rw[hp] at hx;obtain ⟨_,_,rfl,hv⟩:=hx
        have hl:l=u:=by omega
        rw[if_pos hl] at e3;cases e3;exact empty _ _ hv (by omega) hl
      | at_ b base s size=>
        rw[hp] at hx;obtain ⟨rfl,c,hv,hc1,hc2,hc3,hc4,_⟩:=hx;split at e3
        ·rename_i hl;cases e3;exact empty _ _ hv (by omega) hl
        ·rename_i hl;cases e3;refine f8.pure (x:=.ref l0 s (off + l) (u - l)) (slice_run s.c el hut hsz _ _ _ hv rfl (by omega)) hH (show H0 (ρ l0) _ _ _ _ from ?_);rw[← vH,hp];refine ⟨rfl,c - l,?_,by omega,Nat.le_trans (Nat.mul_le_mul_right _ (by omega)) hc2,?_,by omega,fun hw=>absurd hw (by omega)⟩
         ·rw[if_neg (by omega)];simp only[Option.map_some,zM];rw[Nat.add_mul,Nat.add_assoc]
         ·have:off + l + (c - l)=off + c:=by omega
          rw[this];exact hc3
      | blk q=>rw[hp] at hx; exact hx.elim
      | lol b base s size inn=>exact (Place.core_lol hp).elim
     ·cases e3
    ·cases e3
   ·cases e3
  ·cases e2
 ·cases hok
end
end Go.Rf

namespace Go.Rf
variable {B:Ice} {ds:List Deferred} {fx:List (Nat × Value)}
section
variable {P:Program} {T:Tab} {cf:CF} {o:Oper} {a:Act} {w:World} {ρ:Map} {H:Ice} {h:Loc→Option Obj} {i N:Nat} {env:List (Nat × V)} {r:R}
theorem Xp {x:V} {n:Nat} (h:x.cells.length=n) (hn:n≠0):jR x=true:=by
 cases x <;> first | rfl | (exfalso; simp[V.cells] at h; omega)
theorem QK (hH:HRel ρ H h w) {l:Loc} (hl:ρ l = .none) {xs:List V} {us:List Value} {sz:W} (hv:f9 ρ H xs us) (hj:xs.any z7.isJunk=false) (hs:∀ u∈us,u.cells.size=sz.c)
 (cells:Array Value) (hc:∀ (j:Nat) (v:Value),(flat us)[j]? = some v→cells[j]? = some v) (elem:TypeId) (hty:1000000≤sz.w→elem + 1000000=sz.w∧(sz.c≠1→cells.size=sz.c)) :
 HRel (O3 ρ l (.at_ w.heap.size 0 sz cells.size)) H (Zc h l (some (.arr xs sz))) { w with heap:=w.heap.push (.cells cells elem (0,0)) } ∧
 Trans ρ H w (O3 ρ l (.at_ w.heap.size 0 sz cells.size)) H { w with heap:=w.heap.push (.cells cells elem (0,0)) } ∧ n9 ρ (O3 ρ l (.at_ w.heap.size 0 sz cells.size)):=by
 refine hH.push hl (.arr xs sz) (.cells cells elem (0,0)) (.at_ w.heap.size 0 sz cells.size) (fun _ h=>h.symm) ?_;refine ⟨rfl,cells,elem,0,us,by simp,rfl,hv.mono (n9.upd _ (.inl hl)) (fun _ _ _ e=>e),hj,hs,fun j v hj=>?_,fun hw=>⟨(hty hw).1,rfl,rfl,(hty hw).2⟩⟩;rw[Nat.zero_add];exact hc j v hj
theorem Kl (t:TypeId) (v:Value):(newVar t v).run P w = .ok ⟨w.heap.size,0,Option.none⟩ { w with heap:=w.heap.push (.cells v.cells t (0,0)) }:=rfl
def qol (n:W):Op→Bool
 | .move y | .assign y=>(match y with | .const (.slice none 0 0)=>true | _=>false)
 | _=>false
theorem zg3 {n} (hH:HRel ρ H h w) (hN:∀ k,ρ (.n i k) = .none) (hok:qol n o.op=true) (e:j4 T cf i (.own n) (evO env) h=some r):f8 P o a w ρ H h i r:=by
 have key:(execOp a.eval o).run P w = .ok (.value (.slice none 0 0)) w:=by
  unfold qol at hok;split at hok
  ·rename_i y hop;split at hok
   ·unfold execOp; rw[hop]; rfl
   ·cases hok
  ·rename_i y hop;split at hok
   ·unfold execOp; rw[hop]; rfl
   ·cases hok
  ·cases hok
 cases e;obtain ⟨k1,k2,k3⟩:=hH.virt (hN 0) n;refine f8.of key ⟨k1,k2,k3,K4.upd 0 _,?_⟩;show H0 (O3 ρ (.n i 0) _ _) _ _ _ _;rw[q8];exact ⟨rfl,rfl,rfl,rfl⟩
def qor (n:Nat) (x:Opnd) (P:Program):Op→Bool
 | .box _ x'=>okO x' x && decide (n≠0)
 | _=>false
theorem qdb (u:Value):flat [u]=u.cells.toList:=by simp[flat]
theorem zha {n x} (hH:HRel ρ H h w) (hE:EnvRel B ds fx ρ H N env a) (hN:∀ k,ρ (.n i k) = .none) (hok:qor n x P o.op=true) (e:j4 T cf i (.box n x) (evO env) h=some r):f8 P o a w ρ H h i r:=by
 unfold qor at hok;split at hok
 ·rename_i t x' hop;simp only[Bool.and_eq_true,decide_eq_true_eq] at hok;obtain ⟨h1,h2⟩:=hok;obtain ⟨v,e1,e2⟩:=d9 e;have hx:=j9 hE h1 e1;split at e2
  ·rename_i hn;cases e2;have hsol:=Xp hn h2;have hlen:=(hx.cells hsol).1.length
   have hsz:(a.eval x').cells.size=n:=by simp at hlen; omega
   obtain ⟨k1,k2,k3⟩:=QK hH (hN 0) (xs:=[v]) (us:=[a.eval x']) (sz:=⟨n,0⟩) ⟨_,[],rfl,hx,rfl⟩ (by simp[jb hsol])
    (by intro u hu; simp at hu; subst hu; exact hsz) (a.eval x').cells (fun j v hj=>by rw[qdb] at hj; simpa using hj) t (fun hw=>absurd hw (show ¬ 1000000≤0 by decide))
   refine f8.of (v:=.pointer (some ⟨w.heap.size,0,Option.none⟩)) ?_ ⟨k1,k2,k3,K4.upd 0 _,?_⟩
   ·unfold execOp;simp only[hop,Instr.box,Sem.run_bind,Kl,Result.andThen_ok];rfl
   ·show M4 (O3 ρ (.n i 0) _ _) _ _ _;rw[q8];simp[M4]
  ·cases e2
 ·cases hok
theorem f9.setAt:∀ {cs:List V} {vs:List Value} {c:Nat} {x:V} {v:Value},f9 ρ H cs vs→vs[c]? = some v→m7 ρ H x v→f9 ρ H (cs.set c x) vs
 | [],_,_,_,_,k,_,_=>by cases k; exact rfl
 | _ :: _,_,0,_,v,k,hv,h=>by
   obtain ⟨u,vs',rfl,k1,k2⟩:=k;simp at hv; subst hv;exact ⟨_,vs',rfl,h,k2⟩
 | _ :: _,_,c + 1,_,v,k,hv,h=>by
   obtain ⟨u,vs',rfl,k1,k2⟩:=k;exact ⟨u,vs',rfl,k1,k2.setAt (by simpa using hv) h⟩
def qkj (vs:List Value) (own:List (Nat × W)):Bool:=own.all fun x=>match vs[x.1]? with | some (.slice none 0 0)=>true | _=>false
theorem kt (h:Loc→Option Obj):∀ (xs ys:List (Loc × Option Obj)),i9 h (xs++ys)=i9 (i9 h xs) ys
 | [],_=>rfl
 | (l,o) :: xs,ys=>by
   simp only[List.cons_append,i9];exact kt _ xs ys
theorem qbe {α:Type} {p:α→Bool} {l:List α} (h:l.any p=false) {x:α} (hx:p x=false) (n:Nat):(l.set n x).any p=false:=by
 rw[List.any_eq_false] at *;intro y hy;rcases List.mem_or_eq_of_mem_set hy with h' | rfl
 ·exact h y h'
 ·simp[hx]
theorem Yj (w:World) (vs:List Value):∀ (own:List (Nat × W)) (k:Nat) (cs cs':List V) (wr:List (Loc × Option Obj)) (ρ:Map) (h:Loc→Option Obj),HRel ρ H h w→(∀ j,k≤j→ρ (.n i j) = .none)→
 f9 ρ H cs vs→cs.any K7=false→qkj vs own=true→L6 i k own cs=(cs',wr)→
 ∃ ρ',HRel ρ' H (i9 h wr) w∧Trans ρ H w ρ' H w∧n9 ρ ρ'∧K4 i ρ ρ'∧f9 ρ' H cs' vs∧cs'.any K7=false∧(∀ j,j < k→ρ' (.n i j) = ρ (.n i j))
 | [],k,cs,cs',wr,ρ,h,hH,hN,hv,hag,_,e=>by
   cases e;exact ⟨ρ,hH,Trans.refl ..,n9.refl _,K4.refl _ _,hv,hag,fun _ _=>rfl⟩
 | (c,sz) :: own,k,cs,cs',wr,ρ,h,hH,hN,hv,hag,hok,e=>by
   simp only[qkj,List.all_cons,Bool.and_eq_true] at hok;obtain ⟨ho,hok⟩:=hok
   have hc:vs[c]? = some (.slice none 0 0):=by
    split at ho
    ·assumption
    ·cases ho
   simp only[L6] at e
   cases e1:L6 i (k + 1) own (cs.set c (.ref (.n i k) sz 0 0)) with
   | mk cs1 wr1=>
   rw[e1] at e;cases e;obtain ⟨k1,k2,k3⟩:=hH.virt (hN k (Nat.le_refl _)) sz;have hst:n9 ρ (O3 ρ (.n i k) (.virt sz)):=k3
   have hv1:f9 (O3 ρ (.n i k) (.virt sz)) H (cs.set c (.ref (.n i k) sz 0 0)) vs:=by
    refine f9.setAt (hv.mono hst (fun _ _ _ e=>e)) hc ?_;show H0 (O3 ρ (.n i k) _ _) _ _ _ _;rw[q8];exact ⟨rfl,rfl,rfl,rfl⟩
   obtain ⟨ρ',q1,q2,q3,q4,q5,q6,q7⟩:=Yj w vs own (k + 1) _ _ _ _ _ k1 (fun j hj=>by
    rw[r8 (fun h=>by injection h with _ h; omega)]
    exact hN j (by omega)) hv1 (qbe hag rfl c) hok e1
   refine ⟨ρ',q1,k2.trans q2,k3.trans q3,(K4.upd k _).trans q4,q5,q6,fun j hj=>?_⟩;rw[q7 j (by omega),r8 (fun h=>by injection h with _ h; omega)]
theorem qb6 {k:Nat} {own:List (Nat × W)} {x x':V} {v:Value} {wr:List (Loc × Option Obj)} (hH:HRel ρ H h w) (hN:∀ j,k≤j→ρ (.n i j) = .none) (hv:m7 ρ H x v) (hsol:jR x=true)
 (hok:qkj v.cells.toList own=true) (e:kB i k own x=(x',wr)) :
 ∃ ρ',HRel ρ' H (i9 h wr) w∧Trans ρ H w ρ' H w∧n9 ρ ρ'∧K4 i ρ ρ'∧m7 ρ' H x' v∧jR x'=true∧(∀ j,j < k→ρ' (.n i j) = ρ (.n i j)):=by
 cases own with
 | nil=>
   cases e;exact ⟨ρ,hH,Trans.refl ..,n9.refl _,K4.refl _ _,hv,hsol,fun _ _=>rfl⟩
 | cons p own=>
   simp only[kB] at e
   cases e1:L6 i k (p :: own) x.cells with
   | mk cs wr1=>
   rw[e1] at e;cases e;obtain ⟨kc,kn⟩:=hv.cells hsol;obtain ⟨ρ',q1,q2,q3,q4,q5,q6,q7⟩:=Yj w _ _ _ _ _ _ _ _ hH hN kc kn hok e1
   cases hag:Rf.isAgg x with
   | false=>
     have hone:x.cells=[x]∧v.cells = #[v]:=by
      cases x with
      | d d=>cases d <;> first | exact ⟨rfl,v7 (m7.one hv rfl)⟩ | cases hag
      | agg cs=>cases hag
      | tup vs=>cases hsol
      | junk=>exact ⟨rfl,v7 (m7.one hv rfl)⟩
      | ref l sz off len=>exact ⟨rfl,v7 (m7.one hv rfl)⟩
      | ptr l e j=>exact ⟨rfl,v7 (m7.one hv rfl)⟩
      | iface t y=>exact ⟨rfl,v7 (m7.one hv rfl)⟩
      | fn f c=>exact ⟨rfl,v7 (m7.one hv rfl)⟩
      | map l=>exact ⟨rfl,v7 (m7.one hv rfl)⟩
      | iter l=>exact ⟨rfl,v7 (m7.one hv rfl)⟩
     rw[hone.2] at q5;have hlen:=q5.length
     cases cs with
     | nil=>simp at hlen
     | cons y l=>
       obtain ⟨u,vs',hu,r1,r2⟩:=q5;simp at hu;obtain ⟨rfl,rfl⟩:=hu;simp only[List.any_cons,Bool.or_eq_false_iff] at q6;refine ⟨ρ',q1,q2,q3,q4,r1,?_,q7⟩;show jR y=true
       cases y <;> first | rfl | (simp[K7] at q6; done)
   | true=>
   refine ⟨ρ',q1,q2,q3,q4,?_,XM _,q7⟩
   obtain ⟨vs,hvs⟩:∃ vs,v = .agg ⟨vs⟩:=by
    unfold Rf.isAgg at hag;split at hag
    ·obtain ⟨vs,hv,_⟩:=hv; exact ⟨vs,hv⟩
    ·obtain ⟨vs,hv,_⟩:=hv; exact ⟨vs,hv⟩
    ·cases hag
   subst hvs;exact JB q5 q6
def wS (z:D) (own:List (Nat × W)) (P:Program):Op→Bool
 | .alloc t=>V2 P t z && ownOkT P t own
 | _=>false
 where ownOkT (P:Program) (t:TypeId) (own:List (Nat × W)):Bool:=match P.info? t with
 | some inf=>match inf.zero with
   | some v=>qkj v.cells.toList own
   | none=>own.isEmpty
 | none=>own.isEmpty
theorem qbf {t:TypeId} {own:List (Nat × W)} {v:Value} (hz:(zeroValue t).run P w = .ok v w) (ho:wS.ownOkT P t own=true):qkj v.cells.toList own=true:=by
 unfold wS.ownOkT at ho;unfold zeroValue at hz
 cases hi:P.info? t with
 | none=>
   rw[hi] at ho
   have:own=[]:=by simpa using ho
   subst this; rfl
 | some inf=>
   rw[hi] at ho;rw[Sem.run_bind,run_typeInfo w hi,Result.andThen_ok] at hz
   cases hv:inf.zero with
   | none=>
     simp only[hv] at ho
     have:own=[]:=by simpa using ho
     subst this; rfl
   | some u=>
     simp only[hv] at ho hz;cases hz;exact ho
theorem qzu {z own} (hH:HRel ρ H h w) (hN:∀ k,ρ (.n i k) = .none) (hok:wS z own P o.op=true) (e:j4 T cf i (.alloc z own) (evO env) h=some r):f8 P o a w ρ H h i r:=by
 unfold wS at hok;split at hok
 ·rename_i t hop;simp only[Bool.and_eq_true] at hok;obtain ⟨h1,h2⟩:=hok;obtain ⟨v,hz,hr⟩:=V2.run h1 w;simp only[j4] at e
  cases e1:kB i 1 own (.d z) with
  | mk x wr=>
  rw[e1] at e;cases e;obtain ⟨ρ',q1,q2,q3,q4,q5,q6,q7⟩:=qb6 (k:=1) hH (fun j _=>hN j) (x:=.d z) (hr H) rfl (qbf hz h2) e1
  have hl:ρ' (.n i 0) = .none:=by rw[q7 0 (by omega)]; exact hN 0
  have hzc:v.cells.size=z.cells.length:=by
   have:=(m7.cells (ρ:=ρ) (x:=.d z) (hr H) rfl).1.length
   have h2:z.cells.length=(V.cells (.d z)).length:=by cases z <;> simp[D.cells,V.cells]
   simp at this;omega
  obtain ⟨k1,k2,k3⟩:=QK q1 hl (xs:=[x]) (us:=[v]) (sz:=⟨z.cells.length,0⟩) ⟨_,[],rfl,q5,rfl⟩ (by simp[jb q6])
   (by intro u hu; simp at hu; subst hu; exact hzc) v.cells (fun j v hj=>by rw[qdb] at hj; simpa using hj) t (fun hw=>absurd hw (show ¬ 1000000≤0 by decide))
  refine f8.of (v:=.pointer (some ⟨w.heap.size,0,Option.none⟩)) ?_ ⟨?_,q2.trans k2,q3.trans k3,q4.trans (K4.upd 0 _),?_⟩
  ·unfold execOp;simp only[hop,Instr.alloc,Sem.run_bind,hz,Kl,Result.andThen_ok];rfl
  ·show HRel _ _ (i9 h (wr++_)) _;rw[kt];exact k1
  ·show M4 (O3 ρ' (.n i 0) _ _) _ _ _;rw[q8];simp[M4]
 ·cases hok
def Wt (tt:TypeId) (z:D) (own:List (Nat × W)) (P:Program):Op→Bool
 | .alloc t=>decide (t=tt) && V2 P t z && wS.ownOkT P t own
 | _=>false
theorem qu8 {tt:TypeId} {z own} (hH:HRel ρ H h w) (hN:∀ k,ρ (.n i k) = .none) (hok:Wt tt z own P o.op=true) (e:j4 T cf i (.allocT tt z own) (evO env) h=some r):f8 P o a w ρ H h i r:=by
 unfold Wt at hok;split at hok
 ·rename_i t hop;simp only[Bool.and_eq_true,decide_eq_true_eq] at hok;obtain ⟨⟨htt,h1⟩,h2⟩:=hok;subst htt;obtain ⟨v,hz,hr⟩:=V2.run h1 w;simp only[j4] at e
  cases e1:kB i 1 own (.d z) with
  | mk x wr=>
  rw[e1] at e;cases e;obtain ⟨ρ',q1,q2,q3,q4,q5,q6,q7⟩:=qb6 (k:=1) hH (fun j _=>hN j) (x:=.d z) (hr H) rfl (qbf hz h2) e1
  have hl:ρ' (.n i 0) = .none:=by rw[q7 0 (by omega)]; exact hN 0
  have hzc:v.cells.size=z.cells.length:=by
   have:=(m7.cells (ρ:=ρ) (x:=.d z) (hr H) rfl).1.length
   have h2:z.cells.length=(V.cells (.d z)).length:=by cases z <;> simp[D.cells,V.cells]
   simp at this;omega
  obtain ⟨k1,k2,k3⟩:=QK q1 hl (xs:=[x]) (us:=[v]) (sz:=⟨z.cells.length,t + 1000000⟩) ⟨_,[],rfl,q5,rfl⟩ (by simp[jb q6])
   (by intro u hu; simp at hu; subst hu; exact hzc) v.cells (fun j v hj=>by rw[qdb] at hj; simpa using hj) t (fun _=>⟨rfl,fun _=>by simpa using hzc⟩)
  refine f8.of (v:=.pointer (some ⟨w.heap.size,0,Option.none⟩)) ?_ ⟨?_,q2.trans k2,q3.trans k3,q4.trans (K4.upd 0 _),?_⟩
  ·unfold execOp;simp only[hop,Instr.alloc,Sem.run_bind,hz,Kl,Result.andThen_ok];rfl
  ·show HRel _ _ (i9 h (wr++_)) _;rw[kt];exact k1
  ·show M4 (O3 ρ' (.n i 0) _ _) _ _ _;rw[q8];simp[M4]
 ·cases hok
end
end Go.Rf

namespace Go.Rf
variable {B:Ice} {ds:List Deferred} {fx:List (Nat × Value)}
theorem qh2 {al:Loc→Bool} {l:Loc} {m:List Loc}:∀ x∈(U3 al l m).2,x∈m∨al x=true:=by
 intro x hx;unfold U3 at hx
 cases h:al l with
 | false=>rw[h] at hx; exact .inl hx
 | true=>
   rw[h,j6] at hx
   cases hi:idx m l with
   | none=>
     rw[hi,kD] at hx;rcases List.mem_append.1 hx with h1 | h1
     ·exact .inl h1
     ·rw[List.mem_singleton.1 h1]; exact .inr h
   | some k=>rw[hi,qP] at hx; exact .inl hx
mutual
theorem Wp (al:Loc→Bool):∀ (v:V) (m:List Loc),∀ x∈(V.ren al v m).2,x∈m∨al x=true
 | .d _,m=>fun x h=>.inl h
 | .ref ..,m | .ptr ..,m | .map _,m | .iter _,m=>by simp only[V.ren,named,X6]; exact qh2
 | .agg cs,m | .fn _ cs,m | .tup cs,m=>by simp only[V.ren,X6]; exact Zn al cs m
 | .iface _ v,m=>by simp only[V.ren,X6]; exact Wp al v m
 | .junk,m=>fun x h=>.inl h
theorem Zn (al:Loc→Bool):∀ (vs:List V) (m:List Loc),∀ x∈(qN al vs m).2,x∈m∨al x=true
 | [],m=>fun x h=>.inl h
 | v :: vs,m=>by
   simp only[qN,X6];intro x hx;rcases Zn al vs _ x hx with h | h
   ·exact Wp al v m x h
   ·exact .inr h
end
theorem qaa (al:Loc→Bool):∀ (es:List (D × V)) (m:List Loc),∀ x∈(jf al es m).2,x∈m∨al x=true
 | [],m=>fun x h=>.inl h
 | (k,v) :: es,m=>by
   simp only[jf,X6];intro x hx;rcases qaa al es _ x hx with h | h
   ·exact Wp al v m x h
   ·exact .inr h
theorem qen (al:Loc→Bool) (o:Obj) (m:List Loc):∀ x∈(o.ren al m).2,x∈m∨al x=true:=by
 cases o with
 | arr xs sz=>simp only[Obj.ren,X6]; exact Zn al xs m
 | map es=>simp only[Obj.ren,X6]; exact qaa al es m
 | _=>exact fun x h=>.inl h
theorem Kj (h:Loc→Option Obj):∀ (f j:Nat) (m:List Loc) (os:List Obj) (M:List Loc),D1 h f j m=some (os,M)→∀ x∈M,x∈m∨(h x).isSome=true
 | 0,j,m,os,M,e=>by cases e
 | f + 1,j,m,os,M,e=>by
   simp only[D1] at e
   cases hm:m[j]? with
   | none=>rw[hm,kD] at e; cases e; exact fun x hx=>.inl hx
   | some l=>
     rw[hm,qP] at e
     cases hl:h l with
     | none=>
       rw[hl,kD] at e;obtain ⟨⟨os',M'⟩,e1,e2⟩:=d9 e;cases e2;exact Kj h f (j + 1) m os' M' e1
     | some o=>
       rw[hl,qP] at e;simp only[X6] at e;obtain ⟨⟨os',M'⟩,e1,e2⟩:=d9 e;cases e2;intro x hx;rcases Kj h f (j + 1) _ os' M' e1 x hx with h' | h'
       ·exact qen _ o m x h'
       ·exact .inr h'
theorem qcq {pin:List Loc} {vs vs':List V} {h:Loc→Option Obj} {os:List Obj} {M:List Loc} (e:XK pin vs h=some (vs',os,M)):∀ x∈M,x∈pin∨(h x).isSome=true:=by
 simp only[XK,X6] at e;obtain ⟨⟨os',M'⟩,e1,e2⟩:=d9 e;cases e2;intro x hx;rcases Kj h 64 0 _ os' M' e1 x hx with h' | h'
 ·exact Zn _ vs pin x h'
 ·exact .inr h'
structure CallEnd (ρ:Map) (H:Ice) (w:World) (n:Nat) (os:List Obj) (ρ':Map) (H':Ice) (w':World):Prop where
 heap:HRel ρ' H' (o5 os) w'
 trans:Trans ρ H w ρ' H' w'
 stays:n9 ρ ρ'
 only:∀ l,ρ' l ≠ .none→∃ k,l = .b k
 len:n≤os.length
def JS (P:Program) (f:FuncId) (args:Array Value) (w:World) (ρ:Map) (H:Ice) (n:Nat) (r:CRes):Prop:=
 Calls P f args w fun e w'=>match e with
  | .outgrown=>r = .out
  | .returned v=>∃ rs os ρ' H',r = .ret rs os∧CallEnd ρ H w n os ρ' H' w'∧m7 ρ' H' (QC rs) v
  | .panicked chain=>∃ x os ρ' H' u,r = .pan x os∧chain=[{ v:=u,recovered:=false }]∧CallEnd ρ H w n os ρ' H' w'∧m7 ρ' H' x u
def ZU (B:Ice) (P:Program) (cf:CF):Prop:=∀ f vs heap r,cf f vs heap=some r→∀ (ρ:Map) (H:Ice) (w:World) (args:Array Value),B.le H→HRel ρ H (o5 heap) w→f9 ρ H vs args.toList→
 (∀ l,ρ l ≠ .none→∃ k,k < heap.length∧l = .b k)→JS P f args w ρ H heap.length r
theorem qax (h:Loc→Option Obj):∀ fm:List Loc,i9 h (fm.map (·,none))=Q7 h fm
 | []=>by funext l; simp[Q7,i9]
 | l :: fm=>by
   simp only[List.map_cons,i9];rw[qax _ fm]
   funext l'
   simp only[Q7,List.mem_cons]
   by_cases h1:l'∈fm
   ·simp[h1]
   ·by_cases h2:l'=l <;> simp[h1,h2]
theorem f9.fits {ρ:Map} {H:Ice}:∀ {vs:List V} {us:List Value},f9 ρ H vs us→vs.all N6=true
 | [],_,_=>rfl
 | v :: vs,_,k=>by
   obtain ⟨u,us',rfl,k1,k2⟩:=k;simp only[List.all_cons,Bool.and_eq_true];exact ⟨m7.fits k1,f9.fits k2⟩
theorem qw3 {ρ:Map} {S:List Loc} {l:Loc} (h:ρ l = .none) (hl:l ∉ S):xS ρ S l = .none:=by
 unfold xS;rw[if_neg hl];exact h
theorem xd {P:Program} {cf:CF} {o:Oper} {a:Act} {w:World} {ρ:Map} {H:Ice} {h:Loc→Option Obj} {i:Nat} {f:FuncId} {args:List (V × Bool)} {us:List Value} {r:R} (hcf:ZU B P cf)
 (hB:B.le H) (hH:HRel ρ H h w) (hN:∀ k,ρ (.n i k) = .none) (hv:f9 ρ H (args.map (·.1)) us) (e:Y8 cf f i h args=some r)
 (hrun:(execOp a.eval o).run P w = .ok (.enter f ⟨us⟩) w):f8 P o a w ρ H h i r:=by
 obtain ⟨⟨vs,fm⟩,e1,e2⟩:=d9 e;obtain ⟨⟨vs',os,m⟩,e3,e4⟩:=d9 e2;obtain ⟨f1,f2,f3,f4⟩:=X2 hH fm;have hv1:=vV hH args vs fm e1 fm (fun _ h=>h) us hv;obtain ⟨n1,n2,_,n4,n5⟩:=XJ f1 List.nodup_nil e3;have hv2:=n2 us hv1;rw[hv2.fits,j6] at e4;obtain ⟨cr,e5,e6⟩:=d9 e4;cases e6
 have hfm:∀ l∈fm,∃ o,h l=some o:=by
  have:∀ (args:List (V × Bool)) (vs:List V) (m:List Loc),A7 h args=some (vs,m)→∀ l∈m,∃ o,h l=some o:=by
   intro args
   induction args with
   | nil=>intro vs m e l hl; cases e; cases hl
   | cons x args ih=>
     intro vs m e l hl;obtain ⟨v,fl⟩:=x;simp only[A7] at e;split at e
     ·rename_i v' m1 vs' m2 q1 q2;cases e;rcases List.mem_append.1 hl with h' | h'
      ·cases fl with
       | true=>
         simp only[if_true,Option.map_eq_some_iff] at q1;obtain ⟨⟨y,m'⟩,g1,g2⟩:=q1;cases g2;exact (vU hH 24 v y _ g1).1 l h'
       | false=>
         simp only[Bool.false_eq_true,if_false] at q1;cases q1;cases h'
      ·exact ih vs' m2 q2 l h'
     ·cases e
  exact this args vs fm e1
 have alive:∀ {l},(h l).isSome=true→ρ l ≠ .none:=fun {l} hl hn=>by
  obtain ⟨ob,ho⟩:=Option.isSome_iff_exists.1 hl;have:=hH.objs l ob ho;rw[hn] at this
  cases ob <;> exact this.elim
 have hNf:∀ k,Loc.n i k ∉ fm:=fun k hk=>by
  obtain ⟨ob,hh⟩:=hfm _ hk;exact alive (by rw[hh]; rfl) (hN k)
 have hm:∀ l∈m,xS ρ fm l ≠ .none:=fun l hl=>by
  rcases qcq e3 l hl with h' | h'
  ·cases h'
  ·obtain ⟨ob,ho⟩:=Option.isSome_iff_exists.1 h';intro hn;have:=f1.objs l ob ho;rw[hn] at this
   cases ob <;> exact this.elim
 have hN1:∀ k,xS ρ fm (.n i k) = .none:=fun k=>qw3 (hN k) (hNf k)
 have hc:=hcf f vs' os cr e5 (zV (xS ρ fm) m) (jU ρ H w fm) w ⟨us⟩ (fun b o v e=>f2.le hH b o v (hB b o v e)) n1 hv2 (fun l hl=>by
  cases l with
  | n a j=>exact (hl rfl).elim
  | b k=>
    refine ⟨k,?_,rfl⟩;rw[n5]
    by_cases hk:k < m.length
    ·exact hk
    ·exfalso
     apply hl;have:m[k]? = none:=List.getElem?_eq_none_iff.2 (by omega)
     simp only[zV,this])
 have newAt:K4 i ρ (xS ρ fm):=fun l h1 h2=>by
  unfold xS at h2;split at h2
  ·rename_i hl;obtain ⟨ob,hh⟩:=hfm l hl;exact (alive (by rw[hh]; rfl) h1).elim
  ·exact (h2 h1).elim
 have back:∀ {os' ρ' H' w' v x} (_:CallEnd (zV (xS ρ fm) m) (jU ρ H w fm) w os.length os' ρ' H' w') (_:m7 ρ' H' x v),
  Post ρ H h w i { v:=x.mapL (P4 m i),rd:=fm++m,wr:=fm.map (·,none)++N8 m i 0 os' } (Za (xS ρ fm) ρ' m i) H' v w':=by
  intro os' ρ' H' w' v x ce hx;obtain ⟨b1,b2,b3,b4,b5⟩:=qye (i:=i) f1 n4 hm hN1 ce.heap ce.trans ce.stays ce.only (by have:=ce.len; omega);refine ⟨?_,f2.trans b2,f3.trans b3,newAt.trans b4,b5 x v hx⟩;show HRel _ _ (i9 h (fm.map (·,none)++N8 m i 0 os')) w';rw[kt,qax];exact b1
 intro K Q hpost;refine .inl ?_;unfold Oper.wp;rw[hrun];show Calls P f ⟨us⟩ w _;intro cs;obtain ⟨en,w',fr,hR,rest⟩:=hc cs;refine ⟨en,w',fr,?_,rest⟩
 cases en with
 | outgrown=>subst hR; exact hpost
 | returned v=>
   obtain ⟨rs,os',ρ',H',rfl,ce,hx⟩:=hR;exact hpost _ _ _ _ (back ce hx)
 | panicked chain=>
   obtain ⟨x,os',ρ',H',u,rfl,rfl,ce,hx⟩:=hR;exact hpost _ _ _ _ (back ce hx)
end Go.Rf

namespace Go.Rf
variable {B:Ice} {ds:List Deferred} {fx:List (Nat × Value)}
section
variable {P:Program} {T:Tab} {cf:CF} {o:Oper} {a:Act} {w:World} {ρ:Map} {H:Ice} {h:Loc→Option Obj} {i N:Nat} {env:List (Nat × V)} {r:R}
def qB (P:Program) (f:FuncId):Bool:=match P.funcs[f]? with
 | some fn => !(fn.name == "runtime.NumGoroutine") && fn.body.isSome
 | none=>false
def XH:List Operand→List (Opnd × Bool)→Bool
 | [],[]=>true
 | x :: xs,(y,_) :: ys=>okO x y && XH xs ys
 | _,_=>false
theorem qQ (hE:EnvRel B ds fx ρ H N env a):∀ {xs ys vs},XH xs ys=true→evs (evO env) ys=some vs→f9 ρ H (vs.map (·.1)) (xs.map a.eval)
 | [],[],vs,_,e=>by cases e; rfl
 | [],_ :: _,_,h,_=>by simp[XH] at h
 | _ :: _,[],_,h,_=>by simp[XH] at h
 | x :: xs,(y,fl) :: ys,vs,h,e=>by
   simp only[XH,Bool.and_eq_true] at h;simp only[evs] at e;split at e
   ·rename_i v vs' e1 e2;cases e;exact ⟨_,_,rfl,j9 hE h.1 e1,qQ hE h.2 e2⟩
   ·cases e
theorem zn {f:FuncId} (hf:qB P f=true) (args:Array Value):(callFunc f args).run P w = .ok (.enter f args) w:=by
 unfold qB at hf;split at hf
 ·rename_i fn hfn;simp only[Bool.and_eq_true,Bool.not_eq_true'] at hf;obtain ⟨h1,h2⟩:=hf;unfold callFunc;simp only[Sem.run_bind,run_program,Result.andThen_ok,hfn,h1,Bool.false_eq_true,if_false]
  cases hb:fn.body with
  | none=>rw[hb] at h2; cases h2
  | some b=>simp
 ·cases hf
def Ym (f:FuncId) (args:List (Opnd × Bool)) (P:Program):Op→Bool
 | .call c=>(match c.callee with | .value (.func g)=>decide (g=f) | _=>false) && qB P f && XH c.args.toList args
 | _=>false
theorem q6c {f args} (hcf:ZU B P cf) (hH:HRel ρ H h w) (hE:EnvRel B ds fx ρ H N env a) (hN:∀ k,ρ (.n i k) = .none) (hok:Ym f args P o.op=true) (e:j4 T cf i (.call f args) (evO env) h=some r):f8 P o a w ρ H h i r:=by
 unfold Ym at hok;split at hok
 ·rename_i c hop;simp only[Bool.and_eq_true] at hok;obtain ⟨⟨h1,h2⟩,h3⟩:=hok;obtain ⟨vs,e1,e2⟩:=d9 e;refine xd hcf hE.base hH hN (qQ hE h3 e1) e2 ?_;split at h1
  ·rename_i g hc;simp only[decide_eq_true_eq] at h1;subst h1;unfold execOp;simp only[hop,resolve,hc,Act.eval,Deferred.ofValue];rw[Sem.run_bind];show Result.andThen (.ok _ w) _=_;rw[Result.andThen_ok];simp only[invoke];rw[zn h2]
   congr 2
   apply Array.toList_inj.1;simp
  ·cases h1
 ·cases hok
def qch (f:Opnd) (args:List (Opnd × Bool)):Op→Bool
 | .call c=>(match c.callee with | .value g=>okO g f | _=>false) && XH c.args.toList args
 | _=>false
theorem qzr {f args} (hcf:ZU B P cf) (hH:HRel ρ H h w) (hE:EnvRel B ds fx ρ H N env a) (hN:∀ k,ρ (.n i k) = .none) (hfs:∀ g vs hp r,cf g vs hp=some r→qB P g=true) (hok:qch f args o.op=true)
 (e:j4 T cf i (.callV f args) (evO env) h=some r):f8 P o a w ρ H h i r:=by
 unfold qch at hok;split at hok
 ·rename_i c hop;simp only[Bool.and_eq_true] at hok;obtain ⟨h1,h3⟩:=hok;obtain ⟨g,e1,e2⟩:=d9 e;obtain ⟨vs,e3,e4⟩:=d9 e2;obtain ⟨⟨fid,cap⟩,e5,e6⟩:=d9 e4;split at h1
  ·rename_i g' hc;have hg:=j9 hE h1 e1
   obtain ⟨us,hgv,hcap⟩:∃ us,a.eval g'=ZY fid us∧f9 ρ H cap us:=by
    unfold qep at e5;split at e5
    ·cases e5;obtain ⟨us,hgv,k⟩:=hg;exact ⟨us,hgv,k.toV⟩
    ·cases e5;obtain ⟨us,hgv,k⟩:=hg;exact ⟨us,hgv,k⟩
    ·cases e5
   have hcap':f9 ρ H ((cap.map (·,false)).map (·.1)) us:=by
    rw[List.map_map];have:(fun x:V × Bool=>x.1) ∘ (fun x:V=>(x,false))=id:=rfl;rw[this,List.map_id];exact hcap
   have hargs:f9 ρ H ((N2 fid vs (cap.map (·,false))).map (·.1)) (N2 fid (c.args.toList.map a.eval) us):=by
    unfold N2;split
    ·rw[List.map_append]; exact (qQ hE h3 e3).append hcap'
    ·rw[List.map_append]; exact hcap'.append (qQ hE h3 e3)
   have hb:qB P (wZ fid)=true:=by
    have e7:Y8 cf (wZ fid) i h (N2 fid vs (cap.map (·,false)))=some r:=e6;obtain ⟨⟨vs1,fm⟩,f1,f2⟩:=d9 e7;obtain ⟨⟨vs',os,m⟩,f3,f4⟩:=d9 f2;obtain ⟨g1,g2,g3,g4⟩:=X2 hH fm;obtain ⟨n1,n2,_,n4,n5⟩:=XJ g1 List.nodup_nil f3;have hv1:=vV hH _ vs1 fm f1 fm (fun _ h=>h) _ hargs;rw[(n2 _ hv1).fits,j6] at f4;obtain ⟨cr,f5,_⟩:=d9 f4;exact hfs _ _ _ _ f5
   refine xd hcf hE.base hH hN hargs e6 ?_;unfold execOp;unfold wZ at hb ⊢;unfold N2;unfold ZY at hgv;split at hgv
   ·rename_i hlt;rw[if_pos hlt] at hb;simp only[hop,resolve,hc,hgv,Deferred.ofValue,if_pos hlt];rw[Sem.run_bind];show Result.andThen (.ok _ w) _=_;rw[Result.andThen_ok];simp only[invoke];rw[zn hb]
    congr 2
    apply Array.toList_inj.1;simp
   ·rename_i hlt;rw[if_neg hlt] at hb;simp only[hop,resolve,hc,hgv,Deferred.ofValue,if_neg hlt];rw[Sem.run_bind];show Result.andThen (.ok _ w) _=_;rw[Result.andThen_ok];simp only[invoke];rw[zn hb]
    congr 2
    apply Array.toList_inj.1;simp
  ·cases h1
 ·cases hok
def qca (x:Opnd) (P:Program):Op→Bool
 | .range t x'=>okO x' x && (match P.underlying t with | some .string=>true | _=>false)
 | _=>false
theorem qzi {x} (hH:HRel ρ H h w) (hE:EnvRel B ds fx ρ H N env a) (hN:∀ k,ρ (.n i k) = .none) (hok:qca x P o.op=true) (e:j4 T cf i (.range x) (evO env) h=some r):f8 P o a w ρ H h i r:=by
 unfold qca at hok;split at hok
 ·rename_i t x' hop;simp only[Bool.and_eq_true] at hok;obtain ⟨h1,h2⟩:=hok
  have hu:P.underlying t=some .string:=by
   split at h2
   ·assumption
   ·cases h2
  simp only[j4] at e;split at e
  ·rename_i s e1;cases e;obtain ⟨hv,hl⟩:=(j9 hE h1 e1:a.eval x' = .string ⟨s.toArray⟩∧s.length≤long);obtain ⟨k1,k2,k3⟩:=hH.push (hN 0) (.iter s 0) (.stringIter ⟨s.toArray⟩ 0) (.blk w.heap.size) (fun _ h=>h.symm) ⟨by simp,hl⟩;refine f8.of (v:=.pointer (some ⟨w.heap.size,0,Option.none⟩)) ?_ ⟨k1,k2,k3,K4.upd 0 _,?_⟩
   ·unfold execOp;simp only[hop,hv,Instr.range,Sem.run_bind,run_underlying hu,Result.andThen_ok];rfl
   ·show xh (O3 ρ (.n i 0) _ _) _ _;rw[q8];rfl
  ·cases e
 ·cases hok
def qcd:Op→Bool
 | .makeMap _ none=>true
 | _=>false
theorem qzl (hH:HRel ρ H h w) (hN:∀ k,ρ (.n i k) = .none) (hok:qcd o.op=true) (e:j4 T cf i .mkMap (evO env) h=some r):f8 P o a w ρ H h i r:=by
 unfold qcd at hok;split at hok
 ·rename_i t hop;cases e;obtain ⟨k1,k2,k3⟩:=hH.push (hN 0) (.map []) (.map #[] 0) (.blk w.heap.size) (fun _ h=>h.symm) ⟨[],0,by simp,.nil⟩;refine f8.of (v:=.map (some w.heap.size)) ?_ ⟨k1,k2,k3,K4.upd 0 _,?_⟩
  ·unfold execOp;simp only[hop];rfl
  ·show xh (O3 ρ (.n i 0) _ _) _ _;rw[q8];rfl
 ·cases hok
def qhr (x:Opnd):Op→Bool
 | .next x' true=>okO x' x
 | _=>false
theorem q55 {x} (hH:HRel ρ H h w) (hE:EnvRel B ds fx ρ H N env a) (hok:qhr x o.op=true) (e:j4 T cf i (.next x) (evO env) h=some r):f8 P o a w ρ H h i r:=by
 unfold qhr at hok;split at hok
 ·rename_i x' hop;simp only[j4] at e;split at e
  ·rename_i l e1;split at e
   ·rename_i s pos hl;have hx:xh (ρ l) (fun r=>.pointer (some ⟨r,0,Option.none⟩)) (a.eval x'):=j9 hE hok e1;have hobj:=hH.objs l _ hl
    cases hp:ρ l with
    | blk q=>
      rw[hp] at hx hobj;obtain ⟨hb,hlen⟩:=hobj;have hx:a.eval x' = .pointer (some ⟨q,0,Option.none⟩):=hx;have hlt:q < w.heap.size:=(Array.getElem?_eq_some_iff.1 hb).1;split at e
      ·rename_i hpos;cases e
       have hrun:(Instr.next (a.eval x') true o.type).run P w = .ok (.tuple #[.bool true,.int .i64 pos,.int .i32 (Utf8.decode ⟨s.toArray⟩ pos).1]) { w with heap:=w.heap.setIfInBounds q (.stringIter ⟨s.toArray⟩ (pos + (Utf8.decode ⟨s.toArray⟩ pos).2)) }:=by
        rw[hx]
        have hps:pos < (⟨s.toArray⟩:ByteArray).size:=by rw[xU]; exact hpos
        simp only[Instr.next,Sem.run_bind,getObj,setObj,Sem.run,hb,Result.andThen_ok];simp[hps,Sem.run,hb,goInt]
       obtain ⟨k1,k2⟩:=hH.write (w':={ w with heap:=w.heap.setIfInBounds q (.stringIter ⟨s.toArray⟩ (pos + (Utf8.decode ⟨s.toArray⟩ pos).2)) }) (l:=l) (b:=q) (by rw[hp]; rfl) (.iter s (pos + (dec s pos).2)) ⟨rfl,rfl,rfl,by simp⟩ (fun j hj=>by
        show (w.heap.setIfInBounds q _)[j]? = _
        rw[Array.getElem?_setIfInBounds_ne (Ne.symm hj)]) (by
        rw[hp];refine ⟨?_,hlen⟩;show (w.heap.setIfInBounds q _)[q]? = _;rw[Array.getElem?_setIfInBounds_self]
        simp[hlt,dec])
       refine f8.of (v:=.tuple #[.bool true,.int .i64 pos,.int .i32 (Utf8.decode ⟨s.toArray⟩ pos).1]) ?_ ⟨k1,k2,n9.refl _,K4.refl _ _,⟨_,rfl,_,_,rfl,rfl,_,_,rfl,rfl,_,_,rfl,rfl,rfl⟩⟩;unfold execOp;simp only[hop,Sem.run_bind,hrun,Result.andThen_ok];rfl
      ·rename_i hpos;cases e
       have hps:¬ pos < (⟨s.toArray⟩:ByteArray).size:=by rw[xU]; exact hpos
       refine f8.pure (x:=.tup [.d (.bool false)]) (v:=.tuple #[.bool false]) ?_ hH ⟨_,rfl,_,_,rfl,rfl,rfl⟩ [l];unfold execOp;simp only[hop,hx,Instr.next,Sem.run_bind,getObj,Sem.run,hb,Result.andThen_ok];simp[hps,Sem.run]
    | none=>rw[hp] at hx; exact hx.elim
    | dead=>rw[hp] at hobj; exact hobj.elim
    | virt s=>rw[hp] at hx; exact hx.elim
    | at_ b1 b2 b3 b4=>rw[hp] at hx; exact hx.elim
    | lol b1 b2 b3 b4 b5=>rw[hp] at hx; exact hx.elim
   ·cases e
  ·cases e
 ·cases hok
end
end Go.Rf

namespace Go.Rf
variable {B:Ice} {ds:List Deferred} {fx:List (Nat × Value)}
section
variable {P:Program} {T:Tab} {cf:CF} {o:Oper} {a:Act} {w:World} {ρ:Map} {H:Ice} {h:Loc→Option Obj} {i N:Nat} {env:List (Nat × V)} {r:R}
def putL {α:Type}:List α→Nat→List α→List α
 | cs,_,[]=>cs
 | cs,off,x :: xs=>putL (cs.set off x) (off + 1) xs
theorem XC:∀ (cs:List V) (off:Nat) (xs:List V),zW cs off xs=putL cs off xs
 | _,_,[]=>rfl
 | cs,off,x :: xs=>by simp only[zW,putL]; exact XC _ _ xs
theorem vN {α:Type}:∀ (xs cs:List α) (off:Nat),(putL cs off xs).length=cs.length
 | [],_,_=>rfl
 | x :: xs,cs,off=>by simp only[putL]; rw[vN xs]; simp
theorem XB {α:Type}:∀ (xs cs:List α) (off j:Nat),off + xs.length≤cs.length→(putL cs off xs)[j]? = if off≤j∧j < off + xs.length then xs[j - off]? else cs[j]?
 | [],cs,off,j,_=>by simp only[putL,List.length_nil]; rw[if_neg (by omega)]
 | x :: xs,cs,off,j,hl=>by
   simp only[List.length_cons] at hl;simp only[putL];rw[XB xs (cs.set off x) (off + 1) j (by simp; omega)];simp only[List.length_cons]
   by_cases h1:off + 1≤j∧j < off + 1 + xs.length
   ·rw[if_pos h1,if_pos (by omega)]
    have:j - off=(j - (off + 1)) + 1:=by omega
    rw[this,List.getElem?_cons_succ]
   ·rw[if_neg h1]
    by_cases h2:j=off
    ·subst h2;rw[if_pos (by omega),List.getElem?_set_self (by omega)];simp
    ·rw[if_neg (by omega),List.getElem?_set_ne (by omega)]
theorem f9.putL:∀ {ys:List V} {us:List Value} {cs:List V} {vs:List Value} (off:Nat),f9 ρ H cs vs→f9 ρ H ys us→f9 ρ H (putL cs off ys) (Rf.putL vs off us)
 | [],_,_,_,_,k,k'=>by cases k'; exact k
 | y :: ys,_,_,_,off,k,k'=>by
   obtain ⟨u,us',rfl,k1,k2⟩:=k';exact (k.set off k1).putL (off + 1) k2
theorem qd5 {p:V→Bool}:∀ {ys cs:List V} (off:Nat),cs.any p=false→ys.any p=false→(Rf.putL cs off ys).any p=false
 | [],_,_,h,_=>h
 | y :: ys,cs,off,h,h'=>by
   simp only[List.any_cons,Bool.or_eq_false_iff] at h';exact qd5 (off + 1) (qbe h h'.1 off) h'.2
theorem qej {b off:Nat} {v:Value} {c:Array Value} {t:TypeId} {fr:Nat × Nat} (hb:w.heap[b]? = some (.cells c t fr)) :
 w.setCell ⟨b,off,Option.none⟩ v = { w with heap:=w.heap.setIfInBounds b (.cells (c.setIfInBounds off v) t fr) }:=by
 unfold World.setCell
 congr 1
 apply Array.ext_getElem?;intro j;have hlt:b < w.heap.size:=(Array.getElem?_eq_some_iff.1 hb).1
 by_cases hj:b=j
 ·subst hj;rw[Array.getElem?_setIfInBounds_self];simp only[Array.getElem?_modify,if_true,hb,Option.map_some,Option.isSome_none,Bool.false_eq_true,if_false,hlt]
 ·rw[Array.getElem?_setIfInBounds_ne hj,Array.getElem?_modify,if_neg hj]
theorem zJ (b o:Nat) (t:TypeId) (fr:Nat):∀ (vs:List Value) (i:Nat) (cur:List Value) (w:World),w.heap[b]? = some (.cells ⟨cur⟩ t (fr,fr))→o + i + vs.length≤cur.length→
 (∀ v∈vs,v.oneCell'=true)→(storeCells ⟨b,o,Option.none⟩ vs i).run P w = .ok () { w with heap:=w.heap.setIfInBounds b (.cells ⟨putL cur (o + i) vs⟩ t (fr,fr)) }
 | [],i,cur,w,hb,_,_=>by
   simp only[storeCells,putL];rw[← setIf_same hb];rfl
 | v :: vs,i,cur,w,hb,hl,h1=>by
   simp only[List.length_cons] at hl;have hlt:b < w.heap.size:=(Array.getElem?_eq_some_iff.1 hb).1
   have hcell:w.cell? ⟨b,o + i,Option.none⟩=some (cur[o + i]'(by omega)):=by
    simp only[World.cell?,hb];simp
   have hfz:w.frozen? ⟨b,o + i,Option.none⟩=false:=by
    simp only[World.frozen?,hb];simp
   have hs:(store (Addr.add ⟨b,o,Option.none⟩ i) v).run P w = .ok () { w with heap:=w.heap.setIfInBounds b (.cells ⟨cur.set (o + i) v⟩ t (fr,fr)) }:=by
    rw[zM,run_store P w _ v _ (h1 v (List.mem_cons_self ..)),hcell];simp only[hfz,Bool.false_eq_true,if_false];rw[qej hb];simp
   simp only[storeCells,Sem.run_bind,hs,Result.andThen_ok]
   have ih:=zJ b o t fr vs (i + 1) (cur.set (o + i) v) { w with heap:=w.heap.setIfInBounds b (.cells ⟨cur.set (o + i) v⟩ t (fr,fr)) } (by
    rw[Array.getElem?_setIfInBounds_self]; simp[hlt]) (by simp; omega) (fun u hu=>h1 u (List.mem_cons_of_mem _ hu))
   rw[ih];simp only[putL,Nat.add_assoc]
   congr 1
   rw[Array.setIfInBounds_setIfInBounds]
 where
 setIf_same {w:World} {b:Nat} {x:Go.Obj} (hb:w.heap[b]? = some x):w = { w with heap:=w.heap.setIfInBounds b x }:=by
  have:w.heap.setIfInBounds b x=w.heap:=by
   apply Array.ext_getElem?;intro j
   by_cases hj:b=j
   ·subst hj; rw[Array.getElem?_setIfInBounds_self,hb];simp[(Array.getElem?_eq_some_iff.1 hb).1]
   ·rw[Array.getElem?_setIfInBounds_ne hj]
  rw[this]
theorem qgu {ys:List V} {us:List Value} (k:f9 ρ H ys us) (h:ys.any K7=false):∀ u∈us,u.oneCell'=true:=by
 induction ys generalizing us with
 | nil=>cases k; intro u hu; cases hu
 | cons y ys ih=>
   obtain ⟨v,vs',rfl,k1,k2⟩:=k;simp only[List.any_cons,Bool.or_eq_false_iff] at h;intro u hu;rcases List.mem_cons.1 hu with rfl | hu
   ·exact qko (m7.one k1 h.1)
   ·exact ih k2 h.2 u hu
theorem qj3 {x y x':V} {u v:Value} {j:Nat} (hx:m7 ρ H x u) (hsx:jR x=true) (hy:m7 ρ H y v) (hsy:jR y=true) (e:B6 x j y=some x') :
 ∃ u',m7 ρ H x' u'∧jR x'=true∧j + v.cells.size≤u.cells.size∧u'.cells.toList=putL u.cells.toList j v.cells.toList:=by
 obtain ⟨kx,nx⟩:=hx.cells hsx;obtain ⟨ky,ny⟩:=hy.cells hsy;have lx:=kx.length;have ly:=ky.length;simp only[Array.length_toList] at lx ly;unfold B6 at e;split at e
 ·rename_i hl;split at e
  ·cases e;rw[XC];exact ⟨_,JB (kx.putL j ky) (qd5 j nx ny),XM _,by omega,rfl⟩
  ·rename_i hag;split at e
   ·cases e
   ·rename_i hagy;cases e
    have single:∀ {z:V} {q:Value},m7 ρ H z q→jR z=true→¬ (Rf.isAgg z=true)→z.cells=[z]∧q.cells = #[q]:=by
     intro z q hz hs hn
     cases z with
     | d d=>cases d <;> first | exact ⟨rfl,v7 (m7.one hz rfl)⟩ | exact absurd rfl hn
     | agg cs=>exact absurd rfl hn
     | tup vs=>cases hs
     | junk=>exact ⟨rfl,v7 (m7.one hz rfl)⟩
     | ref l sz off len=>exact ⟨rfl,v7 (m7.one hz rfl)⟩
     | ptr l e j=>exact ⟨rfl,v7 (m7.one hz rfl)⟩
     | iface t y=>exact ⟨rfl,v7 (m7.one hz rfl)⟩
     | fn f c=>exact ⟨rfl,v7 (m7.one hz rfl)⟩
     | map l=>exact ⟨rfl,v7 (m7.one hz rfl)⟩
     | iter l=>exact ⟨rfl,v7 (m7.one hz rfl)⟩
    obtain ⟨c1,c2⟩:=single hx hsx hag;obtain ⟨c3,c4⟩:=single hy hsy hagy;rw[c1,c3] at hl;simp at hl;subst hl;refine ⟨v,hy,hsy,by simp[c2,c4],by simp[c2,c4,putL]⟩
 ·cases e
theorem qda {sz:Nat}:∀ {us:List Value} {e:Nat} {u':Value} {j:Nat},(∀ u∈us,u.cells.size=sz)→u'.cells.size=sz→e < us.length→
 (flat (us.set e u'))[j]? = if e * sz≤j∧j < e * sz + sz then u'.cells.toList[j - e * sz]? else (flat us)[j]?
 | [],e,u',j,_,_,he=>by simp at he
 | v :: us,0,u',j,h,hu,_=>by
   have hl:v.cells.toList.length=sz:=by simpa using h v (List.mem_cons_self ..)
   have hl':u'.cells.toList.length=sz:=by simpa using hu
   rw[List.set_cons_zero,M6,M6]
   by_cases hj:j < sz
   ·rw[if_pos (by omega),List.getElem?_append_left (by omega)]; simp
   ·rw[if_neg (by omega),List.getElem?_append_right (by omega),List.getElem?_append_right (by omega),hl,hl']
 | v :: us,e + 1,u',j,h,hu,he=>by
   have hl:v.cells.toList.length=sz:=by simpa using h v (List.mem_cons_self ..)
   have hm:(e + 1) * sz=e * sz + sz:=by rw[Nat.add_mul]; omega
   rw[List.set_cons_succ,M6,M6]
   by_cases hj:j < sz
   ·rw[if_neg (by omega),List.getElem?_append_left (by omega),List.getElem?_append_left (by omega)]
   ·rw[List.getElem?_append_right (by omega),List.getElem?_append_right (by omega),hl,
     qda (fun x hx=>h x (List.mem_cons_of_mem _ hx)) hu (by simpa using he)]
    by_cases hc:e * sz≤j - sz∧j - sz < e * sz + sz
    ·rw[if_pos hc,if_pos (by omega)]
     congr 1
     omega
    ·rw[if_neg hc,if_neg (by omega)]
def Yk (n:Nat) (x y:Opnd) (P:Program):Op→Bool
 | .store t x' y'=>okO x' x && okO y' y && qM P t n && decide (n≠0)
 | _=>false
theorem qp8 {n x y} (hH:HRel ρ H h w) (hE:EnvRel B ds fx ρ H N env a) (hok:Yk n x y P o.op=true) (e:j4 T cf i (.store n x y) (evO env) h=some r):f8 P o a w ρ H h i r:=by
 unfold Yk at hok;split at hok
 ·rename_i t x' y' hop;simp only[Bool.and_eq_true,decide_eq_true_eq] at hok;obtain ⟨⟨⟨h1,h2⟩,h3⟩,h4⟩:=hok;obtain ⟨vx,e1,e2⟩:=d9 e;obtain ⟨vy,e3,e4⟩:=d9 e2;have hx:=j9 hE h1 e1;have hy:=j9 hE h2 e3;unfold Qj at e4;split at e4
  ·rename_i l e' j;split at e4
   ·rename_i xs sz hl;split at e4
    ·rename_i x0 hx0;split at e4
     ·rename_i hn;simp only[Option.map_eq_some_iff] at e4;obtain ⟨x1,hp1,rfl⟩:=e4;have hsy:=Xp hn h4;have hobj:=hH.objs l _ hl;have hx:M4 (ρ l) e' j (a.eval x'):=hx
      cases hp:ρ l with
      | at_ b base s size=>
        rw[hp] at hobj hx;obtain ⟨rfl,arr,elem,fr,us,hb,hsize,hv,hj,hs,hc,hty⟩:=hobj;obtain ⟨u,hu,hr⟩:=hv.get hx0;have hsx:=Zx (qjb hj hx0);obtain ⟨u',hu',hsx',hle,hcells⟩:=qj3 hr hsx hy hsy hp1;have hus:=hs u (List.mem_of_getElem? hu)
        have hus':u'.cells.size=s.c:=by
         rw[← Array.length_toList,hcells,vN,Array.length_toList]; exact hus
        have hlt:b < w.heap.size:=(Array.getElem?_eq_some_iff.1 hb).1;have hyl:=(hy.cells hsy).1.length
        have hysz:(a.eval y').cells.size=n:=by simp at hyl; omega
        have hel:e' < us.length:=(List.getElem?_eq_some_iff.1 hu).1
        have hflat:e' * s.c + s.c≤(flat us).length:=by
         rw[C5 hs];have:(e' + 1) * s.c≤us.length * s.c:=Nat.mul_le_mul_right _ hel;rw[Nat.add_mul] at this;omega
        have hin:base + (flat us).length≤arr.size:=by
         by_cases hz:(flat us).length=0
         ·omega
         ·have:=hc ((flat us).length - 1) _ (List.getElem?_eq_getElem (by omega));have:=(Array.getElem?_eq_some_iff.1 this).1;omega
        have hrun:(Instr.storeAt t (a.eval x') (a.eval y')).run P w = .ok () { w with heap:=w.heap.setIfInBounds b (.cells ⟨putL arr.toList (base + e' * s.c + j) (a.eval y').cells.toList⟩ elem (fr,fr)) }:=by
         rw[hx];simp only[Instr.storeAt,Instr.sureAddr,Sem.run_bind,Sem.run_pure,Result.andThen_ok,storeVar,qM.run h3];rw[if_neg (by simp[hysz])];have q:=zJ (P:=P) b (base + e' * s.c + j) elem fr (a.eval y').cells.toList 0 arr.toList w hb (by simp; omega) (qgu (hy.cells hsy).1 (hy.cells hsy).2);simp only[Nat.add_zero] at q;exact q
        have hw':z7 ρ H { w with heap:=w.heap.setIfInBounds b (.cells ⟨putL arr.toList (base + e' * s.c + j) (a.eval y').cells.toList⟩ elem (fr,fr)) } (.arr (xs.set e' x1) s) (ρ l):=by
         rw[hp];refine ⟨rfl,⟨putL arr.toList (base + e' * s.c + j) (a.eval y').cells.toList⟩,elem,fr,us.set e' u',?_,?_,hv.set e' hu',qbe hj (jb hsx') e',?_,fun k v hk=>?_,hty⟩
         ·show (w.heap.setIfInBounds b _)[b]? = _;rw[Array.getElem?_setIfInBounds_self];simp[hlt]
         ·rw[← hsize]; simp[vN]
         ·intro q hq;rcases List.mem_or_eq_of_mem_set hq with h' | rfl
          ·exact hs q h'
          ·exact hus'
         ·rw[qda hs hus' hel] at hk;rw[List.getElem?_toArray,XB _ _ _ _ (by simp; omega)];simp only[Array.length_toList];split at hk
          ·rename_i hin2;rw[hcells,XB _ _ _ _ (by simpa using hle)] at hk;simp only[Array.length_toList] at hk;split at hk
           ·rename_i hin3;rw[if_pos (by omega)]
            have:base + k - (base + e' * s.c + j)=k - e' * s.c - j:=by omega
            rw[this];exact hk
           ·rename_i hin3;rw[if_neg (by omega)];have q:=XZ hs hu (j:=k - e' * s.c) (by omega);rw[hk] at q
            have:e' * s.c + (k - e' * s.c)=k:=by omega
            rw[this] at q
            simpa using hc k v q
          ·rw[if_neg (by omega)]
           simpa using hc k v hk
        obtain ⟨k1,k2⟩:=hH.write (w':={ w with heap:=w.heap.setIfInBounds b (.cells ⟨putL arr.toList (base + e' * s.c + j) (a.eval y').cells.toList⟩ elem (fr,fr)) }) (l:=l) (b:=b) (by rw[hp]; rfl) _ ⟨rfl,rfl,rfl,by simp⟩ (fun q hq=>by
         show (w.heap.setIfInBounds b _)[q]? = _
         rw[Array.getElem?_setIfInBounds_ne (Ne.symm hq)]) hw'
        refine f8.ofU ?_ ⟨k1,k2,n9.refl _,K4.refl _ _,⟨[],rfl,rfl⟩⟩;unfold execOp;simp only[hop,Sem.run_bind,hrun,Result.andThen_ok];rfl
      | none=>rw[hp] at hx; exact hx.elim
      | dead=>rw[hp] at hobj; exact hobj.elim
      | virt s=>rw[hp] at hx; exact hx.elim
      | blk q=>rw[hp] at hx; exact hx.elim
      | lol b1 b2 b3 b4 b5=>rw[hp] at hobj; exact hobj.elim
     ·cases e4
    ·cases e4
   ·cases e4
  ·cases e4
 ·cases hok
end
end Go.Rf
