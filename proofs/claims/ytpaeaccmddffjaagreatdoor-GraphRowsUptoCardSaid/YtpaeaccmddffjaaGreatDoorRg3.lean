/- Parts of the proof. -/
import Derived.Test.YtpaeaccmddffjaaGreatDoorRg2
set_option linter.all false
set_option linter.unusedSectionVars false
namespace Go.Rf
variable [Prg]
variable {B:Ice} {ds:List Deferred} {fx:List (Nat × Value)}
section
variable {P:Program} {T:Tab} {cf:CF} {o:Oper} {a:Act} {w:World} {ρ:Map} {H:Ice} {h:Loc→Option Obj} {i N:Nat} {env:List (Nat × V)} {r:R}
def Kl (x:Opnd) (k:Nat):Op→Bool
 | .extract x' k'=>okO x' x && decide (k'=k)
 | _=>false
theorem qtt {x k} (hH:HRel ρ H h w) (hE:EnvRel B ds fx ρ H N env a) (hok:Kl x k o.op=true) (e:exec T cf i (.extract x k) (evO env) h=some r):f8 P o a w ρ H h i r:=by
 unfold Kl at hok;split at hok
 ·rename_i x' k' hop;simp only[Bool.and_eq_true,decide_eq_true_eq] at hok;obtain ⟨h1,h2⟩:=hok;subst h2;simp only[exec] at e;split at e
  ·rename_i vs e1;obtain ⟨v,e2,e3⟩:=f7 e;rw[w7 e3];obtain ⟨us,hx,hv⟩:=i7 hE h1 e1;obtain ⟨u,hu,hr⟩:=hv.get e2;refine f8.pure (v:=u) ?_ hH hr;unfold execOp
   have:(⟨us⟩:Array Value)[k']? = some u:=by simpa using hu
   simp only[hop,hx,Instr.extract,this];rfl
  ·cases e
 ·cases hok
def qie (t:TypeId) (ok:Bool) (z:D) (x:Opnd) (P:Program):Op→Bool
 | .typeAssert x' _ t' ok'=>okO x' x && decide (t'=t) && decide (ok'=ok) && (!ok || T2 P t z) &&
   (match P.underlying t with | some (.interface _)=>false | some _=>true | none=>false)
 | _=>false
theorem XN {x y:V} {t:TypeId} {v:Value} (hv:j9 ρ H x v) (e:S8 x=some (t,y)):∃ u,v = .iface t u∧j9 ρ H y u:=by
 unfold S8 at e;split at e
 ·cases e; obtain ⟨u,rfl,k⟩:=hv; exact ⟨u,rfl,k⟩
 ·cases e; obtain ⟨u,rfl,k⟩:=hv; exact ⟨u,rfl,k⟩
 ·cases e
theorem q65 {t ok z x} (hH:HRel ρ H h w) (hE:EnvRel B ds fx ρ H N env a) (hok:qie t ok z x P o.op=true) (e:exec T cf i (.tass t ok z x) (evO env) h=some r):f8 P o a w ρ H h i r:=by
 unfold qie at hok;split at hok
 ·rename_i x' xt t' ok' hop;simp only[Bool.and_eq_true,decide_eq_true_eq] at hok;obtain ⟨⟨⟨⟨h1,h2⟩,h3⟩,h4⟩,h5⟩:=hok;subst h2 h3;obtain ⟨v,e1,e2⟩:=f7 e;have hx:=i7 hE h1 e1
  obtain ⟨d,hu,hd⟩:∃ d,P.underlying t'=some d ∧ ∀ ms,d ≠ .interface ms:=by
   cases hu:P.underlying t' with
   | none=>rw[hu] at h5; cases h5
   | some d=>
     refine ⟨d,rfl,fun ms he=>?_⟩;rw[hu,he] at h5;cases h5
  have hz:ok'=true→∃ u,(zeroValue t').run P w = .ok u w ∧ ∀ H,I3 H z u:=fun hk=>by
   subst hk;exact T2.run (by simpa using h4) w
  split at e2
  ·rename_i t2 y hi;obtain ⟨u,hu2,hr⟩:=XN hx hi;split at e2
   ·rename_i ht;subst ht;rw[w7 e2];refine f8.pure (v:=if ok' then .tuple #[u,.bool true] else u) ?_ hH ?_
    ·unfold execOp;simp only[hop,hu2,Instr.typeAssert];rw[Sem.run_bind,Sem.run_bind,run_underlying hu,Result.andThen_ok]
     cases d <;> first | exact absurd rfl (hd _) | (simp; done)
    ·cases ok'
     ·exact hr
     ·exact ⟨_,rfl,_,_,rfl,hr,_,_,rfl,rfl,rfl⟩
   ·rename_i ht;split at e2
    ·rename_i hk;subst hk;rw[w7 e2];obtain ⟨u0,hz1,hz2⟩:=hz rfl;refine f8.pure (x:=.tup [.d z,.d (.bool false)]) (v:=.tuple #[u0,.bool false]) ?_ hH ⟨_,rfl,_,_,rfl,hz2 H,_,_,rfl,rfl,rfl⟩;unfold execOp;simp only[hop,hu2,Instr.typeAssert];rw[Sem.run_bind,Sem.run_bind,run_underlying hu,Result.andThen_ok]
     cases d <;> first | exact absurd rfl (hd _) | (simp[ht,hz1]; done)
    ·cases e2
  ·split at e2
   ·rename_i hk;rw[w7 e2];obtain ⟨u0,hz1,hz2⟩:=hz rfl;have hx:a.eval x' = .nilIface:=hx;refine f8.pure (x:=.tup [.d z,.d (.bool false)]) (v:=.tuple #[u0,.bool false]) ?_ hH ⟨_,rfl,_,_,rfl,hz2 H,_,_,rfl,rfl,rfl⟩;unfold execOp;simp only[hop,hx,Instr.typeAssert];rw[Sem.run_bind,Sem.run_bind,run_underlying hu,Result.andThen_ok]
    cases d <;> first | exact absurd rfl (hd _) | (simp[hz1]; done)
   ·cases e2
 ·cases hok
def qx0 (x y:Opnd):Op→Bool
 | .call c=>(match c.callee with | .builtin .max=>true | _=>false) && (match c.args.toList with
   | [x',y']=>okO x' x && okO y' y
   | _=>false)
 | _=>false
theorem s_mx {x y} (hH:HRel ρ H h w) (hE:EnvRel B ds fx ρ H N env a) (hok:qx0 x y o.op=true) (e:exec T cf i (.mx x y) (evO env) h=some r):f8 P o a w ρ H h i r:=by
 unfold qx0 at hok;split at hok
 ·rename_i c hop;simp only[Bool.and_eq_true] at hok;obtain ⟨h1,h2⟩:=hok;split at h1
  ·rename_i hc;split at h2
   ·rename_i x' y' ha;simp only[Bool.and_eq_true] at h2;obtain ⟨h3,h4⟩:=h2;simp only[exec] at e;split at e
    ·rename_i k m k' n e1 e2;split at e
     ·rename_i hk;subst hk;rw[w7 e];have hx:a.eval x' = .int k m:=i7 hE h3 e1;have hy:a.eval y' = .int k n:=i7 hE h4 e2;have ha':c.args = #[x',y']:=Array.toList_inj.1 ha;refine f8.pure (x:=.d (.int k (if n > m then n else m))) (v:=.int k (if n > m then n else m)) ?_ hH rfl;unfold execOp;simp only[hop,resolve,hc,ha',invoke,builtin];rw[Sem.run_bind];show Result.andThen (.ok _ w) _=_;rw[Result.andThen_ok];simp only[List.map_toArray,List.map_cons,List.map_nil,hx,hy];simp[Builtin.max_,Builtin.max2]
     ·cases e
    ·cases e
   ·cases h2
  ·cases h1
 ·cases hok
def qcc (x:Opnd):Op→Bool
 | .nilCheck x'=>okO x' x
 | _=>false
theorem D8.some {p e j v} (k:D8 p e j v):∃ q,v = .pointer (some q):=by
 cases p with
 | none=>exact k.elim
 | dead=>exact k
 | virt s=>exact k.elim
 | at_ b base s size=>exact ⟨_,k⟩
 | gl b base s size inn=>exact ⟨_,k⟩
 | grw b base s size inn=>exact ⟨_,k⟩
 | blk r=>exact k.elim
 | out _ _ _ _=>exact k.elim
theorem q04 {x} (hH:HRel ρ H h w) (hE:EnvRel B ds fx ρ H N env a) (hok:qcc x o.op=true) (e:exec T cf i (.nilCk x) (evO env) h=some r):f8 P o a w ρ H h i r:=by
 unfold qcc at hok;split at hok
 ·rename_i x' hop;simp only[exec] at e;split at e
  ·rename_i y e1;rw[w7 e];have hx:=i7 hE hok e1;obtain ⟨b,off,u,hv,_⟩:=id hx;refine f8.pure (v:=a.eval x') ?_ hH hx;unfold execOp;simp only[hop,hv];rfl
  ·rename_i l e' j e1;rw[w7 e];have hx:=i7 hE hok e1;obtain ⟨q,hv⟩:=D8.some (show D8 (ρ l) e' j _ from hx);refine f8.pure (v:=a.eval x') ?_ hH hx;unfold execOp;simp only[hop,hv];rfl
  ·cases e
 ·cases hok
def qcb (x:Opnd):Op→Bool
 | .panic x'=>okO x' x
 | _=>false
theorem q03 {x} (hH:HRel ρ H h w) (hE:EnvRel B ds fx ρ H N env a) (hok:qcb x o.op=true) (e:exec T cf i (.panic x) (evO env) h=some r):f8 P o a w ρ H h i r:=by
 unfold qcb at hok;split at hok
 ·rename_i x' hop;obtain ⟨v,e1,e2⟩:=f7 e;split at e2
  ·rename_i ty hi;cases e2;obtain ⟨t,y⟩:=ty;have hx:=i7 hE hok e1;obtain ⟨u,hu,_⟩:=XN hx hi;intro ro K Q hk;refine ⟨fun _ _=>trivial,?_⟩;rw[Oper.semAt_eq _ _ _ (fun c h=>by rw[hop] at h; cases h)]
   have hrun:(execOp a.eval o).run P w = .halt (.panic (a.eval x')) w:=by
    unfold execOp;simp only[hop,hu,Instr.panic];rfl
   rw[hrun];exact hk _ _ _ _ (Post.pure hH hx [])
  ·cases e2
 ·cases hok
end
end Go.Rf

set_option linter.unusedSectionVars false
namespace Go.Rf
variable [Prg]
variable {B:Ice} {ds:List Deferred} {fx:List (Nat × Value)}
section
variable {P:Program} {T:Tab} {cf:CF} {o:Oper} {a:Act} {w:World} {ρ:Map} {H:Ice} {h:Loc→Option Obj} {i N:Nat} {env:List (Nat × V)} {r:R}
def Zx (P:Program) (t k off n:Nat) (ag:Bool):Bool:=match P.underlying t with
 | some (.struct fs)=>match fs[k]? with
   | some f=>decide (f.offset=off) && vV P f.type n ag
   | none=>false
 | _=>false
theorem Zx.get {t k off n ag} (hf:Zx P t k off n ag=true):∃ fs f,P.underlying t=some (.struct fs)∧fs[k]? = some f∧f.offset=off∧vV P f.type n ag=true:=by
 unfold Zx at hf;split at hf
 ·rename_i fs hu;split at hf
  ·rename_i f hk;simp only[Bool.and_eq_true,decide_eq_true_eq] at hf;exact ⟨fs,f,hu,hk,hf.1,hf.2⟩
  ·cases hf
 ·cases hf
theorem KN (t off n:Nat) (ag:Bool) (ht:vV P t n ag=true) (cs:List Value) (v:Value)
 (h1:ag=true→off + n≤cs.length∧v = .agg ⟨(cs.drop off).take n⟩) (h2:ag=false→cs[off]? = some v):(Go.part t ⟨cs⟩ off).run P w = .ok v w:=by
 unfold Go.part;rw[Sem.run_bind,vV.isAgg ht,Result.andThen_ok]
 cases ag with
 | true=>
   obtain ⟨h3,rfl⟩:=h1 rfl;simp only[if_true,Sem.run_bind,Y1.run (vV.size ht),Result.andThen_ok,Sem.run_pure]
   congr 2
   apply Array.toList_inj.1;rw[Array.toList_extract];simp only[List.extract]
   have:off + n - off=n:=by omega
   rw[this]
 | false=>
   have:(⟨cs⟩:Array Value)[off]? = some v:=by simpa using h2 rfl
   simp only[Bool.false_eq_true,if_false,this];rfl
def qce (off n:Nat) (ag:Bool) (x:Opnd) (P:Program):Op→Bool
 | .field t x' k=>okO x' x && Zx P t k off n ag
 | _=>false
theorem q09 {off n ag x} (hH:HRel ρ H h w) (hE:EnvRel B ds fx ρ H N env a) (hok:qce off n ag x P o.op=true) (e:exec T cf i (.field off n ag x) (evO env) h=some r):f8 P o a w ρ H h i r:=by
 unfold qce at hok;split at hok
 ·rename_i t x' k hop;simp only[Bool.and_eq_true] at hok;obtain ⟨h1,h2⟩:=hok;obtain ⟨v,e1,e2⟩:=f7 e;have hx:=i7 hE h1 e1;obtain ⟨fs,f,hu,hk,rfl,ht⟩:=Zx.get h2;split at e2
  ·rename_i hag;obtain ⟨y,e3,e4⟩:=f7 e2;rw[w7 e4]
   have hsol:xD v=true:=by cases v <;> first | rfl | cases hag
   obtain ⟨p1,p2,_⟩:=KU hx hsol e3
   obtain ⟨vs,hv⟩:∃ vs,a.eval x' = .agg ⟨vs⟩:=by
    unfold Rf.isAgg at hag;split at hag
    ·obtain ⟨vs,hv,_⟩:=hx; exact ⟨vs,hv⟩
    ·obtain ⟨vs,hv,_⟩:=hx; exact ⟨vs,hv⟩
    ·cases hag
   rw[hv] at p1 p2
   have run:∀ u,(Go.part f.type ⟨vs⟩ f.offset).run P w = .ok u w→(execOp a.eval o).run P w = .ok (.value u) w:=fun u hr=>by
    unfold execOp;simp only[hop,hv,Instr.field,Sem.run_bind,run_underlying hu,Result.andThen_ok,hk];show Result.andThen (Result.andThen (.ok _ w) _) _=_;rw[Result.andThen_ok,hr];rfl
   cases ag with
   | true=>
     obtain ⟨q1,q2⟩:=p1 rfl;exact f8.pure (run _ (KN f.type f.offset n true ht vs _ (fun _=>⟨by simpa [Value.cells] using q1,rfl⟩) (fun h=>by cases h))) hH q2
   | false=>
     obtain ⟨u,q1,q2,_⟩:=p2 rfl;exact f8.pure (run u (KN f.type f.offset n false ht vs _ (fun h=>by cases h) (fun _=>q1))) hH q2
  ·cases e2
 ·cases hok
def YX (off n:Nat) (ag:Bool) (x:Opnd) (P:Program):Op→Bool
 | .fieldAddr t x' k=>okO x' x && Zx P t k off n ag && decide (n≠0)
 | _=>false
theorem qwy {off n ag x} (hH:HRel ρ H h w) (hE:EnvRel B ds fx ρ H N env a) (hok:YX off n ag x P o.op=true) (e:exec T cf i (.fieldA off n ag x) (evO env) h=some r):f8 P o a w ρ H h i r:=by
 unfold YX at hok;split at hok
 ·rename_i t x' k hop;simp only[Bool.and_eq_true,decide_eq_true_eq] at hok;obtain ⟨⟨h1,h2⟩,h3⟩:=hok;obtain ⟨fs,f,hu,hk,rfl,ht⟩:=Zx.get h2
  have run:∀ q,a.eval x' = .pointer (some q)→(execOp a.eval o).run P w = .ok (.value (.pointer (some (q.add f.offset)))) w:=fun q hq=>by
   unfold execOp;simp only[hop,hq,Instr.fieldAt,Instr.sureAddr,fieldPlace,Sem.run_bind,run_underlying hu,Result.andThen_ok,hk,Sem.run_pure];have:(sizeOf f.type).run P w = .ok n w:=Y1.run (vV.size ht) w;simp[this,h3]
  simp only[exec] at e;split at e
  ·rename_i y e1;obtain ⟨v,e3,e4⟩:=f7 e;obtain ⟨b,o',u,hv,hu',hc⟩:=i7 hE h1 e1
   cases v with
   | d z=>
     rw[w7 e4];obtain ⟨p1,p2,_⟩:=KU (ρ:=ρ) (x:=.d y) hu' rfl e3;refine f8.pure (run _ hv) hH ?_;rw[W3]
     cases ag with
     | true=>
       obtain ⟨q1,q2⟩:=p1 rfl;refine ⟨b,o' + f.offset,_,rfl,q2,fun j v hj=>?_⟩;simp only[Value.cells] at hj;rw[List.getElem?_take] at hj;split at hj
       ·rw[List.getElem?_drop] at hj;have:=hc _ _ hj
        rwa [← Nat.add_assoc] at this
       ·cases hj
     | false=>
       obtain ⟨u',q1,q2,q3⟩:=p2 rfl;refine ⟨b,o' + f.offset,_,rfl,q2,fun j v hj=>?_⟩;rw[o5 (j9.one (ρ:=ρ) (x:=.d z) q2 q3)] at hj
       cases j with
       | zero=>simp at hj; subst hj; exact hc _ _ q1
       | succ j=>simp at hj
   | _=>cases e4
  ·rename_i l e' j e1;rw[w7 e];have hx:D8 (ρ l) e' j (a.eval x'):=i7 hE h1 e1;obtain ⟨q,hv⟩:=D8.some hx;refine f8.pure (x:=.ptr l e' (j + f.offset)) (run _ hv) hH (?_:D8 (ρ l) e' (j + f.offset) _)
   cases hp:ρ l with
   | dead=>exact ⟨_,rfl⟩
   | at_ b base s size=>
     rw[hp,hv] at hx;cases hx;show Value.pointer _=_;rw[W3,Nat.add_assoc]
   | gl b base s size inn=>
     rw[hp,hv] at hx;cases hx;show Value.pointer _=_;rw[W3,Nat.add_assoc]
   | grw b base s size inn=>
     rw[hp,hv] at hx;cases hx;show Value.pointer _=_;rw[W3,Nat.add_assoc]
   | _=>rw[hp] at hx; exact hx.elim
  ·cases e
 ·cases hok
theorem xj {x:V} {n:Nat} {v:Value} (hv:j9 ρ H x v) (e:kS x=some n):∃ k,v = .int k (n:Int):=by
 unfold kS at e;split at e
 ·rename_i k m;split at e
  ·rename_i hm;cases e;have hv:v = .int k m:=hv;exact ⟨k,by rw[hv,Int.toNat_of_nonneg hm]⟩
  ·cases e
 ·cases e
def qii (x k:Opnd) (P:Program):Op→Bool
 | .index t x' k'=>okO x' x && okO k' k && (match P.underlying t with | some .string=>true | _=>false)
 | _=>false
theorem q7a {x k} (hH:HRel ρ H h w) (hE:EnvRel B ds fx ρ H N env a) (hok:qii x k P o.op=true) (e:exec T cf i (.idxS x k) (evO env) h=some r):f8 P o a w ρ H h i r:=by
 unfold qii at hok;split at hok
 ·rename_i t x' k' hop;simp only[Bool.and_eq_true] at hok;obtain ⟨⟨h1,h2⟩,h3⟩:=hok
  have hu:P.underlying t=some .string:=by
   split at h3
   ·assumption
   ·cases h3
  obtain ⟨v,e1,e2⟩:=f7 e;obtain ⟨m,e3,e4⟩:=f7 e2;have hx:=i7 hE h1 e1;have hk:=i7 hE h2 e3;split at e4
  ·rename_i s j hj;obtain ⟨kk,hk'⟩:=xj hk hj;split at e4
   ·rename_i b hb;rw[w7 e4];obtain ⟨hs,_⟩:=(hx:a.eval x' = .string ⟨s.toArray⟩∧s.length≤long);refine f8.pure (x:=.d (.int .u8 b.toNat)) (v:=.int .u8 b.toNat) ?_ hH rfl;unfold execOp
    have hg:(⟨s.toArray⟩:ByteArray)[j]? = some b:=by
     have hlt:=(List.getElem?_eq_some_iff.1 hb);obtain ⟨hl,hbb⟩:=hlt;rw[getElem?_pos _ _ (by rw[xv]; exact hl)];simp[ByteArray.getElem_eq_getElem_data,hbb]
    simp only[hop,hs,hk',Instr.index,asIntOf,Sem.run_bind,Sem.run_pure,run_underlying hu,Result.andThen_ok]
    have:(0:Int)≤(j:Int):=by omega
    simp[this,hg]
   ·cases e4
  ·cases e4
 ·cases hok
end
end Go.Rf

set_option linter.unusedSectionVars false
namespace Go.Rf
variable [Prg]
variable {B:Ice} {ds:List Deferred} {fx:List (Nat × Value)}
section
variable {P:Program} {T:Tab} {cf:CF} {o:Oper} {a:Act} {w:World} {ρ:Map} {H:Ice} {h:Loc→Option Obj} {i N:Nat} {env:List (Nat × V)} {r:R}
theorem Q6 (t n:Nat) (ag:Bool) (ht:vV P t n ag=true) (b off:Nat) (cs:List Value) (hc:∀ j v,cs[j]? = some v→w.cell? ⟨b,off + j,Option.none⟩=some v) (v:Value)
 (h1:ag=true→cs.length=n∧v = .agg ⟨cs⟩) (h2:ag=false→cs[0]? = some v):(loadVar t ⟨b,off,Option.none⟩).run P w = .ok v w:=by
 unfold loadVar;rw[Sem.run_bind,vV.isAgg ht,Result.andThen_ok]
 cases ag with
 | true=>
   obtain ⟨h3,rfl⟩:=h1 rfl;simp only[if_true,Sem.run_bind,Y1.run (vV.size ht),Result.andThen_ok];rw[← h3,run_loadCells_list w ⟨b,off,Option.none⟩ cs (fun j v hj=>by rw[W3]; exact hc j v hj)];rfl
 | false=>
   have:=hc 0 v (h2 rfl);simp only[Bool.false_eq_true,if_false,run_load];rw[Nat.add_zero] at this;rw[this]
def Zj (n:Nat) (ag:Bool) (x:Opnd) (P:Program):Op→Bool
 | .load t x'=>okO x' x && vV P t n ag
 | _=>false
theorem qlx {t n ag x r v} (hH:HRel ρ H h w) (ht:vV P t n ag=true) (hv:j9 ρ H x v) (e:qw h n ag x=some r) :
 ∃ e',r = .ok e'∧e'.wr=[]∧xD e'.v=true ∧ ∃ u,(Instr.loadAt t v).run P w = .ok u w∧j9 ρ H e'.v u:=by
 unfold qw at e;split at e
 ·rename_i y;obtain ⟨b,off,u,rfl,hu,hc⟩:=hv
  have hc':∀ j v,u.cells.toList[j]? = some v→w.cell? ⟨b,off + j,Option.none⟩=some v:=fun j v hj=>hH.ice _ _ _ (hc j v hj)
  split at e
  ·rename_i cs;split at e
   ·rename_i hn;obtain ⟨vs,rfl,k1,k2⟩:=hu;refine ⟨_,w7 e,rfl,rfl,_,?_,⟨vs,rfl,k1,k2⟩⟩;have:=k1.length;simp only[Instr.loadAt,Instr.sureAddr,Sem.run_bind,Sem.run_pure,Result.andThen_ok];exact Q6 t n true ht b off vs hc' _ (fun _=>⟨by omega,rfl⟩) (fun h=>by cases h)
   ·cases e
  ·cases e
  ·cases e
  ·have hag:Y3 y=false:=by
    cases y <;> first | rfl | (simp_all; done)
   have hone:=I3.one hu hag;refine ⟨_,w7 e,rfl,rfl,u,?_,hu⟩;simp only[Instr.loadAt,Instr.sureAddr,Sem.run_bind,Sem.run_pure,Result.andThen_ok];rw[o5 hone] at hc';exact Q6 t n false ht b off [u] hc' _ (fun h=>by cases h) (fun _=>rfl)
 ·rename_i l e' j;split at e
  ·rename_i xs sz hl;split at e
   ·rename_i x0 hx0;simp only[Option.map_eq_some_iff] at e;obtain ⟨y,hy,rfl⟩:=e;have hobj:=hH.objs l _ hl;have hv:D8 (ρ l) e' j v:=hv
    cases hp:ρ l with
    | at_ b base s size=>
      rw[hp] at hobj hv;obtain ⟨u,hu,hsol,hsz,hcell⟩:=qlo hobj hx0;obtain ⟨p1,p2,p3⟩:=KU hu hsol hy;have hv:v = .pointer (some ⟨b,base + e' * s.c + j,Option.none⟩):=hv;subst hv;refine ⟨_,rfl,rfl,p3,?_⟩;simp only[Instr.loadAt,Instr.sureAddr,Sem.run_bind,Sem.run_pure,Result.andThen_ok]
      cases ag with
      | true=>
        obtain ⟨q1,q2⟩:=p1 rfl;refine ⟨_,Q6 t n true ht b _ ((u.cells.toList.drop j).take n) (fun k v hk=>?_) _ (fun _=>⟨?_,rfl⟩) (fun h=>by cases h),q2⟩
        ·rw[List.getElem?_take] at hk;split at hk
         ·rw[List.getElem?_drop] at hk;have:=hcell _ _ hk
          rwa [← Nat.add_assoc] at this
         ·cases hk
        ·simp only[List.length_take,List.length_drop,Array.length_toList];omega
      | false=>
        obtain ⟨u',q1,q2,q3⟩:=p2 rfl;refine ⟨u',Q6 t n false ht b _ [u'] (fun k v hk=>?_) _ (fun h=>by cases h) (fun _=>rfl),q2⟩
        cases k with
        | zero=>simp at hk; subst hk; exact hcell _ _ q1
        | succ k=>simp at hk
    | none=>rw[hp] at hv; exact hv.elim
    | dead=>rw[hp] at hobj; exact hobj.elim
    | virt s=>rw[hp] at hv; exact hv.elim
    | gl b base s size inn=>rw[hp] at hobj; exact hobj.elim
    | grw b base s size inn=>rw[hp] at hobj; exact hobj.elim
    | out _ _ _ _=>rw[hp] at hobj; exact hobj.elim
    | blk q=>rw[hp] at hv; exact hv.elim
   ·cases e
  ·cases e
 ·cases e
theorem qwx {n ag x} (hH:HRel ρ H h w) (hE:EnvRel B ds fx ρ H N env a) (hok:Zj n ag x P o.op=true) (e:exec T cf i (.load n ag x) (evO env) h=some r):f8 P o a w ρ H h i r:=by
 unfold Zj at hok;split at hok
 ·rename_i t x' hop;simp only[Bool.and_eq_true] at hok;obtain ⟨h1,h2⟩:=hok;obtain ⟨v,e1,e2⟩:=f7 e;obtain ⟨⟨ev,rd,wr⟩,rfl,hwr,_,u,hr,hu⟩:=qlx hH h2 (i7 hE h1 e1) e2;simp only at hwr;subst hwr;exact f8.pure (by unfold execOp; simp only[hop,Sem.run_bind,hr,Result.andThen_ok]; rfl) hH hu rd
 ·cases hok
def L1 (P:Program) (t:TypeId) (n:W):Bool:=match P.underlying t with
 | some (.slice e)=>match P.info? e with
   | some i=>decide (i.size=n.c) && decide (i.bytes=n.w) && decide (n.w < 1000000)
   | none=>false
 | _=>false
theorem L1.get {t n} (hs:L1 P t n=true):∃ e inf,P.underlying t=some (.slice e)∧P.info? e=some inf∧inf.size=n.c∧inf.bytes=n.w∧Y1 P e n.c=true:=by
 unfold L1 at hs;split at hs
 ·rename_i e hu;split at hs
  ·rename_i inf hi;simp only[Bool.and_eq_true,decide_eq_true_eq] at hs;exact ⟨e,inf,hu,hi,hs.1.1,hs.1.2,by simp[Y1,hi,hs.1.1]⟩
  ·cases hs
 ·cases hs
theorem L1.small {t n} (hs:L1 P t n=true):n.w < 1000000:=by
 unfold L1 at hs;split at hs
 ·split at hs
  ·simp only[Bool.and_eq_true,decide_eq_true_eq] at hs;exact hs.2
  ·cases hs
 ·cases hs
def qik (n:W) (x k:Opnd) (P:Program):Op→Bool
 | .indexAddr t x' k'=>okO x' x && okO k' k && L1 P t n
 | _=>false
theorem q7c {n x k} (hH:HRel ρ H h w) (hE:EnvRel B ds fx ρ H N env a) (hok:qik n x k P o.op=true) (e:exec T cf i (.idxA n x k) (evO env) h=some r):f8 P o a w ρ H h i r:=by
 unfold qik at hok;split at hok
 ·rename_i t x' k' hop;simp only[Bool.and_eq_true] at hok;obtain ⟨⟨h1,h2⟩,h3⟩:=hok;obtain ⟨el,inf,hu,hi,_,_,hsz⟩:=L1.get h3;obtain ⟨v,e1,e2⟩:=f7 e;obtain ⟨m,e3,e4⟩:=f7 e2;have hx:=i7 hE h1 e1;have hk:=i7 hE h2 e3;split at e4
  ·cases e4
  ·rename_i j hj;obtain ⟨kk,hk'⟩:=xj hk hj
   have run:∀ q len cap,a.eval x' = .slice (some q) len cap→j < len→(execOp a.eval o).run P w = .ok (.value (.pointer (some (q.add (j * n.c))))) w:=fun q len cap hq hl=>by
    unfold execOp;have hjl:(0:Int)≤(j:Int)∧(j:Int) < (len:Int):=⟨by omega,by omega⟩;simp only[hop,hq,hk',Instr.indexAt,asIntOf,Sem.run_bind,Sem.run_pure,run_underlying hu,Result.andThen_ok,if_pos hjl,Y1.run hsz];rfl
   split at e4
   ·rename_i xs;split at e4
    ·rename_i y hy;split at e4
     ·rename_i hn;rw[w7 e4];obtain ⟨ad,c,hv,_,_,hrow⟩:=hx
      have hne:xs≠[]:=fun h=>by rw[h] at hy; simp at hy
      obtain ⟨b,off,sz,us,rfl,hus,hs,hc⟩:=hrow hne;obtain ⟨u,hu1,hu2⟩:=hus.get hy;have hlt:j < xs.length:=(List.getElem?_eq_some_iff.1 hy).1;have hus':u.cells.size=sz:=hs u (List.mem_of_getElem? hu1)
      have hsn:sz=n.c:=by
       have:=(j9.cells (ρ:=ρ) (x:=.d y) hu2 rfl).1.length
       have h4:y.cells.length=(V.cells (.d y)).length:=by cases y <;> simp[D.cells,V.cells]
       simp at this;omega
      refine f8.pure (run _ _ _ hv hlt) hH ?_;rw[W3];refine ⟨b,off + j * n.c,u,rfl,hu2,fun q v hq=>?_⟩
      have hql:q < sz:=by
       have:=(List.getElem?_eq_some_iff.1 hq).1;simp at this;omega
      have:=hc _ _ ((XR hs hu1 hql).trans hq);rw[hsn] at this
      rwa [← Nat.add_assoc] at this
     ·cases e4
    ·cases e4
   ·rename_i l sz off len;split at e4
    ·rename_i hc;obtain ⟨hlt,rfl⟩:=hc;rw[w7 e4];have hx:A3 (ρ l) sz off len (a.eval x'):=hx
     cases hp:ρ l with
     | none=>rw[hp] at hx; exact hx.elim
     | dead=>
       rw[hp] at hx;obtain ⟨ad,c,hv,_,_,hq,_⟩:=hx;obtain ⟨q,rfl⟩:=hq (by omega);exact f8.pure (x:=.ptr l (off + j) 0) (run _ _ _ hv hlt) hH (show D8 (ρ l) _ _ _ from by rw[hp]; exact ⟨_,rfl⟩)
     | virt s=>rw[hp] at hx; obtain ⟨_,_,rfl,_⟩:=hx; omega
     | at_ b base s size=>
       rw[hp] at hx;obtain ⟨rfl,c,hv,_⟩:=hx;refine f8.pure (x:=.ptr l (off + j) 0) (run _ _ _ hv hlt) hH (show D8 (ρ l) _ _ _ from ?_);rw[hp];show Value.pointer _=_;rw[W3,Nat.add_zero,Nat.add_mul,← Nat.add_assoc]
     | gl b base s size inn=>
       rw[hp] at hx;obtain ⟨rfl,c,hv,_⟩:=hx;refine f8.pure (x:=.ptr l (off + j) 0) (run _ _ _ hv hlt) hH (show D8 (ρ l) _ _ _ from ?_);rw[hp];show Value.pointer _=_;rw[W3,Nat.add_zero,Nat.add_mul,← Nat.add_assoc]
     | grw b base s size inn=>
       rw[hp] at hx;obtain ⟨rfl,c,hv,_⟩:=hx;refine f8.pure (x:=.ptr l (off + j) 0) (run _ _ _ hv hlt) hH (show D8 (ρ l) _ _ _ from ?_);rw[hp];show Value.pointer _=_;rw[W3,Nat.add_zero,Nat.add_mul,← Nat.add_assoc]
     | blk q=>rw[hp] at hx; exact hx.elim
     | out _ _ _ _=>rw[hp] at hx; exact hx.elim
    ·cases e4
   ·cases e4
 ·cases hok
end
end Go.Rf

set_option linter.unusedSectionVars false
namespace Go.Rf
variable [Prg]
variable {B:Ice} {ds:List Deferred} {fx:List (Nat × Value)}
section
variable {P:Program} {T:Tab} {cf:CF} {o:Oper} {a:Act} {w:World} {ρ:Map} {H:Ice} {h:Loc→Option Obj} {i N:Nat} {env:List (Nat × V)} {r:R}
def zhm:Option Operand→Option Opnd→Bool
 | none,none=>true
 | some x,some y=>okO x y
 | _,_=>false
def qb9 (n:Option W) (x:Opnd) (lo hi:Option Opnd) (P:Program):Op→Bool
 | .slice t x' lo' hi' mx=>okO x' x && zhm lo' lo && zhm hi' hi && mx.isNone && (match n with
   | some n=>L1 P t n
   | none=>match P.underlying t with | some .string=>true | _=>false)
 | _=>false
theorem qhm:∀ xs:List D,1≤wl xs
 | []=>Nat.le_refl _
 | _ :: xs=>Nat.le_trans (qhm xs) (Nat.le_max_right ..)
theorem q56 {xs ys:List D} (hs:∀ x∈ys,x∈xs):wl ys≤wl xs:=by
 have h1:∀ {x:D} {l:List D},x∈l→wt x≤wl l:=by
  intro x l
  induction l with
  | nil=>intro h; cases h
  | cons y l ih=>
    intro h;simp only[wl];rcases List.mem_cons.1 h with rfl | h
    ·exact Nat.le_max_left ..
    ·exact Nat.le_trans (ih h) (Nat.le_max_right ..)
 have h0:1≤wl xs:=qhm xs
 induction ys with
 | nil=>exact h0
 | cons y ys ih=>
   simp only[wl];exact Nat.max_le.2 ⟨h1 (hs y (List.mem_cons_self ..)),ih fun x hx=>hs x (List.mem_cons_of_mem _ hx)⟩
theorem Jx {sz:Nat}:∀ {us:List Value} (n:Nat),(∀ u∈us,u.cells.size=sz)→flat (us.drop n)=(flat us).drop (n * sz)
 | us,0,_=>by simp
 | [],n + 1,_=>by simp[flat]
 | u :: us,n + 1,h=>by
   have hl:u.cells.toList.length=sz:=by simpa using h u (List.mem_cons_self ..)
   rw[List.drop_succ_cons,Jx n (fun x hx=>h x (List.mem_cons_of_mem _ hx)),H9,List.drop_append,hl]
   have:(n + 1) * sz - sz=n * sz:=by rw[Nat.add_mul]; omega
   have h0:List.drop ((n + 1) * sz) u.cells.toList=[]:=List.drop_eq_nil_of_le (by rw[hl,Nat.add_mul]; omega);rw[this,h0,List.nil_append]
theorem Qc {us:List Value} {n j:Nat} {v:Value} (h:(flat (us.take n))[j]? = some v):(flat us)[j]? = some v:=by
 have:flat us=flat (us.take n)++flat (us.drop n):=by rw[← qx,List.take_append_drop]
 rw[this];have hl:=(List.getElem?_eq_some_iff.1 h).1;rw[List.getElem?_append_left hl];exact h
theorem qbp {b:Bool} {len cap:Nat} {lo hi:Option Value} {l u:Nat} (hlo:lo=none∧l=0 ∨ ∃ k,lo=some (.int k (l:Int))) (hhi:hi=none∧u=len ∨ ∃ k,hi=some (.int k (u:Int)))
 (h1:l≤u) (h2:u≤cap):(Instr.sliceBounds b len cap lo hi none).run P w = .ok (l,u,cap) w:=by
 have sb:∀ k (x y:Nat) c,x≤y→(Instr.sliceBound (.int k (x:Int)) y c).run P w = .ok x w:=fun k x y c hxy=>by
  unfold Instr.sliceBound;have:(0:Int)≤(x:Int)∧(x:Int)≤(y:Int):=⟨by omega,by omega⟩;simp only[asIntOf,Sem.run_bind,Sem.run_pure,Result.andThen_ok,if_pos this];simp
 unfold Instr.sliceBounds
 rcases hlo with ⟨rfl,rfl⟩ | ⟨k,rfl⟩ <;> rcases hhi with ⟨rfl,rfl⟩ | ⟨k',rfl⟩
 ·simp
 ·simp[sb k' u cap _ h2]
 ·simp[sb k l u _ h1]
 ·simp[sb k' u cap _ h2,sb k l u _ h1]
theorem q01 {n x lo hi} (hH:HRel ρ H h w) (hE:EnvRel B ds fx ρ H N env a) (hok:qb9 n x lo hi P o.op=true) (e:exec T cf i (.slice n x lo hi) (evO env) h=some r):f8 P o a w ρ H h i r:=by
 unfold qb9 at hok;split at hok
 ·rename_i t x' lo' hi' mx hop;simp only[Bool.and_eq_true,Option.isNone_iff_eq_none] at hok;obtain ⟨⟨⟨⟨h1,h2⟩,h3⟩,rfl⟩,h5⟩:=hok;obtain ⟨v,e1,e2⟩:=f7 e;have hx:=i7 hE h1 e1;split at e2
  ·rename_i l u el eu;obtain ⟨y,e3,e4⟩:=f7 e2;rw[w7 e4]
   have hlo:(lo'.map a.eval)=none∧l=0 ∨ ∃ k,(lo'.map a.eval)=some (.int k (l:Int)):=by
    cases lo with
    | none=>
      cases lo' with
      | none=>cases el; exact .inl ⟨rfl,rfl⟩
      | some q=>cases h2
    | some q=>
      cases lo' with
      | none=>cases h2
      | some q'=>
        obtain ⟨z,e5,e6⟩:=f7 el;obtain ⟨k,hk⟩:=xj (i7 hE h2 e5) e6;exact .inr ⟨k,by simp[hk]⟩
   have hhi:((hi'.map a.eval)=none∧lenOf v=some u) ∨ ∃ k,(hi'.map a.eval)=some (.int k (u:Int)):=by
    cases hi with
    | none=>
      cases hi' with
      | none=>exact .inl ⟨rfl,eu⟩
      | some q=>cases h3
    | some q=>
      cases hi' with
      | none=>cases h3
      | some q'=>
        obtain ⟨z,e5,e6⟩:=f7 eu;obtain ⟨k,hk⟩:=xj (i7 hE h3 e5) e6;exact .inr ⟨k,by simp[hk]⟩
   unfold Kb at e3;split at e3
   ·rename_i hle
    have slice_run:∀ n el,P.underlying t=some (.slice el)→Y1 P el n=true→∀ ad len cap,a.eval x' = .slice ad len cap→lenOf v=some len→u≤cap→
     (execOp a.eval o).run P w = .ok (.value (.slice (if cap=l then ad else ad.map (·.add (l * n))) (u - l) (cap - l))) w:=by
     intro n el hu hs ad len cap hv hlen hcap;have hb:=qbp (P:=P) (w:=w) (b:=true) (len:=len) (cap:=cap) hlo (hhi.imp (fun ⟨q1,q2⟩=>⟨q1,by rw[hlen] at q2; injection q2 with q2; exact q2.symm⟩) id) hle hcap;unfold execOp;simp only[hop,hv,Instr.sliceAt,Instr.slice,Sem.run_bind,run_underlying hu,Result.andThen_ok,Option.map_none,hb,Y1.run hs];rfl
    split at e3
    ·rename_i s;split at e3
     ·rename_i hu;cases e3
      have hst:P.underlying t=some .string:=by
       simp only at h5;split at h5
       ·assumption
       ·cases h5
      obtain ⟨hv,hl⟩:=(hx:a.eval x' = .string ⟨s.toArray⟩∧s.length≤long);have hb:=qbp (P:=P) (w:=w) (b:=false) (len:=s.length) (cap:=s.length) hlo (hhi.imp (fun ⟨q1,q2⟩=>⟨q1,by cases q2; rfl⟩) id) hle hu;refine f8.pure (x:=.d (.str ((s.drop l).take (u - l)))) (v:=.string ⟨((s.drop l).take (u - l)).toArray⟩) ?_ hH ⟨rfl,?_⟩
      ·unfold execOp;simp only[hop,hv,Instr.sliceAt,Instr.slice,Sem.run_bind,run_underlying hst,Result.andThen_ok,Option.map_none,xv,Option.isSome_none,Bool.false_eq_true,if_false,hb]
       have:(⟨s.toArray⟩:ByteArray).extract l u=⟨((s.drop l).take (u - l)).toArray⟩:=by
        apply ByteArray.ext;simp[List.extract]
       rw[this];rfl
      ·have:=List.length_take_le (u - l) (s.drop l);have h8:=List.length_drop (i:=l) (l:=s)
       have h9:((s.drop l).take (u - l)).length≤s.length:=by
        rw[List.length_take,List.length_drop]; omega
       omega
     ·cases e3
    ·rename_i n xs;split at e3
     ·rename_i hc;obtain ⟨hu,hall⟩:=hc;cases e3;obtain ⟨el,inf,hut,_,_,_,hsz⟩:=L1.get h5;obtain ⟨ad,c,hv,hc1,hc2,hrow⟩:=id hx;refine f8.pure (x:=.d (.sl ((xs.drop l).take (u - l)))) (slice_run n.c el hut hsz _ _ _ hv rfl (Nat.le_trans hu hc1)) hH ?_
      have hlen:((xs.drop l).take (u - l)).length=u - l:=by rw[List.length_take,List.length_drop]; omega
      have hwl:wl ((xs.drop l).take (u - l))≤wl xs:=q56 fun x hx=>List.mem_of_mem_drop (List.mem_of_mem_take hx)
      refine ⟨_,c - l,by rw[hlen],by rw[hlen]; omega,?_,fun hne=>?_⟩
      ·rw[hlen];exact Nat.le_trans (Nat.mul_le_mul (by omega) hwl) hc2
      ·have hlu:l < u:=by
        by_cases q:l < u
        ·exact q
        ·exfalso; apply hne; apply List.eq_nil_of_length_eq_zero; omega
       have hxs:xs≠[]:=fun q=>by rw[q] at hu; simp at hu; omega
       obtain ⟨b,off,sz,us,rfl,hus,hs,hcell⟩:=hrow hxs
       have hsn:sz=n.c:=by
        obtain ⟨x0,hx0⟩:∃ x0,xs[0]? = some x0:=by
         cases xs with
         | nil=>exact absurd rfl hxs
         | cons x0 _=>exact ⟨x0,rfl⟩
        obtain ⟨u0,hu0,hr0⟩:=hus.get hx0;have q1:=(j9.cells (ρ:=ρ) (x:=.d x0) hr0 rfl).1.length
        have q2:x0.cells.length=(V.cells (.d x0)).length:=by cases x0 <;> simp[D.cells,V.cells]
        have q3:=hs u0 (List.mem_of_getElem? hu0)
        have q4:x0.cells.length=n.c:=by
         have:=List.all_eq_true.1 hall x0 (List.mem_of_getElem? hx0)
         simpa using this
        simp at q1;omega
       subst hsn
       have hcl:c≠l:=by omega
       refine ⟨b,off + l * n.c,n.c,(us.drop l).take (u - l),by rw[if_neg hcl]; simp[W3],(hus.drop l).take _,fun u hu=>hs u (List.mem_of_mem_drop (List.mem_of_mem_take hu)),fun j v hj=>?_⟩;have q:=Qc hj;rw[Jx l hs,List.getElem?_drop] at q;rw[Nat.add_assoc];exact hcell _ _ q
     ·cases e3
    ·rename_i n l0 sz off len;split at e3
     ·rename_i hc;obtain ⟨hu,rfl⟩:=hc;obtain ⟨el,inf,hut,_,_,_,hsz⟩:=L1.get h5;have hsm:=L1.small h5
      have hx:A3 (ρ l0).core sz off len (a.eval x'):=by rw[vm]; exact hx
      have empty:∀ ad cap,a.eval x' = .slice ad len cap→u≤cap→l=u→f8 P o a w ρ H h i (.ok { v:=.d (.sl []) }):=by
       intro ad cap hv hcap hlu;refine f8.pure (x:=.d (.sl [])) (slice_run sz.c el hut hsz _ _ _ hv rfl hcap) hH ?_;subst hlu;refine ⟨(if cap=l then ad else ad.map (·.add (l * sz.c))),cap - l,by rw[Nat.sub_self]; rfl,Nat.zero_le _,by simp,fun h=>absurd rfl h⟩
      cases hp:(ρ l0).core with
      | none=>rw[hp] at hx; exact hx.elim
      | dead=>
        rw[hp] at hx;obtain ⟨ad,c,hv,hb,hc,hq,hll⟩:=hx;split at e3
        ·rename_i hl;cases e3;exact empty _ _ hv (by omega) hl
        ·rename_i hl;cases e3;obtain ⟨q,rfl⟩:=hq (by omega);refine f8.pure (x:=.ref l0 sz (off + l) (u - l)) (slice_run sz.c el hut hsz _ _ _ hv rfl (by omega)) hH (show A3 (ρ l0) _ _ _ _ from ?_);rw[← vm,hp];refine ⟨(if c=l then some q else (some q).map (·.add (l * sz.c))),c - l,rfl,Nat.le_trans (Nat.mul_le_mul_right _ (by omega)) hb,by omega,fun _=>?_,by omega⟩;rw[if_neg (by omega)];exact ⟨_,rfl⟩
      | virt s=>
        rw[hp] at hx;obtain ⟨_,_,rfl,hv⟩:=hx
        have hl:l=u:=by omega
        rw[if_pos hl] at e3;cases e3;exact empty _ _ hv (by omega) hl
      | at_ b base s size=>
        rw[hp] at hx;obtain ⟨rfl,c,hv,hc1,hc2,hc3,hc4,_⟩:=hx;split at e3
        ·rename_i hl;cases e3;exact empty _ _ hv (by omega) hl
        ·rename_i hl;cases e3;refine f8.pure (x:=.ref l0 s (off + l) (u - l)) (slice_run s.c el hut hsz _ _ _ hv rfl (by omega)) hH (show A3 (ρ l0) _ _ _ _ from ?_);rw[← vm,hp];refine ⟨rfl,c - l,?_,by omega,Nat.le_trans (Nat.mul_le_mul_right _ (by omega)) hc2,?_,by omega,fun hw=>absurd hw (by omega)⟩
         ·rw[if_neg (by omega)];simp only[Option.map_some,W3];rw[Nat.add_mul,Nat.add_assoc]
         ·have:off + l + (c - l)=off + c:=by omega
          rw[this];exact hc3
      | blk q=>rw[hp] at hx; exact hx.elim
      | out _ _ _ _=>rw[hp] at hx; exact hx.elim
      | gl b base s size inn=>exact (Place.core_gl hp).elim
      | grw b base s size inn=>exact (Place.core_grw hp).elim
     ·cases e3
    ·cases e3
   ·cases e3
  ·cases e2
 ·cases hok
end
end Go.Rf

set_option linter.unusedSectionVars false
namespace Go.Rf
variable [Prg]
variable {B:Ice} {ds:List Deferred} {fx:List (Nat × Value)}
section
variable {P:Program} {T:Tab} {cf:CF} {o:Oper} {a:Act} {w:World} {ρ:Map} {H:Ice} {h:Loc→Option Obj} {i N:Nat} {env:List (Nat × V)} {r:R}
theorem KI {x:V} {n:Nat} (h:x.cells.length=n) (hn:n≠0):xD x=true:=by
 cases x <;> first | rfl | (exfalso; simp[V.cells] at h; omega)
theorem QA (hH:HRel ρ H h w) {l:Loc} (hl:ρ l = .none) {xs:List V} {us:List Value} {sz:W} (hv:f9 ρ H xs us) (hj:xs.any w5.isJunk=false) (hs:∀ u∈us,u.cells.size=sz.c)
 (cells:Array Value) (hc:∀ (j:Nat) (v:Value),(flat us)[j]? = some v→cells[j]? = some v) (elem:TypeId) (hty:1000000≤sz.w→elem + 1000000=sz.w∧(sz.c≠1→cells.size=sz.c)) :
 HRel (B5 ρ l (.at_ w.heap.size 0 sz cells.size)) H (F5 h l (some (.arr xs sz))) { w with heap:=w.heap.push (.cells cells elem (0,0)) } ∧
 Trans ρ H w (B5 ρ l (.at_ w.heap.size 0 sz cells.size)) H { w with heap:=w.heap.push (.cells cells elem (0,0)) } ∧ j4 ρ (B5 ρ l (.at_ w.heap.size 0 sz cells.size)):=by
 refine hH.push hl (.arr xs sz) (.cells cells elem (0,0)) (.at_ w.heap.size 0 sz cells.size) (fun _ h=>h.symm) ?_;refine ⟨rfl,cells,elem,0,us,by simp,rfl,hv.mono (j4.upd _ (.inl hl)) (fun _ _ _ e=>e),hj,hs,fun j v hj=>?_,fun hw=>⟨(hty hw).1,rfl,rfl,(hty hw).2⟩⟩;rw[Nat.zero_add];exact hc j v hj
theorem Kc (t:TypeId) (v:Value):(newVar t v).run P w = .ok ⟨w.heap.size,0,Option.none⟩ { w with heap:=w.heap.push (.cells v.cells t (0,0)) }:=rfl
def qo9 (n:W):Op→Bool
 | .move y | .assign y=>(match y with | .const (.slice none 0 0)=>true | _=>false)
 | _=>false
theorem zgd {n} (hH:HRel ρ H h w) (hN:∀ k,ρ (.n i k) = .none) (hok:qo9 n o.op=true) (e:exec T cf i (.own n) (evO env) h=some r):f8 P o a w ρ H h i r:=by
 have key:(execOp a.eval o).run P w = .ok (.value (.slice none 0 0)) w:=by
  unfold qo9 at hok;split at hok
  ·rename_i y hop;split at hok
   ·unfold execOp; rw[hop]; rfl
   ·cases hok
  ·rename_i y hop;split at hok
   ·unfold execOp; rw[hop]; rfl
   ·cases hok
  ·cases hok
 cases e;obtain ⟨k1,k2,k3⟩:=hH.virt (hN 0) n;refine f8.of key ⟨k1,k2,k3,H8.upd 0 _,?_⟩;show A3 (B5 ρ (.n i 0) _ _) _ _ _ _;rw[m7];exact ⟨rfl,rfl,rfl,rfl⟩
def qpg (n:Nat) (x:Opnd) (P:Program):Op→Bool
 | .box _ x'=>okO x' x
 | _=>false
theorem qde (u:Value):flat [u]=u.cells.toList:=by simp[flat]
theorem zgl {n x} (hH:HRel ρ H h w) (hE:EnvRel B ds fx ρ H N env a) (hN:∀ k,ρ (.n i k) = .none) (hok:qpg n x P o.op=true) (e:exec T cf i (.box n x) (evO env) h=some r):f8 P o a w ρ H h i r:=by
 unfold qpg at hok;split at hok
 ·rename_i t x' hop;have h1:=hok;obtain ⟨v,e1,e2⟩:=f7 e;have hx:=i7 hE h1 e1;split at e2
  ·rename_i hn;cases e2
   have hsol:xD v=true:=by cases v <;> first | rfl | (simp[qgj] at hn; done)
   have hlen:=(hx.cells hsol).1.length
   have hsz:(a.eval x').cells.size=n:=by simp at hlen; omega
   obtain ⟨k1,k2,k3⟩:=QA hH (hN 0) (xs:=[v]) (us:=[a.eval x']) (sz:=⟨n,0⟩) ⟨_,[],rfl,hx,rfl⟩ (by simp[xC hsol])
    (by intro u hu; simp at hu; subst hu; exact hsz) (a.eval x').cells (fun j v hj=>by rw[qde] at hj; simpa using hj) t (fun hw=>absurd hw (show ¬ 1000000≤0 by decide))
   refine f8.of (v:=.pointer (some ⟨w.heap.size,0,Option.none⟩)) ?_ ⟨k1,k2,k3,H8.upd 0 _,?_⟩
   ·unfold execOp;simp only[hop,Instr.box,Sem.run_bind,Kc,Result.andThen_ok];rfl
   ·show D8 (B5 ρ (.n i 0) _ _) _ _ _;rw[m7];simp[D8]
  ·cases e2
 ·cases hok
theorem f9.setAt:∀ {cs:List V} {vs:List Value} {c:Nat} {x:V} {v:Value},f9 ρ H cs vs→vs[c]? = some v→j9 ρ H x v→f9 ρ H (cs.set c x) vs
 | [],_,_,_,_,k,_,_=>by cases k; exact rfl
 | _ :: _,_,0,_,v,k,hv,h=>by
   obtain ⟨u,vs',rfl,k1,k2⟩:=k;simp at hv; subst hv;exact ⟨_,vs',rfl,h,k2⟩
 | _ :: _,_,c + 1,_,v,k,hv,h=>by
   obtain ⟨u,vs',rfl,k1,k2⟩:=k;exact ⟨u,vs',rfl,k1,k2.setAt (by simpa using hv) h⟩
def qle (vs:List Value) (own:List (Nat × W)):Bool:=own.all fun x=>match vs[x.1]? with | some (.slice none 0 0)=>true | _=>false
theorem jS (h:Loc→Option Obj):∀ (xs ys:List (Loc × Option Obj)),j8 h (xs++ys)=j8 (j8 h xs) ys
 | [],_=>rfl
 | (l,o) :: xs,ys=>by
   simp only[List.cons_append,j8];exact jS _ xs ys
theorem qa8 {α:Type} {p:α→Bool} {l:List α} (h:l.any p=false) {x:α} (hx:p x=false) (n:Nat):(l.set n x).any p=false:=by
 rw[List.any_eq_false] at *;intro y hy;rcases List.mem_or_eq_of_mem_set hy with h' | rfl
 ·exact h y h'
 ·simp[hx]
theorem KV (w:World) (vs:List Value):∀ (own:List (Nat × W)) (k:Nat) (cs cs':List V) (wr:List (Loc × Option Obj)) (ρ:Map) (h:Loc→Option Obj),HRel ρ H h w→(∀ j,k≤j→ρ (.n i j) = .none)→
 f9 ρ H cs vs→cs.any J7=false→qle vs own=true→O2 i k own cs=(cs',wr)→
 ∃ ρ',HRel ρ' H (j8 h wr) w∧Trans ρ H w ρ' H w∧j4 ρ ρ'∧H8 i ρ ρ'∧f9 ρ' H cs' vs∧cs'.any J7=false∧(∀ j,j < k→ρ' (.n i j) = ρ (.n i j))
 | [],k,cs,cs',wr,ρ,h,hH,hN,hv,hag,_,e=>by
   cases e;exact ⟨ρ,hH,Trans.refl ..,j4.refl _,H8.refl _ _,hv,hag,fun _ _=>rfl⟩
 | (c,sz) :: own,k,cs,cs',wr,ρ,h,hH,hN,hv,hag,hok,e=>by
   simp only[qle,List.all_cons,Bool.and_eq_true] at hok;obtain ⟨ho,hok⟩:=hok
   have hc:vs[c]? = some (.slice none 0 0):=by
    split at ho
    ·assumption
    ·cases ho
   simp only[O2] at e
   cases e1:O2 i (k + 1) own (cs.set c (.ref (.n i k) sz 0 0)) with
   | mk cs1 wr1=>
   rw[e1] at e;cases e;obtain ⟨k1,k2,k3⟩:=hH.virt (hN k (Nat.le_refl _)) sz;have hst:j4 ρ (B5 ρ (.n i k) (.virt sz)):=k3
   have hv1:f9 (B5 ρ (.n i k) (.virt sz)) H (cs.set c (.ref (.n i k) sz 0 0)) vs:=by
    refine f9.setAt (hv.mono hst (fun _ _ _ e=>e)) hc ?_;show A3 (B5 ρ (.n i k) _ _) _ _ _ _;rw[m7];exact ⟨rfl,rfl,rfl,rfl⟩
   obtain ⟨ρ',q1,q2,q3,q4,q5,q6,q7⟩:=KV w vs own (k + 1) _ _ _ _ _ k1 (fun j hj=>by
    rw[n6 (fun h=>by injection h with _ h; omega)]
    exact hN j (by omega)) hv1 (qa8 hag rfl c) hok e1
   refine ⟨ρ',q1,k2.trans q2,k3.trans q3,(H8.upd k _).trans q4,q5,q6,fun j hj=>?_⟩;rw[q7 j (by omega),n6 (fun h=>by injection h with _ h; omega)]
theorem qb5 {k:Nat} {own:List (Nat × W)} {x x':V} {v:Value} {wr:List (Loc × Option Obj)} (hH:HRel ρ H h w) (hN:∀ j,k≤j→ρ (.n i j) = .none) (hv:j9 ρ H x v) (hsol:xD x=true)
 (hok:qle v.cells.toList own=true) (e:kZ i k own x=(x',wr)) :
 ∃ ρ',HRel ρ' H (j8 h wr) w∧Trans ρ H w ρ' H w∧j4 ρ ρ'∧H8 i ρ ρ'∧j9 ρ' H x' v∧xD x'=true∧(∀ j,j < k→ρ' (.n i j) = ρ (.n i j)):=by
 cases own with
 | nil=>
   cases e;exact ⟨ρ,hH,Trans.refl ..,j4.refl _,H8.refl _ _,hv,hsol,fun _ _=>rfl⟩
 | cons p own=>
   simp only[kZ] at e
   cases e1:O2 i k (p :: own) x.cells with
   | mk cs wr1=>
   rw[e1] at e;cases e;obtain ⟨kc,kn⟩:=hv.cells hsol;obtain ⟨ρ',q1,q2,q3,q4,q5,q6,q7⟩:=KV w _ _ _ _ _ _ _ _ hH hN kc kn hok e1
   cases hag:Rf.isAgg x with
   | false=>
     have hone:x.cells=[x]∧v.cells = #[v]:=by
      cases x with
      | d d=>cases d <;> first | exact ⟨rfl,o5 (j9.one hv rfl)⟩ | cases hag
      | agg cs=>cases hag
      | tup vs=>cases hsol
      | junk=>exact ⟨rfl,o5 (j9.one hv rfl)⟩
      | ref l sz off len=>exact ⟨rfl,o5 (j9.one hv rfl)⟩
      | ptr l e j=>exact ⟨rfl,o5 (j9.one hv rfl)⟩
      | iface t y=>exact ⟨rfl,o5 (j9.one hv rfl)⟩
      | fn f c=>exact ⟨rfl,o5 (j9.one hv rfl)⟩
      | map l=>exact ⟨rfl,o5 (j9.one hv rfl)⟩
      | iter l=>exact ⟨rfl,o5 (j9.one hv rfl)⟩
     rw[hone.2] at q5;have hlen:=q5.length
     cases cs with
     | nil=>simp at hlen
     | cons y l=>
       obtain ⟨u,vs',hu,r1,r2⟩:=q5;simp at hu;obtain ⟨rfl,rfl⟩:=hu;simp only[List.any_cons,Bool.or_eq_false_iff] at q6;refine ⟨ρ',q1,q2,q3,q4,r1,?_,q7⟩;show xD y=true
       cases y <;> first | rfl | (simp[J7] at q6; done)
   | true=>
   refine ⟨ρ',q1,q2,q3,q4,?_,XE _,q7⟩
   obtain ⟨vs,hvs⟩:∃ vs,v = .agg ⟨vs⟩:=by
    unfold Rf.isAgg at hag;split at hag
    ·obtain ⟨vs,hv,_⟩:=hv; exact ⟨vs,hv⟩
    ·obtain ⟨vs,hv,_⟩:=hv; exact ⟨vs,hv⟩
    ·cases hag
   subst hvs;exact Jv q5 q6
def wI (z:D) (own:List (Nat × W)) (P:Program):Op→Bool
 | .alloc t=>T2 P t z && ownOkT P t own
 | _=>false
 where ownOkT (P:Program) (t:TypeId) (own:List (Nat × W)):Bool:=match P.info? t with
 | some inf=>match inf.zero with
   | some v=>qle v.cells.toList own
   | none=>own.isEmpty
 | none=>own.isEmpty
theorem qa9 {t:TypeId} {own:List (Nat × W)} {v:Value} (hz:(zeroValue t).run P w = .ok v w) (ho:wI.ownOkT P t own=true):qle v.cells.toList own=true:=by
 unfold wI.ownOkT at ho;unfold zeroValue at hz
 cases hi:P.info? t with
 | none=>
   rw[hi] at ho
   have:own=[]:=by simpa using ho
   subst this; rfl
 | some inf=>
   rw[hi] at ho;rw[Sem.run_bind,run_typeInfo w hi,Result.andThen_ok] at hz
   cases hv:inf.zero with
   | none=>
     simp only[hv] at ho
     have:own=[]:=by simpa using ho
     subst this; rfl
   | some u=>
     simp only[hv] at ho hz;cases hz;exact ho
theorem q1f {z own} (hH:HRel ρ H h w) (hN:∀ k,ρ (.n i k) = .none) (hok:wI z own P o.op=true) (e:exec T cf i (.alloc z own) (evO env) h=some r):f8 P o a w ρ H h i r:=by
 unfold wI at hok;split at hok
 ·rename_i t hop;simp only[Bool.and_eq_true] at hok;obtain ⟨h1,h2⟩:=hok;obtain ⟨v,hz,hr⟩:=T2.run h1 w;simp only[exec] at e
  cases e1:kZ i 1 own (.d z) with
  | mk x wr=>
  rw[e1] at e;cases e;obtain ⟨ρ',q1,q2,q3,q4,q5,q6,q7⟩:=qb5 (k:=1) hH (fun j _=>hN j) (x:=.d z) (hr H) rfl (qa9 hz h2) e1
  have hl:ρ' (.n i 0) = .none:=by rw[q7 0 (by omega)]; exact hN 0
  have hzc:v.cells.size=z.cells.length:=by
   have:=(j9.cells (ρ:=ρ) (x:=.d z) (hr H) rfl).1.length
   have h2:z.cells.length=(V.cells (.d z)).length:=by cases z <;> simp[D.cells,V.cells]
   simp at this;omega
  obtain ⟨k1,k2,k3⟩:=QA q1 hl (xs:=[x]) (us:=[v]) (sz:=⟨z.cells.length,0⟩) ⟨_,[],rfl,q5,rfl⟩ (by simp[xC q6])
   (by intro u hu; simp at hu; subst hu; exact hzc) v.cells (fun j v hj=>by rw[qde] at hj; simpa using hj) t (fun hw=>absurd hw (show ¬ 1000000≤0 by decide))
  refine f8.of (v:=.pointer (some ⟨w.heap.size,0,Option.none⟩)) ?_ ⟨?_,q2.trans k2,q3.trans k3,q4.trans (H8.upd 0 _),?_⟩
  ·unfold execOp;simp only[hop,Instr.alloc,Sem.run_bind,hz,Kc,Result.andThen_ok];rfl
  ·show HRel _ _ (j8 h (wr++_)) _;rw[jS];exact k1
  ·show D8 (B5 ρ' (.n i 0) _ _) _ _ _;rw[m7];simp[D8]
 ·cases hok
def YY (tt:TypeId) (z:D) (own:List (Nat × W)) (P:Program):Op→Bool
 | .alloc t=>decide (t=tt) && T2 P t z && wI.ownOkT P t own
 | _=>false
theorem qw0 {tt:TypeId} {z own} (hH:HRel ρ H h w) (hN:∀ k,ρ (.n i k) = .none) (hok:YY tt z own P o.op=true) (e:exec T cf i (.allocT tt z own) (evO env) h=some r):f8 P o a w ρ H h i r:=by
 unfold YY at hok;split at hok
 ·rename_i t hop;simp only[Bool.and_eq_true,decide_eq_true_eq] at hok;obtain ⟨⟨htt,h1⟩,h2⟩:=hok;subst htt;obtain ⟨v,hz,hr⟩:=T2.run h1 w;simp only[exec] at e
  cases e1:kZ i 1 own (.d z) with
  | mk x wr=>
  rw[e1] at e;cases e;obtain ⟨ρ',q1,q2,q3,q4,q5,q6,q7⟩:=qb5 (k:=1) hH (fun j _=>hN j) (x:=.d z) (hr H) rfl (qa9 hz h2) e1
  have hl:ρ' (.n i 0) = .none:=by rw[q7 0 (by omega)]; exact hN 0
  have hzc:v.cells.size=z.cells.length:=by
   have:=(j9.cells (ρ:=ρ) (x:=.d z) (hr H) rfl).1.length
   have h2:z.cells.length=(V.cells (.d z)).length:=by cases z <;> simp[D.cells,V.cells]
   simp at this;omega
  obtain ⟨k1,k2,k3⟩:=QA q1 hl (xs:=[x]) (us:=[v]) (sz:=⟨z.cells.length,t + 1000000⟩) ⟨_,[],rfl,q5,rfl⟩ (by simp[xC q6])
   (by intro u hu; simp at hu; subst hu; exact hzc) v.cells (fun j v hj=>by rw[qde] at hj; simpa using hj) t (fun _=>⟨rfl,fun _=>by simpa using hzc⟩)
  refine f8.of (v:=.pointer (some ⟨w.heap.size,0,Option.none⟩)) ?_ ⟨?_,q2.trans k2,q3.trans k3,q4.trans (H8.upd 0 _),?_⟩
  ·unfold execOp;simp only[hop,Instr.alloc,Sem.run_bind,hz,Kc,Result.andThen_ok];rfl
  ·show HRel _ _ (j8 h (wr++_)) _;rw[jS];exact k1
  ·show D8 (B5 ρ' (.n i 0) _ _) _ _ _;rw[m7];simp[D8]
 ·cases hok
end
end Go.Rf

set_option linter.unusedSectionVars false
namespace Go.Rf
variable [Prg]
variable {B:Ice} {ds:List Deferred} {fx:List (Nat × Value)}
theorem qir {al:Loc→Bool} {l:Loc} {m:List Loc}:∀ x∈(R9 al l m).2,x∈m∨al x=true:=by
 intro x hx;unfold R9 at hx
 cases h:al l with
 | false=>rw[h] at hx; exact .inl hx
 | true=>
   rw[h,j3] at hx
   cases hi:idx m l with
   | none=>
     rw[hi,kb] at hx;rcases List.mem_append.1 hx with h1 | h1
     ·exact .inl h1
     ·rw[List.mem_singleton.1 h1]; exact .inr h
   | some k=>rw[hi,qr] at hx; exact .inl hx
mutual
theorem YR (al:Loc→Bool):∀ (v:V) (m:List Loc),∀ x∈(V.ren al v m).2,x∈m∨al x=true
 | .d _,m=>fun x h=>.inl h
 | .ref ..,m | .ptr ..,m | .map _,m | .iter _,m=>by simp only[V.ren,named,V4]; exact qir
 | .agg cs,m | .fn _ cs,m | .tup cs,m=>by simp only[V.ren,V4]; exact Ze al cs m
 | .iface _ v,m=>by simp only[V.ren,V4]; exact YR al v m
 | .junk,m=>fun x h=>.inl h
theorem Ze (al:Loc→Bool):∀ (vs:List V) (m:List Loc),∀ x∈(qo al vs m).2,x∈m∨al x=true
 | [],m=>fun x h=>.inl h
 | v :: vs,m=>by
   simp only[qo,V4];intro x hx;rcases Ze al vs _ x hx with h | h
   ·exact YR al v m x h
   ·exact .inr h
end
theorem WF (al:Loc→Bool):∀ (es:List (D × V)) (m:List Loc),∀ x∈(kR al es m).2,x∈m∨al x=true
 | [],m=>fun x h=>.inl h
 | (k,v) :: es,m=>by
   simp only[kR,V4];intro x hx;rcases WF al es _ x hx with h | h
   ·exact YR al v m x h
   ·exact .inr h
theorem qeu (al:Loc→Bool) (o:Obj) (m:List Loc):∀ x∈(o.ren al m).2,x∈m∨al x=true:=by
 cases o with
 | arr xs sz=>simp only[Obj.ren,V4]; exact Ze al xs m
 | map es=>simp only[Obj.ren,V4]; exact WF al es m
 | _=>exact fun x h=>.inl h
theorem JZ (h:Loc→Option Obj):∀ (f j:Nat) (m:List Loc) (os:List Obj) (M:List Loc),C8 h f j m=some (os,M)→∀ x∈M,x∈m∨(h x).isSome=true
 | 0,j,m,os,M,e=>by cases e
 | f + 1,j,m,os,M,e=>by
   simp only[C8] at e
   cases hm:m[j]? with
   | none=>rw[hm,kb] at e; cases e; exact fun x hx=>.inl hx
   | some l=>
     rw[hm,qr] at e
     cases hl:h l with
     | none=>
       rw[hl,kb] at e;obtain ⟨⟨os',M'⟩,e1,e2⟩:=f7 e;cases e2;exact JZ h f (j + 1) m os' M' e1
     | some o=>
       rw[hl,qr] at e;simp only[V4] at e;obtain ⟨⟨os',M'⟩,e1,e2⟩:=f7 e;cases e2;intro x hx;rcases JZ h f (j + 1) _ os' M' e1 x hx with h' | h'
       ·exact qeu _ o m x h'
       ·exact .inr h'
theorem qcq {pin:List Loc} {vs vs':List V} {h:Loc→Option Obj} {os:List Obj} {M:List Loc} (e:XD pin vs h=some (vs',os,M)):∀ x∈M,x∈pin∨(h x).isSome=true:=by
 simp only[XD,V4] at e;obtain ⟨⟨os',M'⟩,e1,e2⟩:=f7 e;cases e2;intro x hx;rcases JZ h 64 0 _ os' M' e1 x hx with h' | h'
 ·exact Ze _ vs pin x h'
 ·exact .inr h'
structure CallEnd (ρ:Map) (H:Ice) (w:World) (n:Nat) (os:List Obj) (ρ':Map) (H':Ice) (w':World):Prop where
 heap:HRel ρ' H' (j5 os) w'
 trans:Trans ρ H w ρ' H' w'
 stays:j4 ρ ρ'
 only:∀ l,ρ' l ≠ .none→∃ k,l = .b k
 len:n≤os.length
def wu (P:Program) (f:FuncId) (args:Array Value) (w:World) (ρ:Map) (H:Ice) (n:Nat) (r:CRes):Prop:=
 Calls P f args w fun e w'=>match e with
  | .outgrown=>r = .out
  | .returned v=>∃ rs os ρ' H',r = .ret rs os∧CallEnd ρ H w n os ρ' H' w'∧j9 ρ' H' (Xg rs) v
  | .panicked chain=>∃ x os ρ' H' u,r = .pan x os∧chain=[{ v:=u,recovered:=false }]∧CallEnd ρ H w n os ρ' H' w'∧j9 ρ' H' x u
def Qp (B:Ice) (P:Program) (cf:CF):Prop:=P=Prg.p ∧ ∀ f vs heap r,cf f vs heap=some r→∀ (ρ:Map) (H:Ice) (w:World) (args:Array Value),B.le H→HRel ρ H (j5 heap) w→f9 ρ H vs args.toList→
 (∀ l,ρ l ≠ .none→∃ k,k < heap.length∧l = .b k)→wu P f args w ρ H heap.length r
theorem qah (h:Loc→Option Obj):∀ fm:List Loc,j8 h (fm.map (·,none))=O9 h fm
 | []=>by funext l; simp[O9,j8]
 | l :: fm=>by
   simp only[List.map_cons,j8];rw[qah _ fm]
   funext l'
   simp only[O9,List.mem_cons]
   by_cases h1:l'∈fm
   ·simp[h1]
   ·by_cases h2:l'=l <;> simp[h1,h2]
theorem f9.fits {ρ:Map} {H:Ice}:∀ {vs:List V} {us:List Value},f9 ρ H vs us→vs.all S1=true
 | [],_,_=>rfl
 | v :: vs,_,k=>by
   obtain ⟨u,us',rfl,k1,k2⟩:=k;simp only[List.all_cons,Bool.and_eq_true];exact ⟨j9.fits k1,f9.fits k2⟩
theorem qyz {ρ:Map} {S:List Loc} {l:Loc} (h:ρ l = .none) (hl:l ∉ S):zJ ρ S l = .none:=by
 unfold zJ;rw[if_neg hl];exact h
theorem zL {P:Program} {cf:CF} {o:Oper} {a:Act} {w:World} {ρ:Map} {H:Ice} {h:Loc→Option Obj} {i:Nat} {f:FuncId} {args:List (V × Bool)} {us:List Value} {r:R} (hcf:Qp B P cf)
 (hB:B.le H) (hH:HRel ρ H h w) (hN:∀ k,ρ (.n i k) = .none) (hv:f9 ρ H (args.map (·.1)) us) (e:W1 cf f i h args=some r)
 (hrun:(execOp a.eval o).run P w = .ok (.enter f ⟨us⟩) w):f8 P o a w ρ H h i r:=by
 obtain ⟨⟨vs,fm⟩,e1,e2⟩:=f7 e;obtain ⟨⟨vs',os,m⟩,e3,e4⟩:=f7 e2;obtain ⟨f1,f2,f3,f4⟩:=Q9 hH fm;have hv1:=vH hH args vs fm e1 fm (fun _ h=>h) us hv;obtain ⟨n1,n2,_,n4,n5⟩:=XC f1 List.nodup_nil e3;have hv2:=n2 us hv1;rw[hv2.fits,j3] at e4;obtain ⟨cr,e5,e6⟩:=f7 e4;cases e6
 have hfm:∀ l∈fm,∃ o,h l=some o:=by
  have:∀ (args:List (V × Bool)) (vs:List V) (m:List Loc),F2 h args=some (vs,m)→∀ l∈m,∃ o,h l=some o:=by
   intro args
   induction args with
   | nil=>intro vs m e l hl; cases e; cases hl
   | cons x args ih=>
     intro vs m e l hl;obtain ⟨v,fl⟩:=x;simp only[F2] at e;split at e
     ·rename_i v' m1 vs' m2 q1 q2;cases e;rcases List.mem_append.1 hl with h' | h'
      ·cases fl with
       | true=>
         simp only[if_true,Option.map_eq_some_iff] at q1;obtain ⟨⟨y,m'⟩,g1,g2⟩:=q1;cases g2;exact (vG hH 24 v y _ g1).1 l h'
       | false=>
         simp only[Bool.false_eq_true,if_false] at q1;cases q1;cases h'
      ·exact ih vs' m2 q2 l h'
     ·cases e
  exact this args vs fm e1
 have alive:∀ {l},(h l).isSome=true→ρ l ≠ .none:=fun {l} hl hn=>by
  obtain ⟨ob,ho⟩:=Option.isSome_iff_exists.1 hl;have:=hH.objs l ob ho;rw[hn] at this
  cases ob <;> exact this.elim
 have hNf:∀ k,Loc.n i k ∉ fm:=fun k hk=>by
  obtain ⟨ob,hh⟩:=hfm _ hk;exact alive (by rw[hh]; rfl) (hN k)
 have hm:∀ l∈m,zJ ρ fm l ≠ .none:=fun l hl=>by
  rcases qcq e3 l hl with h' | h'
  ·cases h'
  ·obtain ⟨ob,ho⟩:=Option.isSome_iff_exists.1 h';intro hn;have:=f1.objs l ob ho;rw[hn] at this
   cases ob <;> exact this.elim
 have hN1:∀ k,zJ ρ fm (.n i k) = .none:=fun k=>qyz (hN k) (hNf k)
 have hc:=hcf.2 f vs' os cr e5 (zI (zJ ρ fm) m) (jx ρ H w fm) w ⟨us⟩ (fun b o v e=>f2.le hH b o v (hB b o v e)) n1 hv2 (fun l hl=>by
  cases l with
  | n a j=>exact (hl rfl).elim
  | b k=>
    refine ⟨k,?_,rfl⟩;rw[n5]
    by_cases hk:k < m.length
    ·exact hk
    ·exfalso
     apply hl;have:m[k]? = none:=List.getElem?_eq_none_iff.2 (by omega)
     simp only[zI,this])
 have newAt:H8 i ρ (zJ ρ fm):=fun l h1 h2=>by
  unfold zJ at h2;split at h2
  ·rename_i hl;obtain ⟨ob,hh⟩:=hfm l hl;exact (alive (by rw[hh]; rfl) h1).elim
  ·exact (h2 h1).elim
 have back:∀ {os' ρ' H' w' v x} (_:CallEnd (zI (zJ ρ fm) m) (jx ρ H w fm) w os.length os' ρ' H' w') (_:j9 ρ' H' x v),
  Post ρ H h w i { v:=x.mapL (N6 m i),rd:=fm++m,wr:=fm.map (·,none)++M1 m i 0 os' } (QP (zJ ρ fm) ρ' m i) H' v w':=by
  intro os' ρ' H' w' v x ce hx;obtain ⟨b1,b2,b3,b4,b5⟩:=qz2 (i:=i) f1 n4 hm hN1 ce.heap ce.trans ce.stays ce.only (by have:=ce.len; omega);refine ⟨?_,f2.trans b2,f3.trans b3,newAt.trans b4,b5 x v hx⟩;show HRel _ _ (j8 h (fm.map (·,none)++M1 m i 0 os')) w';rw[jS,qah];exact b1
 intro ro K Q hpost;refine ⟨fun _ _=>trivial,?_⟩;rw[show (Qd ro).round=ro from rfl,Qw ro (fun _ h=>by cases h) hrun];refine ⟨fun h=>(by cases h),ZI fun cs=>?_⟩;obtain ⟨en,w',fr,hR,rest⟩:=hc cs;refine ⟨en,w',fr,?_,rest⟩
 cases en with
 | outgrown=>subst hR; exact hpost
 | returned v=>
   obtain ⟨rs,os',ρ',H',rfl,ce,hx⟩:=hR;exact hpost _ _ _ _ (back ce hx)
 | panicked chain=>
   obtain ⟨x,os',ρ',H',u,rfl,rfl,ce,hx⟩:=hR;exact hpost _ _ _ _ (back ce hx)
end Go.Rf
