/- Parts of the proof. -/
import Derived.Test.YtpaeaccmddffjaaGreatDoorRg3
import Derived.Laws.MakeOwn
import Derived.Room.Make
import Derived.Room.AppendAny
import Derived.Room.FrozenHead
set_option linter.all false
set_option linter.unusedSectionVars false
namespace Go.Rf
variable [Prg]
variable {B:Ice} {ds:List Deferred} {fx:List (Nat × Value)}
section
variable {P:Program} {T:Tab} {cf:CF} {o:Oper} {a:Act} {w:World} {ρ:Map} {H:Ice} {h:Loc→Option Obj} {i N:Nat} {env:List (Nat × V)} {r:R}
def S6 (P:Program) (f:FuncId):Bool:=match P.funcs[f]? with
 | some fn => !(fn.name == "runtime.NumGoroutine") && fn.body.isSome
 | none=>false
def Xz:List Operand→List (Opnd × Bool)→Bool
 | [],[]=>true
 | x :: xs,(y,_) :: ys=>okO x y && Xz xs ys
 | _,_=>false
theorem qu (hE:EnvRel B ds fx ρ H N env a):∀ {xs ys vs},Xz xs ys=true→evs (evO env) ys=some vs→f9 ρ H (vs.map (·.1)) (xs.map a.eval)
 | [],[],vs,_,e=>by cases e; rfl
 | [],_ :: _,_,h,_=>by simp[Xz] at h
 | _ :: _,[],_,h,_=>by simp[Xz] at h
 | x :: xs,(y,fl) :: ys,vs,h,e=>by
   simp only[Xz,Bool.and_eq_true] at h;simp only[evs] at e;split at e
   ·rename_i v vs' e1 e2;cases e;exact ⟨_,_,rfl,i7 hE h.1 e1,qu hE h.2 e2⟩
   ·cases e
theorem V6 {f:FuncId} (hf:S6 P f=true) (args:Array Value):(callFunc f args).run P w = .ok (.enter f args) w:=by
 unfold S6 at hf;split at hf
 ·rename_i fn hfn;simp only[Bool.and_eq_true,Bool.not_eq_true'] at hf;obtain ⟨h1,h2⟩:=hf;unfold callFunc;simp only[Sem.run_bind,run_program,Result.andThen_ok,hfn,h1,Bool.false_eq_true,if_false]
  cases hb:fn.body with
  | none=>rw[hb] at h2; cases h2
  | some b=>simp
 ·cases hf
def KX (f:FuncId) (args:List (Opnd × Bool)) (P:Program):Op→Bool
 | .call c=>(match c.callee with | .value (.func g)=>decide (g=f) | _=>false) && S6 P f && Xz c.args.toList args
 | _=>false
theorem q7e {f args} (hcf:Qp B P cf) (hH:HRel ρ H h w) (hE:EnvRel B ds fx ρ H N env a) (hN:∀ k,ρ (.n i k) = .none) (hok:KX f args P o.op=true) (e:exec T cf i (.call f args) (evO env) h=some r):f8 P o a w ρ H h i r:=by
 unfold KX at hok;split at hok
 ·rename_i c hop;simp only[Bool.and_eq_true] at hok;obtain ⟨⟨h1,h2⟩,h3⟩:=hok;obtain ⟨vs,e1,e2⟩:=f7 e;refine zL hcf hE.base hH hN (qu hE h3 e1) e2 ?_;split at h1
  ·rename_i g hc;simp only[decide_eq_true_eq] at h1;subst h1;unfold execOp;simp only[hop,resolve,hc,Act.eval,Deferred.ofValue];rw[Sem.run_bind];show Result.andThen (.ok _ w) _=_;rw[Result.andThen_ok];simp only[invoke];rw[V6 h2]
   congr 2
   apply Array.toList_inj.1;simp
  ·cases h1
 ·cases hok
def qch (f:Opnd) (args:List (Opnd × Bool)):Op→Bool
 | .call c=>(match c.callee with | .value g=>okO g f | _=>false) && Xz c.args.toList args
 | _=>false
theorem q1c {f args} (hcf:Qp B P cf) (hH:HRel ρ H h w) (hE:EnvRel B ds fx ρ H N env a) (hN:∀ k,ρ (.n i k) = .none) (hfs:∀ g vs hp r,cf g vs hp=some r→S6 P g=true) (hok:qch f args o.op=true)
 (e:exec T cf i (.callV f args) (evO env) h=some r):f8 P o a w ρ H h i r:=by
 unfold qch at hok;split at hok
 ·rename_i c hop;simp only[Bool.and_eq_true] at hok;obtain ⟨h1,h3⟩:=hok;obtain ⟨g,e1,e2⟩:=f7 e;obtain ⟨vs,e3,e4⟩:=f7 e2;obtain ⟨⟨fid,cap⟩,e5,e6⟩:=f7 e4;split at h1
  ·rename_i g' hc;have hg:=i7 hE h1 e1
   obtain ⟨us,hgv,hcap⟩:∃ us,a.eval g'=vI fid us∧f9 ρ H cap us:=by
    unfold qew at e5;split at e5
    ·cases e5;obtain ⟨us,hgv,k⟩:=hg;exact ⟨us,hgv,k.toV⟩
    ·cases e5;obtain ⟨us,hgv,k⟩:=hg;exact ⟨us,hgv,k⟩
    ·cases e5
   have hcap':f9 ρ H ((cap.map (·,false)).map (·.1)) us:=by
    rw[List.map_map];have:(fun x:V × Bool=>x.1) ∘ (fun x:V=>(x,false))=id:=rfl;rw[this,List.map_id];exact hcap
   have hargs:f9 ρ H ((M6 fid vs (cap.map (·,false))).map (·.1)) (M6 fid (c.args.toList.map a.eval) us):=by
    unfold M6;split
    ·rw[List.map_append]; exact (qu hE h3 e3).append hcap'
    ·rw[List.map_append]; exact hcap'.append (qu hE h3 e3)
   have hb:S6 P (vo fid)=true:=by
    have e7:W1 cf (vo fid) i h (M6 fid vs (cap.map (·,false)))=some r:=e6;obtain ⟨⟨vs1,fm⟩,f1,f2⟩:=f7 e7;obtain ⟨⟨vs',os,m⟩,f3,f4⟩:=f7 f2;obtain ⟨g1,g2,g3,g4⟩:=Q9 hH fm;obtain ⟨n1,n2,_,n4,n5⟩:=XC g1 List.nodup_nil f3;have hv1:=vH hH _ vs1 fm f1 fm (fun _ h=>h) _ hargs;rw[(n2 _ hv1).fits,j3] at f4;obtain ⟨cr,f5,_⟩:=f7 f4;exact hfs _ _ _ _ f5
   refine zL hcf hE.base hH hN hargs e6 ?_;unfold execOp;unfold vo at hb ⊢;unfold M6;unfold vI at hgv;split at hgv
   ·rename_i hlt;rw[if_pos hlt] at hb;simp only[hop,resolve,hc,hgv,Deferred.ofValue,if_pos hlt];rw[Sem.run_bind];show Result.andThen (.ok _ w) _=_;rw[Result.andThen_ok];simp only[invoke];rw[V6 hb]
    congr 2
    apply Array.toList_inj.1;simp
   ·rename_i hlt;rw[if_neg hlt] at hb;simp only[hop,resolve,hc,hgv,Deferred.ofValue,if_neg hlt];rw[Sem.run_bind];show Result.andThen (.ok _ w) _=_;rw[Result.andThen_ok];simp only[invoke];rw[V6 hb]
    congr 2
    apply Array.toList_inj.1;simp
  ·cases h1
 ·cases hok
def qca (x:Opnd) (P:Program):Op→Bool
 | .range t x'=>okO x' x && (match P.underlying t with | some .string=>true | _=>false)
 | _=>false
theorem q02 {x} (hH:HRel ρ H h w) (hE:EnvRel B ds fx ρ H N env a) (hN:∀ k,ρ (.n i k) = .none) (hok:qca x P o.op=true) (e:exec T cf i (.range x) (evO env) h=some r):f8 P o a w ρ H h i r:=by
 unfold qca at hok;split at hok
 ·rename_i t x' hop;simp only[Bool.and_eq_true] at hok;obtain ⟨h1,h2⟩:=hok
  have hu:P.underlying t=some .string:=by
   split at h2
   ·assumption
   ·cases h2
  simp only[exec] at e;split at e
  ·rename_i s e1;cases e;obtain ⟨hv,hl⟩:=(i7 hE h1 e1:a.eval x' = .string ⟨s.toArray⟩∧s.length≤long);obtain ⟨k1,k2,k3⟩:=hH.push (hN 0) (.iter s 0) (.stringIter ⟨s.toArray⟩ 0) (.blk w.heap.size) (fun _ h=>h.symm) ⟨by simp,hl⟩;refine f8.of (v:=.pointer (some ⟨w.heap.size,0,Option.none⟩)) ?_ ⟨k1,k2,k3,H8.upd 0 _,?_⟩
   ·unfold execOp;simp only[hop,hv,Instr.range,Sem.run_bind,run_underlying hu,Result.andThen_ok];rfl
   ·show jt (B5 ρ (.n i 0) _ _) _;rw[m7];rfl
  ·cases e
 ·cases hok
def qcd:Op→Bool
 | .makeMap _ none=>true
 | _=>false
theorem q05 (hH:HRel ρ H h w) (hN:∀ k,ρ (.n i k) = .none) (hok:qcd o.op=true) (e:exec T cf i .mkMap (evO env) h=some r):f8 P o a w ρ H h i r:=by
 unfold qcd at hok;split at hok
 ·rename_i t hop;cases e;obtain ⟨k1,k2,k3⟩:=hH.push (hN 0) (.map []) (.map #[] 0) (.blk w.heap.size) (fun _ h=>h.symm) ⟨[],0,by simp,.nil⟩;refine f8.of (v:=.map (some w.heap.size)) ?_ ⟨k1,k2,k3,H8.upd 0 _,?_⟩
  ·unfold execOp;simp only[hop];rfl
  ·show QR (B5 ρ (.n i 0) _ _) _ _;rw[m7];rfl
 ·cases hok
def qig (x:Opnd):Op→Bool
 | .next x' true=>okO x' x
 | _=>false
theorem q67 {x} (hH:HRel ρ H h w) (hE:EnvRel B ds fx ρ H N env a) (hok:qig x o.op=true) (e:exec T cf i (.next x) (evO env) h=some r):f8 P o a w ρ H h i r:=by
 unfold qig at hok;split at hok
 ·rename_i x' hop;simp only[exec] at e;split at e
  ·rename_i l e1;split at e
   ·rename_i s pos hl;have hx:jt (ρ l) (a.eval x'):=i7 hE hok e1;have hobj:=hH.objs l _ hl
    cases hp:ρ l with
    | blk q=>
      rw[hp] at hx hobj;obtain ⟨hb,hlen⟩:=hobj;have hx:a.eval x' = .pointer (some ⟨q,0,Option.none⟩):=hx;have hlt:q < w.heap.size:=(Array.getElem?_eq_some_iff.1 hb).1;split at e
      ·rename_i hpos;cases e
       have hrun:(Instr.next (a.eval x') true o.type).run P w = .ok (.tuple #[.bool true,.int .i64 pos,.int .i32 (Utf8.decode ⟨s.toArray⟩ pos).1]) { w with heap:=w.heap.setIfInBounds q (.stringIter ⟨s.toArray⟩ (pos + (Utf8.decode ⟨s.toArray⟩ pos).2)) }:=by
        rw[hx]
        have hps:pos < (⟨s.toArray⟩:ByteArray).size:=by rw[xv]; exact hpos
        simp only[Instr.next,Sem.run_bind,getObj,setObj,Sem.run,hb,Result.andThen_ok];simp[hps,Sem.run,hb,goInt]
       obtain ⟨k1,k2⟩:=hH.write (w':={ w with heap:=w.heap.setIfInBounds q (.stringIter ⟨s.toArray⟩ (pos + (Utf8.decode ⟨s.toArray⟩ pos).2)) }) (l:=l) (b:=q) (by rw[hp]; rfl) (.iter s (pos + (dec s pos).2)) ⟨rfl,rfl,rfl,by simp⟩ (fun j hj=>by
        show (w.heap.setIfInBounds q _)[j]? = _
        rw[Array.getElem?_setIfInBounds_ne (Ne.symm hj)]) (by
        rw[hp];refine ⟨?_,hlen⟩;show (w.heap.setIfInBounds q _)[q]? = _;rw[Array.getElem?_setIfInBounds_self]
        simp[hlt,dec])
       refine f8.of (v:=.tuple #[.bool true,.int .i64 pos,.int .i32 (Utf8.decode ⟨s.toArray⟩ pos).1]) ?_ ⟨k1,k2,j4.refl _,H8.refl _ _,⟨_,rfl,_,_,rfl,rfl,_,_,rfl,rfl,_,_,rfl,rfl,rfl⟩⟩;unfold execOp;simp only[hop,Sem.run_bind,hrun,Result.andThen_ok];rfl
      ·rename_i hpos;cases e
       have hps:¬ pos < (⟨s.toArray⟩:ByteArray).size:=by rw[xv]; exact hpos
       refine f8.pure (x:=.tup [.d (.bool false)]) (v:=.tuple #[.bool false]) ?_ hH ⟨_,rfl,_,_,rfl,rfl,rfl⟩ [l];unfold execOp;simp only[hop,hx,Instr.next,Sem.run_bind,getObj,Sem.run,hb,Result.andThen_ok];simp[hps,Sem.run]
    | none=>rw[hp] at hx; exact hx.elim
    | dead=>rw[hp] at hobj; exact hobj.elim
    | virt s=>rw[hp] at hx; exact hx.elim
    | at_ b1 b2 b3 b4=>rw[hp] at hx; exact hx.elim
    | gl b1 b2 b3 b4 b5=>rw[hp] at hx; exact hx.elim
    | grw b1 b2 b3 b4 b5=>rw[hp] at hx; exact hx.elim
    | out _ _ _ _=>rw[hp] at hobj; exact hobj.elim
   ·cases e
  ·cases e
 ·cases hok
end
end Go.Rf

set_option linter.unusedSectionVars false
namespace Go.Rf
variable [Prg]
variable {B:Ice} {ds:List Deferred} {fx:List (Nat × Value)}
section
variable {P:Program} {T:Tab} {cf:CF} {o:Oper} {a:Act} {w:World} {ρ:Map} {H:Ice} {h:Loc→Option Obj} {i N:Nat} {env:List (Nat × V)} {r:R}
def putL {α:Type}:List α→Nat→List α→List α
 | cs,_,[]=>cs
 | cs,off,x :: xs=>putL (cs.set off x) (off + 1) xs
theorem Xq:∀ (cs:List V) (off:Nat) (xs:List V),jZ cs off xs=putL cs off xs
 | _,_,[]=>rfl
 | cs,off,x :: xs=>by simp only[jZ,putL]; exact Xq _ _ xs
theorem qp {α:Type}:∀ (xs cs:List α) (off:Nat),(putL cs off xs).length=cs.length
 | [],_,_=>rfl
 | x :: xs,cs,off=>by simp only[putL]; rw[qp xs]; simp
theorem xJ {α:Type}:∀ (xs cs:List α) (off j:Nat),off + xs.length≤cs.length→(putL cs off xs)[j]? = if off≤j∧j < off + xs.length then xs[j - off]? else cs[j]?
 | [],cs,off,j,_=>by simp only[putL,List.length_nil]; rw[if_neg (by omega)]
 | x :: xs,cs,off,j,hl=>by
   simp only[List.length_cons] at hl;simp only[putL];rw[xJ xs (cs.set off x) (off + 1) j (by simp; omega)];simp only[List.length_cons]
   by_cases h1:off + 1≤j∧j < off + 1 + xs.length
   ·rw[if_pos h1,if_pos (by omega)]
    have:j - off=(j - (off + 1)) + 1:=by omega
    rw[this,List.getElem?_cons_succ]
   ·rw[if_neg h1]
    by_cases h2:j=off
    ·subst h2;rw[if_pos (by omega),List.getElem?_set_self (by omega)];simp
    ·rw[if_neg (by omega),List.getElem?_set_ne (by omega)]
theorem f9.putL:∀ {ys:List V} {us:List Value} {cs:List V} {vs:List Value} (off:Nat),f9 ρ H cs vs→f9 ρ H ys us→f9 ρ H (putL cs off ys) (Rf.putL vs off us)
 | [],_,_,_,_,k,k'=>by cases k'; exact k
 | y :: ys,_,_,_,off,k,k'=>by
   obtain ⟨u,us',rfl,k1,k2⟩:=k';exact (k.set off k1).putL (off + 1) k2
theorem qee {p:V→Bool}:∀ {ys cs:List V} (off:Nat),cs.any p=false→ys.any p=false→(Rf.putL cs off ys).any p=false
 | [],_,_,h,_=>h
 | y :: ys,cs,off,h,h'=>by
   simp only[List.any_cons,Bool.or_eq_false_iff] at h';exact qee (off + 1) (qa8 h h'.1 off) h'.2
theorem qer {b off:Nat} {v:Value} {c:Array Value} {t:TypeId} {fr:Nat × Nat} (hb:w.heap[b]? = some (.cells c t fr)) :
 w.setCell ⟨b,off,Option.none⟩ v = { w with heap:=w.heap.setIfInBounds b (.cells (c.setIfInBounds off v) t fr) }:=by
 unfold World.setCell
 congr 1
 apply Array.ext_getElem?;intro j;have hlt:b < w.heap.size:=(Array.getElem?_eq_some_iff.1 hb).1
 by_cases hj:b=j
 ·subst hj;rw[Array.getElem?_setIfInBounds_self];simp only[Array.getElem?_modify,if_true,hb,Option.map_some,Option.isSome_none,Bool.false_eq_true,if_false,hlt]
 ·rw[Array.getElem?_setIfInBounds_ne hj,Array.getElem?_modify,if_neg hj]
theorem L9 (b o:Nat) (t:TypeId) (fr:Nat):∀ (vs:List Value) (i:Nat) (cur:List Value) (w:World),w.heap[b]? = some (.cells ⟨cur⟩ t (fr,fr))→o + i + vs.length≤cur.length→
 (∀ v∈vs,v.oneCell'=true)→(storeCells ⟨b,o,Option.none⟩ vs i).run P w = .ok () { w with heap:=w.heap.setIfInBounds b (.cells ⟨putL cur (o + i) vs⟩ t (fr,fr)) }
 | [],i,cur,w,hb,_,_=>by
   simp only[storeCells,putL];rw[← setIf_same hb];rfl
 | v :: vs,i,cur,w,hb,hl,h1=>by
   simp only[List.length_cons] at hl;have hlt:b < w.heap.size:=(Array.getElem?_eq_some_iff.1 hb).1
   have hcell:w.cell? ⟨b,o + i,Option.none⟩=some (cur[o + i]'(by omega)):=by
    simp only[World.cell?,hb];simp
   have hfz:w.frozen? ⟨b,o + i,Option.none⟩=false:=by
    simp only[World.frozen?,hb];simp
   have hs:(store (Addr.add ⟨b,o,Option.none⟩ i) v).run P w = .ok () { w with heap:=w.heap.setIfInBounds b (.cells ⟨cur.set (o + i) v⟩ t (fr,fr)) }:=by
    rw[W3,run_store P w _ v _ (h1 v (List.mem_cons_self ..)),hcell];simp only[hfz,Bool.false_eq_true,if_false];rw[qer hb];simp
   simp only[storeCells,Sem.run_bind,hs,Result.andThen_ok]
   have ih:=L9 b o t fr vs (i + 1) (cur.set (o + i) v) { w with heap:=w.heap.setIfInBounds b (.cells ⟨cur.set (o + i) v⟩ t (fr,fr)) } (by
    rw[Array.getElem?_setIfInBounds_self]; simp[hlt]) (by simp; omega) (fun u hu=>h1 u (List.mem_cons_of_mem _ hu))
   rw[ih];simp only[putL,Nat.add_assoc]
   congr 1
   rw[Array.setIfInBounds_setIfInBounds]
 where
 setIf_same {w:World} {b:Nat} {x:Go.Obj} (hb:w.heap[b]? = some x):w = { w with heap:=w.heap.setIfInBounds b x }:=by
  have:w.heap.setIfInBounds b x=w.heap:=by
   apply Array.ext_getElem?;intro j
   by_cases hj:b=j
   ·subst hj; rw[Array.getElem?_setIfInBounds_self,hb];simp[(Array.getElem?_eq_some_iff.1 hb).1]
   ·rw[Array.getElem?_setIfInBounds_ne hj]
  rw[this]
theorem qg7 {ys:List V} {us:List Value} (k:f9 ρ H ys us) (h:ys.any J7=false):∀ u∈us,u.oneCell'=true:=by
 induction ys generalizing us with
 | nil=>cases k; intro u hu; cases hu
 | cons y ys ih=>
   obtain ⟨v,vs',rfl,k1,k2⟩:=k;simp only[List.any_cons,Bool.or_eq_false_iff] at h;intro u hu;rcases List.mem_cons.1 hu with rfl | hu
   ·exact WI (j9.one k1 h.1)
   ·exact ih k2 h.2 u hu
theorem qko {x y x':V} {u v:Value} {j:Nat} (hx:j9 ρ H x u) (hsx:xD x=true) (hy:j9 ρ H y v) (hsy:xD y=true) (e:zO x j y=some x') :
 ∃ u',j9 ρ H x' u'∧xD x'=true∧j + v.cells.size≤u.cells.size∧u'.cells.toList=putL u.cells.toList j v.cells.toList:=by
 obtain ⟨kx,nx⟩:=hx.cells hsx;obtain ⟨ky,ny⟩:=hy.cells hsy;have lx:=kx.length;have ly:=ky.length;simp only[Array.length_toList] at lx ly;unfold zO at e;split at e
 ·rename_i hl;split at e
  ·cases e;rw[Xq];exact ⟨_,Jv (kx.putL j ky) (qee j nx ny),XE _,by omega,rfl⟩
  ·rename_i hag;split at e
   ·cases e
   ·rename_i hagy;cases e
    have single:∀ {z:V} {q:Value},j9 ρ H z q→xD z=true→¬ (Rf.isAgg z=true)→z.cells=[z]∧q.cells = #[q]:=by
     intro z q hz hs hn
     cases z with
     | d d=>cases d <;> first | exact ⟨rfl,o5 (j9.one hz rfl)⟩ | exact absurd rfl hn
     | agg cs=>exact absurd rfl hn
     | tup vs=>cases hs
     | junk=>exact ⟨rfl,o5 (j9.one hz rfl)⟩
     | ref l sz off len=>exact ⟨rfl,o5 (j9.one hz rfl)⟩
     | ptr l e j=>exact ⟨rfl,o5 (j9.one hz rfl)⟩
     | iface t y=>exact ⟨rfl,o5 (j9.one hz rfl)⟩
     | fn f c=>exact ⟨rfl,o5 (j9.one hz rfl)⟩
     | map l=>exact ⟨rfl,o5 (j9.one hz rfl)⟩
     | iter l=>exact ⟨rfl,o5 (j9.one hz rfl)⟩
    obtain ⟨c1,c2⟩:=single hx hsx hag;obtain ⟨c3,c4⟩:=single hy hsy hagy;rw[c1,c3] at hl;simp at hl;subst hl;refine ⟨v,hy,hsy,by simp[c2,c4],by simp[c2,c4,putL]⟩
 ·cases e
theorem qdd {sz:Nat}:∀ {us:List Value} {e:Nat} {u':Value} {j:Nat},(∀ u∈us,u.cells.size=sz)→u'.cells.size=sz→e < us.length→
 (flat (us.set e u'))[j]? = if e * sz≤j∧j < e * sz + sz then u'.cells.toList[j - e * sz]? else (flat us)[j]?
 | [],e,u',j,_,_,he=>by simp at he
 | v :: us,0,u',j,h,hu,_=>by
   have hl:v.cells.toList.length=sz:=by simpa using h v (List.mem_cons_self ..)
   have hl':u'.cells.toList.length=sz:=by simpa using hu
   rw[List.set_cons_zero,H9,H9]
   by_cases hj:j < sz
   ·rw[if_pos (by omega),List.getElem?_append_left (by omega)]; simp
   ·rw[if_neg (by omega),List.getElem?_append_right (by omega),List.getElem?_append_right (by omega),hl,hl']
 | v :: us,e + 1,u',j,h,hu,he=>by
   have hl:v.cells.toList.length=sz:=by simpa using h v (List.mem_cons_self ..)
   have hm:(e + 1) * sz=e * sz + sz:=by rw[Nat.add_mul]; omega
   rw[List.set_cons_succ,H9,H9]
   by_cases hj:j < sz
   ·rw[if_neg (by omega),List.getElem?_append_left (by omega),List.getElem?_append_left (by omega)]
   ·rw[List.getElem?_append_right (by omega),List.getElem?_append_right (by omega),hl,
     qdd (fun x hx=>h x (List.mem_cons_of_mem _ hx)) hu (by simpa using he)]
    by_cases hc:e * sz≤j - sz∧j - sz < e * sz + sz
    ·rw[if_pos hc,if_pos (by omega)]
     congr 1
     omega
    ·rw[if_neg hc,if_neg (by omega)]
def Xy (n:Nat) (x y:Opnd) (P:Program):Op→Bool
 | .store t x' y'=>okO x' x && okO y' y && Y1 P t n && decide (n≠0)
 | _=>false
theorem q00 {n x y} (hH:HRel ρ H h w) (hE:EnvRel B ds fx ρ H N env a) (hok:Xy n x y P o.op=true) (e:exec T cf i (.store n x y) (evO env) h=some r):f8 P o a w ρ H h i r:=by
 unfold Xy at hok;split at hok
 ·rename_i t x' y' hop;simp only[Bool.and_eq_true,decide_eq_true_eq] at hok;obtain ⟨⟨⟨h1,h2⟩,h3⟩,h4⟩:=hok;obtain ⟨vx,e1,e2⟩:=f7 e;obtain ⟨vy,e3,e4⟩:=f7 e2;have hx:=i7 hE h1 e1;have hy:=i7 hE h2 e3;unfold QZ at e4;split at e4
  ·rename_i l e' j;split at e4
   ·rename_i xs sz hl;split at e4
    ·rename_i x0 hx0;split at e4
     ·rename_i hn;simp only[Option.map_eq_some_iff] at e4;obtain ⟨x1,hp1,rfl⟩:=e4;have hsy:=KI hn h4;have hobj:=hH.objs l _ hl;have hx:D8 (ρ l) e' j (a.eval x'):=hx
      cases hp:ρ l with
      | at_ b base s size=>
        rw[hp] at hobj hx;obtain ⟨rfl,arr,elem,fr,us,hb,hsize,hv,hj,hs,hc,hty⟩:=hobj;obtain ⟨u,hu,hr⟩:=hv.get hx0;have hsx:=Zt (qjw hj hx0);obtain ⟨u',hu',hsx',hle,hcells⟩:=qko hr hsx hy hsy hp1;have hus:=hs u (List.mem_of_getElem? hu)
        have hus':u'.cells.size=s.c:=by
         rw[← Array.length_toList,hcells,qp,Array.length_toList]; exact hus
        have hlt:b < w.heap.size:=(Array.getElem?_eq_some_iff.1 hb).1;have hyl:=(hy.cells hsy).1.length
        have hysz:(a.eval y').cells.size=n:=by simp at hyl; omega
        have hel:e' < us.length:=(List.getElem?_eq_some_iff.1 hu).1
        have hflat:e' * s.c + s.c≤(flat us).length:=by
         rw[A7 hs];have:(e' + 1) * s.c≤us.length * s.c:=Nat.mul_le_mul_right _ hel;rw[Nat.add_mul] at this;omega
        have hin:base + (flat us).length≤arr.size:=by
         by_cases hz:(flat us).length=0
         ·omega
         ·have:=hc ((flat us).length - 1) _ (List.getElem?_eq_getElem (by omega));have:=(Array.getElem?_eq_some_iff.1 this).1;omega
        have hrun:(Instr.storeAt t (a.eval x') (a.eval y')).run P w = .ok () { w with heap:=w.heap.setIfInBounds b (.cells ⟨putL arr.toList (base + e' * s.c + j) (a.eval y').cells.toList⟩ elem (fr,fr)) }:=by
         rw[hx];simp only[Instr.storeAt,Instr.sureAddr,Sem.run_bind,Sem.run_pure,Result.andThen_ok,storeVar,Y1.run h3];rw[if_neg (by simp[hysz])];have q:=L9 (P:=P) b (base + e' * s.c + j) elem fr (a.eval y').cells.toList 0 arr.toList w hb (by simp; omega) (qg7 (hy.cells hsy).1 (hy.cells hsy).2);simp only[Nat.add_zero] at q;exact q
        have hw':w5 ρ H { w with heap:=w.heap.setIfInBounds b (.cells ⟨putL arr.toList (base + e' * s.c + j) (a.eval y').cells.toList⟩ elem (fr,fr)) } (.arr (xs.set e' x1) s) (ρ l):=by
         rw[hp];refine ⟨rfl,⟨putL arr.toList (base + e' * s.c + j) (a.eval y').cells.toList⟩,elem,fr,us.set e' u',?_,?_,hv.set e' hu',qa8 hj (xC hsx') e',?_,fun k v hk=>?_,hty⟩
         ·show (w.heap.setIfInBounds b _)[b]? = _;rw[Array.getElem?_setIfInBounds_self];simp[hlt]
         ·rw[← hsize]; simp[qp]
         ·intro q hq;rcases List.mem_or_eq_of_mem_set hq with h' | rfl
          ·exact hs q h'
          ·exact hus'
         ·rw[qdd hs hus' hel] at hk;rw[List.getElem?_toArray,xJ _ _ _ _ (by simp; omega)];simp only[Array.length_toList];split at hk
          ·rename_i hin2;rw[hcells,xJ _ _ _ _ (by simpa using hle)] at hk;simp only[Array.length_toList] at hk;split at hk
           ·rename_i hin3;rw[if_pos (by omega)]
            have:base + k - (base + e' * s.c + j)=k - e' * s.c - j:=by omega
            rw[this];exact hk
           ·rename_i hin3;rw[if_neg (by omega)];have q:=XR hs hu (j:=k - e' * s.c) (by omega);rw[hk] at q
            have:e' * s.c + (k - e' * s.c)=k:=by omega
            rw[this] at q
            simpa using hc k v q
          ·rw[if_neg (by omega)]
           simpa using hc k v hk
        obtain ⟨k1,k2⟩:=hH.write (w':={ w with heap:=w.heap.setIfInBounds b (.cells ⟨putL arr.toList (base + e' * s.c + j) (a.eval y').cells.toList⟩ elem (fr,fr)) }) (l:=l) (b:=b) (by rw[hp]; rfl) _ ⟨rfl,rfl,rfl,by simp⟩ (fun q hq=>by
         show (w.heap.setIfInBounds b _)[q]? = _
         rw[Array.getElem?_setIfInBounds_ne (Ne.symm hq)]) hw'
        refine f8.ofU ?_ ⟨k1,k2,j4.refl _,H8.refl _ _,⟨[],rfl,rfl⟩⟩;unfold execOp;simp only[hop,Sem.run_bind,hrun,Result.andThen_ok];rfl
      | none=>rw[hp] at hx; exact hx.elim
      | dead=>rw[hp] at hobj; exact hobj.elim
      | virt s=>rw[hp] at hx; exact hx.elim
      | blk q=>rw[hp] at hx; exact hx.elim
      | gl b1 b2 b3 b4 b5=>rw[hp] at hobj; exact hobj.elim
      | grw b1 b2 b3 b4 b5=>rw[hp] at hobj; exact hobj.elim
      | out _ _ _ _=>rw[hp] at hobj; exact hobj.elim
     ·cases e4
    ·cases e4
   ·cases e4
  ·cases e4
 ·cases hok
end
end Go.Rf

set_option linter.unusedSectionVars false
namespace Go.Rf
variable [Prg]
variable {B:Ice} {ds:List Deferred} {fx:List (Nat × Value)}
section
variable {P:Program} {T:Tab} {cf:CF} {o:Oper} {a:Act} {w:World} {ρ:Map} {H:Ice} {h:Loc→Option Obj} {i N:Nat} {env:List (Nat × V)} {r:R}
theorem WE {α β:Type} {f:α→Sem β} {g:α→β}:∀ (l:List α),(∀ x∈l,(f x).run P w = .ok (g x) w)→(l.mapM f).run P w = .ok (l.map g) w
 | [],_=>by simp
 | x :: l,hx=>by
   rw[List.mapM_cons,Sem.run_bind,hx x (List.mem_cons_self ..),Result.andThen_ok,Sem.run_bind,WE l (fun y hy=>hx y (List.mem_cons_of_mem _ hy)),Result.andThen_ok];rfl
theorem qfz:∀ (l:List Value) (k off:Nat) (cells:Array Value),(l.zipIdx k).foldl (fun cs (x:Value × Nat)=>cs.setIfInBounds (off + x.2) x.1) cells=⟨putL cells.toList (off + k) l⟩
 | [],k,off,cells=>rfl
 | x :: l,k,off,cells=>by
   rw[List.zipIdx_cons,List.foldl_cons,qfz l (k + 1) off];simp only[putL,Array.toList_setIfInBounds,Nat.add_assoc]
theorem qb0 (v cells:Array Value) (off:Nat):v.zipIdx.foldl (fun cs (x:Value × Nat)=>cs.setIfInBounds (off + x.2) x.1) cells=⟨putL cells.toList off v.toList⟩:=by
 rw[← Array.foldl_toList,Array.toList_zipIdx,qfz,Nat.add_zero]
def Zk (place:Nat→Option (Nat × Nat)):List (Nat × Operand)→List (Nat × Nat × Opnd)→Bool
 | [],[]=>true
 | (k,x) :: xs,(off,n,y) :: ys=>decide (place k=some (off,n)) && decide (n≠0) && okO x y && Zk place xs ys
 | _,_=>false
theorem qdh (hE:EnvRel B ds fx ρ H N env a) {place:Nat→Option (Nat × Nat)}:∀ {xs:List (Nat × Operand)} {ys:List (Nat × Nat × Opnd)} {ps:List (Nat × Nat × V)} {cs cs':List V} {vs:List Value},
 Zk place xs ys=true→evp (evO env) ys=some ps→f9 ρ H cs vs→cs.any J7=false→wH cs ps=some cs'→
 ∃ vs',Instr.fill place ⟨vs⟩ (xs.map fun x=>(x.1,a.eval x.2))=some ⟨vs'⟩∧f9 ρ H cs' vs'∧cs'.any J7=false
 | [],[],ps,cs,cs',vs,_,e,hv,hn,hp=>by
   cases e; cases hp;exact ⟨vs,rfl,hv,hn⟩
 | [],_ :: _,_,_,_,_,hk,_,_,_,_=>by simp[Zk] at hk
 | _ :: _,[],_,_,_,_,hk,_,_,_,_=>by simp[Zk] at hk
 | (k,x) :: xs,(off,n,y) :: ys,ps,cs,cs',vs,hk,e,hv,hn,hp=>by
   simp only[Zk,Bool.and_eq_true,decide_eq_true_eq] at hk;obtain ⟨⟨⟨h1,h2⟩,h3⟩,h4⟩:=hk;simp only[evp] at e;split at e
   ·rename_i v ps' e1 e2;cases e;have hx:=i7 hE h3 e1;simp only[wH] at hp;split at hp
    ·rename_i hc;obtain ⟨hc1,hc2⟩:=hc;have hsol:=KI hc1 h2;obtain ⟨kc,kn⟩:=hx.cells hsol;have hl:=kc.length;have hl2:=hv.length;simp only[Array.length_toList] at hl;rw[Xq] at hp;obtain ⟨vs',q1,q2,q3⟩:=qdh hE h4 e2 (hv.putL off kc) (qee off hn kn) hp;refine ⟨vs',?_,q2,q3⟩;simp only[List.map_cons,Instr.fill,h1];rw[if_neg (by simp; omega),qb0];exact q1
    ·cases hp
   ·cases e
def KS (P:Program) (fs:Array Field):Array (Nat × Nat):=⟨fs.toList.map fun (f:Field)=>(f.offset,P.cellsOf f.type)⟩
theorem qot {fs:Array Field} (hf:fs.toList.all (fun f=>(P.info? f.type).isSome)=true) :
 (fs.mapM fun (f:Field)=>(do pure (f.offset,← sizeOf f.type):Sem (Nat × Nat))).run P w = .ok (KS P fs) w:=by
 rw[Array.mapM_eq_mapM_toList,Sem.run_map]
 have:=WE (P:=P) (w:=w) (f:=fun f:Field=>(do pure (f.offset,← sizeOf f.type):Sem (Nat × Nat))) (g:=fun f=>(f.offset,P.cellsOf f.type)) fs.toList (fun f hfm=>by
  obtain ⟨inf,hi⟩:=Option.isSome_iff_exists.1 (List.all_eq_true.1 hf f hfm);simp only[Sem.run_bind,run_sizeOf w hi,Result.andThen_ok]
  rfl)
 rw[this];rfl
def qcj (z:D) (parts:List (Nat × Nat × Opnd)) (own:List (Nat × W)) (P:Program):Op→Bool
 | .build t ps=>(T2 P t z && Y3 z) && (match P.underlying t with
   | some (.struct fs)=>fs.toList.all (fun f=>(P.info? f.type).isSome) && Zk (fun k=>(KS P fs).toList[k]?) ps.toList parts
   | some (.array _ e)=>(match P.info? e with | some inf=>Zk (fun k=>some (k * inf.size,inf.size)) ps.toList parts | none=>false)
   | _=>false) && wI.ownOkT P t own
 | _=>false
theorem q1e {z parts own} (hH:HRel ρ H h w) (hE:EnvRel B ds fx ρ H N env a) (hN:∀ k,ρ (.n i k) = .none) (hok:qcj z parts own P o.op=true) (e:exec T cf i (.build z parts own) (evO env) h=some r):f8 P o a w ρ H h i r:=by
 unfold qcj at hok;split at hok
 ·rename_i t ps hop;simp only[Bool.and_eq_true] at hok;obtain ⟨⟨⟨h1,h2⟩,h3⟩,h4⟩:=hok;obtain ⟨v,hz,hr⟩:=T2.run h1 w;obtain ⟨pv,e1,e2⟩:=f7 e
  cases e0:kZ i 0 own (.d z) with
  | mk x wr=>
  simp only[e0] at e2;obtain ⟨cs,e3,e4⟩:=f7 e2;cases e4;obtain ⟨ρ',p1,p2,p3,p4,p5,p6,_⟩:=qb5 (k:=0) hH (fun j _=>hN j) (x:=.d z) (hr H) rfl (qa9 hz h4) e0;obtain ⟨kc,kn⟩:=j9.cells p5 p6;have hE':=hE.mono p3 (fun _ _ _ e=>e);have hvc:(⟨v.cells.toList⟩:Array Value)=v.cells:=rfl
  have go:∀ vs',f9 ρ' H cs vs'→cs.any J7=false→(Instr.build t (ps.map fun (i,x)=>(i,a.eval x))).run P w = .ok (.agg ⟨vs'⟩) w→f8 P o a w ρ H h i (.ok { v:=wJ cs,wr:=wr }):=fun vs' q2 q3 hr=>by
   refine f8.of (v:=.agg ⟨vs'⟩) ?_ ⟨p1,p2,p3,p4,Jv q2 q3⟩;unfold execOp;simp only[hop,Sem.run_bind,hr,Result.andThen_ok];rfl
  have hps:(ps.map fun (x:Nat × Operand)=>(x.1,a.eval x.2)).toList=ps.toList.map fun x=>(x.1,a.eval x.2):=by simp
  split at h3
  ·rename_i fs hu;simp only[Bool.and_eq_true] at h3;obtain ⟨vs',q1,q2,q3⟩:=qdh hE' h3.2 e1 kc kn e3;refine go vs' q2 q3 ?_;unfold Instr.build;simp only[Sem.run_bind,hz,run_underlying hu,Result.andThen_ok,qot h3.1];rw[hps,← hvc]
   have hpl:(fun (k:Nat)=>(KS P fs)[k]?)=fun (k:Nat)=>(KS P fs).toList[k]?:=by funext k; simp
   rw[hpl,q1];rfl
  ·rename_i len el hu;split at h3
   ·rename_i inf hi;obtain ⟨vs',q1,q2,q3⟩:=qdh hE' h3 e1 kc kn e3;refine go vs' q2 q3 ?_;unfold Instr.build
    have hsz:(sizeOf el).run P w = .ok inf.size w:=by rw[run_sizeOf w hi,Program.cellsOf,hi]; rfl
    simp only[Sem.run_bind,hz,run_underlying hu,Result.andThen_ok,hsz];rw[hps,← hvc,q1];rfl
   ·cases h3
  ·cases h3
 ·cases hok
end
end Go.Rf

set_option linter.unusedSectionVars false
namespace Go.Rf
variable [Prg]
variable {B:Ice} {ds:List Deferred} {fx:List (Nat × Value)}
section
variable {P:Program} {T:Tab} {cf:CF} {o:Oper} {a:Act} {w:World} {ρ:Map} {H:Ice} {h:Loc→Option Obj} {i N:Nat} {env:List (Nat × V)} {r:R}
theorem qgf (zv:Value) (sz len:Nat) (hz:zv.cells.size=sz):(madeCells zv.cells (len * sz)).toList=flat (List.replicate len zv):=by
 have hs:∀ u∈List.replicate len zv,u.cells.size=sz:=fun u hu=>by rw[List.eq_of_mem_replicate hu]; exact hz
 apply List.ext_getElem?;intro j
 by_cases hj:j < len * sz
 ·have hsz:0 < sz:=by
   rcases Nat.eq_zero_or_pos sz with h | h
   ·rw[h] at hj; simp at hj
   ·exact h
  have he:j / sz < len:=(Nat.div_lt_iff_lt_mul hsz).2 hj;have h1:=XR hs (e:=j / sz) (u:=zv) (j:=j % sz) (by simp[he]) (Nat.mod_lt _ hsz)
  have h2:j / sz * sz + j % sz=j:=by rw[Nat.mul_comm]; exact Nat.div_add_mod j sz
  rw[h2] at h1;rw[h1]
  have hm:j % sz < zv.cells.size:=by rw[hz]; exact Nat.mod_lt _ hsz
  simp[madeCells,hj,hz];rw[getElem!_pos zv.cells _ (by rw[hz]; exact Nat.mod_lt _ hsz)];simp[hm]
 ·rw[List.getElem?_eq_none,List.getElem?_eq_none]
  ·rw[A7 hs]; simp; omega
  ·simp[madeCells]; omega
theorem qmf {sz:Nat} {us:List Value} {e:Nat} {u':Value} (h:∀ u∈us,u.cells.size=sz) (hu:u'.cells.size=sz) (he:e < us.length) :
 flat (us.set e u')=putL (flat us) (e * sz) u'.cells.toList:=by
 apply List.ext_getElem?;intro j;have hle:(e + 1) * sz≤us.length * sz:=Nat.mul_le_mul_right _ he;rw[Nat.add_mul] at hle;rw[qdd h hu he,xJ _ _ _ _ (by rw[A7 h]; simp[hu]; omega)];simp only[Array.length_toList,hu]
theorem f9.replicate {x:V} {v:Value} (k:j9 ρ H x v):∀ n,f9 ρ H (List.replicate n x) (List.replicate n v)
 | 0=>rfl
 | n + 1=>⟨v,List.replicate n v,rfl,k,f9.replicate k n⟩
def Js (n:Nat):List (Nat × Operand)→List (Nat × Opnd)→Bool
 | [],[]=>true
 | (k,x) :: xs,(k',y) :: ys=>decide (k=k') && okO x y && Js n xs ys
 | _,_=>false
theorem qgt (hE:EnvRel B ds fx ρ H N env a) {n:W} (hn:n.c≠0):∀ {ps:List (Nat × Operand)} {qs:List (Nat × Opnd)} {es:List (Nat × V)} {xs xs':List V} {us:List Value},
 Js n.c ps qs=true→evq (evO env) qs=some es→f9 ρ H xs us→xs.any w5.isJunk=false→(∀ u∈us,u.cells.size=n.c)→xF n xs es=some xs'→
 ∃ us',Instr.fill (fun i=>some (i * n.c,n.c)) ⟨flat us⟩ (ps.map fun x=>(x.1,a.eval x.2))=some ⟨flat us'⟩∧f9 ρ H xs' us'∧xs'.any w5.isJunk=false∧(∀ u∈us',u.cells.size=n.c)
 | [],[],es,xs,xs',us,_,e,hv,hj,hs,hp=>by
   cases e; cases hp;exact ⟨us,rfl,hv,hj,hs⟩
 | [],_ :: _,_,_,_,_,hk,_,_,_,_,_=>by simp[Js] at hk
 | _ :: _,[],_,_,_,_,hk,_,_,_,_,_=>by simp[Js] at hk
 | (k,x) :: ps,(k',y) :: qs,es,xs,xs',us,hk,e,hv,hj,hs,hp=>by
   simp only[Js,Bool.and_eq_true,decide_eq_true_eq] at hk;obtain ⟨⟨rfl,h2⟩,h3⟩:=hk;simp only[evq] at e;split at e
   ·rename_i v es' e1 e2;cases e;have hx:=i7 hE h2 e1;simp only[xF] at hp;split at hp
    ·rename_i hc;obtain ⟨hc1,hc2⟩:=hc;have hsol:=KI hc1 hn;have hl:=(hx.cells hsol).1.length;have hl2:=hv.length;simp only[Array.length_toList] at hl
     have hus:(a.eval x).cells.size=n.c:=by omega
     have hke:k < us.length:=by omega
     obtain ⟨us',q1,q2,q3,q4⟩:=qgt hE hn h3 e2 (hv.set k hx) (qa8 hj (xC hsol) k) (fun u hu=>by
      rcases List.mem_or_eq_of_mem_set hu with h' | rfl
      ·exact hs u h'
      ·exact hus) hp
     refine ⟨us',?_,q2,q3,q4⟩;have hle:(k + 1) * n.c≤us.length * n.c:=Nat.mul_le_mul_right _ hke;rw[Nat.add_mul] at hle;simp only[List.map_cons,Instr.fill];rw[if_neg (by simp[hus,A7 hs]; omega),qb0];rw[qmf hs hus hke] at q1;exact q1
    ·cases hp
   ·cases e
def Km (n:W) (z:D) (len:Nat) (parts:List (Nat × Opnd)) (P:Program):Op→Bool
 | .buildSlice t len' ps=>L1 P t n && decide (len'=len) && decide (n.c≠0) && decide (len * n.c≤16777216) && (match P.underlying t with | some (.slice e)=>T2 P e z | _=>false) &&
   Js n.c ps.toList parts
 | _=>false
theorem qtu {n z len parts} (hH:HRel ρ H h w) (hE:EnvRel B ds fx ρ H N env a) (hN:∀ k,ρ (.n i k) = .none) (hok:Km n z len parts P o.op=true) (e:exec T cf i (.buildSl n z len parts) (evO env) h=some r):f8 P o a w ρ H h i r:=by
 unfold Km at hok;split at hok
 ·rename_i t len' ps hop;simp only[Bool.and_eq_true,decide_eq_true_eq] at hok;obtain ⟨⟨⟨⟨⟨h1,rfl⟩,h2⟩,h3⟩,h4⟩,h5⟩:=hok;obtain ⟨el,inf,hu,hi,hsz,hby,hsi⟩:=L1.get h1;rw[hu] at h4;obtain ⟨zv,hz,hzr⟩:=T2.run h4 w;obtain ⟨es,e1,e2⟩:=f7 e;split at e2
  ·rename_i hc;obtain ⟨hc1,hc2⟩:=hc;obtain ⟨xs,e3,e4⟩:=f7 e2;cases e4
   have hzc:zv.cells.size=n.c:=by
    have:=(j9.cells (ρ:=ρ) (x:=.d z) (hzr H) rfl).1.length
    have h2:z.cells.length=(V.cells (.d z)).length:=by cases z <;> simp[D.cells,V.cells]
    simp at this;omega
   have hv0:f9 ρ H (List.replicate len' (.d z)) (List.replicate len' zv):=f9.replicate (x:=.d z) (v:=zv) (hzr H) len'
   obtain ⟨us',q1,q2,q3,q4⟩:=qgt hE h2 h5 e1 hv0 (by
    rw[List.any_eq_false]; intro x hx; rw[List.eq_of_mem_replicate hx]; simp[w5.isJunk]) (fun u hu=>by rw[List.eq_of_mem_replicate hu]; exact hzc) e3
   have hxl:xs.length=len':=by
    have:∀ {es:List (Nat × V)} {xs xs':List V},xF n xs es=some xs'→xs'.length=xs.length:=by
     intro es
     induction es with
     | nil=>intro xs xs' h; cases h; rfl
     | cons p es ih=>
       intro xs xs' h;obtain ⟨k,v⟩:=p;simp only[xF] at h;split at h
       ·rw[ih h]; simp
       ·cases h
    rw[this e3]; simp
   have hul:us'.length=len':=by rw[← q2.length]; exact hxl
   obtain ⟨k1,k2,k3⟩:=QA hH (hN 0) q2 q3 q4 ⟨flat us'⟩ (fun j v hj=>by simpa using hj) el (fun hw=>absurd hw (by have:=L1.small h1; omega));refine f8.of (v:=.slice (some ⟨w.heap.size,0,Option.none⟩) len' len') ?_ ⟨k1,k2,k3,H8.upd 0 _,?_⟩
   ·unfold execOp
    have hmade:(Array.range (len' * n.c)).map (zv.cells[· % zv.cells.size]!)=⟨flat (List.replicate len' zv)⟩:=by
     apply Array.toList_inj.1;exact qgf zv n.c len' hzc
    have hps:(ps.map fun (x:Nat × Operand)=>(x.1,a.eval x.2)).toList=ps.toList.map fun x=>(x.1,a.eval x.2):=by simp
    have hrun:(Instr.buildSlice t len' (ps.map fun (x:Nat × Operand)=>(x.1,a.eval x.2))).run P w = .ok (.slice (some ⟨w.heap.size,0,Option.none⟩) len' len') { w with heap:=w.heap.push (.cells ⟨flat us'⟩ el (0,0)) }:=by
     unfold Instr.buildSlice;simp only[Sem.run_bind,run_underlying hu,Result.andThen_ok,Y1.run hsi];rw[if_neg (by omega)]
     by_cases hl0:len' * n.c=0
     ·simp only[hl0,if_true,Sem.run_pure,Result.andThen_ok,Sem.run_bind];rw[hps]
      have h00:(Array.range 0).map ((#[]:Array Value)[· % (#[]:Array Value).size]!)=⟨flat (List.replicate len' zv)⟩:=by
       rw[← hmade,hl0]; simp
      rw[h00,q1];rfl
     ·simp only[hl0,if_false,Sem.run_bind,hz,Result.andThen_ok,Sem.run_pure];rw[hps,hmade,q1];rfl
    simp only[hop,Sem.run_bind,hrun,Result.andThen_ok];rfl
   ·show A3 (B5 ρ (.n i 0) _ _) _ _ _ _;rw[m7];refine ⟨rfl,len',by simp,Nat.le_refl _,hc2,?_,?_,fun hw=>absurd hw (by have:=L1.small h1; omega)⟩
    ·simp[A7 q4,hul]
    ·have:len' * 1≤len' * n.c:=Nat.mul_le_mul_left _ (Nat.pos_of_ne_zero h2);unfold w8;omega
  ·cases e2
 ·cases hok
def qax (n:W) (z:D) (len cap:Opnd) (P:Program):Op→Bool
 | .makeSlice t l c=>L1 P t n && decide (n.c≠0) && decide (n.w≠0) && (match P.underlying t with | some (.slice e)=>T2 P e z | _=>false) && okO l len && okO c cap
 | _=>false
theorem T2.info {t:TypeId} {z:D} (hz:T2 P t z=true):∃ inf v,P.info? t=some inf∧inf.zero=some v ∧ ∀ H,I3 H z v:=by
 unfold T2 at hz;split at hz
 ·rename_i inf hi;split at hz
  ·rename_i v hv;simp only[Bool.and_eq_true] at hz;exact ⟨inf,v,hi,hv,fun H=>wV z v hz.1⟩
  ·cases hz
 ·cases hz
theorem qwv {n z len cap} (hH:HRel ρ H h w) (hE:EnvRel B ds fx ρ H N env a) (hN:∀ k,ρ (.n i k) = .none) (hok:qax n z len cap P o.op=true) (e:exec T cf i (.mkSl n z len cap) (evO env) h=some r):f8 P o a w ρ H h i r:=by
 unfold qax at hok;split at hok
 ·rename_i t lo co hop;simp only[Bool.and_eq_true,decide_eq_true_eq] at hok;obtain ⟨⟨⟨⟨⟨h1,h2⟩,h3⟩,h4⟩,h5⟩,h6⟩:=hok;obtain ⟨el,inf,hu,hi,hsz,hby,hsi⟩:=L1.get h1;rw[hu] at h4;obtain ⟨inf',zv,hi',hz,hzr⟩:=T2.info h4
  have:inf'=inf:=by rw[hi] at hi'; injection hi' with q; exact q.symm
  subst this;obtain ⟨vl,e1,e2⟩:=f7 e;obtain ⟨vc,e3,e4⟩:=f7 e2;split at e4
  ·rename_i l c el' ec';obtain ⟨kl,hl⟩:=xj (i7 hE h5 e1) el';obtain ⟨kc,hc⟩:=xj (i7 hE h6 e3) ec';split at e4
   ·rename_i hcond;obtain ⟨c1,c2,c3⟩:=hcond
    have hpos:1≤n.w:=by omega
    have hcap:c≤281474976710656:=by
     have:c * 1≤c * n.w:=Nat.mul_le_mul_left _ hpos;unfold w8 at c3;omega
    have hb':(inf'.bytes:Int) * (c:Int)≤281474976710656:=by
     have h7:((n.w * c:Nat):Int)≤281474976710656:=by
      rw[Nat.mul_comm]; unfold w8 at c3; omega
     rw[hby]
     rwa [Int.natCast_mul] at h7
    have hrun:=run_make (P:=P) w t el inf' zv hu hi hz kl kc (l:Int) (c:Int) (by omega) (by omega) hb' (by omega);simp only[Int.toNat_natCast,hsz] at hrun;cases e4
    have hzc:zv.cells.size=n.c:=by
     have:=(j9.cells (ρ:=ρ) (x:=.d z) (hzr H) rfl).1.length
     have h2:z.cells.length=(V.cells (.d z)).length:=by cases z <;> simp[D.cells,V.cells]
     simp at this;omega
    have hmade:madeCells zv.cells (c * n.c)=⟨flat (List.replicate c zv)⟩:=Array.toList_inj.1 (qgf zv n.c c hzc)
    have hsub:∀ (j:Nat) (v:Value),(flat (List.replicate l zv))[j]? = some v→(madeCells zv.cells (c * n.c))[j]? = some v:=by
     intro j v hj;rw[hmade]
     have:flat (List.replicate c zv)=flat (List.replicate l zv)++flat (List.replicate (c - l) zv):=by
      rw[← qx,List.replicate_append_replicate]
      congr 2
      omega
     rw[List.getElem?_toArray,this,List.getElem?_append_left (List.getElem?_eq_some_iff.1 hj).1];exact hj
    obtain ⟨k1,k2,k3⟩:=QA hH (hN 0) (f9.replicate (x:=.d z) (v:=zv) (hzr H) l) (sz:=n) (by
     rw[List.any_eq_false]; intro x hx; rw[List.eq_of_mem_replicate hx]; simp[w5.isJunk]) (fun u hu=>by rw[List.eq_of_mem_replicate hu]; exact hzc) (madeCells zv.cells (c * n.c)) hsub el (fun hw=>absurd hw (by have:=L1.small h1; omega))
    refine f8.of (v:=.slice (some ⟨w.heap.size,0,Option.none⟩) l c) ?_ ⟨k1,k2,k3,H8.upd 0 _,?_⟩
    ·unfold execOp;simp only[hop,Sem.run_bind,hl,hc,hrun,Result.andThen_ok];rfl
    ·show A3 (B5 ρ (.n i 0) _ _) _ _ _ _;rw[m7];refine ⟨rfl,c,by simp,c1,Nat.le_trans (Nat.mul_le_mul_right _ c1) c3,?_,?_,fun hw=>absurd hw (by have:=L1.small h1; omega)⟩
     ·simp[size_madeCells]
     ·have:c * 1≤c * n.w:=Nat.mul_le_mul_left _ hpos;omega
   ·cases e4
  ·cases e4
 ·cases hok
end
end Go.Rf

set_option linter.unusedSectionVars false
namespace Go.Rf
variable [Prg]
variable {B:Ice} {ds:List Deferred} {fx:List (Nat × Value)}
section
variable {P:Program} {T:Tab} {cf:CF} {o:Oper} {a:Act} {w:World} {ρ:Map} {H:Ice} {h:Loc→Option Obj} {i N:Nat} {env:List (Nat × V)} {r:R}
structure Row (ρ:Map) (H:Ice) (w:World) (m:List Loc) (ys:List V) (us:List Value) (v:Value):Prop where
 rel:f9 ρ H ys us
 junk:ys.any w5.isJunk=false
 lies:∃ ad c,v = .slice ad ys.length c∧(ys≠[]→∃ b off sz,ad=some ⟨b,off,Option.none⟩∧(∀ u∈us,u.cells.size=sz) ∧
  (∀ j u,(flat us)[j]? = some u→w.cell? ⟨b,off + j,Option.none⟩=some u))
theorem qg1 {y:V} {v:Value} {ys:List V} {m:List Loc} (hH:HRel ρ H h w) (hv:j9 ρ H y v) (e:F7 h y=some (ys,m)) :
 (∃ s,y = .d (.str s)∧ys=s.map (fun b=>V.d (.int .u8 b.toNat))∧m=[]) ∨ ∃ us,Row ρ H w m ys us v:=by
 unfold F7 at e;split at e
 ·rename_i xs;cases e;obtain ⟨ad,c,rfl,hc,hl,hrow⟩:=hv
  by_cases hx:xs=[]
  ·subst hx;exact .inr ⟨[],rfl,rfl,ad,c,rfl,fun h=>absurd rfl h⟩
  ·obtain ⟨b,off,sz,us,rfl,hus,hs,hcell⟩:=hrow hx;refine .inr ⟨us,hus.toV,by rw[List.any_eq_false]; intro x hx; obtain ⟨y,_,rfl⟩:=List.mem_map.1 hx; simp[w5.isJunk],some ⟨b,off,Option.none⟩,c,by simp,fun _=>⟨b,off,sz,rfl,hs,fun j u hj=>hH.ice _ _ _ (hcell j u hj)⟩⟩
 ·rename_i s;cases e;exact .inl ⟨s,rfl,rfl,rfl⟩
 ·rename_i l sz off len;split at e
  ·rename_i xs sz' hl;split at e
   ·rename_i hle;cases e;have hobj:=hH.objs l _ hl;have hv:A3 (ρ l) sz off len v:=hv
    cases hp:ρ l with
    | none=>rw[hp] at hv; exact hv.elim
    | dead=>rw[hp] at hobj; exact hobj.elim
    | virt s=>
      rw[hp] at hobj hv;obtain ⟨rfl,_⟩:=hobj;obtain ⟨_,rfl,rfl,rfl⟩:=hv;exact .inr ⟨[],rfl,rfl,Option.none,0,rfl,fun h=>absurd rfl h⟩
    | at_ b base s size=>
      rw[hp] at hobj hv;obtain ⟨rfl,arr,elem,fr,us,hb,hsize,hus,hj,hs,hc,_⟩:=hobj;obtain ⟨rfl,c,rfl,_,_,_⟩:=hv
      have hlen:((xs.drop off).take len).length=len:=by rw[List.length_take,List.length_drop]; omega
      refine .inr ⟨(us.drop off).take len,(hus.drop off).take len,qed (qef hj off) len,some ⟨b,base + off * s.c,Option.none⟩,c,by rw[hlen],fun _=>⟨b,_,s.c,rfl,fun u hu=>hs u (List.mem_of_mem_drop (List.mem_of_mem_take hu)),fun j u hju=>?_⟩⟩;have q:=Qc hju;rw[Jx off hs,List.getElem?_drop] at q;have:=hc _ _ q;simp only[World.cell?,hb]
      simpa [Nat.add_assoc] using this
    | blk q=>rw[hp] at hv; exact hv.elim
    | out _ _ _ _=>rw[hp] at hv; exact hv.elim
    | gl b1 b2 b3 b4 b5=>rw[hp] at hobj; exact hobj.elim
    | grw b1 b2 b3 b4 b5=>rw[hp] at hobj; exact hobj.elim
   ·cases e
  ·cases e
 ·cases e
theorem qd1:∀ (s:List UInt8),qZ (s.map fun b=>V.d (.int .u8 b.toNat))=some s
 | []=>rfl
 | b :: s=>by
   simp only[List.map_cons,qZ,qd1 s,Option.map_some];simp
def qpi (x:Opnd) (P:Program):Op→Bool
 | .convert src dst x'=>okO x' x && (match P.underlying src with | some (.slice e)=>(match P.underlying e with | some (.int .u8)=>true | _=>false) | _=>false) && (match P.underlying dst with | some .string=>true | _=>false)
 | _=>false
theorem qaf:∀ {ys:List V} {us:List Value} {s:List UInt8},qZ ys=some s→f9 ρ H ys us→∃ ns:List Int,us=ns.map (Value.int .u8)∧s=ns.map (fun n=>UInt8.ofNat n.toNat)∧flat us=us
 | [],us,s,e,k=>by cases e; cases k; exact ⟨[],rfl,rfl,rfl⟩
 | y :: ys,us,s,e,k=>by
   obtain ⟨u,us',rfl,k1,k2⟩:=k
   cases y with
   | d x=>
     cases x with
     | int q n=>
       cases q with
       | u8=>
         simp only[qZ,Option.map_eq_some_iff] at e;obtain ⟨s',e1,rfl⟩:=e;obtain ⟨ns,rfl,rfl,h3⟩:=qaf e1 k2;have hu:u = .int .u8 n:=k1;subst hu;exact ⟨n :: ns,rfl,rfl,by rw[H9,h3]; rfl⟩
       | _=>cases e
     | _=>cases e
   | _=>cases e
theorem qb1:∀ (ns:List Int) (acc:List UInt8),ns.foldl (fun r n=>r.push (UInt8.ofNat n.toNat)) (⟨acc.toArray⟩:ByteArray)=⟨(acc++ns.map (fun n=>UInt8.ofNat n.toNat)).toArray⟩
 | [],acc=>by simp
 | n :: ns,acc=>by
   rw[List.foldl_cons]
   have:(⟨acc.toArray⟩:ByteArray).push (UInt8.ofNat n.toNat)=⟨(acc++[UInt8.ofNat n.toNat]).toArray⟩:=by
    apply ByteArray.ext;simp[ByteArray.push]
   rw[this,qb1 ns];simp
theorem qus {y:V} {v:Value} {ys:List V} {m:List Loc} (hv:j9 ρ H y v) (e:F7 h y=some (ys,m)) (hs:kg y=false):ys.length≤w8:=by
 unfold F7 at e;split at e
 ·rename_i xs;cases e;obtain ⟨ad,c,rfl,hc,hl,hrow⟩:=hv;have:=Nat.mul_le_mul_left xs.length (qhm xs);simp only[List.length_map];omega
 ·cases hs
 ·rename_i l sz off len;split at e
  ·split at e
   ·rename_i hle;cases e;have hlen:=List.length_take_le len (List.drop off ‹List V›);have hv:A3 (ρ l) sz off len v:=hv
    have:len≤w8:=by
     cases hp:ρ l with
     | none=>rw[hp] at hv; exact hv.elim
     | dead=>rw[hp] at hv; obtain ⟨_,_,_,_,_,_,h3⟩:=hv; exact h3
     | virt s=>rw[hp] at hv; obtain ⟨_,_,rfl,_⟩:=hv; exact Nat.zero_le _
     | at_ b base s size=>rw[hp] at hv; obtain ⟨_,c,_,h1,_,_,h3,_⟩:=hv; omega
     | blk q=>rw[hp] at hv; exact hv.elim
     | out _ _ _ _=>rw[hp] at hv; exact hv.elim
     | gl b1 b2 b3 b4 b5=>rw[hp] at hv; obtain ⟨_,c,_,h1,_,_,h3,_⟩:=hv; omega
     | grw b1 b2 b3 b4 b5=>rw[hp] at hv; obtain ⟨_,c,_,h1,_,_,h3,_⟩:=hv; omega
    omega
   ·cases e
  ·cases e
 ·cases e
theorem zgn {x} (hH:HRel ρ H h w) (hE:EnvRel B ds fx ρ H N env a) (hok:qpi x P o.op=true) (e:exec T cf i (.conv .b2s x) (evO env) h=some r):f8 P o a w ρ H h i r:=by
 unfold qpi at hok;split at hok
 ·rename_i src dst x' hop;simp only[Bool.and_eq_true] at hok;obtain ⟨⟨h1,h2⟩,h3⟩:=hok;obtain ⟨v,e1,e2⟩:=f7 e;have hx:=i7 hE h1 e1
  obtain ⟨el,hu1,hu2⟩:∃ el,P.underlying src=some (.slice el)∧P.underlying el=some (.int .u8):=by
   split at h2
   ·rename_i el hu;split at h2
    ·rename_i hu2; exact ⟨el,hu,hu2⟩
    ·cases h2
   ·cases h2
  have hu3:P.underlying dst=some .string:=by
   split at h3
   ·assumption
   ·cases h3
  have e2:(bnd (F7 h v) fun (xs,m)=>bnd (qZ xs) fun s=>some (R.ok { v:=.d (.str s),rd:=m }))=some r:=by
   cases v <;> first | exact e2 | (rename_i x; cases x <;> exact e2)
  obtain ⟨⟨ys,m⟩,e3,e4⟩:=f7 e2;obtain ⟨s,e5,e6⟩:=f7 e4;cases e6;rcases qg1 hH hx e3 with ⟨s',rfl,rfl,rfl⟩ | ⟨us,hrow⟩
  ·rw[qd1] at e5;cases e5;obtain ⟨hv,hl⟩:=(hx:a.eval x' = .string ⟨s.toArray⟩∧s.length≤long);refine f8.pure (x:=.d (.str s)) (v:=.string ⟨s.toArray⟩) ?_ hH ⟨rfl,hl⟩;unfold execOp;simp only[hop,hv,convert,Sem.run_bind,run_underlying hu1,run_underlying hu3,Result.andThen_ok];rfl
  ·have hstr:kg v=false:=by
    cases hb:kg v with
    | false=>rfl
    | true=>
      exfalso
      obtain ⟨ad,c,hv,_⟩:=hrow.lies;unfold kg at hb;split at hb
      ·obtain ⟨hv',_⟩:=hx;rw[hv] at hv'; cases hv'
      ·cases hb
   obtain ⟨ns,rfl,rfl,hflat⟩:=qaf e5 hrow.rel;have hlen:=hrow.rel.length;obtain ⟨ad,c,hv,hl⟩:=hrow.lies;refine f8.pure (x:=.d (.str (ns.map fun n=>UInt8.ofNat n.toNat))) (v:=.string ⟨(ns.map fun n=>UInt8.ofNat n.toNat).toArray⟩) ?_ hH ⟨rfl,?_⟩ m
   ·unfold execOp;simp only[hop,hv,Sem.run_bind,run_convert_bytes_string w src dst el ad _ c hu1 hu2 hu3]
    by_cases hy:ys=[]
    ·subst hy
     have:ns=[]:=by cases ns <;> simp at hlen ⊢
     subst this
     cases ad with
     | none=>rfl
     | some q=>
       rw[run_bytesToString w q _ c [] (by simp[loadCells,loadCellsFrom])];rfl
    ·obtain ⟨b,off,sz,rfl,hs,hc⟩:=hl hy;rw[hflat] at hc;have hld:=run_loadCells_list (P:=P) w ⟨b,off,Option.none⟩ (ns.map (Value.int .u8)) (fun j v hj=>by rw[W3]; exact hc j v hj);rw[← hlen] at hld;rw[run_bytesToString w _ _ c ns hld,Result.andThen_ok];have:=qb1 ns [];simp only[List.nil_append] at this;have h0:(ByteArray.empty)=⟨([]:List UInt8).toArray⟩:=rfl;rw[h0,this];rfl
   ·have:=qus hx e3 hstr;simp only[List.length_map] at hlen ⊢;unfold w8 at this;unfold long;omega
 ·cases hok
end
end Go.Rf

set_option linter.unusedSectionVars false
namespace Go.Rf
variable [Prg]
section
variable {P:Program} {T:Tab} {cf:CF} {o:Oper} {a:Act} {w:World} {ρ:Map} {H:Ice} {h:Loc→Option Obj} {i N:Nat} {env:List (Nat × V)} {r:R}
theorem Wi {ys:List V} {us:List Value} (k:f9 ρ H ys us) (hj:ys.any w5.isJunk=false):∀ u∈flat us,u.oneCell'=true:=by
 induction ys generalizing us with
 | nil=>cases k; intro u hu; cases hu
 | cons y ys ih=>
   obtain ⟨v,vs',rfl,k1,k2⟩:=k;simp only[List.any_cons,Bool.or_eq_false_iff] at hj;intro u hu;rw[H9] at hu;rcases List.mem_append.1 hu with hu | hu
   ·have:=k1.cells (Zt hj.1);exact qg7 this.1 this.2 u hu
   ·exact ih k2 hj.2 u hu
theorem q6w {n:W} {tx:TypeId} {ys:List V} {us:List Value} {m:List Loc} {v:Value} (hk:(∃ e',P.underlying tx=some (.slice e'))∨P.underlying tx=some .string) (k:Row ρ H w m ys us v)
 (hs:∀ u∈us,u.cells.size=n.c) (hys:ys≠[]→True):Src P n.c tx v ys.length (flat us) w∧Builtin.lenOf v=Sem.pure ys.length:=by
 obtain ⟨ad,c,rfl,hl⟩:=k.lies;have hlen:=k.rel.length
 have hfl:(flat us).length=ys.length * n.c:=by rw[A7 hs,hlen]
 refine ⟨?_,rfl⟩
 by_cases hy:ys=[]
 ·subst hy;have hus:us=[]:=List.eq_nil_of_length_eq_zero (by simpa using hlen.symm);subst hus
  have hf:∀ w':World,(Builtin.firstCells n.c 0 (.slice ad 0 c)).run P w' = .ok #[] w':=by
   intro w'
   cases ad with
   | none=>simp[Builtin.firstCells]
   | some q=>simp[Builtin.firstCells,loadCells,loadCellsFrom]
  exact ⟨hk,fun _=>rfl,hf w,hf w.drew,by simp[flat],fun _ h=>by cases h⟩
 ·obtain ⟨b,off,sz,rfl,_,hc⟩:=hl hy
  exact ⟨hk,fun _=>rfl,run_firstCells_some w n.c _ _ _ _ _ hfl (fun j u hj=>by rw[W3]; exact hc j u hj),
   run_firstCells_some w.drew n.c _ _ _ _ _ hfl (fun j u hj=>by rw[W3]; exact hc j u hj),hfl,Wi k.rel k.junk⟩
def Qv (P:Program) (t:TypeId) (n:W):Bool:=match P.underlying t with
 | some (.slice e)=>match P.info? e with
   | some i=>decide (i.size=n.c) && (decide (i.bytes=n.w) && decide (n.w < 1000000) || decide (e + 1000000=n.w) && decide (i.bytes < 1000000) && decide (0 < i.bytes) && decide (n.c=1))
   | none=>false
 | _=>false
theorem Qv.get {t n} (hs:Qv P t n=true) (h0:n.w≠0):∃ e inf,P.underlying t=some (.slice e)∧P.info? e=some inf∧inf.size=n.c∧inf.bytes≤n.w∧0 < inf.bytes∧(1000000≤n.w→e + 1000000=n.w∧n.c=1):=by
 unfold Qv at hs;split at hs
 ·rename_i e hu;split at hs
  ·rename_i inf hi;simp only[Bool.and_eq_true,Bool.or_eq_true,decide_eq_true_eq] at hs;refine ⟨e,inf,hu,hi,hs.1,?_⟩;rcases hs.2 with h | h
   ·exact ⟨by omega,by omega,fun hw=>absurd hw (by omega)⟩
   ·obtain ⟨⟨⟨a,b⟩,c⟩,d⟩:=h;have:1000000≤n.w:=a ▸ Nat.le_add_left _ _;exact ⟨by omega,c,fun _=>⟨a,d⟩⟩
  ·cases hs
 ·cases hs
def Kn (n:W) (x:Option Opnd) (y:Opnd) (P:Program):Op→Bool
 | .call c=>(match c.callee with | .builtin .append=>true | _=>false) && (match c.args.toList,c.argTypes.toList with
   | [x',y'],[t,tx]=>(match x with | some x=>okO x' x | none=>(match x' with | .const (.slice none 0 0)=>true | _=>false)) && okO y' y && Qv P t n && decide (n.c≠0) && decide (n.w≠0) &&
     (match P.underlying tx with | some (.slice _) | some .string=>true | _=>false) &&
     (match P.underlying t with | some (.slice e)=>(match P.info? e with | some inf=>(match inf.zero with | some z=>decide (z.cells.size=n.c) | none=>false) | none=>false) | _=>false)
   | _,_=>false)
 | _=>false
structure Addend (P:Program) (ρ:Map) (H:Ice) (w:World) (n:W) (tx:TypeId) (m:List Loc) (ys:List V) (us:List Value) (v:Value):Prop where
 rel:f9 ρ H ys us
 junk:ys.any w5.isJunk=false
 size:∀ u∈us,u.cells.size=n.c
 src:Src P n.c tx v ys.length (flat us) w
 len:Builtin.lenOf v=Sem.pure ys.length
theorem Wx {n:W} (hn:n.c≠0) {tx:TypeId} {y:V} {v:Value} {ys:List V} {m:List Loc} (hH:HRel ρ H h w) (hv:j9 ρ H y v) (e:F7 h y=some (ys,m))
 (hall:ys.all (fun v=>v.cells.length == n.c)=true) (hk:(∃ e',P.underlying tx=some (.slice e'))∨P.underlying tx=some .string):∃ us,Addend P ρ H w n tx m ys us v:=by
 have hys:∀ y∈ys,y.cells.length=n.c:=fun y hy=>by simpa using List.all_eq_true.1 hall y hy
 rcases qg1 hH hv e with ⟨s,rfl,rfl,rfl⟩ | ⟨us,k⟩
 ·obtain ⟨rfl,hl⟩:=(hv:v = .string ⟨s.toArray⟩∧s.length≤long)
  have hrel:∀ s:List UInt8,f9 ρ H (s.map fun b=>V.d (.int .u8 b.toNat)) (s.map fun b=>Value.int .u8 b.toNat):=by
   intro s
   induction s with
   | nil=>rfl
   | cons b s ih=>exact ⟨_,_,rfl,rfl,ih⟩
  have hflat:∀ s:List UInt8,flat (s.map fun b=>Value.int .u8 b.toNat)=s.map fun b=>Value.int .u8 b.toNat:=by
   intro s
   induction s with
   | nil=>rfl
   | cons b s ih=>rw[List.map_cons,H9,ih]; rfl
  have hn1:s=[]∨n.c=1:=by
   cases s with
   | nil=>exact .inl rfl
   | cons b s=>exact .inr (hys _ (List.mem_cons_self ..)).symm
  have hb:byteCells ⟨s.toArray⟩=s.map fun b=>Value.int .u8 b.toNat:=rfl
  refine ⟨s.map fun b=>Value.int .u8 b.toNat,hrel s,?_,?_,?_,?_⟩
  ·rw[List.any_eq_false]; intro x hx; obtain ⟨y,_,rfl⟩:=List.mem_map.1 hx; simp[w5.isJunk]
  ·intro u hu;obtain ⟨b,hbm,rfl⟩:=List.mem_map.1 hu;rcases hn1 with rfl | hn1
   ·cases hbm
   ·rw[hn1]; rfl
  ·rw[hflat,List.length_map]
   have hf:∀ w':World,(Builtin.firstCells n.c s.length (.string ⟨s.toArray⟩)).run P w' = .ok (s.map fun b=>Value.int .u8 b.toNat).toArray w':=by
    intro w';have:=firstCells_string (P:=P) ⟨s.toArray⟩ w';rw[xv] at this;exact this
   refine ⟨hk,fun _=>?_,hf w,hf w.drew,?_,fun u hu=>?_⟩
   ·show Result.ok _ _=_;rw[xv]
   ·rcases hn1 with rfl | hn1
    ·simp
    ·rw[hn1]; simp
   ·obtain ⟨b,_,rfl⟩:=List.mem_map.1 hu; rfl
  ·rw[List.length_map];show Sem.pure _=_;rw[xv]
 ·have hlen:=k.rel.length
  have hs:∀ u∈us,u.cells.size=n.c:=by
   intro u hu;obtain ⟨j,hj⟩:=List.getElem?_of_mem hu
   have hjl:j < ys.length:=by rw[hlen]; exact (List.getElem?_eq_some_iff.1 hj).1
   obtain ⟨u',h1,h2⟩:=k.rel.get (List.getElem?_eq_getElem hjl);rw[hj] at h1;cases h1;have hc:=hys _ (List.getElem_mem hjl);have:=(h2.cells (KI hc hn)).1.length;simp only[Array.length_toList] at this;omega
  obtain ⟨s1,s2⟩:=q6w (n:=n) (tx:=tx) hk k hs (fun _=>trivial);exact ⟨us,k.rel,k.junk,hs,s1,s2⟩
end
end Go.Rf

set_option linter.unusedSectionVars false
namespace Go.Rf
variable [Prg]
section
variable {P:Program} {T:Tab} {cf:CF} {o:Oper} {a:Act} {w:World} {ρ:Map} {H:Ice} {h:Loc→Option Obj} {i N:Nat} {env:List (Nat × V)} {r:R}
theorem qbq (t tx ty e:TypeId) (inf:TypeInfo) (ht:P.underlying t=some (.slice e)) (hi:P.info? e=some inf) (b off sLen sCap:Nat) (x:Value) (n:Nat) (news:List Value) (hs:Src P inf.size tx x n news w)
 (hroom:sLen + n≤sCap) (w':World) (hst:(storeCells ⟨b,off + sLen * inf.size,Option.none⟩ news).run P w = .ok () w') :
 (Builtin.append_ #[t,tx] ty #[.slice (some ⟨b,off,Option.none⟩) sLen sCap,x]).run P w = .ok (.slice (some ⟨b,off,Option.none⟩) (sLen + n) sCap) w':=by
 rcases hs.kind with ⟨e',hk⟩ | hk <;> simp[Builtin.append_,run_underlying ht,run_underlying hk,sizeOf,typeInfo,hi,hs.len,hroom,hs.cells,W3,hst]
theorem qky (t tx ty e:TypeId) (inf:TypeInfo) (ht:P.underlying t=some (.slice e)) (hi:P.info? e=some inf) (x:Value) (news:List Value) (hs:Src P inf.size tx x 0 news w) :
 (Builtin.append_ #[t,tx] ty #[.slice Option.none 0 0,x]).run P w = .ok (.slice Option.none 0 0) w:=by
 rcases hs.kind with ⟨e',hk⟩ | hk <;> simp[Builtin.append_,run_underlying ht,run_underlying hk,sizeOf,typeInfo,hi,hs.len,hs.cells]
theorem qea {n:W} {e:TypeId} (hw1:1000000≤n.w→e + 1000000=n.w∧n.c=1) (hw0:n.w≠0) {xs:List V} {us:List Value} (hH:HRel ρ H h w) {l:Loc} (hl:ρ l = .none) (hv:f9 ρ H xs us) (hj:xs.any w5.isJunk=false) (hs:∀ u∈us,u.cells.size=n.c)
 (z:Array Value) (hz:z.size=n.c) (need cap:Nat) (hn:xs.length=need) (hnc:need≤cap) (hfit:need * n.w≤w8) :
 ∃ ρ',HRel ρ' H (F5 h l (some (.arr xs n))) (w.drew.alloc (.cells ((flat us).toArray++Builtin.zeroCells z (cap - need)) e)) ∧
   Trans ρ H w ρ' H (w.drew.alloc (.cells ((flat us).toArray++Builtin.zeroCells z (cap - need)) e))∧j4 ρ ρ'∧(∀ l',l'≠l→ρ' l' = ρ l') ∧
   A3 (ρ' l) n 0 need (.slice (some ⟨w.heap.size,0,Option.none⟩) need cap):=by
 have hd:=hH.drawn (w.drawn + 1)
 obtain ⟨k1,k2,k3⟩:=QA hd hl hv hj hs ((flat us).toArray++Builtin.zeroCells z (cap - need)) (fun j v hjv=>by
  have:=(List.getElem?_eq_some_iff.1 hjv).1;rw[Array.getElem?_append_left (by simpa using this)]
  simpa using hjv) e (fun hw=>⟨(hw1 hw).1,fun hne=>absurd (hw1 hw).2 hne⟩)
 refine ⟨_,k1,(Trans.drawn ρ H w (w.drawn + 1)).trans k2,k3,fun l' hl'=>n6 hl',?_⟩;rw[m7]
 have hsz:((flat us).toArray++Builtin.zeroCells z (cap - need)).size=cap * n.c:=by
  simp only[Array.size_append,List.size_toArray,size_zeroCells,hz,A7 hs,← hv.length,hn];rw[← Nat.add_mul]
  congr 1
  omega
 refine ⟨rfl,cap,by simp,hnc,hfit,?_,?_,fun _=>⟨rfl,rfl,hsz.symm⟩⟩
 ·simp only[Array.size_append,List.size_toArray,size_zeroCells,hz,A7 hs,← hv.length,hn];rw[Nat.zero_add,Nat.zero_add,← Nat.add_mul]
  have:need + (cap - need)=cap:=by omega
  rw[this];exact Nat.le_refl _
 ·have:need * 1≤need * n.w:=Nat.mul_le_mul_left _ (Nat.pos_of_ne_zero hw0);omega
theorem qh3 {P:Program} {o:Oper} {a:Act} {w w':World} {v:Value} {c:Call} {x y:Operand} {t tx:TypeId} (hop:o.op = .call c) (hc:c.callee = .builtin .append) (ha:c.args = #[x,y]) (ht:c.argTypes = #[t,tx])
 (h:(Builtin.append_ #[t,tx] o.type #[a.eval x,a.eval y]).run P w = .ok v w'):(execOp a.eval o).run P w = .ok (.value v) w':=by
 unfold execOp;simp only[hop,resolve,hc,ha,ht,invoke,builtin];rw[Sem.run_bind];show Result.andThen (.ok _ w) _=_;rw[Result.andThen_ok];simp only[List.map_toArray,List.map_cons,List.map_nil];rw[Sem.run_bind,h];rfl
end
end Go.Rf
