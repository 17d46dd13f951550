/- Parts of the proof: RfOpH, RfLol, RfLol2, RfLol3. -/
import Derived.Test.YtjlnfdabdhkgcaaGreatDoorRg4

set_option linter.unusedSimpArgs false
set_option linter.unusedVariables false
set_option linter.unnecessarySimpa false
set_option linter.unusedSectionVars false
set_option linter.all false
namespace Go.Rf
variable {B:Ice} {ds:List Deferred} {fx:List (Nat × Value)}
section
variable {P:Program} {T:Tab} {cf:CF} {o:Oper} {a:Act} {w:World} {ρ:Map} {H:Ice} {h:Loc→Option Obj} {i N:Nat} {env:List (Nat × V)} {r:R}
def qqj (P:Program) (t:TypeId):Bool:=match P.underlying t with
 | some (.pointer _)=>false
 | some _=>true
 | none=>false
def qqa (P:Program) (name:String) (t:TypeId) (f:FuncId) (p:Option (Nat × Nat × Bool)):Bool:=
 qB P f && match P.info? t with
 | some info=>match info.methods.find? (·.name == name) with
   | some m=>m.func == some (f,false) && match m.path.toList,p with
     | [],none=>qqj P t
     | [s],some (off,n,ag)=>!s.deref && (match P.underlying s.struct with
       | some (.struct fs)=>match fs[s.index]? with
         | some fd=>decide (fd.offset=off) && Qi P fd.type n ag && qqj P fd.type
         | none=>false
       | _=>false)
     | _,_=>false
   | none=>false
 | none=>false
def qop (m:List (TypeId × FuncId × Option (Nat × Nat × Bool))) (x:Opnd) (args:List (Opnd × Bool)) (P:Program):Op→Bool
 | .call c=>(match c.callee with | .invoke x' name=>okO x' x && m.all (fun y=>qqa P name y.1 y.2.1 y.2.2) | _=>false) && XH c.args.toList args
 | _=>false
theorem qct:∀ {m:List (TypeId × FuncId × Option (Nat × Nat × Bool))} {t y},wU m t=some y→(t,y)∈m
 | (t',r) :: l,t,y,e=>by
   unfold wU at e;split at e
   ·rename_i h; cases e; subst h; exact List.mem_cons_self ..
   ·exact List.mem_cons_of_mem _ (qct e)
theorem qkf {t:TypeId} {u:Value} {b:Option String} (h:qqj P t=true):(receiverAt t (.val u) false b).run P w = .ok u w:=by
 unfold qqj at h;unfold receiverAt
 cases hu:P.underlying t with
 | none=>rw[hu] at h; cases h
 | some d=>
   rw[Sem.run_bind,run_underlying hu,Result.andThen_ok];rw[hu] at h
   cases d <;> first | rfl | cases h
theorem Km {name t f p} {n:Nat} {u u':Value} (h:qqa P name t f p=true) (h0:p=none→u'=u)
 (h1:∀ off m ag,p=some (off,m,ag)→∃ vs,u = .agg ⟨vs⟩∧(ag=true→off + m≤vs.length∧u' = .agg ⟨(vs.drop off).take m⟩)∧(ag=false→vs[off]? = some u')) :
 (method (n + 1) t u name).run P w = .ok (f,u') w:=by
 unfold qqa at h;simp only[Bool.and_eq_true] at h;obtain ⟨_,h⟩:=h;split at h
 ·rename_i info hi;split at h
  ·rename_i m hm;simp only[Bool.and_eq_true,beq_iff_eq] at h;obtain ⟨hf,h⟩:=h;unfold method;rw[Sem.run_bind,run_typeInfo w hi,Result.andThen_ok];simp only[hm,hf];split at h
   ·rename_i hp;rw[h0 rfl,hp,Sem.run_bind];unfold follow;rw[Sem.run_pure,Result.andThen_ok];simp only[Sem.run_bind,qkf h,Result.andThen_ok,Sem.run_pure]
   ·rename_i s off k ag hp;simp only[Bool.and_eq_true,Bool.not_eq_true'] at h;obtain ⟨hd,h⟩:=h;split at h
    ·rename_i fs hu;split at h
     ·rename_i fd hfd;simp only[Bool.and_eq_true,decide_eq_true_eq] at h;obtain ⟨⟨rfl,ht⟩,hn⟩:=h;obtain ⟨vs,rfl,q1,q2⟩:=h1 _ _ _ rfl;rw[hp,Sem.run_bind];unfold follow;simp only[Sem.run_bind,run_underlying hu,Result.andThen_ok,hfd,hd,Bool.false_eq_true,if_false];rw[Yc fd.type fd.offset k ag ht vs u' q1 q2,Result.andThen_ok];unfold follow;simp only[Sem.run_pure,Result.andThen_ok,qkf hn]
     ·cases h
    ·cases h
   ·cases h
  ·cases h
 ·cases h
theorem zg8 {m x args} (hcf:ZU B P cf) (hH:HRel ρ H h w) (hE:EnvRel B ds fx ρ H N env a) (hN:∀ k,ρ (.n i k) = .none) (hok:qop m x args P o.op=true) (e:j4 T cf i (.inv m x args) (evO env) h=some r):f8 P o a w ρ H h i r:=by
 unfold qop at hok;split at hok
 ·rename_i c hop;simp only[Bool.and_eq_true] at hok;obtain ⟨h1,h3⟩:=hok;split at h1
  ·rename_i x' name hc;simp only[Bool.and_eq_true,List.all_eq_true] at h1;obtain ⟨hx',hm⟩:=h1;obtain ⟨v,e1,e2⟩:=d9 e;obtain ⟨vs,e3,e4⟩:=d9 e2;obtain ⟨⟨t,y⟩,e5,e6⟩:=d9 e4;obtain ⟨⟨f,p⟩,e7,e8⟩:=d9 e6;obtain ⟨u,hu,hy⟩:=XU (j9 hE hx' e1) e5;have hrow:=hm _ (qct e7)
   have hf:qB P f=true:=by
    unfold qqa at hrow;simp only[Bool.and_eq_true] at hrow;exact hrow.1
   have hrun:∀ u',(method (P.types.size + Made.depth) t u name).run P w = .ok (f,u') w→(execOp a.eval o).run P w = .ok (.enter f ⟨u' :: c.args.toList.map a.eval⟩) w:=fun u' hq=>by
    unfold execOp;simp only[hop,resolve,hc];rw[Sem.run_bind,Sem.run_pure,Result.andThen_ok]
    have h0:(#[a.eval x']++Array.map a.eval c.args)[0]? = some (.iface t u):=by
     rw[Array.getElem?_append_left (by simp)]; simp[hu]
    have h1:(#[a.eval x']++Array.map a.eval c.args).extract 1 (#[a.eval x']++Array.map a.eval c.args).size=Array.map a.eval c.args:=by
     apply Array.toList_inj.1; simp[List.take_of_length_le]
    simp only[invoke,h0,h1,callMethod];rw[Sem.run_bind,run_program,Result.andThen_ok,Sem.run_bind,hq,Result.andThen_ok];rw[zn hf]
    congr 2
    apply Array.toList_inj.1;simp
   have hd:P.types.size + Made.depth=(P.types.size + 99) + 1:=rfl
   cases p with
   | none=>exact xd (args:=(y,true) :: vs) (us:=u :: c.args.toList.map a.eval) hcf hE.base hH hN ⟨_,_,rfl,hy,qQ hE h3 e3⟩ e8 (hrun u (by rw[hd]; exact Km hrow (fun _=>rfl) (fun _ _ _ h=>by cases h)))
   | some q=>
     obtain ⟨off,n,ag⟩:=q;obtain ⟨y',e9,e10⟩:=d9 e8;unfold Yh at e9;split at e9
     case isFalse=>cases e9
     rename_i hag
     have hsol:jR y=true:=by cases y <;> first | rfl | cases hag
     obtain ⟨us,rfl⟩:∃ vs,u = .agg ⟨vs⟩:=by
      unfold Rf.isAgg at hag;split at hag
      ·obtain ⟨vs,hv,_⟩:=hy; exact ⟨vs,hv⟩
      ·obtain ⟨vs,hv,_⟩:=hy; exact ⟨vs,hv⟩
      ·cases hag
     obtain ⟨p1,p2,_⟩:=Yg hy hsol e9
     cases ag with
     | true=>
       obtain ⟨q1,q2⟩:=p1 rfl;exact xd (args:=(y',true) :: vs) (us:=_ :: c.args.toList.map a.eval) hcf hE.base hH hN ⟨_,_,rfl,q2,qQ hE h3 e3⟩ e10 (hrun _ (by rw[hd]; exact Km hrow (fun h=>by cases h) (fun _ _ _ h=>by cases h; exact ⟨_,rfl,fun _=>⟨by simpa [Value.cells] using q1,rfl⟩,(fun h=>by cases h)⟩)))
     | false=>
       obtain ⟨u',q1,q2,_⟩:=p2 rfl;exact xd (args:=(y',true) :: vs) (us:=_ :: c.args.toList.map a.eval) hcf hE.base hH hN ⟨_,_,rfl,q2,qQ hE h3 e3⟩ e10 (hrun _ (by rw[hd]; exact Km hrow (fun h=>by cases h) (fun _ _ _ h=>by cases h; exact ⟨_,rfl,(fun h=>by cases h),fun _=>q1⟩)))
  ·cases h1
 ·cases hok
def qw4 (P:Program) (t:TypeId) (s:Bool):Bool:=match P.underlying t,s with
 | some .string,true=>true
 | some (.int .i64),false=>true
 | _,_=>false
def qal (s:Bool):TypeDesc:=match s with | true=>.string | false=>.int .i64
theorem qh8 {t s} (h:qw4 P t s=true):P.underlying t=some (qal s):=by
 unfold qw4 at h;split at h
 ·rename_i hu; exact hu
 ·rename_i hu; exact hu
 ·cases h
theorem qyf (a b:List UInt8):((⟨a.toArray⟩:ByteArray) == ⟨b.toArray⟩)=(a == b):=by
 show (a.toArray == b.toArray)=_;simp
theorem qj7 {s:Bool} {x y:D} {u v:Value} (hx:qys x u) (hy:qys y v) (kx:zZ s x=true) (ky:zZ s y=true):Instr.sameNow (qal s) u v=some (J1 x y):=by
 unfold zZ at kx ky;split at kx
 ·split at ky
  ·rename_i a _ b;cases hx; cases hy;simp only[Instr.sameNow,J1,qal];rw[qyf]
  ·rename_i h; cases h
  ·cases ky
 ·split at ky
  ·rename_i h; cases h
  ·cases hx; cases hy;simp[Instr.sameNow,J1,qal]
  ·cases ky
 ·cases kx
theorem qqo {s:Bool} {x:D} {u:Value} (hx:Q6 H x u) (k:zZ s x=true):qys x u∧(u.cells = #[u])∧Instr.sameBits 10000 u u=true:=by
 unfold zZ at k;split at k
 ·have e:=hx.1;refine ⟨e,by rw[e]; rfl,by rw[e]; simp only[Instr.sameBits,qyf,beq_self_eq_true]⟩
 ·have e:u = .int .i64 _:=hx;refine ⟨e,by rw[e]; rfl,by rw[e]; simp[Instr.sameBits]⟩
 ·cases k
theorem qn5 {s:Bool} {x y:D} (kx:zZ s x=true) (ky:zZ s y=true) (h:J1 x y=true):x=y:=by
 unfold zZ at kx ky;split at kx
 ·split at ky
  ·simp only[J1,beq_iff_eq] at h; rw[h]
  ·rename_i h; cases h
  ·cases ky
 ·split at ky
  ·rename_i h; cases h
  ·simp only[J1,decide_true,Bool.true_and,beq_iff_eq] at h; rw[h]
  ·cases ky
 ·cases kx
theorem Ja {s:Bool} {x:D} {u:Value} (hx:qys x u) (kx:zZ s x=true):∀ {es:List (D × V)} {ents:List MapEntry} (n:Nat),All2 (qeh ρ H) es ents→es.all (fun e=>zZ s e.1)=true→
 (∃ j e y,Instr.findNow (qal s) u ents n=some (some (n + j,e.val))∧ents[j]? = some e∧YH es (J1 x)=some y∧m7 ρ H y e.val∧e.key=u ∧
  ∀ v u',m7 ρ H v u'→K7 v=false→All2 (qeh ρ H) (Yd es x v) (ents.modify j fun e=>{ e with key:=u,val:=u' })) ∨
 (Instr.findNow (qal s) u ents n=some none∧YH es (J1 x)=none ∧ ∀ v u' c,m7 ρ H v u'→K7 v=false→All2 (qeh ρ H) (Yd es x v) (ents++[{ key:=u,val:=u',born:=c }]))
 | _,_,n,.nil,_=>.inr ⟨rfl,rfl,fun v u' c h1 h2=>.cons ⟨hx,h1,h2⟩ .nil⟩
 | (k,v) :: es,e :: ents,n,.cons hr h,ha=>by
   simp only[List.all_cons,Bool.and_eq_true] at ha;simp only[YH,Yd,Instr.findNow,qj7 hx hr.1 kx ha.1]
   cases hs:J1 x k with
   | true=>
     have hk:x=k:=qn5 kx ha.1 hs
     have hu:e.key=u:=by
      have:=hr.1;subst hk
      cases x <;> first | exact this.trans hx.symm | exact hx.elim
     refine .inl ⟨0,e,v,rfl,rfl,by simp,hr.2.1,hu,fun v' u' h1 h2=>?_⟩;simp only[if_true,List.modify_zero_cons];exact .cons ⟨by subst hk; exact hx,h1,h2⟩ h
   | false=>
     simp only[Bool.false_eq_true,if_false];rcases Ja hx kx (n + 1) h ha.2 with ⟨j,e',y,g1,g2,g3,g4,g5,g6⟩ | ⟨g1,g2,g3⟩
     ·exact .inl ⟨j + 1,e',y,by rw[g1]; congr 3; omega,g2,g3,g4,g5,fun v' u' h1 h2=>.cons hr (g6 v' u' h1 h2)⟩
     ·exact .inr ⟨g1,g2,fun v' u' c h1 h2=>.cons hr (g3 v' u' c h1 h2)⟩
def qht (s:Bool) (z:D) (x k:Opnd) (P:Program):Op→Bool
 | .lookup t x' k' false=>okO x' x && okO k' k && (match P.underlying t with
   | some (.map key elem)=>qw4 P key s && V2 P elem z
   | _=>false)
 | _=>false
def qok (s:Bool) (x k v:Opnd) (P:Program):Op→Bool
 | .mapUpdate t x' k' v'=>okO x' x && okO k' k && okO v' v && (match P.underlying t with
   | some (.map key _)=>qw4 P key s
   | _=>false)
 | _=>false
theorem qbu {q:Nat} {es:List MapEntry} {clock:Nat} (hb:w.heap[q]? = some (.map ⟨es⟩ clock)):(getObj q).run P w = .ok (.map ⟨es⟩ clock) w:=by simp[getObj,Sem.run,hb]
theorem qka {q:Nat} {es:List MapEntry} {clock:Nat} (ob:Go.Obj) (hb:w.heap[q]? = some (.map ⟨es⟩ clock)):(setObj q ob).run P w = .ok () { w with heap:=w.heap.setIfInBounds q ob }:=by simp[setObj,Sem.run,hb]
theorem Zm {b:Bool} {t s n} {u:Value} (h:qw4 P t s=true):(Instr.checkKey b (n + 1) t u).run P w = .ok () w:=by
 unfold Instr.checkKey;rw[Sem.run_bind,run_underlying (qh8 h),Result.andThen_ok]
 cases s <;> rfl
theorem q57 {s z x k} (hH:HRel ρ H h w) (hE:EnvRel B ds fx ρ H N env a) (hok:qht s z x k P o.op=true) (e:j4 T cf i (.look s z x k) (evO env) h=some r):f8 P o a w ρ H h i r:=by
 unfold qht at hok;split at hok
 ·rename_i t x' k' hop;simp only[Bool.and_eq_true] at hok;obtain ⟨⟨h1,h2⟩,h3⟩:=hok;split at h3
  ·rename_i key elem hu;simp only[Bool.and_eq_true] at h3;obtain ⟨h3,h4⟩:=h3;simp only[j4] at e;split at e
   ·rename_i l kd e1 e2;split at e
    ·rename_i es hl;split at e
     ·rename_i hk;simp only[kV,Bool.and_eq_true] at hk;cases e;have hx:xh (ρ l) (fun r=>.map (some r)) (a.eval x'):=j9 hE h1 e1;have hkey:Q6 H kd (a.eval k'):=j9 hE h2 e2;have hobj:=hH.objs l _ hl;obtain ⟨z',hz1,hz2⟩:=V2.run h4 w
      cases hp:ρ l with
      | blk q=>
        rw[hp] at hx hobj;obtain ⟨ents,clock,hb,hall⟩:=hobj;have hx:a.eval x' = .map (some q):=hx
        have pre:∀ v,(Instr.findKey key (a.eval k') ents).run P w = .ok v w→(execOp a.eval o).run P w = .ok (.value ((v.map (·.2)).getD z')) w:=fun v hv=>by
         unfold execOp;simp only[hop,hx,Instr.lookup,Sem.run_bind,run_underlying hu,Result.andThen_ok,qbu hb,Sem.run_pure,Zm h3,hv]
         cases v with
         | none=>simp only[Sem.run_bind,hz1,Result.andThen_ok,Sem.run_pure,Bool.false_eq_true,if_false]; rfl
         | some y=>simp only[Sem.run_pure,Result.andThen_ok,Bool.false_eq_true,if_false]; rfl
        have fk:∀ v,Instr.findNow (qal s) (a.eval k') ents 0=some v→(Instr.findKey key (a.eval k') ents).run P w = .ok v w:=fun v hv=>by
         unfold Instr.findKey;rw[Sem.run_bind,run_underlying (qh8 h3),Result.andThen_ok,hv];rfl
        rcases Ja (ρ:=ρ) (H:=H) (qqo hkey hk.1).1 hk.1 0 hall hk.2 with ⟨j,en,y,g1,g2,g3,g4,g5,g6⟩ | ⟨g1,g2,g3⟩
        ·rw[g3];exact f8.pure (pre _ (fk _ g1)) hH g4 [l]
        ·rw[g2];exact f8.pure (x:=.d z) (pre _ (fk _ g1)) hH (hz2 H) [l]
      | none=>rw[hp] at hx; exact hx.elim
      | dead=>rw[hp] at hobj; exact hobj.elim
      | virt s=>rw[hp] at hx; exact hx.elim
      | at_ b1 b2 b3 b4=>rw[hp] at hx; exact hx.elim
      | lol b1 b2 b3 b4 b5=>rw[hp] at hx; exact hx.elim
     ·cases e
    ·cases e
   ·cases e
  ·cases h3
 ·cases hok
theorem zg2 {s x k v} (hH:HRel ρ H h w) (hE:EnvRel B ds fx ρ H N env a) (hok:qok s x k v P o.op=true) (e:j4 T cf i (.upd s x k v) (evO env) h=some r):f8 P o a w ρ H h i r:=by
 unfold qok at hok;split at hok
 ·rename_i t x' k' v' hop;simp only[Bool.and_eq_true] at hok;obtain ⟨⟨⟨h1,h2⟩,h5⟩,h3⟩:=hok;split at h3
  ·rename_i key elem hu;simp only[j4] at e;split at e
   ·rename_i l kd vd e1 e2 e4;split at e
    ·rename_i es hl;split at e
     ·rename_i hk;simp only[kV,Bool.and_eq_true,Bool.not_eq_true'] at hk;obtain ⟨hk,hag⟩:=hk;cases e;have hx:xh (ρ l) (fun r=>.map (some r)) (a.eval x'):=j9 hE h1 e1;have hkey:Q6 H kd (a.eval k'):=j9 hE h2 e2;have hval:m7 ρ H vd (a.eval v'):=j9 hE h5 e4
      have hag':K7 vd=false:=by cases vd <;> first | rfl | cases hag | (rename_i x; cases x <;> first | rfl | cases hag)
      have hobj:=hH.objs l _ hl
      cases hp:ρ l with
      | blk q=>
        rw[hp] at hx hobj;obtain ⟨ents,clock,hb,hall⟩:=hobj;have hx:a.eval x' = .map (some q):=hx;have hlt:q < w.heap.size:=(Array.getElem?_eq_some_iff.1 hb).1;obtain ⟨hkr,_,hbits⟩:=qqo hkey hk.1
        have fk:∀ v,Instr.findNow (qal s) (a.eval k') ents 0=some v→(Instr.findKey key (a.eval k') ents).run P w = .ok v w:=fun v hv=>by
         unfold Instr.findKey;rw[Sem.run_bind,run_underlying (qh8 h3),Result.andThen_ok,hv];rfl
        have fin:∀ (ents':List MapEntry) (clock':Nat),All2 (qeh ρ H) (Yd es kd vd) ents'→(execOp a.eval o).run P w = .ok .skip { w with heap:=w.heap.setIfInBounds q (.map ⟨ents'⟩ clock') }→
         f8 P o a w ρ H h i (.ok { v:=.tup [],rd:=[l],wr:=[(l,some (.map (Yd es kd vd)))] }):=fun ents' clock' ha hr=>by
         obtain ⟨k1,k2⟩:=hH.write (w':={ w with heap:=w.heap.setIfInBounds q (.map ⟨ents'⟩ clock') }) (l:=l) (b:=q) (by rw[hp]; rfl) (.map (Yd es kd vd)) ⟨rfl,rfl,rfl,by simp⟩ (fun j hj=>by
          show (w.heap.setIfInBounds q _)[j]? = _
          rw[Array.getElem?_setIfInBounds_ne (Ne.symm hj)]) (by
          rw[hp];refine ⟨ents',clock',?_,ha⟩;show (w.heap.setIfInBounds q _)[q]? = _;rw[Array.getElem?_setIfInBounds_self]
          simp[hlt])
         exact f8.ofU hr ⟨k1,k2,n9.refl _,K4.refl _ _,⟨[],rfl,rfl⟩⟩
        rcases Ja (ρ:=ρ) (H:=H) hkr hk.1 0 hall hk.2 with ⟨j,en,y,g1,g2,g3,g4,g5,g6⟩ | ⟨g1,g2,g3⟩
        ·refine fin _ clock (g6 vd _ hval hag') ?_;unfold execOp;simp only[hop,hx,Instr.mapUpdate,Sem.run_bind,run_underlying hu,Result.andThen_ok,qbu hb,Sem.run_pure,Zm h3,fk _ g1]
         have hj:((⟨ents⟩:Array MapEntry)[0 + j]?.map (·.key)).getD (a.eval k')=a.eval k':=by simp[g2,g5]
         simp only[hj,Instr.keyThatStays,hbits,if_true,Sem.run_pure,Result.andThen_ok,qka _ hb];simp
        ·refine fin _ (clock + 1) (g3 vd _ clock hval hag') ?_;unfold execOp;simp only[hop,hx,Instr.mapUpdate,Sem.run_bind,run_underlying hu,Result.andThen_ok,qbu hb,Sem.run_pure,Zm h3,fk _ g1,qka _ hb];simp
      | none=>rw[hp] at hx; exact hx.elim
      | dead=>rw[hp] at hobj; exact hobj.elim
      | virt s=>rw[hp] at hx; exact hx.elim
      | at_ b1 b2 b3 b4=>rw[hp] at hx; exact hx.elim
      | lol b1 b2 b3 b4 b5=>rw[hp] at hx; exact hx.elim
     ·cases e
    ·cases e
   ·cases e
  ·cases h3
 ·cases hok
end
end Go.Rf

namespace Go.Rf
variable {B:Ice} {ds:List Deferred} {fx:List (Nat × Value)}
def qha (inn:List (Option (Nat × Nat × Nat))) (e:Nat):Place:=match inn[e]? with
 | some (some (b,c,s))=>.at_ b c ⟨1,8⟩ s
 | _=>.none
def Zd (ls:List (Option (List D))) (e:Nat):Option Obj:=match ls[e]? with
 | some (some (x :: xs))=>some (.arr (.d x :: xs.map .d) ⟨1,8⟩)
 | _=>none
def Yx (i e:Nat):Option (List D)→V
 | none=>.junk
 | some []=>.d .nils
 | some (_ :: xs)=>.ref (.n i (e + 1)) ⟨1,8⟩ 0 (xs.length + 1)
def Kd (i e:Nat):Option (List D)→Option Loc
 | some (_ :: _)=>some (.n i (e + 1))
 | _=>none
def X7 (i:Nat) (ls:List (Option (List D))):List V:=ls.mapIdx fun e x=>Yx i e x
def jj (i:Nat) (ls:List (Option (List D))):List (Option Loc):=ls.mapIdx fun e x=>Kd i e x
def jl (i:Nat):Loc→Option Nat
 | .n j (e + 1)=>if j=i then some e else none
 | _=>none
def KV (ρ:Map) (l:Loc) (i:Nat) (p:Place) (inn:List (Option (Nat × Nat × Nat))):Map:=fun l'=>if l'=l then p else match jl i l' with
 | some e=>qha inn e
 | none=>ρ l'
def Xa (h:Loc→Option Obj) (l:Loc) (i:Nat) (o:Obj) (ls:List (Option (List D))):Loc→Option Obj:=fun l'=>if l'=l then some o else match jl i l' with
 | some e=>Zd ls e
 | none=>h l'
theorem Zy {i:Nat} {l:Loc} {e:Nat} (h:jl i l=some e):l = .n i (e + 1):=by
 cases l with
 | b n=>cases h
 | n j k=>
   cases k with
   | zero=>cases h
   | succ k=>
     simp only[jl] at h;split at h
     ·cases h; subst_vars; rfl
     ·cases h
theorem JE (i e:Nat):jl i (.n i (e + 1))=some e:=by simp[jl]
theorem f9.of_get {ρ:Map} {H:Ice}:∀ {xs:List V} {us:List Value},xs.length=us.length→(∀ (e:Nat) x u,xs[e]? = some x→us[e]? = some u→m7 ρ H x u)→f9 ρ H xs us
 | [],[],_,_=>rfl
 | [],_ :: _,h,_=>by cases h
 | _ :: _,[],h,_=>by cases h
 | d :: ds,u :: us,h,k=>⟨u,us,rfl,k 0 d u rfl rfl,f9.of_get (by simpa using h) fun e d u h1 h2=>k (e + 1) d u (by simpa using h1) (by simpa using h2)⟩
theorem qdz:∀ {inn:List (Option (Nat × Nat × Nat))} {e e':Nat} {b c s c' s':Nat},(inn.filterMap (·.map (·.1))).Nodup→inn[e]? = some (some (b,c,s))→inn[e']? = some (some (b,c',s'))→e=e'
 | [],_,_,_,_,_,_,_,_,h,_=>by cases h
 | q :: inn,0,0,_,_,_,_,_,_,_,_=>rfl
 | q :: inn,0,e' + 1,b,c,s,c',s',hn,h1,h2=>by
   simp at h1 h2;subst h1;simp only[List.filterMap_cons,Option.map_some,List.nodup_cons] at hn;exact (hn.1 (List.mem_filterMap.2 ⟨_,List.mem_of_getElem? h2,rfl⟩)).elim
 | q :: inn,e + 1,0,b,c,s,c',s',hn,h1,h2=>by
   simp at h1 h2;subst h2;simp only[List.filterMap_cons,Option.map_some,List.nodup_cons] at hn;exact (hn.1 (List.mem_filterMap.2 ⟨_,List.mem_of_getElem? h1,rfl⟩)).elim
 | q :: inn,e + 1,e' + 1,b,c,s,c',s',hn,h1,h2=>by
   have:(inn.filterMap (·.map (·.1))).Nodup:=by
    cases q with
    | none=>simpa using hn
    | some q=>simp only[List.filterMap_cons,Option.map_some,List.nodup_cons] at hn; exact hn.2
   exact congrArg (· + 1) (qdz this (by simpa using h1) (by simpa using h2))
section
variable {ρ:Map} {H:Ice} {h:Loc→Option Obj} {w:World}
theorem HRel.none_of (hH:HRel ρ H h w) {l:Loc} (e:ρ l = .none):h l=none:=by
 cases ho:h l with
 | none=>rfl
 | some o=>
   have:=hH.objs l o ho;rw[e] at this
   cases o <;> exact this.elim
theorem Xl (hH:HRel ρ H h w) {i:Nat} (hN:∀ k,ρ (.n i k) = .none) {l:Loc} {ls:List (Option (List D))} {b base size:Nat} {s:W} {inn:List (Option (Nat × Nat × Nat))} (hl:h l=some (.lol ls)) (hp:ρ l = .lol b base s size inn) :
 HRel (KV ρ l i (.at_ b base s size) inn) H (Xa h l i (.arr (X7 i ls) s) ls) w∧Trans ρ H w (KV ρ l i (.at_ b base s size) inn) H w∧n9 ρ (KV ρ l i (.at_ b base s size) inn)∧K4 i ρ (KV ρ l i (.at_ b base s size) inn):=by
 have hln:∀ k,l ≠ .n i k:=fun k e=>by rw[e,hN] at hp; cases hp
 have hobj:=hH.objs l _ hl;rw[hp] at hobj;obtain ⟨hsm,hnd,hil,arr,elem,fr,us,hb,hsize,hul,hus,hc,hi⟩:=hobj;rw[List.nodup_cons] at hnd
 have hst:n9 ρ (KV ρ l i (.at_ b base s size) inn):=fun l' hl'=>by
  unfold KV;split
  ·rename_i h; subst h; rw[hp]; exact .inl rfl
  ·split
   ·rename_i e he; rw[Zy he] at hl'; exact (hl' (hN _)).elim
   ·exact .inl rfl
 have mself:KV ρ l i (.at_ b base s size) inn l = .at_ b base s size:=by simp[KV]
 have minn:∀ e,KV ρ l i (.at_ b base s size) inn (.n i (e + 1))=qha inn e:=fun e=>by simp[KV,Ne.symm (hln _),JE]
 have hself:Xa h l i (.arr (X7 i ls) s) ls l=some (.arr (X7 i ls) s):=by simp[Xa]
 have hinn:∀ e,Xa h l i (.arr (X7 i ls) s) ls (.n i (e + 1))=Zd ls e:=fun e=>by simp[Xa,Ne.symm (hln _),JE]
 have cases3:∀ l',l'=l∨(∃ e,l' = .n i (e + 1))∨(l'≠l∧jl i l'=none∧KV ρ l i (.at_ b base s size) inn l' = ρ l'∧Xa h l i (.arr (X7 i ls) s) ls l'=h l'):=fun l'=>by
  by_cases h1:l'=l
  ·exact .inl h1
  ·cases h2:jl i l' with
   | some e=>exact .inr (.inl ⟨e,Zy h2⟩)
   | none=>exact .inr (.inr ⟨h1,rfl,by simp[KV,h1,h2],by simp[Xa,h1,h2]⟩)
 have inner:∀ e x xs,ls[e]? = some (some (x :: xs))→∃ b' c' s' u,inn[e]? = some (some (b',c',s'))∧us[e]? = some u∧H0 (.at_ b' c' ⟨1,8⟩ s') ⟨1,8⟩ 0 (xs.length + 1) u∧qje H w (x :: xs) b' c' s':=fun e x xs he=>by
  have hlt:=(List.getElem?_eq_some_iff.1 he).1;have h1:=List.getElem?_eq_getElem (l:=inn) (i:=e) (by omega);have h2:=List.getElem?_eq_getElem (l:=us) (i:=e) (by omega);have:=hi e _ _ _ he h1 h2
  cases hq:inn[e] with
  | none=>rw[hq] at this; exact this.elim
  | some q=>obtain ⟨b',c',s'⟩:=q; rw[hq] at this h1; exact ⟨b',c',s',_,h1,h2,this⟩
 have inner':∀ e b' c' s',inn[e]? = some (some (b',c',s'))→∃ x xs,ls[e]? = some (some (x :: xs)):=fun e b' c' s' he=>by
  have hlt:=(List.getElem?_eq_some_iff.1 he).1;have h1:=List.getElem?_eq_getElem (l:=ls) (i:=e) (by omega);have h2:=List.getElem?_eq_getElem (l:=us) (i:=e) (by omega);have:=hi e _ _ _ h1 he h2
  cases hx:ls[e] with
  | none=>rw[hx] at this; exact this.elim
  | some xs=>
    rw[hx] at this
    cases xs with
    | nil=>exact this.elim
    | cons x xs=>exact ⟨x,xs,by rw[h1,hx]⟩
 have phas:∀ e b',(qha inn e).has b'→∃ c s,inn[e]? = some (some (b',c,s)):=fun e b' hh=>by
  unfold qha at hh;split at hh
  ·rename_i b1 c1 s1 he;have hh:b1=b':=hh;subst hh;exact ⟨c1,s1,he⟩
  ·exact hh.elim
 have lhas:∀ {e b' c s},inn[e]? = some (some (b',c,s))→(ρ l).has b':=fun {e b' c s'} he=>by rw[hp]; exact .inr ⟨c,s',List.mem_of_getElem? he⟩
 have bhas:(ρ l).has b:=by rw[hp]; exact .inl rfl
 refine ⟨⟨hH.ice,?_,?_,?_,?_⟩,⟨rfl,rfl,rfl,Nat.le_refl _,fun _ _ _=>⟨rfl,fun _=>rfl⟩,?_⟩,hst,?_⟩
 ·intro l' o ho;rcases cases3 l' with rfl | ⟨e,rfl⟩ | ⟨h1,h2,h3,h4⟩
  ·rw[hself] at ho;cases ho;rw[mself];refine ⟨rfl,arr,elem,fr,us,hb,hsize,f9.of_get (by simp[X7,hul]) fun e x u hx hu=>?_,?_,hus,hc,fun hw=>absurd hw (by omega)⟩
   ·simp only[X7,List.getElem?_mapIdx,Option.map_eq_some_iff] at hx;obtain ⟨y,hy,rfl⟩:=hx;obtain ⟨q,h1⟩:∃ q,inn[e]? = some q:=⟨_,List.getElem?_eq_getElem (by have:=(List.getElem?_eq_some_iff.1 hy).1; omega)⟩;have:=hi e _ _ _ hy h1 hu
    cases y with
    | none=>cases q with
      | none=>exact this
      | some q=>exact this.elim
    | some xs=>cases xs with
      | nil=>cases q with
        | none=>exact this
        | some q=>exact this.elim
      | cons x xs=>
        obtain ⟨b',c',s',u',g1,g2,g3,_⟩:=inner e x xs hy;rw[hu] at g2;cases g2;show H0 (KV _ _ _ _ _ (.n i (e + 1))) _ _ _ _;rw[minn,show qha inn e = .at_ b' c' ⟨1,8⟩ s' from by simp[qha,g1]];exact g3
   ·rw[List.any_eq_false];intro x hx;obtain ⟨e,he⟩:=List.getElem?_of_mem hx;simp only[X7,List.getElem?_mapIdx,Option.map_eq_some_iff] at he;obtain ⟨y,_,rfl⟩:=he
    rcases y with _ | (_ | _) <;> simp[Yx,z7.isJunk]
  ·rw[hinn] at ho;rw[minn];unfold Zd at ho;split at ho
   ·rename_i x xs he;cases ho;obtain ⟨b',c',s',u',g1,_,_,arr',elem',fr',us',k1,k2,k3,k4,k5⟩:=inner e x xs he;rw[show qha inn e = .at_ b' c' ⟨1,8⟩ s' from by simp[qha,g1]];refine ⟨rfl,arr',elem',fr',us',k1,k2,k3.toV,?_,k4,k5,fun hw=>absurd hw (by decide)⟩;rw[List.any_eq_false];intro y hy;simp only[List.mem_map,List.map_cons,List.mem_cons] at hy
    rcases hy with rfl | ⟨z,_,rfl⟩ <;> simp[z7.isJunk]
   ·cases ho
  ·rw[h4] at ho;rw[h3];exact (hH.objs l' o ho).mono hst (fun _ _ _ e=>e) (fun _ _=>rfl)
 ·intro l' ho;rcases cases3 l' with rfl | ⟨e,rfl⟩ | ⟨h1,h2,h3,h4⟩
  ·rw[hself] at ho; cases ho
  ·rw[hinn] at ho;rw[minn];left;unfold qha;split
   ·rename_i b' c' s' he;obtain ⟨x,xs,g⟩:=inner' e _ _ _ he;rw[Zd,g] at ho;cases ho
   ·rfl
  ·rw[h4] at ho; rw[h3]; exact hH.gone l' ho
 ·intro l1 l2 b' e1 e2
  rcases cases3 l1 with rfl | ⟨x1,rfl⟩ | ⟨h1,h2,h3,h4⟩ <;> rcases cases3 l2 with h' | ⟨x2,rfl⟩ | ⟨g1,g2,g3,g4⟩
  ·exact h'.symm
  ·rw[mself] at e1; rw[minn] at e2;obtain ⟨c,s',hq⟩:=phas _ _ e2;have e1:b=b':=e1;subst e1;exact (hnd.1 (List.mem_filterMap.2 ⟨_,List.mem_of_getElem? hq,rfl⟩)).elim
  ·rw[mself] at e1; rw[g3] at e2;have e1:b=b':=e1;subst e1;exact hH.inj _ _ _ bhas e2
  ·subst h';rw[mself] at e2; rw[minn] at e1;obtain ⟨c,s',hq⟩:=phas _ _ e1;have e2:b=b':=e2;subst e2;exact (hnd.1 (List.mem_filterMap.2 ⟨_,List.mem_of_getElem? hq,rfl⟩)).elim
  ·rw[minn] at e1 e2;obtain ⟨c1,s1,q1⟩:=phas _ _ e1;obtain ⟨c2,s2,q2⟩:=phas _ _ e2;rw[qdz hnd.2 q1 q2]
  ·rw[minn] at e1; rw[g3] at e2;obtain ⟨c1,s1,q1⟩:=phas _ _ e1;exact (g1 (hH.inj _ _ _ e2 (lhas q1))).elim
  ·subst h';rw[mself] at e2; rw[h3] at e1;have e2:b=b':=e2;subst e2;exact hH.inj _ _ _ e1 bhas
  ·rw[minn] at e2; rw[h3] at e1;obtain ⟨c1,s1,q1⟩:=phas _ _ e2;exact (h1 (hH.inj _ _ _ e1 (lhas q1))).elim
  ·rw[h3] at e1; rw[g3] at e2; exact hH.inj _ _ _ e1 e2
 ·intro l1 b' e1 o;rcases cases3 l1 with rfl | ⟨x1,rfl⟩ | ⟨h1,h2,h3,h4⟩
  ·rw[mself] at e1;have e1:b=b':=e1;subst e1;exact hH.sep _ _ bhas o
  ·rw[minn] at e1;obtain ⟨c1,s1,q1⟩:=phas _ _ e1;exact hH.sep _ _ (lhas q1) o
  ·rw[h3] at e1; exact hH.sep _ _ e1 o
 ·intro l1 b' e1;right;rcases cases3 l1 with rfl | ⟨x1,rfl⟩ | ⟨h1,h2,h3,h4⟩
  ·rw[mself] at e1;have e1:b=b':=e1;subst e1;exact ⟨_,bhas⟩
  ·rw[minn] at e1;obtain ⟨c1,s1,q1⟩:=phas _ _ e1;exact ⟨_,lhas q1⟩
  ·rw[h3] at e1; exact ⟨_,e1⟩
 ·intro l1 h1 h2;rcases cases3 l1 with rfl | ⟨x1,rfl⟩ | ⟨_,_,h3,h4⟩
  ·rw[hp] at h1; cases h1
  ·exact ⟨_,rfl⟩
  ·rw[h3] at h2; exact (h2 h1).elim
def WW (h:Loc→Option Obj) (v:V):Option (List D)→Option Loc→Prop
 | none,none=>K7 v=false
 | some [],none=>v = .d .nils
 | some (x :: xs),some l=>v = .ref l ⟨1,8⟩ 0 (xs.length + 1)∧h l=some (.arr (.d x :: xs.map .d) ⟨1,8⟩)
 | _,_=>False
structure Folds (h:Loc→Option Obj) (l:Loc) (xs:List V) (ls:List (Option (List D))) (ms:List (Option Loc)):Prop where
 l1:ls.length=xs.length
 l2:ms.length=xs.length
 el:∀ (e:Nat) v x m,xs[e]? = some v→ls[e]? = some x→ms[e]? = some m→WW h v x m
 nd:(ms.filterMap id).Nodup
 ne:some l ∉ ms
def qc9 (ρ:Map):Option Loc→Option (Nat × Nat × Nat)
 | none=>none
 | some l=>match ρ l with
   | .at_ b c _ s=>some (b,c,s)
   | _=>none
open Classical in
noncomputable def XX (ρ:Map) (l:Loc) (b base:Nat) (s:W) (size:Nat) (ms:List (Option Loc)):Map:=fun l'=>if l'=l then .lol b base s size (ms.map (qc9 ρ)) else if some l'∈ms then .dead else ρ l'
open Classical in
noncomputable def YG (h:Loc→Option Obj) (l:Loc) (ls:List (Option (List D))) (ms:List (Option Loc)):Loc→Option Obj:=fun l'=>if l'=l then some (.lol ls) else if some l'∈ms then none else h l'
theorem JF {m:Option Loc} {b c s:Nat} (e:qc9 ρ m=some (b,c,s)):∃ l,m=some l∧(ρ l).has b:=by
 cases m with
 | none=>cases e
 | some l=>
   refine ⟨l,rfl,?_⟩;simp only[qc9] at e;split at e
   ·rename_i hq; cases e; rw[hq]; rfl
   ·cases e
theorem KB (hinj:∀ l l' b,(ρ l).has b→(ρ l').has b→l=l'):∀ (ms:List (Option Loc)),(ms.filterMap id).Nodup→((ms.map (qc9 ρ)).filterMap (·.map (·.1))).Nodup
 | [],_=>by simp
 | m :: ms,hn=>by
   cases m with
   | none=>simpa [qc9] using KB hinj ms (by simpa using hn)
   | some l=>
     simp only[List.filterMap_cons,id,List.nodup_cons] at hn;have ih:=KB hinj ms hn.2;simp only[List.map_cons,List.filterMap_cons]
     cases hq:qc9 ρ (some l) with
     | none=>simpa using ih
     | some q=>
       obtain ⟨b,c,s⟩:=q;simp only[Option.map_some,List.nodup_cons];refine ⟨fun hm=>?_,ih⟩;obtain ⟨q',h1,h2⟩:=List.mem_filterMap.1 hm;obtain ⟨m',h3,h4⟩:=List.mem_map.1 h1
       cases q' with
       | none=>cases h2
       | some q'=>
         obtain ⟨b',c',s'⟩:=q';cases h2;obtain ⟨l1,e1,k1⟩:=JF hq;obtain ⟨l2,e2,k2⟩:=JF h4;cases e1;have:=hinj _ _ _ k1 k2;subst this;exact hn.1 (List.mem_filterMap.2 ⟨_,h3,by rw[e2]; rfl⟩)
theorem qs5 (hH:HRel ρ H h w) {l:Loc} {xs:List V} {ls:List (Option (List D))} {ms:List (Option Loc)} {b base size:Nat} {s:W} (hl:h l=some (.arr xs s)) (hp:ρ l = .at_ b base s size) (hs:s.w < 1000000) (F:Folds h l xs ls ms) :
 HRel (XX ρ l b base s size ms) H (YG h l ls ms) w∧Trans ρ H w (XX ρ l b base s size ms) H w∧n9 ρ (XX ρ l b base s size ms):=by
 have hst:n9 ρ (XX ρ l b base s size ms):=fun l' hl'=>by
  unfold XX;split
  ·rename_i h; subst h; rw[hp]; exact .inl rfl
  ·split
   ·exact .inr rfl
   ·exact .inl rfl
 have hobj:=hH.objs l _ hl;rw[hp] at hobj;obtain ⟨_,arr,elem,fr,us,hb,hsize,hus,hj,hz,hc,_⟩:=hobj
 have bhas:(ρ l).has b:=by rw[hp]; rfl
 have has3:∀ l' b',(XX ρ l b base s size ms l').has b'→(l'=l∧(b'=b ∨ ∃ l2,some l2∈ms∧(ρ l2).has b'))∨(l'≠l∧some l' ∉ ms∧(ρ l').has b'):=fun l' b' hh=>by
  unfold XX at hh;split at hh
  ·rename_i hl';refine .inl ⟨hl',?_⟩;rcases hh with hh | ⟨c,s',hm⟩
   ·exact .inl hh.symm
   ·obtain ⟨m,h1,h2⟩:=List.mem_map.1 hm;obtain ⟨l2,rfl,h3⟩:=JF h2;exact .inr ⟨l2,h1,h3⟩
  ·split at hh
   ·exact hh.elim
   ·rename_i h1 h2; exact .inr ⟨h1,h2,hh⟩
 refine ⟨⟨hH.ice,?_,?_,?_,?_⟩,⟨rfl,rfl,rfl,Nat.le_refl _,fun _ _ _=>⟨rfl,fun _=>rfl⟩,?_⟩,hst⟩
 ·intro l' o ho;unfold YG at ho;unfold XX;split at ho
  ·rename_i hll;cases ho;rw[if_pos hll];refine ⟨hs,?_,by simp[F.l1,F.l2],arr,elem,fr,us,hb,hsize,by rw[F.l1,hus.length],hz,hc,fun e x q u hx hq hu=>?_⟩
   ·rw[List.nodup_cons];refine ⟨fun hm=>?_,KB hH.inj ms F.nd⟩;obtain ⟨q',h1,h2⟩:=List.mem_filterMap.1 hm;obtain ⟨m',h3,h4⟩:=List.mem_map.1 h1
    cases q' with
    | none=>cases h2
    | some q'=>
      obtain ⟨b',c',s'⟩:=q';cases h2;obtain ⟨l2,e2,k2⟩:=JF h4;have:=hH.inj _ _ _ k2 bhas;subst this;exact F.ne (e2 ▸ h3)
   ·simp only[List.getElem?_map,Option.map_eq_some_iff] at hq;obtain ⟨m,hm,rfl⟩:=hq;obtain ⟨v,hv⟩:∃ v,xs[e]? = some v:=⟨_,List.getElem?_eq_getElem (by rw[← F.l1]; exact (List.getElem?_eq_some_iff.1 hx).1)⟩;obtain ⟨u',hu',hr⟩:=hus.get hv;rw[hu] at hu';cases hu';have:=F.el e _ _ _ hv hx hm
    cases x with
    | none=>cases m with
      | none=>exact m7.one hr this
      | some _=>exact this.elim
    | some ys=>cases ys with
      | nil=>cases m with
        | none=>have:=(this:v = .d .nils); subst this; exact hr
        | some _=>exact this.elim
      | cons y ys=>cases m with
        | none=>exact this.elim
        | some l2=>
          obtain ⟨rfl,h2⟩:=this;have ho2:=hH.objs l2 _ h2;have hr:H0 (ρ l2) _ _ _ _:=hr
          cases hq:ρ l2 with
          | at_ b2 c2 s2 z2=>
            rw[hq] at ho2 hr;obtain ⟨rfl,arr2,elem2,fr2,us2,k1,k2,k3,_,k4,k5,_⟩:=ho2;simp only[qc9,hq];exact ⟨hr,arr2,elem2,fr2,us2,k1,k2,f9.toD (ds:=y :: ys) k3,k4,k5⟩
          | virt s2=>rw[hq] at ho2; cases ho2.1
          | _=>rw[hq] at ho2; exact ho2.elim
  ·split at ho
   ·cases ho
   ·rename_i h1 h2;rw[if_neg h1,if_neg h2];exact (hH.objs l' o ho).mono hst (fun _ _ _ e=>e) (fun _ _=>rfl)
 ·intro l' ho;unfold YG at ho;unfold XX;split at ho
  ·cases ho
  ·rename_i h1;rw[if_neg h1];split at ho
   ·rename_i h2; rw[if_pos h2]; exact .inr rfl
   ·rename_i h2; rw[if_neg h2]; exact hH.gone l' ho
 ·intro l1 l2 b' e1 e2
  rcases has3 l1 b' e1 with ⟨rfl,h1⟩ | ⟨h1,h1',h1''⟩ <;> rcases has3 l2 b' e2 with ⟨h2,h2'⟩ | ⟨h2,h2',h2''⟩
  ·exact h2.symm
  ·rcases h1 with rfl | ⟨l3,k1,k2⟩
   ·exact hH.inj _ _ _ bhas h2''
   ·have:=hH.inj _ _ _ h2'' k2; subst this; exact (h2' k1).elim
  ·subst h2;rcases h2' with rfl | ⟨l3,k1,k2⟩
   ·exact hH.inj _ _ _ h1'' bhas
   ·have:=hH.inj _ _ _ h1'' k2; subst this; exact (h1' k1).elim
  ·exact hH.inj _ _ _ h1'' h2''
 ·intro l1 b' e1 o;rcases has3 l1 b' e1 with ⟨rfl,h1⟩ | ⟨h1,h1',h1''⟩
  ·rcases h1 with rfl | ⟨l3,k1,k2⟩
   ·exact hH.sep _ _ bhas o
   ·exact hH.sep _ _ k2 o
  ·exact hH.sep _ _ h1'' o
 ·intro l1 b' e1;right;rcases has3 l1 b' e1 with ⟨rfl,h1⟩ | ⟨h1,h1',h1''⟩
  ·rcases h1 with rfl | ⟨l3,k1,k2⟩
   ·exact ⟨_,bhas⟩
   ·exact ⟨_,k2⟩
  ·exact ⟨_,h1''⟩
end
section
variable {P:Program} {T:Tab} {cf:CF} {o:Oper} {a:Act} {w:World} {ρ ρ1:Map} {H:Ice} {h h1:Loc→Option Obj} {i N:Nat} {env:List (Nat × V)} {r:R}
theorem conv (u2:Trans ρ H w ρ1 H w) (u3:n9 ρ ρ1) (u4:K4 i ρ ρ1) {e1 e2:Eff} {l:Loc} {x:V} {xs:List V} {ls:List (Option (List D))} {ms:List (Option Loc)} {s:W}
 (hx:i9 h1 e1.wr l=some (.arr (x :: xs) s)) (hs:s.w < 1000000) (F:Folds (i9 h1 e1.wr) l (x :: xs) ls ms) (hn:∀ l',some l'∈ms∨l'=l→(∃ k,l' = .n i k) ∨ ρ l' ≠ .none)
 (hw:i9 h e2.wr=YG (i9 h1 e1.wr) l ls ms) (hv:e2.v=e1.v) (k:f8 P o a w ρ1 H h1 i (.ok e1)):f8 P o a w ρ H h i (.ok e2):=fun K Q hk=>k K Q fun ρ2 H2 v w2 p=>by
 have hobj:=p.heap.objs l _ hx
 cases hp:ρ2 l with
 | at_ b base s' size=>
   rw[hp] at hobj;obtain ⟨rfl,_⟩:=hobj;obtain ⟨f1,f2,f3⟩:=qs5 p.heap hx hp hs F;refine hk (XX ρ2 l b base s' size ms) H2 v w2 ⟨by rw[hw]; exact f1,(u2.trans p.trans).trans f2,(u3.trans p.stays).trans f3,fun l' k1 k2=>?_,by rw[hv]; exact p.val.mono f3 (fun _ _ _ e=>e)⟩
   by_cases hm:some l'∈ms∨l'=l
   ·rcases hn l' hm with g | g
    ·exact g
    ·exact (g k1).elim
   ·rw[not_or] at hm;simp only[XX,if_neg hm.1,if_neg hm.2] at k2
    by_cases k3:ρ1 l' = .none
    ·exact p.new l' k3 k2
    ·exact u4 l' k1 k3
 | virt s'=>rw[hp] at hobj; cases hobj.1
 | _=>rw[hp] at hobj; exact hobj.elim
theorem V5 {ls:List (Option (List D))} {l:Loc}:some l∈jj i ls ↔ ∃ e,l = .n i (e + 1)∧Zd ls e≠none:=by
 constructor
 ·intro hm;obtain ⟨e,he⟩:=List.getElem?_of_mem hm;simp only[jj,List.getElem?_mapIdx,Option.map_eq_some_iff] at he;obtain ⟨y,hy,hz⟩:=he;rcases y with _ | (_ | ⟨x,xs⟩)
  ·cases hz
  ·cases hz
  ·cases hz; exact ⟨e,rfl,by simp[Zd,hy]⟩
 ·rintro ⟨e,rfl,he⟩
  unfold Zd at he;split at he
  ·rename_i x xs hx
   have:(jj i ls)[e]? = some (some (.n i (e + 1))):=by simp[jj,hx,Kd]
   exact List.mem_of_getElem? this
  ·exact (he rfl).elim
theorem Kz (ls:List (Option (List D))):((jj i ls).filterMap id).Nodup:=by
 have:∀ (ls:List (Option (List D))) (k:Nat),((ls.mapIdx fun e x=>Kd i (k + e) x).filterMap id).Nodup ∧ ∀ l∈(ls.mapIdx fun e x=>Kd i (k + e) x).filterMap id,∃ e,k≤e∧l = .n i (e + 1):=by
  intro ls
  induction ls with
  | nil=>intro k; simp
  | cons x ls ih=>
    intro k;obtain ⟨h1,h2⟩:=ih (k + 1)
    have e1:(fun (e:Nat) (x:Option (List D))=>Kd i (k + (e + 1)) x)=fun e x=>Kd i (k + 1 + e) x:=by funext e x; congr 1; omega
    simp only[List.mapIdx_cons,List.filterMap_cons,Nat.add_zero,e1]
    cases hx:Kd i k x with
    | none=>
      simp only[id];exact ⟨h1,fun l hl=>by obtain ⟨e,h3,h4⟩:=h2 l hl; exact ⟨e,by omega,h4⟩⟩
    | some l0=>
      have hl0:l0 = .n i (k + 1):=by rcases x with _ | (_ | _) <;> cases hx; rfl
      subst hl0;simp only[id,List.nodup_cons,List.mem_cons];refine ⟨⟨fun hm=>?_,h1⟩,?_⟩
      ·obtain ⟨e,h3,h4⟩:=h2 _ hm
       injection h4 with _ h4
       omega
      ·rintro l (rfl | hl)
       ·exact ⟨k,Nat.le_refl _,rfl⟩
       ·obtain ⟨e,h3,h4⟩:=h2 l hl; exact ⟨e,by omega,h4⟩
 simpa [jj] using (this ls 0).1
theorem qnp {ls:List (Option (List D))} {l:Loc} {o:Obj} (hln:∀ k,l ≠ .n i k) {e:Nat} {y:Option (List D)} (hy:ls[e]? = some y):WW (Xa h l i o ls) (Yx i e y) y (Kd i e y):=by
 rcases y with _ | (_ | ⟨x,xs⟩)
 ·exact rfl
 ·exact rfl
 ·exact ⟨rfl,by simp[Xa,Ne.symm (hln _),JE,Zd,hy]⟩
theorem WW.mono {h h':Loc→Option Obj} {v:V} {x:Option (List D)} {m:Option Loc} (hh:∀ l,m=some l→h' l=h l) (k:WW h v x m):WW h' v x m:=by
 rcases x with _ | (_ | ⟨x,xs⟩) <;> cases m <;> first | exact k.elim | exact k | exact ⟨k.1,(hh _ rfl).trans k.2⟩
theorem KU {l:Loc} {o:Obj} {ls:List (Option (List D))}:Xa h l i o ls l=some o:=by simp[Xa]
theorem qbl {l:Loc} {o:Obj} {ls:List (Option (List D))} (hln:∀ k,l ≠ .n i k) (e:Nat):Xa h l i o ls (.n i (e + 1))=Zd ls e:=by simp[Xa,Ne.symm (hln _),JE]
theorem Ju {l l':Loc} {o:Obj} {ls:List (Option (List D))} (h1:l'≠l) (h2:∀ e,l' ≠ .n i (e + 1)):Xa h l i o ls l'=h l':=by
 have:jl i l'=none:=by
  cases hi:jl i l' with
  | none=>rfl
  | some e=>exact (h2 e (Zy hi)).elim
 simp[Xa,h1,this]
theorem Xm {ls:List (Option (List D))} {e:Nat}:(X7 i ls)[e]? = ls[e]?.map (Yx i e):=by simp[X7,List.getElem?_mapIdx]
theorem QR {ls:List (Option (List D))} {e:Nat}:(jj i ls)[e]? = ls[e]?.map (Kd i e):=by simp[jj,List.getElem?_mapIdx]
theorem Wz (hH:HRel ρ H h w) {l:Loc} {ls:List (Option (List D))} (hl:h l=some (.lol ls)):∃ b base s size inn,ρ l = .lol b base s size inn∧s.w < 1000000:=by
 have hobj:=hH.objs l _ hl
 cases hp:ρ l with
 | lol b base s size inn=>rw[hp] at hobj; exact ⟨_,_,_,_,_,rfl,hobj.1⟩
 | _=>rw[hp] at hobj; exact hobj.elim
theorem Jz:∀ {ms:List (Option Loc)} {e:Nat} {m:Option Loc},(ms.filterMap id).Nodup→(∀ l,m=some l→some l ∉ ms)→((ms.set e m).filterMap id).Nodup
 | [],_,_,h,_=>by simpa using h
 | q :: ms,0,m,h,hm=>by
   have h':(ms.filterMap id).Nodup:=by cases q with
    | none=>simpa using h
    | some q=>simp only[List.filterMap_cons,id,List.nodup_cons] at h; exact h.2
   cases m with
   | none=>simpa using h'
   | some l=>
     simp only[List.set_cons_zero,List.filterMap_cons,id,List.nodup_cons];refine ⟨fun hx=>?_,h'⟩;obtain ⟨y,h1,h2⟩:=List.mem_filterMap.1 hx;exact hm l rfl (List.mem_cons_of_mem _ (by rw[← (show y=some l from h2)]; exact h1))
 | q :: ms,e + 1,m,h,hm=>by
   cases q with
   | none=>
     simp only[List.set_cons_succ,List.filterMap_cons,id] at h ⊢;exact Jz h (fun l hl hx=>hm l hl (List.mem_cons_of_mem _ hx))
   | some q=>
     simp only[List.set_cons_succ,List.filterMap_cons,id,List.nodup_cons] at h ⊢;refine ⟨fun hx=>?_,Jz h.2 (fun l hl hx=>hm l hl (List.mem_cons_of_mem _ hx))⟩;obtain ⟨y,h1,h2⟩:=List.mem_filterMap.1 hx;have h2:y=some q:=h2;subst h2;rcases List.mem_or_eq_of_mem_set h1 with h3 | h3
     ·exact h.1 (List.mem_filterMap.2 ⟨_,h3,rfl⟩)
     ·exact hm q h3.symm (List.mem_cons_self ..)
def qkr (x:Opnd) (P:Program):Op→Bool:=Yl 1 false x P
def qfx (x y:Opnd) (P:Program):Op→Bool:=Yk 1 x y P
def qqh (n:W) (x y:Opnd) (P:Program):Op→Bool:=qhx n (some x) y P
theorem qzn {x} (hH:HRel ρ H h w) (hE:EnvRel B ds fx ρ H N env a) (hN:∀ k,ρ (.n i k) = .none) (hok:qkr x P o.op=true) (e:j4 T cf i (.lload x) (evO env) h=some r):f8 P o a w ρ H h i r:=by
 simp only[j4] at e;obtain ⟨v,e1,e2⟩:=d9 e;unfold qh6 at e2;split at e2
 ·rename_i l el;split at e2
  ·rename_i ls hl;obtain ⟨b,base,s,size,inn,hp,hsm⟩:=Wz hH hl
   have hln:∀ k,l ≠ .n i k:=fun k e=>by rw[e,hN] at hp; cases hp
   obtain ⟨u1,u2,u3,u4⟩:=Xl hH hN hl hp
   have main:∀ y,ls[el]? = some y→f8 P o a w _ H _ i (.ok { v:=Yx i el y,rd:=[l] }):=fun y hy=>
    qn6 (T:=T) (cf:=cf) (env:=env) u1 (hE.mono u3 (fun _ _ _ e=>e)) hok (by
     simp only[j4,e1,o8,S7,KU,Xm,hy,Option.map_some]
     rcases y with _ | (_ | _) <;> simp[Yx,part,V.cells])
   have hne:∀ y,ls[el]? = some y→∃ z zs,X7 i ls=z :: zs:=fun y hy=>by
    cases hq:X7 i ls with
    | nil=>have:=congrArg List.length hq; simp[X7] at this; rw[this] at hy; cases hy
    | cons z zs=>exact ⟨z,zs,rfl⟩
   have fin:∀ y y' (e2:Eff),ls[el]? = some y→(y'=none∨y'=y∧Kd i el y=none)→e2.v=Yx i el y→(∀ l',i9 h e2.wr l'=YG (Xa h l i (.arr (X7 i ls) s) ls) l (ls.set el y') ((jj i ls).set el none) l')→f8 P o a w ρ H h i (.ok e2):=fun y y' e2 hy hy' hv hw=>by
    obtain ⟨z,zs,hz⟩:=hne y hy;refine conv (x:=z) (xs:=zs) (e1:={ v:=Yx i el y,rd:=[l] }) u2 u3 u4 (l:=l) (by rw[← hz]; exact KU) hsm (ls:=ls.set el y') (ms:=(jj i ls).set el none) ?_ ?_ (funext hw) hv (main y hy)
    ·rw[← hz];refine ⟨by simp[X7],by simp[X7,jj],fun e v x m h1 h2 h3=>?_,Jz (Kz ls) (fun l hl=>by cases hl),fun hm=>?_⟩
     ·show WW (Xa _ _ _ _ _) _ _ _;rw[Xm] at h1
      by_cases he:el=e
      ·subst he;simp only[hy,Option.map_some,Option.some.injEq] at h1;subst h1;rw[List.getElem?_set_self (List.getElem?_eq_some_iff.1 hy).1] at h2;rw[List.getElem?_set_self (by simp[jj]; exact (List.getElem?_eq_some_iff.1 hy).1)] at h3;cases h2; cases h3;rcases hy' with rfl | ⟨rfl,h4⟩
       ·rcases y with _ | (_ | _) <;> rfl
       ·have:=qnp (h:=h) (i:=i) (o:=.arr (X7 i ls) s) hln hy;rw[h4] at this;exact this
      ·rw[List.getElem?_set_ne he] at h2;rw[List.getElem?_set_ne he,QR,h2] at h3;rw[h2] at h1;cases h1; cases h3;exact qnp hln h2
     ·rcases List.mem_or_eq_of_mem_set hm with h3 | h3
      ·obtain ⟨_,h4,_⟩:=V5.1 h3; exact hln _ h4
      ·cases h3
    ·rintro l' (h1 | rfl)
     ·rcases List.mem_or_eq_of_mem_set h1 with h3 | h3
      ·obtain ⟨_,h4,_⟩:=V5.1 h3; exact .inl ⟨_,h4⟩
      ·cases h3
     ·right; rw[hp]; intro h; cases h
   have inset:∀ e',(some (Loc.n i (e' + 1))∈(jj i ls).set el none)↔(e'≠el∧Zd ls e'≠none):=fun e'=>by
    constructor
    ·intro hm;obtain ⟨e,he⟩:=List.getElem?_of_mem hm
     by_cases h1:el=e
     ·subst h1;rw[List.getElem?_set] at he
      split at he <;> first | (split at he <;> cases he) | contradiction
     ·rw[List.getElem?_set_ne h1] at he;obtain ⟨e2,h2,h3⟩:=V5.1 (List.mem_of_getElem? he)
      injection h2 with _ h2
      have h2:e'=e2:=by omega
      subst h2;rw[QR] at he;simp only[Option.map_eq_some_iff] at he;obtain ⟨y,hy,hz⟩:=he;rcases y with _ | (_ | _)
      ·cases hz
      ·cases hz
      ·injection hz with hz
       injection hz with _ hz
       exact ⟨by omega,h3⟩
    ·rintro ⟨h1,h2⟩
     unfold Zd at h2;split at h2
     ·rename_i x xs hx;exact List.mem_of_getElem? (i:=e') (by rw[List.getElem?_set_ne (Ne.symm h1),QR,hx]; rfl)
     ·exact (h2 rfl).elim
   have hnil:∀ k,h (.n i k)=none:=fun k=>hH.none_of (hN k)
   have hno:∀ l',(∀ e',l' ≠ .n i (e' + 1))→some l' ∉ (jj i ls).set el none:=fun l' h1 h2=>by
    rcases List.mem_or_eq_of_mem_set h2 with h3 | h3
    ·obtain ⟨_,h4,_⟩:=V5.1 h3; exact h1 _ h4
    ·cases h3
   split at e2
   ·rename_i hy;cases e2
    refine fin _ (some []) _ hy (.inr ⟨rfl,rfl⟩) rfl fun l'=>?_
    show h l'=_;unfold YG
    by_cases h1:l'=l
    ·subst h1; rw[if_pos rfl,hl]; congr 2
     refine List.ext_getElem? fun e=>?_
     by_cases he:el=e
     ·subst he; rw[List.getElem?_set_self (List.getElem?_eq_some_iff.1 hy).1]; exact hy
     ·rw[List.getElem?_set_ne he]
    ·rw[if_neg h1]
     by_cases h2:∃ e',l' = .n i (e' + 1)
     ·obtain ⟨e',rfl⟩:=h2;rw[hnil];split
      ·rfl
      ·rename_i h3;rw[inset] at h3;rw[qbl hln]
       by_cases h4:e'=el
       ·subst h4; simp[Zd,hy]
       ·cases hq:Zd ls e' with
        | none=>rfl
        | some o=>exact (h3 ⟨h4,by rw[hq]; intro h; cases h⟩).elim
     ·rw[if_neg (hno l' (fun e' h=>h2 ⟨e',h⟩)),Ju h1 (fun e' h=>h2 ⟨e',h⟩)]
   ·rename_i x0 xs hy;cases e2
    refine fin _ none _ hy (.inl rfl) rfl fun l'=>?_
    simp only[i9];unfold YG
    by_cases h1:l'=l
    ·subst h1; simp[hln]
    ·simp only[if_neg h1]
     by_cases h2:∃ e',l' = .n i (e' + 1)
     ·obtain ⟨e',rfl⟩:=h2
      by_cases h4:e'=el
      ·subst h4;rw[if_pos rfl,if_neg (by rw[inset]; exact fun h=>h.1 rfl),qbl hln];simp[Zd,hy]
      ·rw[if_neg (by intro h; injection h with _ h; omega),hnil];split
       ·rfl
       ·rename_i h3;rw[inset] at h3;rw[qbl hln]
        cases hq:Zd ls e' with
        | none=>rfl
        | some o=>exact (h3 ⟨h4,by rw[hq]; intro h; cases h⟩).elim
     ·rw[if_neg (hno l' (fun e' h=>h2 ⟨e',h⟩)),Ju h1 (fun e' h=>h2 ⟨e',h⟩),if_neg (fun h=>h2 ⟨_,h⟩)]
   ·cases e2
  ·cases e2
 ·cases e2
end
end Go.Rf

namespace Go.Rf
variable {B:Ice} {ds:List Deferred} {fx:List (Nat × Value)}
section
variable {P:Program} {T:Tab} {cf:CF} {o:Oper} {a:Act} {w:World} {ρ ρ1:Map} {H:Ice} {h h1:Loc→Option Obj} {i N:Nat} {env:List (Nat × V)} {r:R}
theorem Yn (hH:HRel ρ H h w) (hN:∀ k,ρ (.n i k) = .none) {l:Loc} {o:Obj} (hl:h l=some o):ρ l ≠ .none ∧ ∀ k,l ≠ .n i k:=by
 refine ⟨fun e=>?_,fun k e=>?_⟩
 ·rw[hH.none_of e] at hl; cases hl
 ·subst e; rw[hH.none_of (hN k)] at hl; cases hl
theorem qu6 {x y:Opnd} (hH:HRel ρ H h w) (hE:EnvRel B ds fx ρ H N env a) (hN:∀ k,ρ (.n i k) = .none) (hok:qfx x y P o.op=true) (e:j4 T cf i (.lstore x y) (evO env) h=some r):f8 P o a w ρ H h i r:=by
 simp only[j4] at e;obtain ⟨v,e1,e2⟩:=d9 e;obtain ⟨u,e3,e4⟩:=d9 e2;unfold Yr at e4;split at e4
 ·rename_i l el l2 sz len;split at e4
  ·rename_i ls xs sz' hl hl2;obtain ⟨ds',e5,e6⟩:=d9 e4;split at e6
   ·rename_i hc;obtain ⟨hh,rfl,rfl,rfl,hpos⟩:=hc;cases e6;clear e e2 e4;have hxs:=JP e5;subst hxs
    obtain ⟨d0,dl,rfl⟩:∃ d0 dl,ds'=d0 :: dl:=by cases ds' with
     | nil=>simp at hpos
     | cons a b=>exact ⟨a,b,rfl⟩
    obtain ⟨b,base,s,size,inn,hp,hsm⟩:=Wz hH hl;obtain ⟨_,hln⟩:=Yn hH hN hl;obtain ⟨hl2n,hln2⟩:=Yn hH hN hl2
    have hll:l2≠l:=fun h=>by subst h; rw[hl] at hl2; cases hl2
    obtain ⟨u1,u2,u3,u4⟩:=Xl hH hN hl hp
    obtain ⟨y0,hy,hyh⟩:∃ y,ls[el]? = some y∧(y=none∨y=some []):=by
     unfold XV at hh;split at hh
     ·rename_i h; exact ⟨_,h,.inl rfl⟩
     ·rename_i h; exact ⟨_,h,.inr rfl⟩
     ·cases hh
    have helt:=(List.getElem?_eq_some_iff.1 hy).1
    have main:=qp8 (T:=T) (cf:=cf) (env:=env) (i:=i) (x:=x) (y:=y) (n:=1) u1 (hE.mono u3 (fun _ _ _ e=>e)) hok (r:=.ok { v:=.tup [],rd:=[l],wr:=[(l,some (.arr ((X7 i ls).set el (.ref l2 ⟨1,8⟩ 0 (d0 :: dl).length)) s))] }) (by
     simp only[j4,e1,e3,o8,Qj,KU,Xm,hy,Option.map_some]
     rcases hyh with rfl | rfl <;> simp[Yx,V.cells,B6,isAgg])
    obtain ⟨z,zs,hz⟩:∃ z zs,(X7 i ls).set el (.ref l2 ⟨1,8⟩ 0 (d0 :: dl).length)=z :: zs:=by
     cases hq:(X7 i ls).set el (.ref l2 ⟨1,8⟩ 0 (d0 :: dl).length) with
     | nil=>have:=congrArg List.length hq; simp[X7] at this; rw[this] at helt; simp at helt
     | cons z zs=>exact ⟨z,zs,rfl⟩
    rw[hz] at main
    have hl2m:some l2 ∉ jj i ls:=fun hm=>by obtain ⟨_,h4,_⟩:=V5.1 hm; exact hln2 _ h4
    have hlm:some l ∉ jj i ls:=fun hm=>by obtain ⟨_,h4,_⟩:=V5.1 hm; exact hln _ h4
    have hm2:some l2∈(jj i ls).set el (some l2):=List.mem_of_getElem? (i:=el) (List.getElem?_set_self (by simpa [jj] using helt));refine conv (e1:={ v:=.tup [],rd:=[l],wr:=[(l,some (.arr (z :: zs) s))] }) (x:=z) (xs:=zs) u2 u3 u4 (l:=l) (ls:=ls.set el (some (d0 :: dl))) (ms:=(jj i ls).set el (some l2)) (s:=s) (by simp[i9]) hsm ?_ ?_ (funext fun l'=>?_) rfl main
    ·rw[← hz];refine ⟨by simp[X7],by simp[X7,jj],fun e v x m k1 k2 k3=>?_,Jz (Kz ls) (fun l hl=>by cases hl; exact hl2m),fun hm=>?_⟩
     ·by_cases he:el=e
      ·subst he;rw[List.getElem?_set_self (by simpa [X7] using helt)] at k1;rw[List.getElem?_set_self helt] at k2;rw[List.getElem?_set_self (by simpa [jj] using helt)] at k3;cases k1; cases k2; cases k3;refine ⟨rfl,?_⟩;show i9 _ _ l2=_;simp only[i9,if_neg hll];rw[Ju hll (fun e=>hln2 _)];exact hl2
      ·rw[List.getElem?_set_ne he,Xm] at k1;rw[List.getElem?_set_ne he] at k2;rw[List.getElem?_set_ne he,QR,k2] at k3;rw[k2] at k1;cases k1; cases k3
       refine (qnp (h:=h) (o:=.arr (X7 i ls) s) hln k2).mono fun l' hl'=>?_
       rcases x with _ | (_ | _) <;> cases hl'
       simp only[i9,if_neg (Ne.symm (hln _))]
     ·rcases List.mem_or_eq_of_mem_set hm with h3 | h3
      ·exact hlm h3
      ·cases h3; exact hll rfl
    ·rintro l' (k1 | rfl)
     ·rcases List.mem_or_eq_of_mem_set k1 with h3 | h3
      ·obtain ⟨_,h4,_⟩:=V5.1 h3; exact .inl ⟨_,h4⟩
      ·cases h3; exact .inr hl2n
     ·right; rw[hp]; intro h; cases h
    ·simp only[i9];unfold YG
     by_cases h1:l'=l
     ·subst h1; simp[Ne.symm hll]
     ·by_cases h2:l'=l2
      ·subst h2; simp[hm2,h1]
      ·simp only[if_neg h1,if_neg h2]
       by_cases h3:some l'∈jj i ls
       ·obtain ⟨e',rfl,h5⟩:=V5.1 h3;rw[hH.none_of (hN _),if_pos];obtain ⟨e,he⟩:=List.getElem?_of_mem h3
        by_cases h6:el=e
        ·subst h6;rw[QR,hy] at he
         rcases hyh with rfl | rfl <;> cases he
        ·exact List.mem_of_getElem? (i:=e) (by rw[List.getElem?_set_ne h6]; exact he)
       ·rw[if_neg (fun hm=>by
         rcases List.mem_or_eq_of_mem_set hm with h7 | h7
         ·exact h3 h7
         ·cases h7; exact h2 rfl)]
        by_cases h4:∃ e',l' = .n i (e' + 1)
        ·obtain ⟨e',rfl⟩:=h4;rw[hH.none_of (hN _),qbl hln]
         cases hq:Zd ls e' with
         | none=>rfl
         | some o=>exact (h3 (V5.2 ⟨e',rfl,by rw[hq]; intro h; cases h⟩)).elim
        ·rw[Ju h1 (fun e' h=>h4 ⟨e',h⟩)]
   ·cases e6
  ·cases e4
 ·cases e4
theorem qst {ys:List V} (h:WE ys=true):ys=[.d .nils]:=by
 unfold WE at h;split at h
 ·rfl
 ·cases h
theorem q58 {n:W} {x y:Opnd} (hH:HRel ρ H h w) (hE:EnvRel B ds fx ρ H N env a) (hN:∀ k,ρ (.n i k) = .none) (hok:qqh n x y P o.op=true) (e:j4 T cf i (.lapp n x y) (evO env) h=some r):f8 P o a w ρ H h i r:=by
 simp only[j4] at e;obtain ⟨v,e1,e2⟩:=d9 e;obtain ⟨u,e3,e4⟩:=d9 e2;unfold qqn at e4;split at e4
 ·rename_i l sz len;obtain ⟨ls,e5,e6⟩:=d9 e4;obtain ⟨⟨ys,m⟩,e7,e8⟩:=d9 e6;simp only at e8;split at e8
  ·rename_i hc;obtain ⟨hys,rfl,hc1,hsm,rfl,hlm,hfit⟩:=hc;have hys:=qst hys;subst hys;cases e8;clear e e2 e4 e6
   have hm:∀ l'∈m,∃ o,h l'=some o:=fun l' hl'=>by
    generalize [V.d .nils]=ys at e7;unfold K1 at e7;split at e7
    ·cases e7; cases hl'
    ·cases e7; cases hl'
    ·split at e7
     ·rename_i hq;split at e7
      ·cases e7; rw[List.mem_singleton.1 hl']; exact ⟨_,hq⟩
      ·cases e7
     ·cases e7
    ·cases e7
   have main:∀ (ρ1:Map) (h1:Loc→Option Obj) (s':W),HRel ρ1 H h1 w→Trans ρ H w ρ1 H w→n9 ρ ρ1→K4 i ρ ρ1→ρ1 (.n i 0) = .none→h1 l=some (.arr (X7 i ls) s')→K1 h1 u=some ([.d .nils],m)→ρ l ≠ .none→(∀ k,l ≠ .n i k)→
    (∀ l',l'≠l→(∀ e,l' ≠ .n i (e + 1))→h1 l'=h l')→(∀ e,h1 (.n i (e + 1))=Zd ls e)→f8 P o a w ρ H h i (.ok { v:=.ref (.n i 0) sz 0 (ls.length + 1),rd:=l :: m,wr:=[(l,none),(.n i 0,some (.lol (ls++[some []])))] }):=by
    intro ρ1 h1 s' u1 u2 u3 u4 u5 u6 u7 hln0 hln u8 u9
    have happ:=q2f (T:=T) (cf:=cf) (env:=env) (x:=some x) (y:=y) u1 (hE.mono u3 (fun _ _ _ e=>e)) u5 hok (r:=.ok { v:=.ref (.n i 0) sz 0 (ls.length + 1),rd:=l :: m,wr:=[(l,none),(.n i 0,some (.arr (X7 i ls++[.d .nils]) sz))] }) (by
     have hlen:(X7 i ls).length=ls.length:=by simp[X7]
     have htk:(X7 i ls).take ls.length=X7 i ls:=List.take_of_length_le (by omega)
     simp[j4,e1,e3,bnd,unN,qe8,u7,u6,V.cells,hc1,hlm,hlen,htk,hfit])
    obtain ⟨z,zs,hz⟩:∃ z zs,X7 i ls++[.d .nils]=z :: zs:=by
     cases hq:X7 i ls++[.d .nils] with
     | nil=>simp at hq
     | cons z zs=>exact ⟨z,zs,rfl⟩
    rw[hz] at happ
    have hinm:∀ {l'},some l'∈jj i ls++[none]↔some l'∈jj i ls:=fun {l'}=>by simp
    refine conv (e1:={ v:=.ref (.n i 0) sz 0 (ls.length + 1),rd:=l :: m,wr:=[(l,none),(.n i 0,some (.arr (z :: zs) sz))] }) (x:=z) (xs:=zs) u2 u3 u4 (l:=.n i 0) (ls:=ls++[some []]) (ms:=jj i ls++[none]) (s:=sz) (by simp[i9]) hsm ?_ ?_ (funext fun l'=>?_) rfl happ
    ·rw[← hz];refine ⟨by simp[X7],by simp[X7,jj],fun e v x m k1 k2 k3=>?_,by simpa using Kz ls,fun hm=>?_⟩
     ·by_cases he:e < ls.length
      ·rw[List.getElem?_append_left (by simpa [X7] using he),Xm] at k1;rw[List.getElem?_append_left he] at k2;rw[List.getElem?_append_left (by simpa [jj] using he),QR,k2] at k3;rw[k2] at k1;cases k1; cases k3;rcases x with _ | (_ | ⟨x,xs⟩)
       ·exact rfl
       ·exact rfl
       ·refine ⟨rfl,?_⟩;simp only[i9];rw[if_neg (by intro h; injection h with _ h; omega),if_neg (Ne.symm (hln _)),u9,Zd,k2]
      ·have he:e=ls.length:=by have:=(List.getElem?_eq_some_iff.1 k2).1; simp at this; omega
       subst he;rw[List.getElem?_append_right (by simp[X7])] at k1;rw[List.getElem?_append_right (by simp)] at k2;rw[List.getElem?_append_right (by simp[jj])] at k3;simp[X7] at k1;simp at k2;simp[jj] at k3;subst k1 k2 k3;exact rfl
     ·obtain ⟨e,h4,_⟩:=V5.1 (hinm.1 hm)
      injection h4 with _ h4
      omega
    ·rintro l' (k1 | rfl)
     ·obtain ⟨_,h4,_⟩:=V5.1 (hinm.1 k1); exact .inl ⟨_,h4⟩
     ·exact .inl ⟨0,rfl⟩
    ·simp only[i9];unfold YG
     by_cases h1:l' = .n i 0
     ·subst h1; simp
     ·simp only[if_neg h1,hinm]
      by_cases h2:l'=l
      ·subst h2;simp
      ·simp only[if_neg h2]
       by_cases h4:∃ e',l' = .n i (e' + 1)
       ·obtain ⟨e',rfl⟩:=h4;rw[hH.none_of (hN _),u9];split
        ·rfl
        ·rename_i h3
         cases hq:Zd ls e' with
         | none=>rfl
         | some o=>exact (h3 (V5.2 ⟨e',rfl,by rw[hq]; intro h; cases h⟩)).elim
       ·rw[if_neg (fun hm=>by obtain ⟨e,h5,_⟩:=V5.1 hm; exact h4 ⟨e,h5⟩),u8 l' h2 (fun e' h=>h4 ⟨e',h⟩)]
   unfold qcv at e5;split at e5
   ·rename_i ls' hl;cases e5;obtain ⟨b,base,s,size,inn,hp,_⟩:=Wz hH hl;obtain ⟨hln0,hln⟩:=Yn hH hN hl;obtain ⟨u1,u2,u3,u4⟩:=Xl hH hN hl hp;refine main _ _ s u1 u2 u3 u4 ?_ KU ?_ hln0 hln (fun l' k1 k2=>Ju k1 k2) (fun e=>qbl hln e)
    ·have:jl i (.n i 0)=none:=rfl;simp only[KV,if_neg (Ne.symm (hln 0)),this];exact hN 0
    ·have:∀ l'∈m,Xa h l i (.arr (X7 i ls) s) ls l'=h l':=fun l' hl'=>by
      obtain ⟨o,ho⟩:=hm l' hl';exact Ju (fun e=>hlm (e ▸ hl')) (fun e=>(Yn hH hN ho).2 _)
     generalize [V.d .nils]=ys at e7 ⊢;unfold K1 at e7 ⊢;split at e7
     ·exact e7
     ·exact e7
     ·rename_i l' sz' off' len';split at e7
      ·rename_i hq;split at e7
       ·rename_i hle;cases e7;rw[this l' (List.mem_singleton_self _),hq];simp[hle]
       ·cases e7
      ·cases e7
     ·cases e7
   ·rename_i sz' hl;cases e5;obtain ⟨hln0,hln⟩:=Yn hH hN hl;refine main ρ h sz' hH (Trans.refl ..) (n9.refl _) (K4.refl _ _) (hN 0) ?_ e7 hln0 hln (fun _ _ _=>rfl) (fun e=>hH.none_of (hN _));exact hl
   ·cases e5
  ·cases e8
 ·cases e4
def qv6 (x y:Opnd):Op→Bool
 | .call c=>(match c.callee with | .builtin .min=>true | _=>false) && (match c.args.toList with
   | [x',y']=>okO x' x && okO y' y
   | _=>false)
 | _=>false
theorem s_mn {x y} (hH:HRel ρ H h w) (hE:EnvRel B ds fx ρ H N env a) (hok:qv6 x y o.op=true) (e:j4 T cf i (.mn x y) (evO env) h=some r):f8 P o a w ρ H h i r:=by
 unfold qv6 at hok;split at hok
 ·rename_i c hop;simp only[Bool.and_eq_true] at hok;obtain ⟨h1,h2⟩:=hok;split at h1
  ·rename_i hc;split at h2
   ·rename_i x' y' ha;simp only[Bool.and_eq_true] at h2;obtain ⟨h3,h4⟩:=h2;simp only[j4] at e;split at e
    ·rename_i k m k' n e1 e2;split at e
     ·rename_i hk;subst hk;rw[x5 e];have hx:a.eval x' = .int k m:=j9 hE h3 e1;have hy:a.eval y' = .int k n:=j9 hE h4 e2;have ha':c.args = #[x',y']:=Array.toList_inj.1 ha;refine f8.pure (x:=.d (.int k (if n < m then n else m))) (v:=.int k (if n < m then n else m)) ?_ hH rfl;unfold execOp;simp only[hop,resolve,hc,ha',invoke,builtin];rw[Sem.run_bind];show Result.andThen (.ok _ w) _=_;rw[Result.andThen_ok];simp only[List.map_toArray,List.map_cons,List.map_nil,hx,hy];simp[Builtin.min_,Builtin.min2]
     ·cases e
    ·cases e
   ·cases h2
  ·cases h1
 ·cases hok
end
end Go.Rf

namespace Go.Rf
variable {B:Ice} {ds:List Deferred} {fx:List (Nat × Value)}
section
variable {P:Program} {T:Tab} {cf:CF} {o:Oper} {a:Act} {w:World} {ρ:Map} {H:Ice} {h:Loc→Option Obj} {i N:Nat} {env:List (Nat × V)} {r:R}
def qkq (x:Opnd) (P:Program):Op→Bool:=Yl 1 false x P
theorem qzm {x} (hH:HRel ρ H h w) (hE:EnvRel B ds fx ρ H N env a) (hok:qkq x P o.op=true) (e:j4 T cf i (.loadH x) (evO env) h=some r):f8 P o a w ρ H h i r:=by
 simp only[j4] at e;split at e
 ·rename_i k e1;obtain ⟨v,e2,e3⟩:=d9 e;cases e3;unfold Zz Ke at e2;split at e2
  ·rename_i x0 sz hl;have:=qn6 (T:=T) (cf:=cf) (env:=env) (i:=i) (n:=1) (ag:=false) hH hE hok (r:=.ok { v,rd:=[.b k] }) (by simp[j4,e1,o8,S7,hl,part,e2])
   exact fun K Q hk=>this K Q fun ρ' H' u w' p=>hk ρ' H' u w' ⟨p.heap,p.trans,p.stays,p.new,p.val⟩
  ·cases e2
 ·cases e
def qhv (n:Nat) (x k:Opnd) (P:Program):Op→Bool
 | .index t x' k'=>okO x' x && okO k' k && (match P.underlying t with | some (.array len e)=>decide (len=n) && Qi P e 1 false | _=>false)
 | _=>false
theorem q6a {n x k} (hH:HRel ρ H h w) (hE:EnvRel B ds fx ρ H N env a) (hok:qhv n x k P o.op=true) (e:j4 T cf i (.idxF n x k) (evO env) h=some r):f8 P o a w ρ H h i r:=by
 unfold qhv at hok;split at hok
 ·rename_i t x' k' hop;simp only[Bool.and_eq_true] at hok;obtain ⟨⟨h1,h2⟩,h3⟩:=hok;split at h3
  ·rename_i len el hu;simp only[Bool.and_eq_true,decide_eq_true_eq] at h3;obtain ⟨rfl,h4⟩:=h3;simp only[j4] at e;obtain ⟨v,e1,e2⟩:=d9 e;obtain ⟨m,e3,e4⟩:=d9 e2;obtain ⟨j,e5,e6⟩:=d9 e4;have hx:=j9 hE h1 e1;have hk:=j9 hE h2 e3;obtain ⟨kk,hk'⟩:=xF hk e5;split at e6
   ·rename_i cs;split at e6
    ·rename_i hj;obtain ⟨y,e7,e8⟩:=d9 e6;rw[x5 e8];obtain ⟨vs,hvs,k1,k2⟩:=hx;obtain ⟨u,hu1,hu2⟩:=k1.get e7;refine f8.pure (x:=.d y) (v:=u) ?_ hH hu2;unfold execOp;have hjl:(0:Int)≤(j:Int)∧(j:Int) < (len:Int):=⟨by omega,by omega⟩;have hp:=Yc (P:=P) (w:=w) el (j * 1) 1 false h4 vs u (fun h=>by cases h) (fun _=>by rw[Nat.mul_one]; exact hu1);simp only[hop,hvs,hk',Instr.index,asIntOf,Sem.run_bind,Sem.run_pure,run_underlying hu,Result.andThen_ok,if_pos hjl,qM.run (Qi.size h4),Int.toNat_natCast,hp]
    ·cases e6
   ·cases e6
  ·cases h3
 ·cases hok
end
end Go.Rf
