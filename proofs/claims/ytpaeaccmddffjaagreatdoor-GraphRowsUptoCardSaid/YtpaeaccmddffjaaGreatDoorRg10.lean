/- Parts of the proof. -/
import Derived.Test.YtpaeaccmddffjaaGreatDoorRg9
import Derived.Recover
import Derived.Below
import Derived.Carry
import Derived.ProofKit
import Derived.Shelf.Unicode.DecodeSlow
set_option linter.all false
set_option linter.unusedSectionVars false
namespace Go.Rf
variable [Prg]
variable {B:Ice}
def vD (P:Program) (N:Nat):ACode→Code→(Code→Bool)→Bool
 | .skip,c,k=>k c
 | .seq a p,c,k=>match c with
   | .seq x y=>q1v P N a x && vD P N p y k
   | _=>false
 | _,_,_=>false
def Zl:List Operand→List Nat→Bool
 | [],[]=>true
 | .tmp t :: xs,t' :: ts=>decide (t=t') && Zl xs ts
 | _,_=>false
def q4n (r:ARec) (N:Nat):List Oper→Bool
 | [o0,o1]=>!(r.res.map (·.1.slot)).contains r.t && o0.guard.isNone && o1.guard.isNone && decide (o0.dst=some r.t) && decide (r.t < N) && decide (o1.dst=none) &&
   (match o0.op with | .makeFunc (.func g) first caps=>decide (g=r.hf) && first.toList.isEmpty && Zl caps.toList r.caps | _=>false) &&
   (match o1.op with | .defer c=>(match c.callee with | .value (.tmp t)=>decide (t=r.t) | _=>false) && c.args.toList.isEmpty | _=>false)
 | _=>false
def q4o (r:ARec) (N:Nat):List Oper→Bool
 | [o0,o1]=>o0.guard.isNone && o1.guard.isNone &&
   (match o0.op with | .call c=>(match c.callee with | .builtin .recover=>true | _=>false) && c.args.toList.isEmpty | _=>false) &&
   (match o0.dst with | some t=>decide (t < N) && (match o1.op with | .assign (.tmp t')=>decide (t'=t) | _=>false) && decide (r.caps.length≤t) && !decide (t=r.hv) | none=>false) && decide (o1.dst=some r.hv) && decide (r.hv < N) && decide (r.caps.length≤r.hv)
 | _=>false
def qx3 (P:Program) (N:Nat) (r:ARec):Code→Bool
 | .seq (.region _ ops false) rest=>q4n r N ops.toList && q1v P N r.body rest
 | _=>false
def qpj (P:Program) (r:ARec):Bool:=match P.funcs[r.hf]? with
 | some fn=>(match fn.body with
   | some (.seq (.region _ ops false) rest)=>q4o r fn.ntmps ops.toList && q1v P fn.ntmps r.hcode rest
   | _=>false) && fn.results.toList.isEmpty && decide (r.caps.length≤fn.ntmps)
 | none=>false
def Ko (P:Program) (f:FuncId) (r:ARec):Bool:=S6 P f && S6 P r.hf && qpj P r && (match P.funcs[f]? with
 | some fn=>(match fn.body with | some c=>vD P fn.ntmps r.pre c (qx3 P fn.ntmps r) | none=>false) && QD P fn.results.toList r.res && decide (r.np≤fn.ntmps)
 | none=>false) && M8 (r.res.map (·.1.slot)) r.body
theorem WQ:∀ {n m:Nat} {vs:List V} {t:Nat} {v:V},A5 ((List.range' m n).zip vs) t=some v→t < m + vs.length∧m≤t
 | 0,m,vs,t,v,h=>by simp[A5] at h
 | n + 1,m,[],t,v,h=>by simp[A5] at h
 | n + 1,m,x :: vs,t,v,h=>by
   simp only[List.range'_succ,List.zip_cons_cons,A5] at h;split at h
   ·rename_i hm; subst hm; simp
   ·obtain ⟨h1,h2⟩:=WQ (n:=n) (m:=m + 1) h;simp only[List.length_cons];omega
section
variable {P:Program} {T:Tab} {cf:CF}
theorem qf2 (hcf:Qp B P cf) (hfs:∀ g vs hp r,cf g vs hp=some r→S6 P g=true) {N p n:Nat} {k:Code→Bool}:∀ (pre:ACode) (c:Code),vD P N pre c k=true→∀ st x,code T cf p n pre st=some x→
 ∀ ρ H w a (Q:Exit→Act→World→Prop),StRel B [] [] ρ H N st a w→p≤st.heap.length→
 (∀ st',x=(.nrm,st')→∀ rest,k rest=true→∀ ρ' H' a' w',StRel B [] [] ρ' H' N st' a' w'→Trans ρ H w ρ' H' w'→A2 p ρ ρ'→p≤st'.heap.length→rest.wp P Q a' w')→
 (x.1 ≠ .nrm→qaj B [] [] ρ H w N p Q x)→c.wp P Q a w
 | .skip,c,hok,st,x,e,ρ,H,w,a,Q,hS,hpl,hn,_=>by
   cases e;exact hn st rfl c hok ρ H a w hS (Trans.refl ..) (A2.refl _ _) hpl
 | .seq b q,c,hok,st,x,e,ρ,H,w,a,Q,hS,hpl,hn,hx=>by
   cases c <;> first | (simp[vD] at hok; done) | skip
   simp only[vD,Bool.and_eq_true] at hok;simp only[code] at e;apply wp_seq;split at e
   ·rename_i st' e1
    exact vN (ds:=[]) (fx:=[]) hcf hfs b _ hok.1 (C1 b) n st _ e1 ρ H w a _ hS hpl (fun ρ' H' a' w' q1 q2 q3 q4=>
     qf2 hcf hfs q _ hok.2 st' x e ρ' H' w' a' Q q1 q4 (fun st2 h2 rest hr ρ2 H2 a2 w2 s1 s2 s3 s4=>hn st2 h2 rest hr ρ2 H2 a2 w2 s1 (q2.trans s2) (q3.trans s3) s4) (fun hne=>(hx hne).shift q2 q3))
   ·rename_i hne;refine vN (ds:=[]) (fx:=[]) hcf hfs b _ hok.1 (C1 b) n st x e ρ H w a _ hS hpl ?_;obtain ⟨ex,st'⟩:=x
    cases ex with
    | nrm=>exact (hne st' e).elim
    | exit id=>exact hx (fun h=>by cases h)
    | ret=>exact hx (fun h=>by cases h)
    | pan v=>exact hx (fun h=>by cases h)
    | out=>obtain ⟨a0,w0,h0⟩:=hx (fun h=>by cases h); exact ⟨a0,w0,h0⟩
 | .region _ _ _,_,hok,_,_,_,_,_,_,_,_,_,_,_,_=>by simp[vD] at hok
 | .cond _ _ _,_,hok,_,_,_,_,_,_,_,_,_,_,_,_=>by simp[vD] at hok
 | .block _ _,_,hok,_,_,_,_,_,_,_,_,_,_,_,_=>by simp[vD] at hok
 | .loop _ _,_,hok,_,_,_,_,_,_,_,_,_,_,_,_=>by simp[vD] at hok
 | .exit _ _,_,hok,_,_,_,_,_,_,_,_,_,_,_,_=>by simp[vD] at hok
 | .scope _,_,hok,_,_,_,_,_,_,_,_,_,_,_,_=>by simp[vD] at hok
 | .ret,_,hok,_,_,_,_,_,_,_,_,_,_,_,_=>by simp[vD] at hok
 | .refuse,_,hok,_,_,_,_,_,_,_,_,_,_,_,_=>by simp[vD] at hok
 | .rangeF ..,_,hok,_,_,_,_,_,_,_,_,_,_,_,_=>by simp[vD] at hok
theorem qnb {ρ:Map} {H:Ice} {env:List (Nat × V)} {a:Act} (hE:∀ t v,A5 env t=some v→j9 ρ H v (a.tmps.getD t undef)):∀ {xs:List Operand} {ts:List Nat} {vs:List V},Zl xs ts=true→Zb env ts=some vs→f9 ρ H vs (xs.map a.eval)∧vs.length=ts.length
 | [],[],vs,_,e=>by cases e; exact ⟨rfl,rfl⟩
 | [],_ :: _,_,h,_=>by simp[Zl] at h
 | .tmp t :: xs,[],_,h,_=>by simp[Zl] at h
 | .tmp t :: xs,t' :: ts,vs,h,e=>by
   simp only[Zl,Bool.and_eq_true,decide_eq_true_eq] at h;obtain ⟨rfl,h⟩:=h;obtain ⟨v,e1,e2⟩:=f7 e;obtain ⟨vs',e3,e4⟩:=f7 e2;cases e4;obtain ⟨k1,k2⟩:=qnb hE h e3;exact ⟨⟨_,_,rfl,hE t v e1,k1⟩,by simp[k2]⟩
 | .const _ :: _,ts,_,h,_=>by cases ts <;> simp[Zl] at h
 | .func _ :: _,ts,_,h,_=>by cases ts <;> simp[Zl] at h
 | .global _ :: _,ts,_,h,_=>by cases ts <;> simp[Zl] at h
inductive Mode (ρ:Map) (H:Ice):FrameMode→V→Prop
 | ret:Mode ρ H .returning (.d .nili)
 | pan {v u} (h:j9 ρ H v u):Mode ρ H (.panicking [{ v:=u,recovered:=false }]) v
theorem qpw (hcf:Qp B P cf) (hfs:∀ g vs hp r,cf g vs hp=some r→S6 P g=true) {r:ARec} (hok:qpj P r=true) {n:Nat} {ρ:Map} {H:Ice} {w:World} {heap:List Obj} {u:FrameMode} {v:V} {cs:List V} {us:Array Value} {x:Ex × St}
 (hB:B.le H) (hH:HRel ρ H (j5 heap) w) (honly:∀ l,ρ l ≠ .none→∃ k,k < heap.length∧l = .b k) (hm:Mode ρ H u v) (hcs:f9 ρ H cs us.toList) (hlen:cs.length=r.caps.length)
 (e:code T cf heap.length n r.hcode { env:=(r.hv,v) :: (List.range cs.length).zip cs,heap } = some x) {R:Ending→FrameMode→World→Prop}
 (hx:match x with
  | (.nrm,st) | (.ret,st)=>∀ ρ' H' w',HRel ρ' H' (j5 st.heap) w'→(∀ l,ρ' l ≠ .none→∃ k,k < st.heap.length∧l = .b k)→Trans ρ H w ρ' H' w'→A2 heap.length ρ ρ'→heap.length≤st.heap.length→∀ v' u',settle u' = .returning→R (.returned v') u' w'
  | (.out,_)=>∃ w0,R .outgrown u w0
  | _=>False):CallsD P r.hf us u w R:=by
 unfold qpj at hok;split at hok
 ·rename_i fn hfn;simp only[Bool.and_eq_true,decide_eq_true_eq] at hok;obtain ⟨⟨hb,hres⟩,hcn⟩:=hok;split at hb
  ·rename_i id ops rest hbody;simp only[Bool.and_eq_true] at hb;obtain ⟨hask,hrest⟩:=hb;refine callsD_of_wpS hfn hbody (fun c₀ cs0 hmode=>?_);apply wpS_seq;apply wpS_region
   cases hops:ops.toList with
   | nil=>rw[hops] at hask; cases hask
   | cons o0 l=>
   cases l with
   | nil=>rw[hops] at hask; cases hask
   | cons o1 l=>
   cases l with
   | cons _ _=>rw[hops] at hask; cases hask
   | nil=>
   rw[hops] at hask;have hopsA:ops = #[o0,o1]:=Array.toList_inj.1 hops;subst hopsA;simp only[q4o,Bool.and_eq_true,decide_eq_true_eq] at hask;obtain ⟨⟨⟨⟨⟨⟨hg0,hg1⟩,hop0⟩,hd0⟩,hd1⟩,hvN⟩,hvc⟩:=hask
   have g0:o0.guard=none:=by simpa using hg0
   have g1:o1.guard=none:=by simpa using hg1
   split at hop0
   ·rename_i c hc;simp only[Bool.and_eq_true] at hop0;obtain ⟨hcal,hargs⟩:=hop0;split at hcal
    ·rename_i hcb;split at hd0
     ·rename_i t ht;simp only[Bool.and_eq_true,decide_eq_true_eq,Bool.not_eq_true',decide_eq_false_iff_not] at hd0;obtain ⟨⟨⟨htN,hop1⟩,htc⟩,htv⟩:=hd0;split at hop1
      ·rename_i t' hop1';simp only[decide_eq_true_eq] at hop1;subst hop1;have hul:=hcs.length;simp only[Array.length_toList] at hul
       let tm:Array Value:=us++Array.replicate (fn.ntmps - us.size) undef
       have htm:tm.size=fn.ntmps:=by simp[tm]; omega
       have hrun:∀ (a:Act),(execOp a.eval o0).run P w = .ok .recover w:=fun a=>by
        unfold execOp;simp only[hc,resolve,hcb];rw[vP hargs];rfl
       have hrange:List.range (#[o0,o1]:Array Oper).size=[0,1]:=rfl;rw[hrange]
       obtain ⟨uv,cs1,hrec,hvu,u',rfl,hset⟩:∃ uv cs1,((recoverD (c₀ :: cs0)=none∧uv=Value.nilIface∧cs1=c₀ :: cs0)∨recoverD (c₀ :: cs0)=some (uv,cs1))∧j9 ρ H v uv ∧ ∃ u',cs1 = { c₀ with mode:=u' } :: cs0∧settle u' = .returning:=by
        cases hm with
        | ret=>
          refine ⟨.nilIface,c₀ :: cs0,.inl ⟨?_,rfl,rfl⟩,rfl,.returning,?_,rfl⟩
          ·simp only[recoverD,hmode]
          ·cases c₀; simp only at hmode; subst hmode; rfl
        | pan h=>
          rename_i uu;exact ⟨uu,_,.inr (by simp only[recoverD,hmode]; rfl),h,_,rfl,rfl⟩
       have hstep:∀ Q':Exit→Act→List Frame→World→Prop,Q' .normal ((({ tmps:=tm,defers:=[] }:Act).put (some t') uv).put (some r.hv) uv) ({ c₀ with mode:=u' } :: cs0) w→wpOpsS P #[o0,o1] Q' [0,1] { tmps:=tm,defers:=[] } (c₀ :: cs0) w:=by
        intro Q' hq
        have hev:(({ tmps:=tm,defers:=[] }:Act).put (some t') uv).eval (.tmp t')=uv:=by
         simp only[Act.put,Act.eval];simp[Array.getD,htm,htN]
        have h1:wpOpsS P #[o0,o1] Q' [1] (({ tmps:=tm,defers:=[] }:Act).put (some t') uv) ({ c₀ with mode:=u' } :: cs0) w:=by
         have hx1:(execOp (({ tmps:=tm,defers:=[] }:Act).put (some t') uv).eval o1).run P w = .ok (.value uv) w:=by
          unfold execOp;simp only[hop1',hev];rfl
         simp only[wpOpsS,show (#[o0,o1]:Array Oper)[1]? = some o1 from rfl,Region.wanted,g1,if_true,hx1,Oper.upon,hd1];exact hq
        unfold wpOpsS;simp only[show (#[o0,o1]:Array Oper)[0]? = some o0 from rfl,Region.wanted,g0,if_true,hrun];rcases hrec with ⟨h,rfl,h3⟩ | h
        ·rw[h];simp only[ht];rw[h3] at h1;exact h1
        ·rw[h];simp only[ht];exact h1
       apply hstep;show rest.wpS P (bodyPostS P fn c₀ cs0 R) _ _ _;apply wpS_of_wp;have hE0:EnvRel B [] [] ρ H fn.ntmps ((List.range cs.length).zip cs) { tmps:=us++Array.replicate (fn.ntmps - us.size) undef,defers:=[] }:=qd9 hB hcs (by omega);have hE1:=(hE0.put (x:=v) (v:=uv) (some t') (fun t ht=>by cases ht; exact ⟨htN,fun x hx=>by cases hx⟩) hvu).put (x:=v) (v:=uv) (some r.hv) (fun t ht=>by cases ht; exact ⟨hvN,fun x hx=>by cases hx⟩) hvu
       have hE2:EnvRel B [] [] ρ H fn.ntmps ((r.hv,v) :: (List.range cs.length).zip cs) ((({ tmps:=tm,defers:=[] }:Act).put (some t') uv).put (some r.hv) uv):=⟨hE1.size,hE1.defers,fun t x hg=>by
        refine hE1.rel t x ?_;simp only[U7,A5] at hg ⊢;split at hg
        ·rename_i h; rw[if_pos h]; exact hg
        ·rename_i h;rw[if_neg h]
         have ht:t < cs.length:=by
          rw[List.range_eq_range'] at hg;have:=(WQ hg).1;omega
         rw[if_neg (by omega)]
         exact hg,hE1.base,hE1.fix⟩
       refine vN (ds:=[]) (fx:=[]) (p:=heap.length) hcf hfs r.hcode _ hrest (C1 _) n _ x e ρ H w _ _ ⟨hH,hE2,honly⟩ (Nat.le_refl _) ?_
       ·obtain ⟨ex,st⟩:=x
        have hre:∀ (a:Act) (w:World),(results fn a.tmps).run P w = .ok (.tuple #[]) w:=fun a w=>by
         unfold results;rw[vP hres,Array.mapM_eq_mapM_toList];rfl
        cases ex with
        | nrm=>
          intro ρ' H' a' w' q1 q2 q3 q4;exact ⟨q1.env.defers,u',rfl,_,hre a' w',hx ρ' H' w' q1.heap q1.only q2 q3 q4 _ _ hset⟩
        | ret=>
          intro ρ' H' a' w' q1 q2 q3 q4;exact ⟨q1.env.defers,u',rfl,_,hre a' w',hx ρ' H' w' q1.heap q1.only q2 q3 q4 _ _ hset⟩
        | out=>obtain ⟨w0,h0⟩:=hx; exact ⟨{ tmps:=#[],defers:=[] },w0,u,h0⟩
        | pan v=>exact hx.elim
        | exit id=>exact hx.elim
      ·cases hop1
     ·cases hd0
    ·cases hcal
   ·cases hop0
  ·cases hb
 ·cases hok
def zlr (ρ:Map) (H:Ice) (w:World) (n:Nat) (x:CRes):Ending→World→Prop:=fun e w'=>match e with
 | .outgrown=>x = .out
 | .returned v=>∃ rs os ρ' H',x = .ret rs os∧CallEnd ρ H w n os ρ' H' w'∧j9 ρ' H' (Xg rs) v
 | .panicked chain=>∃ y os ρ' H' u,x = .pan y os∧chain=[{ v:=u,recovered:=false }]∧CallEnd ρ H w n os ρ' H' w'∧j9 ρ' H' y u
theorem Yn:∀ {ts:List Nat} {vs:List V} {t:Nat} {v:V},A5 (ts.zip vs) t=some v→t∈ts
 | [],vs,t,v,h=>by simp[A5] at h
 | s :: ts,[],t,v,h=>by simp[A5] at h
 | s :: ts,x :: vs,t,v,h=>by
   simp only[List.zip_cons_cons,A5] at h;split at h
   ·rename_i hs; subst hs; exact List.mem_cons_self ..
   ·exact List.mem_cons_of_mem _ (Yn h)
theorem Wf {env:List (Nat × V)}:∀ (ks:List Nat),∀ t∈(zK env ks).1,t∈ks
 | [],t,h=>by simp[zK] at h
 | k :: ks,t,h=>by
   simp only[zK] at h
   cases hg:A5 env k with
   | none=>simp only[hg] at h; exact List.mem_cons_of_mem _ (Wf ks t h)
   | some v=>
     simp only[hg] at h;rcases List.mem_cons.1 h with rfl | h
     ·exact List.mem_cons_self ..
     ·exact List.mem_cons_of_mem _ (Wf ks t h)
theorem A2.le {p p':Nat} {ρ ρ':Map} (h:p≤p') (k:A2 p' ρ ρ'):A2 p ρ ρ':=fun j hj=>k j (by omega)
theorem qty (hcf:Qp B P cf) (hfs:∀ g vs hp r,cf g vs hp=some r→S6 P g=true) {f:FuncId} {r:ARec} (hok:Ko P f r=true) {n:Nat} {vs:List V} {heap:List Obj} {x:CRes}
 (e:qal (fun p a st=>code T cf p n a st) r vs heap=some x) {ρ:Map} {H:Ice} {w:World} {args:Array Value} (hB:B.le H) (hH:HRel ρ H (j5 heap) w) (hv:f9 ρ H vs args.toList)
 (honly:∀ l,ρ l ≠ .none→∃ k,k < heap.length∧l = .b k):wu P f args w ρ H heap.length x:=by
 simp only[Ko,Bool.and_eq_true] at hok;obtain ⟨⟨⟨⟨_,hfh⟩,hhand⟩,hfun⟩,hav⟩:=hok;split at hfun
 ·rename_i fn hfn;simp only[Bool.and_eq_true,decide_eq_true_eq] at hfun;obtain ⟨⟨hbd,hres⟩,hnp⟩:=hfun
  cases hb:fn.body with
  | none=>rw[hb] at hbd; cases hbd
  | some c=>
  rw[hb] at hbd;simp only at hbd;unfold qal at e;split at e
  ·rename_i hl;dsimp only at e;show Calls P f args w (zlr ρ H w heap.length x);generalize hR:zlr ρ H w heap.length x=R;apply calls_of_wp_defers hfn hb
   have hS:StRel B [] [] ρ H fn.ntmps { env:=(List.range r.np).zip vs,heap:=heap } { tmps:=args++Array.replicate (fn.ntmps - args.size) undef,defers:=[] } w:=
    ⟨hH,by rw[← hl]; exact qd9 hB hv (by omega),honly⟩
   have stays:∀ {ρ':Map},A2 heap.length ρ ρ'→j4 ρ ρ':=fun h l hl=>by
    obtain ⟨k,hk,rfl⟩:=honly l hl;exact h k hk hl
   have hout0:x = .out→∀ w,R .outgrown w:=fun hx w=>by subst hR; exact hx
   have hout:x = .out→LetsOut (bodyPostD P fn R):=fun hx=>⟨{ tmps:=#[],defers:=[] },w,hout0 hx w⟩
   have fin:∀ {st:St},qz heap.length r.res st=some x→∀ ρ' H' (a':Act) w',HRel ρ' H' (j5 st.heap) w'→(∀ t v,A5 st.env t=some v→j9 ρ' H' v (a'.tmps.getD t undef))→Trans ρ H w ρ' H' w'→A2 heap.length ρ ρ'→
    ∃ v,(results fn a'.tmps).run P w' = .ok v w'∧R (.returned v) w':=by
    intro st e ρ' H' a' w' q1 q1' q2 q3;obtain ⟨rs,os,ρ2,H2,v,rfl,r1,r2,r3,r4,r5,r6,r7⟩:=qdg q1 q1' hres e;subst hR;exact ⟨v,r1,rs,os,ρ2,H2,rfl,⟨r2,q2.trans r3,stays (q3.trans r5),r4,r6⟩,r7⟩
   cases h1:code T cf heap.length n r.pre { env:=(List.range r.np).zip vs,heap:=heap } with
   | none=>rw[h1] at e; cases e
   | some y=>
   rw[h1] at e;refine qf2 hcf hfs r.pre c hbd _ y h1 ρ H w _ _ hS (Nat.le_refl _) ?_ ?_
   ·rintro st rfl rest hrest ρ1 H1 a1 w1 s1 s2 s3 s4
    obtain ⟨cs,hcs,e⟩:=f7 (show bnd _ _=some x from e);unfold qx3 at hrest;split at hrest
    ·rename_i id ops rest2;simp only[Bool.and_eq_true] at hrest;obtain ⟨hdef,hbody⟩:=hrest
     cases hops:ops.toList with
     | nil=>rw[hops] at hdef; cases hdef
     | cons o0 l=>
     cases l with
     | nil=>rw[hops] at hdef; cases hdef
     | cons o1 l=>
     cases l with
     | cons _ _=>rw[hops] at hdef; cases hdef
     | nil=>
     rw[hops] at hdef;have hopsA:ops = #[o0,o1]:=Array.toList_inj.1 hops;subst hopsA;simp only[q4n,Bool.and_eq_true,decide_eq_true_eq] at hdef;obtain ⟨⟨⟨⟨⟨⟨⟨htks,hg0⟩,hg1⟩,hd0⟩,htN⟩,hd1⟩,hop0⟩,hop1⟩:=hdef
     have g0:o0.guard=none:=by simpa using hg0
     have g1:o1.guard=none:=by simpa using hg1
     split at hop0
     ·rename_i g first caps hm0
      simp only[Bool.and_eq_true,decide_eq_true_eq] at hop0;obtain ⟨⟨rfl,hfirst⟩,hcaps⟩:=hop0;split at hop1
      ·rename_i cl hm1;simp only[Bool.and_eq_true] at hop1;obtain ⟨hcal,hargs⟩:=hop1;split at hcal
       ·rename_i tt hcv;simp only[decide_eq_true_eq] at hcal;subst hcal;obtain ⟨hcr,hcl⟩:=qnb s1.env.rel hcaps hcs
        let fv:Value:=.func (.func r.hf) #[] (caps.map a1.eval)
        let d:Deferred:={ target:=.fn (.func r.hf) (caps.map a1.eval),args:=#[] }
        let a2:Act:={ a1.put (some r.t) fv with defers:=[d] }
        have hx0:(execOp a1.eval o0).run P w1 = .ok (.value fv) w1:=by
         unfold execOp;simp only[hm0,Instr.makeFunc];rw[vP hfirst];simp[fv]
        have hev:(a1.put (some r.t) fv).eval (.tmp r.t)=fv:=by
         simp only[Act.put,Act.eval];simp[Array.getD,s1.env.size,htN]
        have hx1:(execOp (a1.put (some r.t) fv).eval o1).run P w1 = .ok (.defer d) w1:=by
         unfold execOp;simp only[hm1,resolve,hcv,hev,fv,Deferred.ofValue];rw[vP hargs];simp[d]
        have hdef0:a1.defers=[]:=s1.env.defers;apply wp_seq;apply wp_region
        have hstep:∀ Q':Exit→Act→World→Prop,Q' .normal a2 w1→wpOps P #[o0,o1] Q' [0,1] a1 w1:=by
         intro Q' hq;simp only[wpOps,show (#[o0,o1]:Array Oper)[0]? = some o0 from rfl,show (#[o0,o1]:Array Oper)[1]? = some o1 from rfl,Region.wanted,g0,g1,if_true];left;unfold Oper.wp;rw[hx0];simp only[Oper.upon,hd0];left;rw[hx1];simp only[hd1]
         have:(({ a1.put (some r.t) fv with defers:=d :: (a1.put (some r.t) fv).defers }:Act).put none undef)=a2:=by
          simp only[Act.put,a2,hdef0]
         rw[this];exact hq
        apply hstep;show rest2.wp P (bodyPostD P fn R) a2 w1
        let ks:List Nat:=r.res.map (·.1.slot)
        let fx:List (Nat × Value):=ks.map fun t=>(t,a2.tmps.getD t undef)
        have hfx:fx.map (·.1)=ks:=by simp[fx,Function.comp_def]
        have hE1:=s1.env.put (x:=.junk) (v:=fv) (some r.t) (fun t ht=>by cases ht; exact ⟨htN,fun x hx=>by cases hx⟩) rfl
        have hE2:EnvRel B [d] fx ρ1 H1 fn.ntmps ((r.t,.junk) :: st.env) a2:=⟨hE1.size,rfl,hE1.rel,hE1.base,fun t u hm=>by
         obtain ⟨t',_,h⟩:=List.mem_map.1 hm;cases h
         rfl⟩
        have hst1:∀ {ρ':Map},A2 st.heap.length ρ1 ρ'→j4 ρ1 ρ':=fun h l hl=>by
         obtain ⟨k,hk,rfl⟩:=s1.only l hl;exact h k hk hl
        have later:∀ {ρ' H' w'} {a':Act},Trans ρ1 H1 w1 ρ' H' w'→j4 ρ1 ρ'→(∀ t u,(t,u)∈fx→a'.tmps.getD t undef=u)→∀ t v,A5 (jB r st.env) t=some v→j9 ρ' H' v (a'.tmps.getD t undef):=by
         intro ρ' H' w' a' q1 q2 q3 t v hg;have hk:=qap (qc0 s1.env ks) t v hg;have htk:t∈ks:=Wf ks t (Yn hg);rw[q3 t _ (List.mem_map.2 ⟨t,htk,rfl⟩)]
         have hne:r.t≠t:=fun h=>by
          subst h;have:ks.contains r.t=true:=List.contains_iff_mem.2 htk;rw[this] at htks;cases htks
         have:a2.tmps.getD t undef=a1.tmps.getD t undef:=by
          simp only[a2,Act.put,Array.getD_eq_getD_getElem?,Array.getElem?_setIfInBounds,if_neg hne]
         rw[this];exact hk.mono q2 (q1.le s1.heap)
        have leave:∀ {u:FrameMode} {v:V} {hp:List Obj} {ρ' H'} {a':Act} {w'},qpx heap.length r.res (jB r st.env) (code T cf hp.length n r.hcode { env:=(r.hv,v) :: (List.range cs.length).zip cs,heap:=hp })=some x→u ≠ .run→Mode ρ' H' u v→HRel ρ' H' (j5 hp) w'→
         (∀ l,ρ' l ≠ .none→∃ k,k < hp.length∧l = .b k)→a'.defers=[d]→(∀ t u,(t,u)∈fx→a'.tmps.getD t undef=u)→Trans ρ1 H1 w1 ρ' H' w'→A2 st.heap.length ρ1 ρ'→st.heap.length≤hp.length→Leaves P fn a'.tmps R a'.defers u w':=by
         intro u v hp ρ' H' a' w' e3 hu hm k1 k2 k3 k4 k5 k6 k7;rw[k3]
         have hinv:(invoke (.fn (.func r.hf) (caps.map a1.eval)) #[]).run P w' = .ok (.enter r.hf (#[]++caps.map a1.eval)) w':=by
          simp only[invoke];exact V6 hfh _
         cases h3:code T cf hp.length n r.hcode { env:=(r.hv,v) :: (List.range cs.length).zip cs,heap:=hp } with
         | none=>rw[h3] at e3; cases e3
         | some z=>
         rw[h3] at e3;refine leaves_cons hu hinv ?_;refine qpw hcf hfs hhand (fun b o v h=>k5.le s1.heap b o v (s1.env.base b o v h)) k1 k2 hm (cs:=cs) ?_ hcl h3 ?_
         ·have:(#[]++caps.map a1.eval).toList=caps.toList.map a1.eval:=by simp
          rw[this];exact f9.mono (hst1 k6) (k5.le s1.heap) cs hcr
         ·have done:∀ {st3:St},qz heap.length r.res { env:=jB r st.env,heap:=st3.heap } = some x→∀ ρ2 H2 w2,HRel ρ2 H2 (j5 st3.heap) w2→Trans ρ' H' w' ρ2 H2 w2→A2 hp.length ρ' ρ2→∀ u',settle u' = .returning→Leaves P fn a'.tmps R [] (settle u') w2:=by
           intro st3 e4 ρ2 H2 w2 t1 t2 t3 u' hset;rw[hset]
           have hst2:j4 ρ' ρ2:=fun l hl=>by
            obtain ⟨k,hk,rfl⟩:=k2 l hl;exact t3 k hk hl
           exact fin e4 ρ2 H2 a' w2 t1 (later (k5.trans t2) ((hst1 k6).trans hst2) k4) ((s2.trans k5).trans t2) ((s3.trans (k6.le s4)).trans (t3.le (Nat.le_trans s4 k7)))
          obtain ⟨ex,st3⟩:=z
          cases ex with
          | nrm=>exact fun ρ2 H2 w2 t1 _ t2 t3 _ v' u' hset=>done e3 ρ2 H2 w2 t1 t2 t3 u' hset
          | ret=>exact fun ρ2 H2 w2 t1 _ t2 t3 _ v' u' hset=>done e3 ρ2 H2 w2 t1 t2 t3 u' hset
          | out=>(cases e3; exact ⟨w',hout0 rfl w'⟩)
          | pan v=>cases e3
          | exit id=>cases e3
        cases h2:code T cf st.heap.length n r.body { env:=(r.t,.junk) :: st.env,heap:=st.heap } with
        | none=>rw[h2] at e; cases e
        | some z=>
        rw[h2] at e;refine vN (B:=B) (ds:=[d]) (fx:=fx) (p:=st.heap.length) hcf hfs r.body _ hbody (by rw[hfx]; exact hav) n _ z h2 ρ1 H1 w1 a2 _ ⟨s1.heap,hE2,s1.only⟩ (Nat.le_refl _) ?_;obtain ⟨ex,st2⟩:=z
        cases ex with
        | nrm=>exact fun ρ' H' a' w' q1 q2 q3 q4=>leave (u:=.returning) e (fun h=>by cases h) .ret q1.heap q1.only q1.env.defers q1.env.fix q2 q3 q4
        | ret=>exact fun ρ' H' a' w' q1 q2 q3 q4=>leave (u:=.returning) e (fun h=>by cases h) .ret q1.heap q1.only q1.env.defers q1.env.fix q2 q3 q4
        | out=>(cases e; exact hout rfl)
        | exit id=>cases e
        | pan v=>
          cases v <;> first | (cases e; done) | skip
          rename_i yv
          cases yv <;> first | (cases e; done) | skip
          exact fun ρ' H' a' w' u q1 q2 q3 q4 q4x q5 q6 q7=>leave (u:=.panicking _) e (fun h=>by cases h) (.pan q3) q1 q2 q4 q4x q5 q6 q7
       ·cases hcal
      ·cases hop1
     ·cases hop0
    ·cases hrest
   ·intro hne;obtain ⟨ex,st⟩:=y
    cases ex with
    | nrm=>exact (hne rfl).elim
    | exit id=>cases e
    | out=>(cases e; exact hout rfl)
    | ret=>
      intro ρ' H' a' w' q1 q2 q3 q4;show Leaves P fn a'.tmps R a'.defers .returning w';rw[q1.env.defers];exact fin e ρ' H' a' w' q1.heap q1.env.rel q2 q3
    | pan v=>
      intro ρ' H' a' w' u q1 q2 q3 q4 _ q5 q6 q7;show Leaves P fn a'.tmps R a'.defers _ w';rw[q4];cases e;subst hR;exact ⟨v,st.heap,ρ',H',u,rfl,rfl,⟨q1,q5,stays q6,fun l hl=>by obtain ⟨k,_,hk⟩:=q2 l hl; exact ⟨k,hk⟩,q7⟩,q3⟩
  ·cases e
 ·cases hfun
end
end Go.Rf

set_option linter.unusedSectionVars false
namespace Go.Rf
variable [Prg]
variable {B:Ice}
section
variable {P:Program} {N p:Nat} {ρ:Map} {H:Ice} {w:World}
theorem Zs {fn:Func} {tmps:Array Value} {R:Ending→World→Prop} {u:FrameMode} (hu:u ≠ .run) {ρ0:Map} {H0:Ice} {w0:World} {h:Loc→Option Obj}:∀ (rs:List Nat) (w:World),Marks w0.heap.size ρ w rs→HRel ρ H h w→Trans ρ0 H0 w0 ρ H w→
 (∀ w2,HRel ρ H h w2→Trans ρ0 H0 w0 ρ H w2→LeavesIn Fence.wide 0 P fn tmps R [] u w2)→LeavesInM Fence.wide 0 P fn tmps R (rs.map mk) u w
 | [],w,_,hH,ht,k=>k w hH ht
 | r :: rs,w,hm,hH,ht,k=>by
   obtain ⟨h1,h2,h3⟩:=hm.at_ r (by simp);have hnd:=List.nodup_cons.1 hm.nd;refine ⟨hu,.inl ⟨r,w.putObj r (.deferred none),rfl,run_takeDeferred h2,Zs hu rs _ ⟨hnd.2,fun q hq=>?_⟩ (hH.putF h3 (fun o=>?_) _) (ht.putF h1 _) k⟩⟩
   ·obtain ⟨g1,g2,g3⟩:=hm.at_ q (by simp[hq]);exact ⟨g1,(World.putObj_heap_other (fun e:q=r=>hnd.1 (e ▸ hq))).trans g2,g3⟩
   ·cases e:H r o with
    | none=>rfl
    | some v=>have:=hH.ice r o v e; simp[World.cell?,h2] at this
theorem qsl {T:Tab} {X:Exts} (hP:P=Prg.p) (hT:∀ f af,T.funs f=some af→qf5 P f af=true) (hR:∀ f r,T.recs f=some r→Ko P f r=true) (hX:∀ f e,X.run f=some e→qnx B P f e):∀ n,Qp B P (call T X n) ∧ ∀ g vs hp r,call T X n g vs hp=some r→S6 P g=true
 | 0=>⟨⟨hP,fun f vs heap r e=>by simp[call] at e⟩,fun g vs hp r e=>by simp[call] at e⟩
 | n + 1=>by
   obtain ⟨ih1,ih2⟩:=qsl hP hT hR hX n;refine ⟨⟨hP,fun f vs heap r e ρ H w args hB hH hv honly=>?_⟩,fun g vs hp r e=>?_⟩
   ·simp only[call] at e;split at e
    ·rename_i ex hex;exact (hX f ex hex).2 _ ih1 vs heap r e ρ H w args hB hH hv honly
    ·split at e
     ·split at e
      ·rename_i r hr;exact qty ih1 ih2 (hR f r hr) e hB hH hv honly
      ·cases e
     ·rename_i af haf;have hok:=hT f af haf;simp only[qf5,Bool.and_eq_true] at hok;obtain ⟨_,hok⟩:=hok;split at hok
      ·rename_i fn hfn;simp only[Bool.and_eq_true,decide_eq_true_eq] at hok;obtain ⟨⟨k1,k2⟩,k3⟩:=hok
       cases hb:fn.body with
       | none=>rw[hb] at k1; cases k1
       | some c=>
       rw[hb] at k1;simp only at k1;split at e
       ·rename_i hnp
        have hS:StRel B [] [] ρ H fn.ntmps { env:=(List.range af.np).zip vs,heap:=heap } { tmps:=args++Array.replicate (fn.ntmps - args.size) undef,defers:=[] } w:=
         ⟨hH,by rw[← hnp]; exact qd9 hB hv (by omega),honly⟩
        have stays:∀ {ρ':Map},A2 heap.length ρ ρ'→j4 ρ ρ':=fun h l hl=>by
         obtain ⟨k,hk,rfl⟩:=honly l hl;exact h k hk hl
        unfold wu;refine callsIn_wide.1 (callsIn_of_wp_marks (F:=Fence.wide) (n:=0) hfn hb trivial ?_ rfl)
        have fin:∀ {st:St},qz heap.length af.res st=some r→∀ rs ρ' H' a' w',Marks w.heap.size ρ' w' rs→StRel B (rs.map mk++[]) [] ρ' H' fn.ntmps st a' w'→Trans ρ H w ρ' H' w'→A2 heap.length ρ ρ'→
         LeavesInM Fence.wide 0 P fn a'.tmps (fun e w'=>match e with
          | .outgrown=>r = .out
          | .returned v=>∃ rs os ρ' H',r = .ret rs os∧CallEnd ρ H w heap.length os ρ' H' w'∧j9 ρ' H' (Xg rs) v
          | .panicked chain=>∃ x os ρ' H' u,r = .pan x os∧chain=[{ v:=u,recovered:=false }]∧CallEnd ρ H w heap.length os ρ' H' w'∧j9 ρ' H' x u) a'.defers .returning w':=by
         intro st e rs ρ' H' a' w' hm q1 q2 q3;rw[q1.env.defers,List.append_nil]
         refine Zs (by simp) rs w' hm q1.heap q2 fun w2 g1 g2=>?_
         obtain ⟨rs,os,ρ2,H2,v,rfl,r1,r2,r3,r4,r5,r6,r7⟩:=qdg g1 q1.env.rel k2 e;exact ⟨v,r1,rs,os,ρ2,H2,rfl,⟨r2,g2.trans r3,stays (q3.trans r5),r4,r6⟩,r7⟩
        show c.wpIn (Qd none) 0 _ _ _ _;split at e
        ·rename_i st e1;exact C0 (fx:=[]) (p:=heap.length) (pl:=false) ih1 ih2 af.code c k1 (.inr ⟨rfl,rfl⟩) (C1 _) [] n _ _ e1 ρ H w _ _ hS (Nat.le_refl _) (fun rs ρ' H' a' w' _ hm q1 q2 q3 _=>fin e rs ρ' H' a' w' hm q1 q2 q3)
        ·rename_i st e1;exact C0 (fx:=[]) (p:=heap.length) (pl:=false) ih1 ih2 af.code c k1 (.inr ⟨rfl,rfl⟩) (C1 _) [] n _ _ e1 ρ H w _ _ hS (Nat.le_refl _) (fun rs ρ' H' a' w' _ hm q1 q2 q3 _=>fin e rs ρ' H' a' w' hm q1 q2 q3)
        ·rename_i v st e1;cases e;refine C0 (fx:=[]) (p:=heap.length) (pl:=false) ih1 ih2 af.code c k1 (.inr ⟨rfl,rfl⟩) (C1 _) [] n _ _ e1 ρ H w _ _ hS (Nat.le_refl _) (fun rs ρ' H' a' w' u _ hm q1 q2 q3 q4 _ q5 q6 q7=>?_);show LeavesInM _ _ _ _ _ _ a'.defers _ _;rw[q4,List.append_nil]
         exact Zs (by simp) rs w' hm q1 q5 fun w2 g1 g2=>⟨v,st.heap,ρ',H',u,rfl,rfl,⟨g1,g2,stays q6,(fun l hl=>by obtain ⟨k,_,hk⟩:=q2 l hl; exact ⟨k,hk⟩),q7⟩,q3⟩
        ·rename_i st e1;cases e;exact C0 (fx:=[]) (p:=heap.length) (pl:=false) ih1 ih2 af.code c k1 (.inr ⟨rfl,rfl⟩) (C1 _) [] n _ _ e1 ρ H w _ _ hS (Nat.le_refl _) ⟨{ tmps:=#[],defers:=[] },w,rfl⟩
        ·cases e
       ·cases e
      ·cases hok
   ·simp only[call] at e;split at e
    ·rename_i ex hex;exact (hX g ex hex).1
    ·split at e
     ·split at e
      ·rename_i r hr;have hok:=hR g r hr;simp only[Ko,Bool.and_eq_true] at hok;exact hok.1.1.1.1
      ·cases e
     ·rename_i af haf;have hok:=hT g af haf;simp only[qf5,Bool.and_eq_true] at hok;exact hok.1
end
end Go.Rf

set_option linter.unusedSectionVars false
namespace Go.Rf
variable [Prg]
def Yk (w:World):Ice:=fun b o=>w.cell? ⟨b,o,none⟩
mutual
def toD {H:Type}:DataW H→D
 | .lit (.bool b)=>.bool b
 | .lit (.int k n)=>.int k n
 | .lit (.string s)=>.str s
 | .slice es _=>.sl (KF es)
 | .agg ps=>.agg (ZY ps)
 | .nil=>.sl []
 | _=>.nilp
def KF {H:Type}:List (DataW H)→List D
 | []=>[]
 | d :: ds=>toD d :: KF ds
def ZY {H:Type}:List (DataW H)→List D
 | []=>[]
 | .agg qs :: ps=>ZY qs++ZY ps
 | .lit (.bool b) :: ps=>.bool b :: ZY ps
 | .lit (.int k n) :: ps=>.int k n :: ZY ps
 | .lit (.string s) :: ps=>.str s :: ZY ps
 | .nil :: ps=>.sl [] :: ZY ps
 | .slice es _ :: ps=>.sl (KF es) :: ZY ps
 | _ :: ps=>.nilp :: ZY ps
end
def T9 {H:Type}:DataW H→List D
 | .agg qs=>ZY qs
 | d=>[toD d]
theorem qfk {H:Type} (d:DataW H) (ps:List (DataW H)):ZY (d :: ps)=T9 d++ZY ps:=by
 cases d with
 | lit l=>cases l <;> simp[ZY,T9,toD]
 | _=>simp[ZY,T9,toD]
mutual
def qj {H:Type}:DataW H→Nat
 | .lit (.string bytes)=>bytes.length + 1
 | .lit _=>1
 | .nil=>1
 | .ptr d=>qj d + 1
 | .slice F7 spare=>X6 F7 + X6 spare + 1
 | .agg parts=>X6 parts + 1
 | .iface _ d=>qj d + 1
 | .map entries=>Wq entries + 1
 | .held _=>1
def X6 {H:Type}:List (DataW H)→Nat
 | []=>0
 | d :: r=>qj d + X6 r
def Wq {H:Type}:List (Lit × DataW H)→Nat
 | []=>0
 | x :: r=>qnd x + Wq r
def qnd {H:Type}:Lit × DataW H→Nat
 | (.string bytes,d)=>bytes.length + qj d + 1
 | (_,d)=>qj d + 1
end
theorem qlj {H:Type} (d:DataW H):1≤qj d:=by
 cases d with
 | lit l=>cases l <;> simp[qj]
 | _=>simp[qj]
theorem Yg {H:Type}:∀ l:List (DataW H),l.length≤X6 l
 | []=>Nat.le_refl _
 | d :: l=>by have:=qlj d; have:=Yg l; simp only[X6,List.length_cons]; omega
mutual
theorem qfg {H:Type}:∀ d:DataW H,wts (T9 d)≤24 * qj d
 | .lit l=>by
   cases l <;> simp[T9,toD,wts,wt,qj]
   ·rename_i k _; cases k <;> simp[IntKind.bits]
   ·omega
 | .nil=>by simp[T9,toD,wts,wt,qj]
 | .ptr d=>by simp[T9,toD,wts,wt,qj]; omega
 | .slice _ _=>by simp[T9,toD,wts,wt,qj]; omega
 | .agg ps=>by have:=qj9 ps; simp only[T9,qj]; omega
 | .iface _ d=>by simp[T9,toD,wts,wt,qj]; omega
 | .map _=>by simp[T9,toD,wts,wt,qj]; omega
 | .held _=>by simp[T9,toD,wts,wt,qj]
theorem qj9 {H:Type}:∀ ps:List (DataW H),wts (ZY ps)≤24 * X6 ps
 | []=>by simp[ZY,wts]
 | d :: ps=>by
   have h1:=qfg d;have h2:=qj9 ps
   have happ:∀ a b:List D,wts (a++b)=wts a + wts b:=by
    intro a
    induction a with
    | nil=>intro b; simp[wts]
    | cons x a ih=>intro b; simp only[List.cons_append,wts,ih]; omega
   rw[qfk,happ,X6];omega
end
theorem q55 {H:Type} (d:DataW H):wt (toD d)=wts (T9 d):=by
 cases d with
 | agg ps=>simp[toD,T9,wt]
 | lit l=>cases l <;> simp[toD,T9,wts]
 | _=>simp[toD,T9,wts]
theorem qqy {H:Type}:∀ ds:List (DataW H),wl (KF ds)≤1 + 24 * X6 ds
 | []=>by simp[KF,wl]
 | d :: ds=>by
   have h1:=qfg d;have h2:=qqy ds;simp only[KF,wl,X6,q55];omega
theorem Xj {H:Type}:∀ ds:List (DataW H),(KF ds).length=ds.length
 | []=>rfl
 | d :: ds=>by simp[KF,Xj ds]
theorem quq {H:Type} {ds:List (DataW H)} (h:X6 ds≤1048576):(KF ds).length * wl (KF ds)≤w8:=by
 have h1:(KF ds).length≤1048576:=by rw[Xj]; exact Nat.le_trans (Yg ds) h
 have h2:wl (KF ds)≤1 + 24 * 1048576:=Nat.le_trans (qqy ds) (by omega);exact Nat.le_trans (Nat.mul_le_mul h1 h2) (by unfold w8; omega)
mutual
def okT (P:Program):Nat→TypeId→Bool
 | 0,_=>false
 | f + 1,t=>match P.underlying t with
   | some .bool | some (.int _) | some .string=>decide (P.cellsOf t=1)
   | some (.slice e)=>decide (P.cellsOf t=1) && decide (0 < P.cellsOf e) && okT P f e
   | some (.struct fs)=>qt6 P f fs.toList 0 (P.cellsOf t)
   | _=>false
def qt6 (P:Program):Nat→List Field→Nat→Nat→Bool
 | _,[],o,n=>decide (o=n)
 | 0,_ :: _,_,_=>false
 | f + 1,fl :: l,o,n=>decide (fl.offset=o) && okT P f fl.type && qt6 P f l (o + P.cellsOf fl.type) n
end
theorem qz7 (a:Addr) (x y:Nat):(a.add x).add y=a.add (x + y):=by
 unfold Addr.add
 by_cases hx:x=0 <;> by_cases hy:y=0 <;> simp[hx,hy,Nat.add_assoc]
theorem qgd {α β:Type} {f:α→Option β}:∀ {l:List α} {ys:List β},l.mapM f=some ys→All2 (fun a b=>f a=some b) l ys
 | [],ys,h=>by simp at h; subst h; exact .nil
 | a :: l,ys,h=>by
   rw[List.mapM_cons] at h
   cases hf:f a with
   | none=>rw[hf] at h; simp at h
   | some b=>
     rw[hf] at h
     cases hm:l.mapM f with
     | none=>rw[hm] at h; simp at h
     | some bs=>
       rw[hm] at h;simp at h;subst h;exact .cons hf (qgd hm)
theorem qg8 {w:World} {a:Addr}:∀ {n s:Nat} {cs:List Value},All2 (fun i v=>w.cell? (a.add i)=some v) (List.range' s n) cs→cs.length=n ∧ ∀ j v,cs[j]? = some v→w.cell? (a.add (s + j))=some v
 | 0,s,_,.nil=>⟨rfl,fun j v h=>by simp at h⟩
 | n + 1,s,_,.cons h k=>by
   obtain ⟨k1,k2⟩:=qg8 k;refine ⟨by simp[k1],fun j v hj=>?_⟩
   cases j with
   | zero=>simp at hj; subst hj; exact h
   | succ j=>
     have:=k2 j v (by simpa using hj)
     rwa [Nat.add_right_comm,Nat.add_assoc] at this
section
variable {H:Type} {enc:TypeId × Value→H} {P:Program} {w:World} {sp:Nat→Bool} {held:Bool}
def qgc (d:DataW H) (cs:List Value):Value:=match d with
 | .agg _=>.agg ⟨cs⟩
 | _=>cs.headD undef
structure Read (P:Program) (w:World) (t:TypeId) (d:DataW H) (cs:List Value):Prop where
 rel:p9 (Yk w) (T9 d) cs
 flat:(T9 d).any Y3=false
 len:cs.length=P.cellsOf t
theorem Read.val {t:TypeId} {d:DataW H} {cs:List Value} (k:Read P w t d cs):I3 (Yk w) (toD d) (qgc d cs)∧(qgc d cs).cells.toList=cs:=by
 cases d with
 | agg ps=>exact ⟨⟨cs,rfl,k.rel,k.flat⟩,rfl⟩
 | _=>
   obtain ⟨v,vs,h1,h2,h3⟩:=k.rel;cases h3;subst h1;have:=I3.one h2 (by simpa [T9] using k.flat);refine ⟨h2,?_⟩;simp only[qgc,List.headD_cons];rw[o5 this]
theorem qft {a:Addr} {sz:Nat} (hsz:0 < sz) {e:TypeId} (he:P.cellsOf e=sz) {g:List Value→Option (DataW H × List MemPlace)} (hg:∀ cs x,g cs=some x→qj x.1≤1048576→Read P w e x.1 cs) :
 ∀ (m s:Nat) (xs:List (DataW H × List MemPlace)),All2 (fun i x=>(w.cells? 0 (a.add (i * sz)) sz).bind g=some x) (List.range' s m) xs→X6 (xs.map (·.1))≤1048576→
   ∃ us,p9 (Yk w) (KF (xs.map (·.1))) us∧(∀ u∈us,u.cells.size=sz)∧(∀ j v,(flat us)[j]? = some v→w.cell? (a.add (s * sz + j))=some v)∧us.length=m
 | 0,s,_,.nil,_=>⟨[],rfl,(fun u h=>by cases h),(fun j v h=>by simp[Rf.flat] at h),rfl⟩
 | m + 1,s,x :: xs,.cons h k,hb=>by
   simp only[List.map_cons,X6] at hb;obtain ⟨us,k1,k2,k3,k4⟩:=qft hsz he hg m (s + 1) xs k (by omega);rw[Option.bind_eq_some_iff] at h;obtain ⟨cs,h1,h2⟩:=h;have hr:=hg cs x h2 (by omega);obtain ⟨r1,r2⟩:=hr.val;unfold World.cells? at h1;rw[if_pos (Nat.zero_le _),List.range_eq_range'] at h1;obtain ⟨c1,c2⟩:=qg8 (qgd h1)
   have hs:(qgc x.1 cs).cells.size=sz:=by rw[← Array.length_toList,r2,c1]
   refine ⟨qgc x.1 cs :: us,⟨_,_,rfl,r1,k1⟩,fun u hu=>?_,fun j v hj=>?_,by simp[k4]⟩
   ·rcases List.mem_cons.1 hu with rfl | hu
    ·exact hs
    ·exact k2 u hu
   ·rw[H9,r2] at hj
    by_cases hjs:j < sz
    ·rw[List.getElem?_append_left (by omega)] at hj;have:=c2 j v hj;rw[Nat.zero_add] at this
     rwa [qz7] at this
    ·rw[List.getElem?_append_right (by omega),c1] at hj;have:=k3 _ v hj
     have e2:(s + 1) * sz + (j - sz)=s * sz + j:=by rw[Nat.add_mul]; omega
     rwa [e2] at this
theorem qeg {β:Type} {F:Nat→Option β}:∀ (n s:Nat) (xs:List β),xs.length=n→(∀ i,i < n→F (s + i)=xs[i]?)→All2 (fun i x=>F i=some x) (List.range' s n) xs
 | 0,s,[],_,_=>.nil
 | n + 1,s,x :: xs,hl,h=>by
   rw[List.range'_succ];refine .cons (by simpa using h 0 (by omega)) (qeg n (s + 1) xs (by simpa using hl) fun i hi=>?_);have:=h (i + 1) (by omega);rw[Nat.add_assoc,Nat.add_comm 1 i]
   simpa using this
theorem qhi {α β:Type} {F:α→Option β}:∀ (l:List α) (xs:List β),xs.length=l.length→(∀ (i:Nat) (f:α),l[i]? = some f→F f=xs[i]?)→All2 (fun f x=>F f=some x) l xs
 | [],[],_,_=>.nil
 | f :: l,x :: xs,hl,h=>.cons (by simpa using h 0 f rfl) (qhi l xs (by simpa using hl) fun i g hg=>by simpa using h (i + 1) g (by simpa using hg))
mutual
theorem KB:∀ (f:Nat) (t:TypeId),okT P f t=true→∀ (fuel:Nat) (cs:List Value) (x:DataW H × List MemPlace),DataW.trod enc P w 0 sp held fuel t cs=some x→qj x.1≤1048576→Read P w t x.1 cs
 | 0,t,h,_,_,_,_,_=>by simp[okT] at h
 | f + 1,t,h,fuel,cs,x,e,hb=>by
   unfold okT at h;split at h
   ·rename_i hu;simp only[decide_eq_true_eq] at h;obtain ⟨b,rfl,rfl⟩:=DataW.trod_bool hu e;exact ⟨⟨_,_,rfl,rfl,rfl⟩,rfl,by rw[h]; rfl⟩
   ·rename_i k hu;simp only[decide_eq_true_eq] at h;obtain ⟨n,rfl,rfl,_⟩:=DataW.trod_int hu e;exact ⟨⟨_,_,rfl,rfl,rfl⟩,rfl,by rw[h]; rfl⟩
   ·rename_i hu;simp only[decide_eq_true_eq] at h;obtain ⟨s,rfl,rfl,hs⟩:=DataW.trod_string hu e;refine ⟨⟨_,_,rfl,⟨rfl,?_⟩,rfl⟩,rfl,by rw[h]; rfl⟩;simp only[qj] at hb;unfold long;omega
   ·rename_i el hu;simp only[Bool.and_eq_true,decide_eq_true_eq] at h;obtain ⟨⟨h1,h2⟩,h3⟩:=h;rcases DataW.trod_slice hu e with ⟨rfl,rfl⟩ | ⟨a,len,cap,F7,rest,n,rfl,rfl,rfl,_,hlc,_,hel,hget,_⟩
    ·exact ⟨⟨_,_,rfl,⟨none,0,rfl,Nat.le_refl _,by simp[wl],fun h=>absurd rfl h⟩,rfl⟩,rfl,by rw[h1]; rfl⟩
    ·simp only[qj] at hb;obtain ⟨us,k1,k2,k3,k4⟩:=qft h2 rfl (fun cs x e hb=>KB f el h3 n cs x e hb) len 0 F7 (qeg (F:=fun i=>(w.cells? 0 (a.add (i * P.cellsOf el)) (P.cellsOf el)).bind (DataW.trod enc P w 0 sp held n el)) len 0 F7 hel (fun i hi=>by rw[Nat.zero_add]; exact hget i hi)) (by omega)
     have hlen:(KF (F7.map (·.1))).length=len:=by rw[Xj,List.length_map,hel]
     refine ⟨⟨_,_,rfl,⟨some a,cap,by rw[hlen],by omega,quq (by omega),fun hne=>?_⟩,rfl⟩,rfl,by rw[h1]; rfl⟩;obtain ⟨b,off,spot⟩:=a
     have hsp:spot=none:=by
      cases hl:len with
      | zero=>rw[hl] at hlen; exact (hne (List.eq_nil_of_length_eq_zero hlen)).elim
      | succ m=>
        obtain ⟨u,us',rfl⟩:∃ u us',us=u :: us':=by cases us with | nil=>simp[hl] at k4 | cons u us'=>exact ⟨u,us',rfl⟩
        have hu:=k2 u (List.mem_cons_self ..)
        have hc:(Rf.flat (u :: us'))[0]? = some (u.cells.toList[0]'(by simp[hu]; exact h2)):=by
         rw[H9,List.getElem?_append_left (by simp[hu]; exact h2)];exact List.getElem?_eq_getElem _
        have:=k3 0 _ hc;unfold World.cell? at this;split at this
        ·split at this
         ·cases this
         ·rename_i hn; simpa [Addr.add] using hn
        ·cases this
     subst hsp
     exact ⟨b,off,P.cellsOf el,us,rfl,k1,k2,fun j v hj=>by
      have:=k3 j v hj;rw[Nat.zero_mul,Nat.zero_add,W3] at this
      exact this⟩
   ·rename_i fs hu;obtain ⟨xs,n,rfl,rfl,hl,hxs,hget⟩:=DataW.trod_struct hu e;simp only[qj] at hb;obtain ⟨k1,k2⟩:=qr5 f fs.toList 0 _ h n cs hl xs (qhi _ _ (by simpa using hxs) (fun i g hg=>hget i g (by simpa using hg))) (by omega);exact ⟨by simpa [T9] using k1,k2,hl⟩
   ·cases h
theorem qr5:∀ (f:Nat) (l:List Field) (o n:Nat),qt6 P f l o n=true→∀ (fuel:Nat) (cs:List Value),cs.length=n→∀ xs,All2 (fun fl (x:DataW H × List MemPlace)=>DataW.trod enc P w 0 sp held fuel fl.type ((cs.drop fl.offset).take (P.cellsOf fl.type))=some x) l xs→X6 (xs.map (·.1))≤1048576→
 p9 (Yk w) (ZY (xs.map (·.1))) (cs.drop o)∧(ZY (xs.map (·.1))).any Y3=false
 | f,[],o,n,h,fuel,cs,hl,xs,k,hb=>by
   cases k
   have ho:o=n:=by cases f <;> simpa [qt6] using h
   rw[List.drop_eq_nil_of_le (by omega)];exact ⟨rfl,rfl⟩
 | 0,_ :: _,o,n,h,_,_,_,_,_,_=>by simp[qt6] at h
 | f + 1,fl :: l,o,n,h,fuel,cs,hl,x :: xs,.cons k1 k2,hb=>by
   simp only[qt6,Bool.and_eq_true,decide_eq_true_eq] at h;obtain ⟨⟨h1,h2⟩,h3⟩:=h;simp only[List.map_cons,X6] at hb;have r:=KB f fl.type h2 fuel _ x k1 (by omega);obtain ⟨s1,s2⟩:=qr5 f l _ n h3 fuel cs hl xs k2 (by omega);rw[List.map_cons,qfk];refine ⟨?_,by rw[List.any_append,r.flat,s2]; rfl⟩
   have hsp:cs.drop o=(cs.drop fl.offset).take (P.cellsOf fl.type)++cs.drop (o + P.cellsOf fl.type):=by
    rw[h1,← List.drop_drop,List.take_append_drop]
   rw[hsp]
   have app:∀ {a b:List D} {u v:List Value},p9 (Yk w) a u→p9 (Yk w) b v→p9 (Yk w) (a++b) (u++v):=by
    intro a
    induction a with
    | nil=>intro b u v h k; cases h; exact k
    | cons y a ih=>intro b u v h k; obtain ⟨z,zs,rfl,h1,h2⟩:=h; exact ⟨z,zs++v,rfl,h1,ih h2 k⟩
   exact app r.rel s1
end
end
end Go.Rf

set_option linter.unusedSectionVars false
namespace Go.Rf
variable [Prg]
open Go.ChangeShapes Go.WideShapes Go.RowKit
section
variable {H:Type} {enc:TypeId × Value→H} {P:Program} {w:World} {sp:Nat→Bool} {held:Bool}
theorem qyf {f:Nat} {t:TypeId} (h:okT P f t=true) {r:Reach} {base fuel:Nat} {v:Value} {x:DataW H × List MemPlace} (hv:Value.okWide P w r base t v) (e:DataW.trod enc P w 0 sp held fuel t v.cells.toList=some x):qgc x.1 v.cells.toList=v:=by
 cases f with
 | zero=>simp[okT] at h
 | succ f=>
   unfold okT at h;split at h
   ·rename_i hu;obtain ⟨b,rfl⟩:=okWide_bool hu hv;obtain ⟨b',h1,rfl⟩:=DataW.trod_bool hu e;rfl
   ·rename_i k hu;obtain ⟨b,rfl⟩:=okWide_int hu hv;obtain ⟨b',h1,rfl,_⟩:=DataW.trod_int hu e;rfl
   ·rename_i hu;obtain ⟨b,rfl⟩:=okWide_string hu hv;obtain ⟨b',h1,rfl,_⟩:=DataW.trod_string hu e;rfl
   ·rename_i el hu;obtain ⟨a,l,c,rfl⟩:=okWide_slice hu hv;rcases DataW.trod_slice hu e with ⟨_,rfl⟩ | ⟨a,len,cap,F7,rest,n,_,_,rfl,_⟩
    ·rfl
    ·rfl
   ·rename_i fs hu;simp only[Value.okWide,hu] at hv;obtain ⟨cs,rfl,_⟩:=hv;obtain ⟨xs,n,_,rfl,_⟩:=DataW.trod_struct hu e;rfl
   ·cases h
theorem QU {f:Nat} {r:Reach} {base:Nat} {ρ:Map}:∀ (ts:List TypeId) (vs:List Value) (ds:List (DataW H)) (ps:List MemPlace),DataW.TrodAll enc P w 0 sp held ts vs ds ps→(∀ t∈ts,okT P f t=true)→
 (∀ (j:Nat) t v,ts[j]? = some t→vs[j]? = some v→Value.okWide P w r base t v)→X6 ds≤1048576→f9 ρ (Yk w) (ds.map fun d=>.d (toD d)) vs
 | [],[],[],_,_,_,_,_=>rfl
 | t :: ts,v :: vs,d :: ds,ps,h,hok,hv,hb=>by
   obtain ⟨p,q,⟨fuel,h1⟩,h2,_⟩:=h;simp only[X6] at hb;have hr:=KB f t (hok t (List.mem_cons_self ..)) fuel _ _ h1 (by simp only; omega);have hm:=qyf (hok t (List.mem_cons_self ..)) (hv 0 t v rfl rfl) h1;refine ⟨v,vs,rfl,?_,QU ts vs ds q h2 (fun t' ht=>hok t' (List.mem_cons_of_mem _ ht)) (fun j t' v' a b=>hv (j + 1) t' v' (by simpa using a) (by simpa using b)) (by omega)⟩;have:=hr.val.1;rw[hm] at this;exact this
 | [],_ :: _,_,_,h,_,_,_=>h.elim
 | [],[],_ :: _,_,h,_,_,_=>h.elim
 | _ :: _,[],_,_,h,_,_,_=>h.elim
 | _ :: _,_ :: _,[],_,h,_,_,_=>h.elim
theorem vW (hl:laidOutB P=true) {W W':World} (hb:Below W.heap.size W W'):∀ (ts:List TypeId) (vs:List Value) (ds:List (DataW H)) (ps:List MemPlace),(∀ t∈ts,P.readableRec t=true∧t < P.types.size)→
 DataW.TrodAll enc P W 0 (fun _=>true) true ts vs ds ps→(∀ x∈ps,x.block < W.heap.size)→DataW.TrodAll enc P W' 0 (fun b=>decide (b < W.heap.size)) true ts vs ds ps
 | [],[],[],_,_,h,_=>h
 | t :: ts,v :: vs,d :: ds,ps,hok,h,hlt=>by
   obtain ⟨p,q,h1,h2,rfl⟩:=h;exact ⟨p,q,Below.trod hl (hok t (List.mem_cons_self ..)).1 (hok t (List.mem_cons_self ..)).2 h1 hb (fun x hx=>hlt x (List.mem_append_left _ hx)),vW hl hb ts vs ds q (fun t' ht=>hok t' (List.mem_cons_of_mem _ ht)) h2 (fun x hx=>hlt x (List.mem_append_right _ hx)),rfl⟩
 | [],_ :: _,_,_,_,h,_=>h.elim
 | [],[],_ :: _,_,_,h,_=>h.elim
 | _ :: _,[],_,_,_,h,_=>h.elim
 | _ :: _,_ :: _,[],_,_,h,_=>h.elim
end
theorem qtm (W:World):HRel (fun _=>.none) (Yk W) (j5 []) W where
 ice:=fun _ _ _ e=>e
 objs:=fun l o e=>by cases l <;> simp[j5] at e
 gone:=fun _ _=>.inl rfl
 inj:=fun _ _ _ e=>by cases e
 sep:=fun _ _ _ e=>e.has.elim
theorem qgh {P:Program} {T:Tab} {X:Exts} {W:World} (hP:P=Prg.p) (hT:∀ f af,T.funs f=some af→qf5 P f af=true) (hR:∀ f r,T.recs f=some r→Ko P f r=true) (hX:∀ f e,X.run f=some e→qnx (Yk W) P f e) {n:Nat} {f:FuncId} {vs:List V} {args:Array Value}
 (hv:f9 (fun _=>.none) (Yk W) vs args.toList) (hc:call T X n f vs []=some (.ret [.d (.bool true)] [])):Calls P f args W fun e W'=>e = .returned (.bool true)∧Below W.heap.size W W':=by
 have h:=(qsl hP hT hR hX n).1.2 f vs [] _ hc (fun _=>.none) (Yk W) W args (fun _ _ _ e=>e) (qtm W) hv (fun l hl=>(hl rfl).elim);unfold wu at h
 refine h.mono fun e W' he=>?_
 cases e with
 | outgrown=>cases he
 | panicked ch=>obtain ⟨_,_,_,_,_,h1,_⟩:=he; cases h1
 | returned v=>
   obtain ⟨rs,os,ρ',H',h1,h2,h3⟩:=he;cases h1;refine ⟨by rw[show v = .bool true from h3],⟨h2.trans.os,h2.trans.tape,h2.trans.output,h2.trans.size,fun k hk=>(h2.trans.keep k hk (fun l hl=>by cases hl)).1⟩⟩
end Go.Rf

set_option linter.unusedSectionVars false
namespace Go.Rf
variable [Prg]
variable {B:Ice}
def qjz (B:Ice) (g3 g4:Nat):Prop:=
 (∀ c,c < 256→B g3 c=some (.int .u8 (Lib.firstT c))) ∧ ∀ i,i < 16→B g4 (2 * i)=some (.int .u8 (Lib.accLo i))∧B g4 (2 * i + 1)=some (.int .u8 (Lib.accHi i))
theorem qqo {w w':World} (k:RowKit.Below w.heap.size w w') {a:Addr} {v:Value} (h:w.cell? a=some v):w'.cell? a=some v:=by
 rw[k.cell (World.block_lt_of_cell? w a h)];exact h
theorem HRel.below {ρ:Map} {H:Ice} {h:Loc→Option Obj} {w w':World} (hH:HRel ρ H h w) (k:RowKit.Below w.heap.size w w'):HRel ρ H h w' where
 ice:=fun b o v e=>qqo k (hH.ice b o v e)
 objs:=fun l o e=>(hH.objs l o e).mono (j4.refl _) (fun _ _ _ e=>e) (fun b hb=>k.block b (hH.lt hb))
 gone:=hH.gone
 inj:=hH.inj
 sep:=hH.sep
theorem Trans.below {ρ:Map} {H:Ice} {w w':World} (k:RowKit.Below w.heap.size w w'):Trans ρ H w ρ H w':=
 ⟨k.os,k.tape,k.output,k.size,fun b hb _=>⟨k.block b hb,fun _=>rfl⟩,fun l _ h=>.inr ⟨l,h⟩,fun _ _ _ e=>e⟩
theorem qsd {P:Program} {R:Shelf.Ren} (L:Go.Proofs.Lays.n260 P R) (hf:S6 P (R.f 260)=true) (hT:qjz B (R.g 3) (R.g 4)):qnx B P (R.f 260) zaq:=by
 refine ⟨hf,fun cf _ vs heap r e ρ H w args hB hH hv honly=>?_⟩;unfold zaq at e;split at e
 ·rename_i s;cases e;obtain ⟨v,vs',h1,h2,h3⟩:=hv;cases h3;obtain ⟨rfl,hl⟩:=(h2:v = .string ⟨s.toArray⟩∧s.length≤long);have ha:args = #[.string ⟨s.toArray⟩]:=Array.toList_inj.1 h1;subst ha
  have cell:∀ {b o v},B b o=some v→w.cell? ⟨b,o,none⟩=some v:=fun {b o v} h=>hH.ice b o v (hB b o v h)
  have tabs:Lib.Utf8Tabs (R.g 3) (R.g 4) w:=⟨fun c hc=>cell (hT.1 c hc),fun i hi=>⟨cell (hT.2 i hi).1,cell (hT.2 i hi).2⟩⟩;unfold wu
  refine (Go.Proofs.Any.utf8_decodeRuneInStringSlow L ⟨s.toArray⟩ w tabs).mono fun e w' he=>?_
  obtain ⟨rfl,hb⟩:=he;refine ⟨_,_,ρ,H,rfl,⟨hH.below hb,Trans.below hb,j4.refl _,fun l hl=>by obtain ⟨k,_,hk⟩:=honly l hl; exact ⟨k,hk⟩,Nat.le_refl _⟩,?_⟩
  have hd:Lib.decodeGo ⟨s.toArray⟩=wU s:=by
   unfold Lib.decodeGo wU dec;simp[ByteArray.size]
  rw[hd];exact ⟨[_,_],rfl,_,_,rfl,rfl,_,_,rfl,rfl,rfl⟩
 ·cases e
end Go.Rf

set_option linter.unusedSectionVars false
namespace Go.Rf
variable [Prg]
open Go.ChangeShapes
section
variable {H:Type} {enc:TypeId × Value→H} {P:Program} {w:World} {sp:Nat→Bool} {held:Bool} {fuel:Nat} {t:TypeId} {cs:List Value} {x:DataW H × List MemPlace}
theorem Ka (ht:P.underlying t=some .string) (h:DataW.trod enc P w 0 sp held fuel t cs=some x):∃ s:List UInt8,toD x.1 = .str s∧s.length≤qj x.1:=by
 obtain ⟨s,_,hx,_⟩:=DataW.trod_string ht h;exact ⟨s.data.toList,by rw[hx]; rfl,by rw[hx]; simp[qj]⟩
end
end Go.Rf
