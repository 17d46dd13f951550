/- Parts of the proof. -/
import Derived.Test.YtpaeaccmddffjaaGreatDoorRg6
import Derived.RangeFuncRecord
set_option linter.all false
set_option linter.unusedSectionVars false
namespace Go.Rf
variable [Prg]
variable {B:Ice} {ds:List Deferred} {fx:List (Nat × Value)} {T:Tab} {cf:CF} {o:Oper} {a:Act} {w:World} {ρ:Map} {H:Ice} {h:Loc→Option Obj} {i:Nat} {env:List (Nat × V)} {N:Nat} {r:R} {P:Program}
def qt5:List Operand→List Opnd→Bool
 | [],[]=>true
 | x :: xs,y :: ys=>okO x y && qt5 xs ys
 | _,_=>false
theorem qlm (hE:EnvRel B ds fx ρ H N env a):∀ {xs ys vs},qt5 xs ys=true→evl (evO env) ys=some vs→f9 ρ H vs (xs.map a.eval)
 | [],[],vs,_,e=>by cases e; rfl
 | [],_ :: _,_,h,_=>by simp[qt5] at h
 | _ :: _,[],_,h,_=>by simp[qt5] at h
 | x :: xs,y :: ys,vs,h,e=>by
   simp only[qt5,Bool.and_eq_true] at h;simp only[evl] at e;split at e
   ·rename_i v vs' e1 e2;cases e;exact ⟨_,_,rfl,i7 hE h.1 e1,qlm hE h.2 e2⟩
   ·cases e
def qb8 (x:Opnd) (args:List Opnd):Op→Bool
 | .call c=>(match c.callee with | .value g=>okO g x | _=>false) && qt5 c.args.toList args
 | _=>false
theorem q0z {x args} (hP:P=Prg.p) (hH:HRel ρ H h w) (hE:EnvRel B ds fx ρ H N env a) (hok:qb8 x args o.op=true) (e:exec T cf i (.yield x args) (evO env) h=some r):f8 P o a w ρ H h i r:=by
 unfold qb8 at hok;split at hok
 ·rename_i c hop;simp only[Bool.and_eq_true] at hok;obtain ⟨h1,h3⟩:=hok;split at h1
  ·rename_i g hc;simp only[exec] at e;split at e
   ·rename_i l e1;have hg:jt (ρ l) (a.eval g):=i7 hE h1 e1;unfold qvp at e;split at e
    ·rename_i d b rest hl;obtain ⟨vs,e2,e3⟩:=f7 e;obtain ⟨ds',e4,e5⟩:=f7 e3;unfold qvo at e5;split at e5
     ·rename_i hd;subst hd;cases e5;have hvs:=qlm hE h3 e2;rw[wd e4] at hvs;have hds:p9 H ds' (c.args.toList.map a.eval):=hvs.toD;have hobj:=hH.objs l _ hl
      cases hp:ρ l with
      | out lp JB OW R=>
        rw[hp] at hobj hg;obtain ⟨hR,hO⟩:=hobj;have hg:a.eval g = .func (.yield lp) #[] #[]:=hg;have hice:qhk JB OW H w:=⟨hH.ice,fun b' o' h1 h2=>hH.sep l b' o' (by rw[hp]; exact ⟨h1,h2⟩)⟩;obtain ⟨rec,hrec,hsz,hround⟩:=hO.round ds' b rest JB OW H w _ hR hice hds
        have hrun:(execOp a.eval o).run P w = .ok (.round lp rec.fn ((rec.params.zip ⟨c.args.toList.map a.eval⟩).foldl (fun tmps (t,a)=>tmps.setIfInBounds t a) rec.tmps) rec.assign rec.body) w:=by
         unfold execOp;simp only[hop,resolve,hc,hg,Deferred.ofValue];rw[Sem.run_bind];show Result.andThen (.ok _ w) _=_;rw[Result.andThen_ok];simp only[invoke]
         have:(#[]++Array.map a.eval c.args)=(⟨c.args.toList.map a.eval⟩:Array Value):=by
          apply Array.toList_inj.1;simp
         rw[this];exact run_yield hrec (by simpa using hsz.symm)
        intro ro K Q hpost;refine ⟨fun _ _=>trivial,?_⟩;rw[show (Qd ro).round=ro from rfl,Qw ro (fun _ h=>by cases h) hrun];refine ⟨fun h=>(by cases h),⟨trivial,fun c' cs hr=>?_⟩⟩;obtain ⟨en,w',hR',hst⟩:=hround.2 c' cs hr;refine ⟨en,w',?_,by subst hP; exact hst⟩;obtain ⟨rfl,JB',OW',H',hR',hice',ht⟩:=hR'
        have hst':j4 ρ (B5 ρ l (.out lp JB' OW' R)):=fun l' hl'=>by
         by_cases hh:l'=l
         ·subst hh; left; rw[m7,hp]; rfl
         ·left; rw[n6 hh]
        obtain ⟨k1,k2⟩:=hH.reshape (fun x=>x=l) (ρ':=B5 ρ l (.out lp JB' OW' R)) (H':=H') (h':=F5 h l (some (.tr rest))) (w':=w') ht.os hst' ht.grows
         (fun l' hl'=>⟨n6 hl',I4 hl'⟩)
         (fun b' hb' hn=>ht.keep b' hb' (fun hj=>hn l rfl (by rw[hp]; exact hj)))
         (fun l' b' hl' hb'=>by
          subst hl';rw[m7] at hb'
          exact (ht.new b' hb').imp id fun hj=>⟨_,rfl,by rw[hp]; exact hj⟩)
         (fun l1 l2 _ h1 h2 _ _=>h1.trans h2.symm)
         (fun b' o' v _ e=>hice'.1 b' o' v e)
         (fun l' b' o' hl' ho=>by
          subst hl';rw[m7] at ho
          exact hice'.2 b' o' ho.1 ho.2)
         (fun l' o' hl' e=>by
          subst hl';rw[m9] at e;cases e;rw[m7]
          exact ⟨hR',hO⟩)
         (fun l' hl' e=>by
          subst hl';rw[m9] at e
          cases e)
        exact hpost _ _ _ _ ⟨k1,k2,hst',H8.kill (by rw[hp]; simp) _,rfl⟩
      | _=>rw[hp] at hobj; exact hobj.elim
     ·cases e5
    ·cases e
   ·cases e
  ·cases h1
 ·cases hok
end Go.Rf

set_option linter.unusedSectionVars false
namespace Go.Rf
variable [Prg]
variable {B:Ice} {ds:List Deferred} {fx:List (Nat × Value)}
def q71 (P:Program):AOp→Op→Bool
 | .mv x=>qx1 x
 | .own n=>qo9 n
 | .pick c x y=>qif c x y
 | .alloc z own=>wI z own P
 | .allocT t z own=>YY t z own P
 | .box n x=>qpg n x P
 | .build z ps own=>qcj z ps own P
 | .buildSl n z len ps=>Km n z len ps P
 | .load n ag x=>Zj n ag x P
 | .store n x y=>Xy n x y P
 | .nilCk x=>qcc x
 | .bin op x y=>qph op x y
 | .un op x=>qxz op x
 | .isN eq ifc x=>qpd eq ifc x P
 | .eqB eq x y=>qpf eq x y P
 | .conv (.int k) x=>qcg k x P
 | .conv .rune x=>qcf x P
 | .conv .b2s x=>qpi x P
 | .mkI t x=>qpa t x P
 | .mkF f cap=>Kk f cap
 | .mkSl n z len cap=>qax n z len cap P
 | .slice n x lo hi=>qb9 n x lo hi P
 | .fieldA off n ag x=>YX off n ag x P
 | .field off n ag x=>qce off n ag x P
 | .idxA n x k=>qik n x k P
 | .idxS x k=>qii x k P
 | .extract x k=>Kl x k
 | .tass t ok z x=>qie t ok z x P
 | .call f args=>KX f args P
 | .callB f args=>qci f args P
 | .callV f args=>qch f args
 | .inv m x args=>qpe m x args P
 | .len s x=>qpc s x P
 | .app n x y=>Kn n x y P
 | .mx x y=>qx0 x y
 | .mn x y=>qx2 x y
 | .lload n x=>qll n x P
 | .gload x=>KW x P
 | .lstore x y=>Jr x y P
 | .gapp n x y=>qri n x y P
 | .lapp n x y=>qrh n x y P
 | .mkG n z len cap=>qpb n z len cap P
 | .idxF n x k=>qij n x k P
 | .loadH x=>qlk x P
 | .panic x=>qcb x
 | .range x=>qca x P
 | .next x=>qig x
 | .mkMap=>qcd
 | .look s z x k=>qih s z x k P
 | .upd s x k v=>qo8 s x k v P
 | .yield x args=>qb8 x args
section
variable {P:Program} {T:Tab} {cf:CF} {o:Oper} {a:Act} {w:World} {ρ:Map} {H:Ice} {h:Loc→Option Obj} {i N:Nat} {env:List (Nat × V)} {r:R}
theorem Kx {op:AOp} (hcf:Qp B P cf) (hfs:∀ g vs hp r,cf g vs hp=some r→S6 P g=true) (hH:HRel ρ H h w) (hE:EnvRel B ds fx ρ H N env a) (hN:∀ k,ρ (.n i k) = .none) (hok:q71 P op o.op=true)
 (e:exec T cf i op (evO env) h=some r):f8 P o a w ρ H h i r:=by
 cases op with
 | mv x=>exact s_mv hH hE hok e
 | own n=>exact zgd hH hN hok e
 | pick c x y=>exact q66 hH hE hok e
 | alloc z own=>exact q1f hH hN hok e
 | allocT t z own=>exact qw0 hH hN hok e
 | box n x=>exact zgl hH hE hN hok e
 | build z ps own=>exact q1e hH hE hN hok e
 | buildSl n z len ps=>exact qtu hH hE hN hok e
 | load n ag x=>exact qwx hH hE hok e
 | store n x y=>exact q00 hH hE hok e
 | nilCk x=>exact q04 hH hE hok e
 | bin op x y=>exact zgm hH hE hok e
 | un op x=>exact s_un hH hE hok e
 | isN eq ifc x=>exact zgi hH hE hok e
 | eqB eq x y=>exact zgk hH hE hok e
 | conv k x=>
   cases k with
   | int k=>exact q1b hH hE hok e
   | rune=>exact q1a hH hE hok e
   | b2s=>exact zgn hH hE hok e
 | mkI t x=>exact zge hH hE hok e
 | mkF f cap=>exact zgg hH hE hok e
 | mkSl n z len cap=>exact qwv hH hE hN hok e
 | slice n x lo hi=>exact q01 hH hE hok e
 | fieldA off n ag x=>exact qwy hH hE hok e
 | field off n ag x=>exact q09 hH hE hok e
 | idxA n x k=>exact q7c hH hE hok e
 | idxS x k=>exact q7a hH hE hok e
 | extract x k=>exact qtt hH hE hok e
 | tass t ok z x=>exact q65 hH hE hok e
 | call f args=>exact q7e hcf hH hE hN hok e
 | callB f args=>exact q1d hcf hH hE hok e
 | callV f args=>exact q1c hcf hH hE hN hfs hok e
 | inv m x args=>exact zgj hcf hH hE hN hok e
 | len s x=>exact zgh hH hE hok e
 | app n x y=>exact qwz hH hE (hN 0) hok e
 | mx x y=>exact s_mx hH hE hok e
 | mn x y=>exact s_mn hH hE hok e
 | lload n x=>exact q07 hH hE hN hok e
 | gload x=>exact q08 hH hE hok e
 | lstore x y=>exact qww hH hE hN hok e
 | gapp n x y=>exact q7d hH hE hN hok e
 | lapp n x y=>exact q69 hH hE hN hok e
 | mkG n z len cap=>exact zgf hH hE hN hok e
 | idxF n x k=>exact q7b hH hE hok e
 | loadH x=>exact q06 hH hE hok e
 | panic x=>exact q03 hH hE hok e
 | range x=>exact q02 hH hE hN hok e
 | next x=>exact q67 hH hE hok e
 | mkMap=>exact q05 hH hN hok e
 | look s z x k=>exact q68 hH hE hok e
 | upd s x k v=>exact zgc hH hE hok e
 | yield x args=>exact q0z hcf.1 hH hE hok e
end
def okG (ops:Array Oper):Option (Nat × Bool)→Option (Nat × Bool)→Bool
 | none,none=>true
 | some (j,b),some (t,c)=>decide ((ops[j]?).bind (·.dst)=some t) && decide (b=c)
 | _,_=>false
def qcn (P:Program) (N:Nat) (ops:Array Oper) (o:Oper) (ai:AIns):Bool:=
 q71 P ai.op o.op && decide (o.dst=ai.dst) && (match ai.dst with | some t=>decide (t < N) | none=>true) && okG ops o.guard ai.guard
section
variable {P:Program} {T:Tab} {cf:CF} {N:Nat} {ops:Array Oper}
theorem wC {ρ H env a} {o:Oper} {g:Option (Nat × Bool)} {b:Bool} (hE:EnvRel B ds fx ρ H N env a) (hok:okG ops o.guard g=true) (e:wanted env g=some b):Region.wanted o (yielded ops a.tmps)=b:=by
 unfold okG at hok;split at hok
 ·rename_i hg;cases e;simp[Region.wanted,hg]
 ·rename_i j b' t c hg;simp only[Bool.and_eq_true,decide_eq_true_eq] at hok;obtain ⟨h1,rfl⟩:=hok;simp only[wanted] at e;unfold Region.wanted;rw[hg];simp only;unfold yielded;rw[h1];simp only[Option.bind_some];split at e
  ·rename_i q hq;cases e;have hv:a.tmps.getD t undef = .bool q:=hE.rel t _ hq
   have:a.tmps[t]? = some (.bool q):=by
    rw[Array.getD_eq_getD_getElem?] at hv
    cases ht:a.tmps[t]? with
    | none=>rw[ht] at hv; cases hv
    | some x=>rw[ht] at hv; simp at hv; rw[hv]
   rw[this];rfl
  ·rename_i hq;cases e;obtain ⟨us,hv,hu⟩:=hE.rel t _ hq;cases hu
   cases ht:a.tmps[t]? with
   | none=>rfl
   | some x=>
     rw[Array.getD_eq_getD_getElem?,ht] at hv;simp at hv;subst hv;rfl
  ·cases e
 ·cases hok
def zln (B:Ice) (ds:List Deferred) (fx:List (Nat × Value)) (ρ:Map) (H:Ice) (w:World) (N:Nat) (L:List AIns) (Q:Exit→Act→World→Prop):RR→Prop
 | .nrm s'=>∀ ρ' H' a' w',HRel ρ' H' s'.h w'→EnvRel B ds fx ρ' H' N s'.env a'→Trans ρ H w ρ' H' w'→j4 ρ ρ'→(∀ l,ρ l = .none→ρ' l ≠ .none→∃ ai∈L,∃ k,l = .n ai.i k)→Q .normal a' w'
 | .pan _ v s'=>∀ ρ' H' a' w' u,HRel ρ' H' s'.h w'→a'.defers=ds→(∀ t u,(t,u)∈fx→a'.tmps.getD t undef=u)→Trans ρ H w ρ' H' w'→j4 ρ ρ'→(∀ l,ρ l = .none→ρ' l ≠ .none→∃ ai∈L,∃ k,l = .n ai.i k)→j9 ρ' H' v u→Q (.panic [{ v:=u,recovered:=false }]) a' w'
 | .out=>LetsOut Q
theorem Ke {ro:Option Nat} (hcf:Qp B P cf) (hfs:∀ g vs hp r,cf g vs hp=some r→S6 P g=true) {Q:Exit→Act→World→Prop}:∀ (L:List AIns) (s:RS) (rs:List Rec) (rr:RR) (rs':List Rec),
 (∀ ai∈L,∃ o,ops[ai.i]? = some o∧qcn P N ops o ai=true)→(L.map (·.i)).Nodup→(∀ ai∈L,∀ x∈fx,ai.dst≠some x.1)→ZZ T cf L s rs=some (rr,rs')→
 ∀ ρ H w a,HRel ρ H s.h w→EnvRel B ds fx ρ H N s.env a→(∀ ai∈L,∀ k,ρ (.n ai.i k) = .none)→zln B ds fx ρ H w N L Q rr→wpOpsIn (Qd ro) 0 P ops Q (L.map (·.i)) a w
 | [],s,rs,rr,rs',_,_,_,e,ρ,H,w,a,hH,hE,_,hp=>by
   cases e;exact hp ρ H a w hH hE (Trans.refl ..) (j4.refl _) (fun l h1 h2=>(h2 h1).elim)
 | ai :: L,s,rs,rr,rs',hL,hnd,hav,e,ρ,H,w,a,hH,hE,hN,hp=>by
   obtain ⟨o,ho,hok⟩:=hL ai (List.mem_cons_self ..);simp only[qcn,Bool.and_eq_true,decide_eq_true_eq] at hok;obtain ⟨⟨⟨k1,k2⟩,k3⟩,k4⟩:=hok;rw[List.map_cons,List.nodup_cons] at hnd;simp only[ZZ] at e;obtain ⟨x,e1,e2⟩:=f7 e;simp only[step] at e1;obtain ⟨b,e3,e4⟩:=f7 e1;have hw:=wC (ops:=ops) (o:=o) hE k4 e3
   have hdst:∀ t,o.dst=some t→t < N ∧ ∀ x∈fx,x.1≠t:=fun t ht=>by
    rw[k2] at ht;refine ⟨?_,fun x hx he=>hav ai (List.mem_cons_self ..) x hx (by rw[ht,he])⟩;rw[ht] at k3
    simpa using k3
   simp only[List.map_cons,wpOpsIn,ho];rw[hw]
   cases b with
   | false=>
     simp only[j7] at e4;cases e4;simp only[Bool.false_eq_true,if_false];refine ⟨fun _ _=>trivial,?_⟩;refine Ke hcf hfs L _ _ rr rs' (fun x hx=>hL x (List.mem_cons_of_mem _ hx)) hnd.2 (fun y hy=>hav y (List.mem_cons_of_mem _ hy)) e2 ρ H w _ hH (by rw[← k2]; exact hE.put o.dst hdst ⟨[],rfl,rfl⟩) (fun x hx=>hN x (List.mem_cons_of_mem _ hx)) ?_
     cases rr with
     | nrm s'=>exact fun ρ' H' a' w' q1 q2 q3 q4 q5=>hp ρ' H' a' w' q1 q2 q3 q4 (fun l h1 h2=>by obtain ⟨x,hx,h3⟩:=q5 l h1 h2; exact ⟨x,List.mem_cons_of_mem _ hx,h3⟩)
     | pan j v s'=>exact fun ρ' H' a' w' u q1 q2 q2' q3 q4 q5=>hp ρ' H' a' w' u q1 q2 q2' q3 q4 (fun l h1 h2=>by obtain ⟨x,hx,h3⟩:=q5 l h1 h2; exact ⟨x,List.mem_cons_of_mem _ hx,h3⟩)
     | out=>exact hp
   | true=>
     simp only[j3] at e4;obtain ⟨r,e5,e6⟩:=f7 e4;cases e6;simp only[if_true];have hs:=Kx (o:=o) hcf hfs hH hE (hN ai (List.mem_cons_self ..)) k1 e5;refine hs ro _ _ ?_
     cases r with
     | out=>
       simp only[qkk,qt4] at e2;cases e2;exact hp
     | pan ev=>
       intro ρ' H' v w' hpost;simp only[qkk,qt4] at e2;cases e2;exact hp ρ' H' a w' v hpost.heap hE.defers hE.fix hpost.trans hpost.stays (fun l h1 h2=>by obtain ⟨k,hk⟩:=hpost.new l h1 h2; exact ⟨ai,List.mem_cons_self ..,k,hk⟩) hpost.val
     | ok ev=>
       intro ρ' H' v w' hpost;simp only[qkk,qt4] at e2;have hle:=hpost.trans.le hH;refine Ke hcf hfs L _ _ rr rs' (fun x hx=>hL x (List.mem_cons_of_mem _ hx)) hnd.2 (fun y hy=>hav y (List.mem_cons_of_mem _ hy)) e2 ρ' H' w' _ hpost.heap (by rw[← k2]; exact (hE.mono hpost.stays hle).put o.dst hdst hpost.val) (fun x hx k=>?_) ?_
       ·cases hq:ρ' (.n x.i k) with
        | none=>rfl
        | _=>
          exfalso
          obtain ⟨k',hk'⟩:=hpost.new _ (hN x (List.mem_cons_of_mem _ hx) k) (by rw[hq]; intro h; cases h)
          injection hk' with hk' _
          exact hnd.1 (hk' ▸ List.mem_map_of_mem hx)
       ·have new:∀ {ρ2:Map},(∀ l,ρ' l = .none→ρ2 l ≠ .none→∃ x∈L,∃ k,l=Loc.n x.i k)→∀ l,ρ l = .none→ρ2 l ≠ .none→∃ x∈ai :: L,∃ k,l=Loc.n x.i k:=fun q5 l h1 h2=>by
         by_cases h3:ρ' l = .none
         ·obtain ⟨x,hx,h4⟩:=q5 l h3 h2; exact ⟨x,List.mem_cons_of_mem _ hx,h4⟩
         ·obtain ⟨k,hk⟩:=hpost.new l h1 h3; exact ⟨ai,List.mem_cons_self ..,k,hk⟩
        cases rr with
        | nrm s'=>exact fun ρ2 H2 a2 w2 q1 q2 q3 q4 q5=>hp ρ2 H2 a2 w2 q1 q2 (hpost.trans.trans q3) (hpost.stays.trans q4) (new q5)
        | pan j v s'=>exact fun ρ2 H2 a2 w2 u q1 q2 q2' q3 q4 q5=>hp ρ2 H2 a2 w2 u q1 q2 q2' (hpost.trans.trans q3) (hpost.stays.trans q4) (new q5)
        | out=>exact hp
end
end Go.Rf

set_option linter.unusedSectionVars false
namespace Go.Rf
variable [Prg]
variable {B:Ice} {ds:List Deferred} {fx:List (Nat × Value)}
structure StRel (B:Ice) (ds:List Deferred) (fx:List (Nat × Value)) (ρ:Map) (H:Ice) (N:Nat) (st:St) (a:Act) (w:World):Prop where
 heap:HRel ρ H (j5 st.heap) w
 env:EnvRel B ds fx ρ H N st.env a
 only:∀ l,ρ l ≠ .none→∃ k,k < st.heap.length∧l = .b k
def A2 (p:Nat) (ρ ρ':Map):Prop:=∀ k,k < p→ρ (.b k) ≠ .none→(ρ' (.b k)).core=(ρ (.b k)).core ∨ ρ' (.b k) = .dead
theorem A2.refl (p ρ):A2 p ρ ρ:=fun _ _ _=>.inl rfl
theorem j4.toP {ρ ρ':Map} (h:j4 ρ ρ') (p:Nat):A2 p ρ ρ':=fun _ _ hk=>h _ hk
theorem A2.trans {p ρ ρ1 ρ2} (h:A2 p ρ ρ1) (k:A2 p ρ1 ρ2):A2 p ρ ρ2:=fun j hj hn=>by
 rcases h j hj hn with e | e
 ·rcases k j hj (fun h=>hn (Place.core_none (by rw[← e,h]; rfl))) with e' | e'
  ·exact .inl (e'.trans e)
  ·exact .inr e'
 ·rcases k j hj (by rw[e]; simp) with e' | e'
  ·exact .inr (Place.core_dead (by rw[e',e]; rfl))
  ·exact .inr e'
theorem qxq {n k:Nat} (h:k < n):(Kj n)[k]? = some (.b k):=by simp[Kj,h]
theorem Ki (n:Nat):(Kj n).Nodup:=by
 unfold Kj;rw[List.Nodup,List.pairwise_map];exact List.Pairwise.imp (fun h e=>h (by injection e)) List.nodup_range
theorem Xu (n:Nat):(Kj n).length=n:=by simp[Kj]
theorem Kg {ρ:Map} {H:Ice} {w:World} (M:List Loc):Trans ρ H w (zI ρ M) H w:=⟨rfl,rfl,rfl,Nat.le_refl _,fun _ _ _=>⟨rfl,fun _=>rfl⟩,fun l b h=>(by
 cases l with
 | n i k=>cases h
 | b k=>
   simp only[zI] at h;split at h
   ·rename_i l _; exact .inr ⟨l,h⟩
   ·cases h),fun _ _ _ e=>e⟩
theorem Kh {ρ:Map} {p:Nat} {M:List Loc} (h:Kj p <+: M):A2 p ρ (zI ρ M):=fun k hk _=>.inl (congrArg _ (Xo (Zg h (qxq hk))))
theorem YS {ρ:Map} {M:List Loc} {n:Nat} (hn:n=M.length):∀ l,zI ρ M l ≠ .none→∃ k,k < n∧l = .b k:=fun l hl=>by
 cases l with
 | n i k=>exact (hl rfl).elim
 | b k=>
   refine ⟨k,?_,rfl⟩
   by_cases hk:k < n
   ·exact hk
   ·exfalso
    apply hl;have:M[k]? = none:=List.getElem?_eq_none_iff.2 (by omega);simp only[zI,this]
theorem qc0 {ρ:Map} {H:Ice} {N:Nat} {env:List (Nat × V)} {a:Act} (hE:EnvRel B ds fx ρ H N env a):∀ keep:List Nat,f9 ρ H (zK env keep).2 ((zK env keep).1.map fun t=>a.tmps.getD t undef)
 | []=>rfl
 | t :: ks=>by
   have ih:=qc0 hE ks;simp only[zK]
   cases hg:A5 env t with
   | none=>exact ih
   | some v=>
     cases hk:zK env ks with
     | mk ts vs=>
       rw[hk] at ih;exact ⟨_,_,rfl,hE.rel t v hg,ih⟩
theorem qap {ρ:Map} {H:Ice} {f:Nat→Value}:∀ {ts:List Nat} {vs:List V},f9 ρ H vs (ts.map f)→∀ t v,A5 (ts.zip vs) t=some v→j9 ρ H v (f t)
 | [],vs,k,t,v,e=>by simp[A5] at e
 | s :: ts,vs,k,t,v,e=>by
   cases vs with
   | nil=>simp[f9] at k
   | cons x vs=>
     obtain ⟨u,us,hu,k1,k2⟩:=k;simp only[List.map_cons,List.cons.injEq] at hu;obtain ⟨rfl,rfl⟩:=hu;simp only[List.zip_cons_cons,A5] at e;split at e
     ·rename_i h; cases e; subst h; exact k1
     ·exact qap k2 t v e
theorem Jc {ρ:Map} {H:Ice} {N p:Nat} {keep:List Nat} {env:List (Nat × V)} {h:Loc→Option Obj} {a:Act} {w:World} {st:St} (hH:HRel ρ H h w) (hE:EnvRel B ds fx ρ H N env a) (e:wb p keep env h=some st) :
 ∃ M,StRel B ds fx (zI ρ M) H N st a w∧A2 p ρ (zI ρ M)∧Trans ρ H w (zI ρ M) H w∧p≤st.heap.length:=by
 obtain ⟨⟨vs',os,M⟩,e1,e2⟩:=f7 e;cases e2;obtain ⟨n1,n2,n3,n4,n5⟩:=XC hH (Ki p) e1;have hk:=n2 _ (qc0 hE keep);refine ⟨M,⟨n1,⟨hE.size,hE.defers,fun t v hg=>?_,hE.base,hE.fix⟩,YS n5⟩,Kh n3,Kg M,?_⟩
 ·exact qap hk t v hg
 ·have:=n3.length_le;rw[Xu] at this;simp only;omega
def mk (r:Nat):Deferred:={ target:=.collected r,args:=#[] }
structure Marks (n:Nat) (ρ:Map) (w:World) (rs:List Nat):Prop where
 nd:rs.Nodup
 at_:∀ r∈rs,n≤r∧w.heap[r]? = some (.deferred (some [])) ∧ ∀ l,¬ (ρ l).has r
theorem Marks.nil {n ρ w}:Marks n ρ w []:=⟨List.nodup_nil,fun r hr=>by cases hr⟩
theorem Marks.lt {n ρ w rs} (k:Marks n ρ w rs):∀ r∈rs,r < w.heap.size:=fun r hr=>(Array.getElem?_eq_some_iff.1 (k.at_ r hr).2.1).1
theorem Marks.trans {n ρ H w ρ' H' w' rs} (k:Marks n ρ w rs) (t:Trans ρ H w ρ' H' w'):Marks n ρ' w' rs:=⟨k.nd,fun r hr=>by
 obtain ⟨h1,h2,h3⟩:=k.at_ r hr;refine ⟨h1,(t.keep r (k.lt r hr) h3).1.trans h2,fun l hl=>?_⟩;rcases t.new l r hl with h | ⟨l',h⟩
 ·have:=k.lt r hr; omega
 ·exact h3 l' h⟩
theorem Marks.append {n m ρ w rs rs0} (k:Marks m ρ w rs) (k0:Marks n ρ w rs0) (h0:∀ r∈rs0,r < m) (hnm:n≤m):Marks n ρ w (rs++rs0):=⟨List.nodup_append.2 ⟨k.nd,k0.nd,fun a ha b hb e=>by have:=(k.at_ a ha).1; have:=h0 b hb; omega⟩,fun r hr=>by
 rcases List.mem_append.1 hr with h | h
 ·obtain ⟨h1,h2⟩:=k.at_ r h; exact ⟨by omega,h2⟩
 ·exact k0.at_ r h⟩
def kU (pl:Bool) (B:Ice) (ds:List Deferred) (fx:List (Nat × Value)) (ρ:Map) (H:Ice) (w:World) (N p:Nat) (Q:Exit→Act→World→Prop):Ex × St→Prop
 | (.nrm,st)=>∀ rs ρ' H' a' w',(pl=true→rs=[])→Marks w.heap.size ρ' w' rs→StRel B (rs.map mk++ds) fx ρ' H' N st a' w'→Trans ρ H w ρ' H' w'→A2 p ρ ρ'→p≤st.heap.length→Q .normal a' w'
 | (.exit id,st)=>∀ rs ρ' H' a' w',(pl=true→rs=[])→Marks w.heap.size ρ' w' rs→StRel B (rs.map mk++ds) fx ρ' H' N st a' w'→Trans ρ H w ρ' H' w'→A2 p ρ ρ'→p≤st.heap.length→Q (.exit id) a' w'
 | (.ret,st)=>∀ rs ρ' H' a' w',(pl=true→rs=[])→Marks w.heap.size ρ' w' rs→StRel B (rs.map mk++ds) fx ρ' H' N st a' w'→Trans ρ H w ρ' H' w'→A2 p ρ ρ'→p≤st.heap.length→Q .ret a' w'
 | (.pan v,st)=>∀ rs ρ' H' a' w' u,(pl=true→rs=[])→Marks w.heap.size ρ' w' rs→HRel ρ' H' (j5 st.heap) w'→(∀ l,ρ' l ≠ .none→∃ k,k < st.heap.length∧l = .b k)→j9 ρ' H' v u→a'.defers=rs.map mk++ds→(∀ t u,(t,u)∈fx→a'.tmps.getD t undef=u)→Trans ρ H w ρ' H' w'→A2 p ρ ρ'→p≤st.heap.length→Q (.panic [{ v:=u,recovered:=false }]) a' w'
 | (.out,_)=>LetsOut Q
theorem kU.shift {pl:Bool} {ρ ρ1:Map} {H H1:Ice} {w w1:World} {N p:Nat} {Q:Exit→Act→World→Prop} {x:Ex × St} {rs0:List Nat} (h:kU pl B ds fx ρ H w N p Q x) (ht:Trans ρ H w ρ1 H1 w1) (hs:A2 p ρ ρ1) (h0:pl=true→rs0=[]) (hm:Marks w.heap.size ρ1 w1 rs0) :
 kU pl B (rs0.map mk++ds) fx ρ1 H1 w1 N p Q x:=by
 obtain ⟨e,st⟩:=x
 have hz:∀ {rs:List Nat},(pl=true→rs=[])→pl=true→rs++rs0=[]:=fun h1 hp=>by rw[h1 hp,h0 hp]; rfl
 have ha:∀ {rs ρ' H' w'},Marks w1.heap.size ρ' w' rs→Trans ρ1 H1 w1 ρ' H' w'→Marks w.heap.size ρ' w' (rs++rs0):=fun k t=>k.append (hm.trans t) hm.lt ht.size
 have he:∀ rs:List Nat,rs.map mk++(rs0.map mk++ds)=(rs++rs0).map mk++ds:=fun rs=>by simp
 cases e with
 | nrm=>exact fun rs ρ' H' a' w' r1 r2 q1 q2 q3 q4=>h _ ρ' H' a' w' (hz r1) (ha r2 q2) (he rs ▸ q1) (ht.trans q2) (hs.trans q3) q4
 | exit id=>exact fun rs ρ' H' a' w' r1 r2 q1 q2 q3 q4=>h _ ρ' H' a' w' (hz r1) (ha r2 q2) (he rs ▸ q1) (ht.trans q2) (hs.trans q3) q4
 | ret=>exact fun rs ρ' H' a' w' r1 r2 q1 q2 q3 q4=>h _ ρ' H' a' w' (hz r1) (ha r2 q2) (he rs ▸ q1) (ht.trans q2) (hs.trans q3) q4
 | pan v=>exact fun rs ρ' H' a' w' u r1 r2 q1 q2 q3 q3' q3x q4 q5 q6=>h _ ρ' H' a' w' u (hz r1) (ha r2 q4) q1 q2 q3 (he rs ▸ q3') q3x (ht.trans q4) (hs.trans q5) q6
 | out=>exact h
theorem kU.shift0 {pl:Bool} {ρ ρ1:Map} {H H1:Ice} {w w1:World} {N p:Nat} {Q:Exit→Act→World→Prop} {x:Ex × St} (h:kU pl B ds fx ρ H w N p Q x) (ht:Trans ρ H w ρ1 H1 w1) (hs:A2 p ρ ρ1):kU pl B ds fx ρ1 H1 w1 N p Q x:=
 h.shift (rs0:=[]) ht hs (fun _=>rfl) Marks.nil
def qaj (B:Ice) (ds:List Deferred) (fx:List (Nat × Value)) (ρ:Map) (H:Ice) (w:World) (N p:Nat) (Q:Exit→Act→World→Prop):Ex × St→Prop
 | (.nrm,st)=>∀ ρ' H' a' w',StRel B ds fx ρ' H' N st a' w'→Trans ρ H w ρ' H' w'→A2 p ρ ρ'→p≤st.heap.length→Q .normal a' w'
 | (.exit id,st)=>∀ ρ' H' a' w',StRel B ds fx ρ' H' N st a' w'→Trans ρ H w ρ' H' w'→A2 p ρ ρ'→p≤st.heap.length→Q (.exit id) a' w'
 | (.ret,st)=>∀ ρ' H' a' w',StRel B ds fx ρ' H' N st a' w'→Trans ρ H w ρ' H' w'→A2 p ρ ρ'→p≤st.heap.length→Q .ret a' w'
 | (.pan v,st)=>∀ ρ' H' a' w' u,HRel ρ' H' (j5 st.heap) w'→(∀ l,ρ' l ≠ .none→∃ k,k < st.heap.length∧l = .b k)→j9 ρ' H' v u→a'.defers=ds→(∀ t u,(t,u)∈fx→a'.tmps.getD t undef=u)→Trans ρ H w ρ' H' w'→A2 p ρ ρ'→p≤st.heap.length→Q (.panic [{ v:=u,recovered:=false }]) a' w'
 | (.out,_)=>LetsOut Q
theorem qaj.toC {ρ:Map} {H:Ice} {w:World} {N p:Nat} {Q:Exit→Act→World→Prop} {x:Ex × St} (h:qaj B ds fx ρ H w N p Q x):kU true B ds fx ρ H w N p Q x:=by
 obtain ⟨e,st⟩:=x
 cases e with
 | nrm=>exact fun rs ρ' H' a' w' r1 _ q1=>by obtain rfl:=r1 rfl; exact h ρ' H' a' w' q1
 | exit id=>exact fun rs ρ' H' a' w' r1 _ q1=>by obtain rfl:=r1 rfl; exact h ρ' H' a' w' q1
 | ret=>exact fun rs ρ' H' a' w' r1 _ q1=>by obtain rfl:=r1 rfl; exact h ρ' H' a' w' q1
 | pan v=>exact fun rs ρ' H' a' w' u r1 _ q1 q2 q3 q4=>by obtain rfl:=r1 rfl; exact h ρ' H' a' w' u q1 q2 q3 q4
 | out=>exact h
theorem qaj.shift {ρ ρ1:Map} {H H1:Ice} {w w1:World} {N p:Nat} {Q:Exit→Act→World→Prop} {x:Ex × St} (h:qaj B ds fx ρ H w N p Q x) (ht:Trans ρ H w ρ1 H1 w1) (hs:A2 p ρ ρ1):qaj B ds fx ρ1 H1 w1 N p Q x:=by
 obtain ⟨e,st⟩:=x
 cases e with
 | nrm=>exact fun ρ' H' a' w' q1 q2 q3 q4=>h ρ' H' a' w' q1 (ht.trans q2) (hs.trans q3) q4
 | exit id=>exact fun ρ' H' a' w' q1 q2 q3 q4=>h ρ' H' a' w' q1 (ht.trans q2) (hs.trans q3) q4
 | ret=>exact fun ρ' H' a' w' q1 q2 q3 q4=>h ρ' H' a' w' q1 (ht.trans q2) (hs.trans q3) q4
 | pan v=>exact fun ρ' H' a' w' u q1 q2 q3 q3' q3x q4 q5 q6=>h ρ' H' a' w' u q1 q2 q3 q3' q3x (ht.trans q4) (hs.trans q5) q6
 | out=>exact h
theorem qmv {ρ:Map} {H:Ice} {p:Nat} {v:V} {u:Value} {h:Loc→Option Obj} {w:World} {ex:Ex} {st:St} (hH:HRel ρ H h w) (hv:j9 ρ H v u) (e:qmw p v h=some (ex,st)) :
 ∃ x ρ' H',ex = .pan x∧HRel ρ' H' (j5 st.heap) w∧(∀ l,ρ' l ≠ .none→∃ k,k < st.heap.length∧l = .b k)∧j9 ρ' H' x u∧Trans ρ H w ρ' H' w∧A2 p ρ ρ'∧p≤st.heap.length:=by
 obtain ⟨⟨x,fm⟩,e1,e2⟩:=f7 e;split at e2
 ·obtain ⟨⟨vs',os,M⟩,e3,e4⟩:=f7 e2;cases e4;obtain ⟨f1,f2,f3,f4⟩:=Q9 hH fm;obtain ⟨n1,n2,n3,n4,n5⟩:=XC f1 (Ki p) e3;refine ⟨.d x,zI (zJ ρ fm) M,jx ρ H w fm,rfl,n1,fun l hl=>?_,(vG hH 24 v x fm e1).2.2 fm (fun _ h=>h) u hv,f2.trans (Kg M),(f3.toP p).trans (Kh n3),?_⟩
  ·exact YS n5 l hl
  ·have:=n3.length_le;rw[Xu] at this;simp only;omega
 ·cases e2
end Go.Rf

set_option linter.unusedSectionVars false
namespace Go.Rf
variable [Prg]
mutual
def V1:V→List Loc
 | .d _=>[]
 | .ref l _ _ _=>[l]
 | .ptr l _ _=>[l]
 | .agg cs=>wL cs
 | .iface _ x=>V1 x
 | .fn _ cs=>wL cs
 | .tup cs=>wL cs
 | .map l=>[l]
 | .iter l=>[l]
 | .junk=>[]
def wL:List V→List Loc
 | []=>[]
 | v :: vs=>V1 v++wL vs
end
def WN:List (D × V)→List Loc
 | []=>[]
 | (_,v) :: es=>V1 v++WN es
def qcw:Obj→List Loc
 | .arr xs _=>wL xs
 | .map es=>WN es
 | _=>[]
mutual
theorem j9.congr {ρ ρ':Map} {H:Ice}:∀ (x:V) {v:Value},(∀ l∈V1 x,ρ l = ρ' l)→j9 ρ H x v→j9 ρ' H x v
 | .d _,_,_,k=>k
 | .ref l _ _ _,_,h,k=>by
   simp only[j9] at k ⊢;rw[← h l (by simp[V1])]; exact k
 | .ptr l _ _,_,h,k=>by
   simp only[j9] at k ⊢;rw[← h l (by simp[V1])]; exact k
 | .map l,_,h,k=>by
   simp only[j9] at k ⊢;rw[← h l (by simp[V1])]; exact k
 | .iter l,_,h,k=>by
   simp only[j9] at k ⊢;rw[← h l (by simp[V1])]; exact k
 | .agg cs,_,h,k=>by
   obtain ⟨vs,e,k,n⟩:=k;exact ⟨vs,e,f9.congr cs (fun l hl=>h l (by simpa [V1] using hl)) k,n⟩
 | .iface _ x,_,h,k=>by
   obtain ⟨u,e,k⟩:=k;exact ⟨u,e,j9.congr x (fun l hl=>h l (by simpa [V1] using hl)) k⟩
 | .fn _ cs,_,h,k=>by
   obtain ⟨us,e,k⟩:=k;exact ⟨us,e,f9.congr cs (fun l hl=>h l (by simpa [V1] using hl)) k⟩
 | .tup cs,_,h,k=>by
   obtain ⟨us,e,k⟩:=k;exact ⟨us,e,f9.congr cs (fun l hl=>h l (by simpa [V1] using hl)) k⟩
 | .junk,_,_,k=>k
theorem f9.congr {ρ ρ':Map} {H:Ice}:∀ (xs:List V) {vs:List Value},(∀ l∈wL xs,ρ l = ρ' l)→f9 ρ H xs vs→f9 ρ' H xs vs
 | [],_,_,k=>k
 | x :: xs,_,h,k=>by
   obtain ⟨v,vs',e,k1,k2⟩:=k;exact ⟨v,vs',e,j9.congr x (fun l hl=>h l (by simp[wL,hl])) k1,f9.congr xs (fun l hl=>h l (by simp[wL,hl])) k2⟩
end
theorem ERels.congr {ρ ρ':Map} {H:Ice}:∀ (es:List (D × V)) {ents:List MapEntry},(∀ l∈WN es,ρ l = ρ' l)→All2 (qeo ρ H) es ents→All2 (qeo ρ' H) es ents
 | [],_,_,.nil=>.nil
 | (_,v) :: es,_,h,.cons ⟨k1,k2,k3⟩ k=>.cons ⟨k1,j9.congr v (fun l hl=>h l (by simp[WN,hl])) k2,k3⟩ (ERels.congr es (fun l hl=>h l (by simp[WN,hl])) k)
theorem w5.congr {ρ ρ':Map} {H:Ice} {w:World} {o:Obj} {p:Place} (h:∀ l∈qcw o,ρ l = ρ' l) (k:w5 ρ H w o p):w5 ρ' H w o p:=by
 cases o with
 | arr xs sz=>
   cases p with
   | virt s=>exact k
   | at_ b base s size=>
     obtain ⟨e,arr,elem,fr,us,h1,h2,h3,h4⟩:=k;exact ⟨e,arr,elem,fr,us,h1,h2,f9.congr xs h h3,h4⟩
   | _=>exact k.elim
 | map es=>
   cases p with
   | blk r=>
     obtain ⟨ents,clock,h1,h2⟩:=k;exact ⟨ents,clock,h1,ERels.congr es h h2⟩
   | _=>exact k.elim
 | iter s pos=>
   cases p with
   | blk r=>exact k
   | _=>exact k.elim
 | gl cs sz=>cases p <;> exact k
 | grw xs sz=>cases p <;> exact k
 | tr rem=>cases p <;> exact k
 | dead=>cases p <;> exact k.elim
mutual
theorem QG {f:Loc→Loc} {G:Loc→Prop} (hf:∀ l,G (f l)):∀ (v:V),∀ l∈V1 (V.mapL f v),G l
 | .d _,l,h=>by simp[V.mapL,V1] at h
 | .ref _ _ _ _,l,h=>by simp only[V.mapL,V1,List.mem_singleton] at h; subst h; exact hf _
 | .ptr _ _ _,l,h=>by simp only[V.mapL,V1,List.mem_singleton] at h; subst h; exact hf _
 | .map _,l,h=>by simp only[V.mapL,V1,List.mem_singleton] at h; subst h; exact hf _
 | .iter _,l,h=>by simp only[V.mapL,V1,List.mem_singleton] at h; subst h; exact hf _
 | .agg cs,l,h=>wK hf cs l (by simpa [V.mapL,V1] using h)
 | .iface _ x,l,h=>QG hf x l (by simpa [V.mapL,V1] using h)
 | .fn _ cs,l,h=>wK hf cs l (by simpa [V.mapL,V1] using h)
 | .tup cs,l,h=>wK hf cs l (by simpa [V.mapL,V1] using h)
 | .junk,l,h=>by simp[V.mapL,V1] at h
theorem wK {f:Loc→Loc} {G:Loc→Prop} (hf:∀ l,G (f l)):∀ (vs:List V),∀ l∈wL (X5 f vs),G l
 | [],l,h=>by simp[X5,wL] at h
 | v :: vs,l,h=>by
   simp only[X5,wL,List.mem_append] at h;rcases h with h | h
   ·exact QG hf v l h
   ·exact wK hf vs l h
end
theorem qcv {f:Loc→Loc} {G:Loc→Prop} (hf:∀ l,G (f l)):∀ (es:List (D × V)),∀ l∈WN (ZW f es),G l
 | [],l,h=>by simp[ZW,WN] at h
 | (_,v) :: es,l,h=>by
   simp only[ZW,WN,List.mem_append] at h;rcases h with h | h
   ·exact QG hf v l h
   ·exact qcv hf es l h
theorem qps {f:Loc→Loc} {G:Loc→Prop} (hf:∀ l,G (f l)) {o o':Obj} (e:o.mapL f=some o'):∀ l∈qcw o',G l:=by
 cases o <;> simp only[Obj.mapL,Option.some.injEq,reduceCtorEq] at e <;> subst e
 ·exact wK hf _
 ·exact qcv hf _
 all_goals (intro l h; simp[qcw] at h)
theorem wW:∀ (ws:List (Loc × Option Obj)) (h:Loc→Option Obj) (l:Loc),l∈ws.map (·.1)→∃ x,(l,x)∈ws ∧ ∀ h',j8 h' ws l=x
 | [],_,_,e=>by simp at e
 | (l',o) :: ws,h,l,e=>by
   by_cases hl:l∈ws.map (·.1)
   ·obtain ⟨x,h1,h2⟩:=wW ws h l hl;exact ⟨x,List.mem_cons_of_mem _ h1,fun h'=>h2 _⟩
   ·have e':l=l':=by
     simp only[List.map_cons,List.mem_cons] at e;rcases e with e | e
     ·exact e
     ·exact (hl e).elim
    subst e';refine ⟨o,List.mem_cons_self ..,fun h'=>?_⟩
    have miss:∀ (ws:List (Loc × Option Obj)) (h:Loc→Option Obj),l ∉ ws.map (·.1)→j8 h ws l=h l:=by
     intro ws
     induction ws with
     | nil=>intros; rfl
     | cons x ws ih=>
       intro h hn;obtain ⟨a,b⟩:=x;simp only[List.map_cons,List.mem_cons,not_or] at hn;show j8 (fun l'=>if l'=a then b else h l') ws l=h l;rw[ih _ hn.2,if_neg hn.1]
    show j8 (fun l'=>if l'=l then o else h' l') ws l=o;rw[miss ws _ hl,if_pos rfl]
theorem K6:∀ (ws:List (Loc × Option Obj)) (h:Loc→Option Obj) (l:Loc),l ∉ ws.map (·.1)→j8 h ws l=h l
 | [],_,_,_=>rfl
 | (a,b) :: ws,h,l,hn=>by
   simp only[List.map_cons,List.mem_cons,not_or] at hn;show j8 (fun l'=>if l'=a then b else h l') ws l=h l;rw[K6 ws _ l hn.2,if_neg hn.1]
theorem qc1 {i:Nat} {l:Loc}:l.isOf i=true ↔ ∃ k,l = .n i k:=by
 cases l with
 | b n=>simp[Loc.isOf]
 | n j k=>simp only[Loc.isOf,beq_iff_eq,Loc.n.injEq,exists_and_left,exists_eq',and_true]
def ka (p:Loc→Bool) (ρ:Map):Map:=fun l=>if p l=true then ρ l else match ρ l with
 | .none=>.none
 | _=>.dead
theorem QC {p:Loc→Bool} {h:Loc→Option Obj} {l:Loc} (e:p l=true):only p h l=h l:=by simp only[only,e,j3]
theorem Xx {p:Loc→Bool} {h:Loc→Option Obj} {l:Loc} (e:p l=false):only p h l=none:=by simp only[only,e,j7]
theorem YW {p:Loc→Bool} {ρ:Map} {l:Loc} (e:p l=true):ka p ρ l = ρ l:=by simp only[ka,e,if_true]
theorem qq {p:Loc→Bool} {ρ:Map} {l:Loc} {b:Nat} (e:(ka p ρ l).has b):p l=true∧(ρ l).has b:=by
 unfold ka at e;split at e
 ·rename_i h; exact ⟨h,e⟩
 ·split at e <;> cases e
theorem qb7 {p:Loc→Bool} {ρ:Map} {l:Loc} (e:ρ l = .none):ka p ρ l = .none:=by
 unfold ka;split
 ·exact e
 ·rw[e]
theorem qlh (p:Loc→Bool) (ρ:Map) (l:Loc):ka p ρ l = ρ l∨(ka p ρ l = .dead ∧ ρ l ≠ .none):=by
 unfold ka;split
 ·exact .inl rfl
 ·cases ρ l <;> simp
theorem vC (p:Loc→Bool) (ρ:Map):j4 ρ (ka p ρ):=fun l _=>(qlh p ρ l).imp (congrArg _) (·.1)
theorem HRel.only {ρ:Map} {H:Ice} {h:Loc→Option Obj} {w:World} (k:HRel ρ H h w) (p:Loc→Bool):HRel (ka p ρ) H (Rf.only p h) w where
 ice:=k.ice
 objs:=fun l o e=>by
  cases hp:p l with
  | false=>rw[Xx hp] at e; cases e
  | true=>
    rw[QC hp] at e;rw[YW hp];exact (k.objs l o e).mono (vC p ρ) (fun _ _ _ e=>e) (fun _ _=>rfl)
 gone:=fun l e=>by
  rcases qlh p ρ l with h | h
  ·cases hp:p l with
   | true=>rw[QC hp] at e; rw[h]; exact k.gone l e
   | false=>
     unfold ka at h ⊢;simp only[hp,Bool.false_eq_true,if_false] at h ⊢;split
     ·exact .inl rfl
     ·exact .inr rfl
  ·exact .inr h.1
 inj:=fun l l' b e e'=>k.inj l l' b (qq e).2 (qq e').2
 sep:=fun l b o e=>k.sep l b o (by rw[YW (qq e.has).1] at e; exact e)
theorem qlg (p:Loc→Bool) (ρ:Map) (H:Ice) (w:World):Trans ρ H w (ka p ρ) H w:=
 ⟨rfl,rfl,rfl,Nat.le_refl _,fun _ _ _=>⟨rfl,fun _=>rfl⟩,fun l _ e=>.inr ⟨l,(qq e).2⟩,fun _ _ _ e=>e⟩
def WA (ρ ρ':Map) (q:Loc→Bool):Map:=fun l=>if q l=true then ρ' l else ρ l
theorem Post.widen {ρ ρ':Map} {H H':Ice} {h:Loc→Option Obj} {w w':World} {i:Nat} {e:Eff} {v:Value} {A:List Loc} (hH:HRel ρ H h w) (hN:∀ k,ρ (.n i k) = .none)
 (k:Post (ka A.contains ρ) H (Rf.only A.contains h) w i e ρ' H' v w') (hw:okW A i e.wr=true)
 (h3:∀ l∈V1 e.v,l∈A∨l.isOf i=true) (h4:∀ l o,(l,some o)∈e.wr→∀ l'∈qcw o,l'∈A∨l'.isOf i=true) :
 Post ρ H h w i e (WA ρ ρ' fun l=>A.contains l || l.isOf i) H' v w':=by
 simp only[okW,Bool.and_eq_true,List.all_eq_true,Bool.or_eq_true,List.contains_iff_mem] at hw;obtain ⟨h1,h2⟩:=hw
 let q:Loc→Bool:=fun l=>A.contains l || l.isOf i
 have hq:∀ l,q l=true↔(l∈A∨l.isOf i=true):=fun l=>by simp[q]
 show Post ρ H h w i e (WA ρ ρ' q) H' v w'
 have wp:∀ l,q l=true→WA ρ ρ' q l = ρ' l:=fun l h=>by simp only[WA,h,if_true]
 have wn:∀ l,q l=false→WA ρ ρ' q l = ρ l:=fun l h=>by simp only[WA,h,Bool.false_eq_true,if_false]
 have hst:j4 ρ (WA ρ ρ' q):=fun l hl=>by
  cases hql:q l with
  | false=>exact .inl (congrArg _ (wn l hql))
  | true=>
    rw[wp l hql];rcases (hq l).1 hql with hA | hi
    ·have e1:ka A.contains ρ l = ρ l:=YW (List.contains_iff_mem.2 hA);rcases k.stays l (by rw[e1]; exact hl) with e2 | e2
     ·exact .inl (e2.trans (congrArg _ e1))
     ·exact .inr e2
    ·obtain ⟨j,rfl⟩:=qc1.1 hi;exact (hl (hN j)).elim
 have htr:Trans ρ H w (WA ρ ρ' q) H' w':=⟨k.trans.os,k.trans.tape,k.trans.output,k.trans.size,fun b hb hn=>k.trans.keep b hb (fun l hl=>hn l (qq hl).2),fun l b hb=>by
  cases hql:q l with
  | false=>rw[wn l hql] at hb; exact .inr ⟨l,hb⟩
  | true=>
    rw[wp l hql] at hb;rcases k.trans.new l b hb with h | ⟨l',h⟩
    ·exact .inl h
    ·exact .inr ⟨l',(qq h).2⟩,k.trans.grows⟩
 have hle:H.le H':=k.trans.grows
 have out:∀ l b,q l=false→(ρ l).has b→w'.heap[b]? = w.heap[b]? ∧ (∀ o,H' b o=H b o) ∧ ∀ l',¬ (ρ' l').has b:=fun l b hql hb=>by
  have hA:l ∉ A:=fun hA=>by rw[(hq l).2 (.inl hA)] at hql; cases hql
  have hno:∀ l',¬ (ka A.contains ρ l').has b:=fun l' hl'=>by
   obtain ⟨a1,a2⟩:=qq hl';have:=hH.inj l' l b a2 hb;subst this;exact hA (List.contains_iff_mem.1 a1)
  obtain ⟨b1,b2⟩:=k.trans.keep b (hH.lt hb) hno;refine ⟨b1,b2,fun l' hl'=>?_⟩;rcases k.trans.new l' b hl' with h | ⟨l2,h⟩
  ·have:=hH.lt hb; omega
  ·exact hno l2 h
 have hin:∀ l,q l=true→j8 h e.wr l=j8 (Rf.only A.contains h) e.wr l ∧ ∀ o,j8 h e.wr l=some o→(l,some o)∈e.wr:=fun l hql=>by
  by_cases hm:l∈e.wr.map (·.1)
  ·obtain ⟨x,a1,a2⟩:=wW e.wr h l hm;rw[a2,a2];exact ⟨rfl,fun o ho=>ho ▸ a1⟩
  ·rw[K6 _ _ _ hm,K6 _ _ _ hm];rcases (hq l).1 hql with hA | hi
   ·exact (hm (h1 l hA)).elim
   ·obtain ⟨j,rfl⟩:=qc1.1 hi
    have hn:h (.n i j)=none:=by
     cases ho:h (.n i j) with
     | none=>rfl
     | some o=>
       have:=hH.objs _ o ho;rw[hN j] at this
       cases o <;> exact this.elim
    refine ⟨?_,fun o ho=>by rw[hn] at ho; cases ho⟩;simp only[Rf.only,hn]
    cases A.contains (.n i j) <;> rfl
 have hout:∀ l,q l=false→j8 h e.wr l=h l:=fun l hql=>K6 _ _ _ (fun hm=>by rw[(hq l).2 (h2 l hm)] at hql; cases hql)
 refine ⟨⟨k.heap.ice,fun l o ho=>?_,fun l ho=>?_,fun l l' b hb hb'=>?_,fun l b o hb=>?_⟩,htr,hst,fun l a1 a2=>?_,?_⟩
 ·cases hql:q l with
  | true=>
    obtain ⟨a1,a2⟩:=hin l hql;have ho':=ho;rw[a1] at ho';rw[wp l hql]
    exact (k.heap.objs l o ho').congr fun l' hl'=>(wp l' ((hq l').2 (h4 l o (a2 o ho) l' hl'))).symm
  | false=>
    rw[hout l hql] at ho;rw[wn l hql]
    exact (hH.objs l o ho).mono hst hle fun b hb=>(out l b hql hb).1
 ·cases hql:q l with
  | true=>rw[(hin l hql).1] at ho; rw[wp l hql]; exact k.heap.gone l ho
  | false=>rw[hout l hql] at ho; rw[wn l hql]; exact hH.gone l ho
 ·cases hql:q l with
  | true=>
    rw[wp l hql] at hb
    cases hql':q l' with
    | true=>rw[wp l' hql'] at hb'; exact k.heap.inj l l' b hb hb'
    | false=>rw[wn l' hql'] at hb'; exact ((out l' b hql' hb').2.2 l hb).elim
  | false=>
    rw[wn l hql] at hb
    cases hql':q l' with
    | true=>rw[wp l' hql'] at hb'; exact ((out l b hql hb).2.2 l' hb').elim
    | false=>rw[wn l' hql'] at hb'; exact hH.inj l l' b hb hb'
 ·cases hql:q l with
  | true=>rw[wp l hql] at hb; exact k.heap.sep l b o hb
  | false=>
    rw[wn l hql] at hb;rw[(out l b hql hb.has).2.1 o];exact hH.sep l b o hb
 ·cases hql:q l with
  | true=>rw[wp l hql] at a2; exact k.new l (qb7 a1) a2
  | false=>rw[wn l hql] at a2; exact (a2 a1).elim
 ·exact j9.congr e.v (fun l hl=>(wp l ((hq l).2 (h3 l hl))).symm) k.val
theorem f8.widen {P:Program} {o:Oper} {a:Act} {ρ:Map} {H:Ice} {h:Loc→Option Obj} {w:World} {i:Nat} {A:List Loc} {r:R} (hH:HRel ρ H h w) (hN:∀ k,ρ (.n i k) = .none)
 (k:f8 P o a w (ka A.contains ρ) H (Rf.only A.contains h) i r)
 (hr:∀ e,r = .ok e∨r = .pan e→okW A i e.wr=true∧(∀ l∈V1 e.v,l∈A∨l.isOf i=true) ∧ ∀ l o,(l,some o)∈e.wr→∀ l'∈qcw o,l'∈A∨l'.isOf i=true) :
 f8 P o a w ρ H h i r:=fun ro K Q hk=>by
 refine k ro K Q ?_
 cases r with
 | out=>exact hk
 | ok e=>
   obtain ⟨h1,h2,h3⟩:=hr e (.inl rfl)
   exact fun ρ' H' v w' hp=>hk _ _ _ _ (hp.widen hH hN h1 h2 h3)
 | pan e=>
   obtain ⟨h1,h2,h3⟩:=hr e (.inr rfl)
   exact fun ρ' H' v w' hp=>hk _ _ _ _ (hp.widen hH hN h1 h2 h3)
theorem Ya {m:List Loc} {i:Nat}:∀ (os:List Obj) (k:Nat) {l:Loc} {x:Option Obj},(l,x)∈M1 m i k os→∃ o,x=Obj.mapL (N6 m i) o
 | [],_,_,_,h=>by cases h
 | o :: os,k,l,x,h=>by
   rcases List.mem_cons.1 h with h | h
   ·cases h; exact ⟨o,rfl⟩
   ·exact Ya os (k + 1) h
theorem qjt {cf:CF} {f:FuncId} {i:Nat} {h:Loc→Option Obj} {A:List Loc} {args:List (V × Bool)} {r:R} (e:W1 cf f i (Rf.only A.contains h) args=some r) :
 ∀ ef,r = .ok ef∨r = .pan ef→(∀ l∈V1 ef.v,l∈A∨l.isOf i=true) ∧ ∀ l o,(l,some o)∈ef.wr→∀ l'∈qcw o,l'∈A∨l'.isOf i=true:=by
 obtain ⟨⟨vs,fm⟩,e1,e2⟩:=f7 e;obtain ⟨⟨vs',os,m⟩,e3,e4⟩:=f7 e2
 have hm:∀ l∈m,l∈A:=fun l hl=>by
  rcases qcq e3 l hl with h' | h'
  ·cases h'
  ·simp only[O9] at h';split at h'
   ·cases h'
   ·simp only[Rf.only] at h'
    cases hc:A.contains l with
    | true=>exact List.contains_iff_mem.1 hc
    | false=>rw[hc] at h'; cases h'
 have hf:∀ l,N6 m i l∈A∨(N6 m i l).isOf i=true:=fun l=>by
  cases l with
  | n a b=>exact .inr (by simp[N6,Loc.isOf])
  | b k=>
    by_cases hk:k < m.length
    ·rw[zM (List.getElem?_eq_getElem hk)];exact .inl (hm _ (List.getElem_mem hk))
    ·rw[qC (by omega)];exact .inr (by simp[Loc.isOf])
 intro ef hef
 cases hs:(vs'.all S1) with
 | false=>
   simp only[hs,j7] at e4;cases e4
 | true=>
   simp only[hs,j3] at e4;obtain ⟨cr,e5,e6⟩:=f7 e4;cases e6
   have hw:∀ {os:List Obj},∀ l o,(l,some o)∈fm.map (·,(none:Option Obj))++M1 m i 0 os→∀ l'∈qcw o,l'∈A∨l'.isOf i=true:=fun {os} l o hmem=>by
    rcases List.mem_append.1 hmem with hmem | hmem
    ·obtain ⟨_,_,h⟩:=List.mem_map.1 hmem;cases h
    ·obtain ⟨o',ho'⟩:=Ya os 0 hmem;exact qps hf ho'.symm
   cases cr with
   | out=>rcases hef with h | h <;> cases h
   | ret rs hp=>
     rcases hef with h | h <;> cases h
     exact ⟨QG hf _,hw⟩
   | pan v hp=>
     rcases hef with h | h <;> cases h
     exact ⟨QG hf _,hw⟩
end Go.Rf
