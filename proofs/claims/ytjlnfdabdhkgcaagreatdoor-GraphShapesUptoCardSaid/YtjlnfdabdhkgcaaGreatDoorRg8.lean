/- Parts of the proof: RfCode2, RfFun, RfRec, RfMain, RfData. -/
import Derived.Test.YtjlnfdabdhkgcaaGreatDoorRg7
import Derived.Scope
import Derived.Recover
import Derived.Below
import Derived.Carry
import Derived.ProofKit

set_option linter.unusedSimpArgs false
set_option linter.unusedVariables false
set_option linter.unnecessarySimpa false
set_option linter.unusedSectionVars false
set_option linter.all false
namespace Go.Rf
variable {B:Ice} {ds:List Deferred} {fx:List (Nat × Value)}
def qck (P:Program) (N:Nat) (ops:Array Oper) (L:List AIns):Bool:=
 decide (L.map (·.i)=List.range ops.size) && L.all fun ai=>match ops[ai.i]? with
  | some o=>qcn P N ops o ai
  | none=>false
section
variable {P:Program} {T:Tab} {cf:CF} {N p:Nat}
theorem qhl (hcf:ZU B P cf) (hfs:∀ g vs hp r,cf g vs hp=some r→qB P g=true) {ops:Array Oper} {L:List AIns} {keep:List Nat} {id:Nat} (hok:qck P N ops L=true) (hav:∀ ai∈L,∀ x∈fx,ai.dst≠some x.1) {st:St} {r:Ex × St}
 (e:region T cf p L none keep st=some r) {ρ:Map} {H:Ice} {w:World} {a:Act} {Q:Exit→Act→World→Prop} (hS:StRel B ds fx ρ H N st a w) (hp:Jr B ds fx ρ H w N p Q r) :
 (Code.region id ops false).wp P Q a w:=by
 simp only[qck,Bool.and_eq_true,decide_eq_true_eq] at hok;obtain ⟨h1,h2⟩:=hok;obtain ⟨⟨rr,rs⟩,e1,e2⟩:=d9 (show (bnd _ _:Option _)=some r from e);apply wp_region;rw[← h1];refine Kn hcf hfs L _ _ rr rs (fun ai hai=>?_) (by rw[h1]; exact List.nodup_range) hav e1 ρ H w a hS.heap hS.env (fun ai _ k=>?_) ?_
 ·have:=List.all_eq_true.1 h2 ai hai;split at this
  ·rename_i o ho; exact ⟨o,ho,this⟩
  ·cases this
 ·cases hq:ρ (.n ai.i k) with
  | none=>rfl
  | _=>
    obtain ⟨_,_,hk⟩:=hS.only (.n ai.i k) (by rw[hq]; intro h; cases h);cases hk
 ·cases rr with
  | out=>(cases e2; exact hp)
  | nrm s'=>
    intro ρ' H' a' w' q1 q2 q3 q4 _;obtain ⟨st',e3,e4⟩:=d9 e2;cases e4;obtain ⟨M,m1,m2,m3,m4⟩:=YP q1 q2 e3;exact hp _ _ _ _ m1 (q3.trans m3) ((q4.toP p).trans m2) m4
  | pan j v s'=>
    intro ρ' H' a' w' u q1 q2 q2' q3 q4 _ q5;obtain ⟨ex,st'⟩:=r;obtain ⟨x,ρ2,H2,rfl,m1,m2,m3,m4,m5,m6⟩:=qme q1 q5 (show qmf p v s'.h=some (ex,st') from e2);exact hp _ _ _ _ u m1 m2 m3 q2 q2' (q3.trans m4) ((q4.toP p).trans m5) m6
def okC (P:Program) (N:Nat):ACode→Code→Bool
 | .skip,c=>match c with | .skip=>true | .label _=>true | _=>false
 | .region L draw _,c=>match c,draw with | .region _ ops false,none=>qck P N ops L | .region _ ops true,some d=>Wu P N ops L d | _,_=>false
 | .seq a b,c=>match c with | .seq x y=>okC P N a x && okC P N b y | _=>false
 | .cond x a b,c=>match c with | .cond x' y z=>okO x' x && okC P N a y && okC P N b z | _=>false
 | .block id a,c=>match c with | .block id' x=>decide (id=id') && okC P N a x | _=>false
 | .loop _ a,c=>match c with | .loop x=>okC P N a x | _=>false
 | .exit id _,c=>match c with | .exit id'=>decide (id=id') | _=>false
 | .scope a,c=>match c with | .scope x=>okC P N a x | _=>false
 | .ret,c=>match c with | .ret=>true | _=>false
 | .refuse,_=>false
def Q2 (ks:List Nat):ACode→Bool
 | .region L _ _=>L.all fun ai=>match ai.dst with | some t=>!ks.contains t | none=>true
 | .seq a b=>Q2 ks a && Q2 ks b
 | .cond _ a b=>Q2 ks a && Q2 ks b
 | .block _ a=>Q2 ks a
 | .loop _ a=>Q2 ks a
 | .scope a=>Q2 ks a
 | _=>true
theorem Ki {L:List AIns} {d:Option (List (Nat × Nat) × List Nat)} {keep:List Nat} (h:Q2 (fx.map (·.1)) (.region L d keep)=true):∀ ai∈L,∀ x∈fx,ai.dst≠some x.1:=fun ai hai x hx he=>by
 simp only[Q2,List.all_eq_true] at h;have:=h ai hai;rw[he] at this;simp only[Bool.not_eq_true'] at this;have hm:(fx.map (·.1)).contains x.1=true:=List.contains_iff_mem.2 (List.mem_map_of_mem hx);rw[hm] at this;cases this
theorem ZG {q:Nat→Prop} (h:∃ n,q n):∃ n,q n ∧ ∀ m,q m→n≤m:=by
 obtain ⟨n,hn⟩:=h
 induction n using Nat.strongRecOn with
 | _ n ih=>
   by_cases hm:∃ m,m < n∧q m
   ·obtain ⟨m,h1,h2⟩:=hm;exact ih m h1 h2
   ·refine ⟨n,hn,fun m hq=>?_⟩
    by_cases hmn:n≤m
    ·exact hmn
    ·exact (hm ⟨m,by omega,hq⟩).elim
noncomputable def qlc {q:Nat→Prop} (h:∃ n,q n):Nat:=Classical.choose (ZG h)
theorem qo4 {q:Nat→Prop} (h:∃ n,q n):q (qlc h):=(Classical.choose_spec (ZG h)).1
theorem qw2 {q:Nat→Prop} (h:∃ n,q n) {m:Nat} (hm:q m):qlc h≤m:=(Classical.choose_spec (ZG h)).2 m hm
theorem qo0 {c:Code} {f:St→Option (Ex × St)} {keep:List Nat} {Q:Exit→Act→World→Prop}
 (hround:∀ st r,f st=some r→∀ ρ H w a (Q:Exit→Act→World→Prop),StRel B ds fx ρ H N st a w→p≤st.heap.length→Jr B ds fx ρ H w N p Q r→c.wp P Q a w) :
 ∀ (n:Nat) st r,XT n f st=some r→∀ ρ H w a,StRel B ds fx ρ H N st a w→p≤st.heap.length→Jr B ds fx ρ H w N p Q r→(Code.loop c).wp P Q a w:=by
 classical
 let n8:Nat→Act→World→Prop:=fun n a w=>∃ st r ρ H,XT n f st=some r∧StRel B ds fx ρ H N st a w∧p≤st.heap.length∧Jr B ds fx ρ H w N p Q r
 intro n st r e ρ H w a hS hpl hp;refine wp_loop (fun a w=>∃ n,n8 n a w) (fun a w=>if h:∃ n,n8 n a w then qlc h else 0) ⟨n,st,r,ρ,H,e,hS,hpl,hp⟩ (fun a w hI=>?_);have hg:=qo4 hI
 have hmin:∀ {k a' w'},n8 k a' w'→(if h:∃ n,n8 n a' w' then qlc h else 0)≤k:=fun {k a' w'} hk=>by
  rw[dif_pos ⟨k,hk⟩];exact qw2 _ hk
 obtain ⟨st,r,ρ,H,e,hS,hpl,hp⟩:=hg;rw[dif_pos hI]
 cases hn:qlc hI with
 | zero=>rw[hn] at e; cases e
 | succ k=>
   rw[hn] at e;simp only[XT] at e;split at e
   ·rename_i st' hf;refine hround st _ hf ρ H w a _ hS hpl (fun ρ' H' a' w' q1 q2 q3 q4=>?_);have hg:n8 k a' w':=⟨st',r,ρ',H',e,q1,q4,hp.shift q2 q3⟩;exact ⟨⟨k,hg⟩,Nat.lt_succ_of_le (hmin hg)⟩
   ·rename_i hne;refine hround st r e ρ H w a _ hS hpl ?_;obtain ⟨ex,st'⟩:=r
    cases ex with
    | nrm=>exact (hne st' e).elim
    | exit id=>exact hp
    | ret=>exact hp
    | pan v=>exact hp
    | out=>obtain ⟨a0,w0,h0⟩:=hp; exact ⟨a0,w0,h0⟩
theorem B4 (hcf:ZU B P cf) (hfs:∀ g vs hp r,cf g vs hp=some r→qB P g=true):∀ (ac:ACode) (c:Code),okC P N ac c=true→Q2 (fx.map (·.1)) ac=true→∀ n st r,code T cf p n ac st=some r→
 ∀ ρ H w a (Q:Exit→Act→World→Prop),StRel B ds fx ρ H N st a w→p≤st.heap.length→Jr B ds fx ρ H w N p Q r→c.wp P Q a w
 | .skip,c,hok,hav,n,st,r,e,ρ,H,w,a,Q,hS,hpl,hp=>by
   cases c <;> first | (simp[okC] at hok; done) | skip
   ·cases e;exact wp_skip (hp ρ H a w hS (Trans.refl ..) (D8.refl _ _) hpl)
   ·cases e;exact wp_label (hp ρ H a w hS (Trans.refl ..) (D8.refl _ _) hpl)
 | .region L draw keep,c,hok,hav,n,st,r,e,ρ,H,w,a,Q,hS,hpl,hp=>by
   cases c <;> first | (simp[okC] at hok; done) | skip
   rename_i id ops d
   cases d <;> cases draw <;> first | (simp[okC] at hok; done) | skip
   ·exact qhl hcf hfs hok (Ki hav) e hS hp
   ·exact qel hcf hfs hok (Ki hav) e hS hp
 | .seq x y,c,hok,hav,n,st,r,e,ρ,H,w,a,Q,hS,hpl,hp=>by
   cases c <;> first | (simp[okC] at hok; done) | skip
   simp only[okC,Bool.and_eq_true] at hok;simp only[code] at e;apply wp_seq;split at e
   ·rename_i st' e1
    exact B4 hcf hfs x _ hok.1 (by simp only[Q2,Bool.and_eq_true] at hav; exact hav.1) n st _ e1 ρ H w a _ hS hpl (fun ρ' H' a' w' q1 q2 q3 q4=>
     B4 hcf hfs y _ hok.2 (by simp only[Q2,Bool.and_eq_true] at hav; exact hav.2) n st' r e ρ' H' w' a' Q q1 q4 (hp.shift q2 q3))
   ·rename_i hne;refine B4 hcf hfs x _ hok.1 (by simp only[Q2,Bool.and_eq_true] at hav; exact hav.1) n st r e ρ H w a _ hS hpl ?_;obtain ⟨ex,st'⟩:=r
    cases ex with
    | nrm=>exact (hne st' e).elim
    | exit id=>exact hp
    | ret=>exact hp
    | pan v=>exact hp
    | out=>obtain ⟨a0,w0,h0⟩:=hp; exact ⟨a0,w0,h0⟩
 | .cond x y z,c,hok,hav,n,st,r,e,ρ,H,w,a,Q,hS,hpl,hp=>by
   cases c <;> first | (simp[okC] at hok; done) | skip
   simp only[okC,Bool.and_eq_true] at hok;obtain ⟨⟨h1,h2⟩,h3⟩:=hok;simp only[code] at e;split at e
   ·rename_i hc;exact wp_cond_true (j9 hS.env h1 hc) (B4 hcf hfs y _ h2 (by simp only[Q2,Bool.and_eq_true] at hav; exact hav.1) n st r e ρ H w a Q hS hpl hp)
   ·rename_i hc;exact wp_cond_false (j9 hS.env h1 hc) (B4 hcf hfs z _ h3 (by simp only[Q2,Bool.and_eq_true] at hav; exact hav.2) n st r e ρ H w a Q hS hpl hp)
   ·cases e
 | .block id x,c,hok,hav,n,st,r,e,ρ,H,w,a,Q,hS,hpl,hp=>by
   cases c <;> first | (simp[okC] at hok; done) | skip
   simp only[okC,Bool.and_eq_true,decide_eq_true_eq] at hok;obtain ⟨rfl,h2⟩:=hok;simp only[code] at e;apply wp_block;split at e
   ·rename_i id' st' e1;refine B4 hcf hfs x _ h2 hav n st _ e1 ρ H w a _ hS hpl (fun ρ' H' a' w' q1 q2 q3 q4=>?_);simp only[Exit.inBlock];split at e
    ·rename_i hid;cases e;rw[if_pos hid];exact hp ρ' H' a' w' q1 q2 q3 q4
    ·rename_i hid;cases e;rw[if_neg hid];exact hp ρ' H' a' w' q1 q2 q3 q4
   ·rename_i hne;refine B4 hcf hfs x _ h2 hav n st r e ρ H w a _ hS hpl ?_;obtain ⟨ex,st'⟩:=r
    cases ex with
    | nrm=>exact hp
    | exit id=>exact (hne _ _ e).elim
    | ret=>exact hp
    | pan v=>exact hp
    | out=>obtain ⟨a0,w0,h0⟩:=hp; exact ⟨a0,w0,h0⟩
 | .loop keep x,c,hok,hav,n,st,r,e,ρ,H,w,a,Q,hS,hpl,hp=>by
   cases c <;> first | (simp[okC] at hok; done) | skip
   simp only[okC] at hok;rename_i body;simp only[code] at e
   have hround:∀ st1 r1,(match vi p keep st1.env (o5 st1.heap) with
    | some st=>code T cf p n x st
    | none=>none)=some r1→∀ ρ H w a (Q:Exit→Act→World→Prop),StRel B ds fx ρ H N st1 a w→p≤st1.heap.length→Jr B ds fx ρ H w N p Q r1→body.wp P Q a w:=by
    intro st1 r1 e1 ρ H w a Q hS hpl hp;split at e1
    ·rename_i st2 e2;obtain ⟨M,m1,m2,m3,m4⟩:=YP hS.heap hS.env e2;exact B4 hcf hfs x _ hok hav n st2 r1 e1 _ H w a Q m1 m4 (hp.shift m3 m2)
    ·cases e1
   exact qo0 (keep:=keep) hround n st r e ρ H w a hS hpl hp
 | .exit id keep,c,hok,hav,n,st,r,e,ρ,H,w,a,Q,hS,hpl,hp=>by
   cases c <;> first | (simp[okC] at hok; done) | skip
   simp only[okC,decide_eq_true_eq] at hok;subst hok;obtain ⟨st2,e1,e2⟩:=d9 e;cases e2;obtain ⟨M,m1,m2,m3,m4⟩:=YP hS.heap hS.env e1;exact wp_exit (hp _ _ _ _ m1 m3 m2 m4)
 | .scope x,c,hok,hav,n,st,r,e,ρ,H,w,a,Q,hS,hpl,hp=>by
   cases c <;> first | (simp[okC] at hok; done) | skip
   simp only[okC] at hok;apply wp_scope_straight;refine B4 hcf hfs x _ hok hav n st r e ρ H w a _ hS hpl ?_;obtain ⟨ex,st'⟩:=r
   cases ex with
   | nrm=>exact hp
   | exit id=>exact hp
   | ret=>exact hp
   | pan v=>exact hp
   | out=>obtain ⟨a0,w0,h0⟩:=hp; exact ⟨a0,w0,h0⟩
 | .ret,c,hok,hav,n,st,r,e,ρ,H,w,a,Q,hS,hpl,hp=>by
   cases c <;> first | (simp[okC] at hok; done) | skip
   cases e;exact wp_ret (hp ρ H a w hS (Trans.refl ..) (D8.refl _ _) hpl)
 | .refuse,c,hok,hav,n,st,r,e,_,_,_,_,_,_,_,_=>by cases e
end
end Go.Rf

namespace Go.Rf
variable {B:Ice} {ds:List Deferred} {fx:List (Nat × Value)}
def QN (P:Program):List ResultVar→List (ARes × Bool)→Bool
 | [],[]=>true
 | .tmp t :: rs,(.tmp t',_) :: a7=>decide (t=t') && QN P rs a7
 | .cell x t :: rs,(.cell x' n ag,_) :: a7=>decide (x=x') && Qi P t n ag && QN P rs a7
 | _,_=>false
section
variable {P:Program} {N p:Nat} {ρ:Map} {H:Ice} {w:World}
theorem qtq {t:TypeId} {v u:Value} (h:(Instr.loadAt t v).run P w = .ok u w):(do loadVar t (← asAddr v):Sem Value).run P w = .ok u w:=by
 cases v <;> first | exact h | (simp[Instr.loadAt,Instr.sureAddr] at h; done) | skip
 rename_i q
 cases q with
 | none=>simp[Instr.loadAt,Instr.sureAddr] at h
 | some q=>exact h
theorem Kc {α β:Type} {f:α→Sem β} {x:α} {xs:List α} {y:β} {ys:List β} (h1:(f x).run P w = .ok y w) (h2:(xs.mapM f).run P w = .ok ys w):((x :: xs).mapM f).run P w = .ok (y :: ys) w:=by
 rw[List.mapM_cons,Sem.run_bind,h1,Result.andThen_ok,Sem.run_bind,h2,Result.andThen_ok];rfl
def qvf (tmps:Array Value):ResultVar→Sem Value
 | .tmp t=>pure (tmps.getD t undef)
 | .cell a t=>do loadVar t (← asAddr (tmps.getD a undef))
theorem qhk {h:Loc→Option Obj} {env:List (Nat × V)} {a:Act} (hH:HRel ρ H h w) (hE:∀ t v,B2 env t=some v→m7 ρ H v (a.tmps.getD t undef)):∀ {rs:List ResultVar} {a7:List (ARes × Bool)} {vs:List (V × Bool)},QN P rs a7=true→je env h a7=some vs→
 ∃ us,(rs.mapM (qvf a.tmps)).run P w = .ok us w∧f9 ρ H (vs.map (·.1)) us
 | [],[],vs,_,e=>by cases e; exact ⟨[],rfl,rfl⟩
 | [],_ :: _,_,hk,_=>by simp[QN] at hk
 | .tmp _ :: _,[],_,hk,_=>by simp[QN] at hk
 | .cell _ _ :: _,[],_,hk,_=>by simp[QN] at hk
 | .tmp _ :: _,(.cell _ _ _,_) :: _,_,hk,_=>by simp[QN] at hk
 | .cell _ _ :: _,(.tmp _,_) :: _,_,hk,_=>by simp[QN] at hk
 | .tmp t :: rs,(.tmp t',fl) :: a7,vs,hk,e=>by
   simp only[QN,Bool.and_eq_true,decide_eq_true_eq] at hk;obtain ⟨rfl,hk⟩:=hk;simp only[je] at e;split at e
   ·rename_i v vs' e1 e2;cases e;obtain ⟨us,h1,h2⟩:=qhk hH hE hk e2;exact ⟨_,Kc (f:=qvf a.tmps) (y:=a.tmps.getD t undef) rfl h1,_,_,rfl,hE t v e1,h2⟩
   ·cases e
 | .cell x t :: rs,(.cell x' n ag,fl) :: a7,vs,hk,e=>by
   simp only[QN,Bool.and_eq_true,decide_eq_true_eq] at hk;obtain ⟨⟨rfl,ht⟩,hk⟩:=hk;simp only[je] at e;split at e
   ·rename_i v vs' e1 e2;cases e;obtain ⟨us,h1,h2⟩:=qhk hH hE hk e2;simp only[qby] at e1;split at e1
    ·rename_i y ey;split at e1
     ·rename_i ef hl;cases e1;obtain ⟨e',he,_,_,u,hr,hu⟩:=qk5 hH ht (hE x y ey) hl;cases he;exact ⟨_,Kc (f:=qvf a.tmps) (qtq hr) h1,_,_,rfl,hu,h2⟩
     ·cases e1
    ·cases e1
   ·cases e
theorem qrp {vs:List V} {us:Array Value} (k:f9 ρ H vs us.toList):m7 ρ H (QC vs) (if h:us.size=1 then us[0] else .tuple us):=by
 have hl:=k.length;simp only[Array.length_toList] at hl
 cases vs with
 | nil=>
   have:us = #[]:=by apply Array.toList_inj.1; exact List.eq_nil_of_length_eq_zero (by simpa using hl.symm)
   subst this;exact ⟨[],rfl,rfl⟩
 | cons v vs=>
   cases vs with
   | nil=>
     have h1:us.size=1:=by simpa using hl.symm
     rw[dif_pos h1];obtain ⟨u,us',hu,k1,k2⟩:=k;cases k2;have:us = #[u]:=Array.toList_inj.1 hu;subst this;exact k1
   | cons v' vs=>
     have h1:¬ us.size=1:=by simp at hl; omega
     rw[dif_neg h1];exact ⟨us.toList,rfl,k⟩
theorem qdc {fn:Func} {res:List (ARes × Bool)} {st:St} {a:Act} {r:CRes} (hH:HRel ρ H (o5 st.heap) w) (hE:∀ t v,B2 st.env t=some v→m7 ρ H v (a.tmps.getD t undef)) (hok:QN P fn.results.toList res=true) (e:qf p res st=some r) :
 ∃ rs os ρ' H' v,r = .ret rs os∧(results fn a.tmps).run P w = .ok v w∧HRel ρ' H' (o5 os) w∧Trans ρ H w ρ' H' w∧(∀ l,ρ' l ≠ .none→∃ k,l = .b k)∧D8 p ρ ρ'∧p≤os.length∧m7 ρ' H' (QC rs) v:=by
 obtain ⟨vals,e1,e2⟩:=d9 e;obtain ⟨⟨vs,fm⟩,e3,e4⟩:=d9 e2;split at e4
 ·obtain ⟨⟨vs',os,M⟩,e5,e6⟩:=d9 e4;cases e6;obtain ⟨us,h1,h2⟩:=qhk (P:=P) hH hE hok e1;obtain ⟨f1,f2,f3,f4⟩:=X2 hH fm;have hv1:=vV hH vals vs fm e3 fm (fun _ h=>h) us h2;obtain ⟨n1,n2,n3,n4,n5⟩:=XJ f1 (Ks p) e5;have hv2:=n2 us hv1;refine ⟨vs',os,_,_,(if h:us.toArray.size=1 then us.toArray[0] else .tuple us.toArray),rfl,?_,n1,f2.trans (Kq M),fun l hl=>?_,(f3.toP p).trans (Kr n3),?_,qrp (us:=us.toArray) hv2⟩
  ·have:(fn.results.mapM (qvf a.tmps)).run P w = .ok us.toArray w:=by
    rw[Array.mapM_eq_mapM_toList,Sem.run_map,h1];rfl
   unfold results;show Sem.run P ((fn.results.mapM (qvf a.tmps)) >>= _) w=_;rw[Sem.run_bind,this];rfl
  ·obtain ⟨k,_,hk⟩:=Wq n5 l hl; exact ⟨k,hk⟩
  ·have:=n3.length_le;rw[XD] at this;omega
 ·cases e4
def qfy (P:Program) (f:FuncId) (af:AFun):Bool:=qB P f && match P.funcs[f]? with
 | some fn=>(match fn.body with | some c=>okC P fn.ntmps af.code c | none=>false) && QN P fn.results.toList af.res && decide (af.np≤fn.ntmps)
 | none=>false
def qyt (B:Ice) (P:Program) (f:FuncId) (e:CF→List V→List Obj→Option CRes):Prop:=
 qB P f=true ∧ ∀ cf,ZU B P cf→∀ vs heap r,e cf vs heap=some r→∀ (ρ:Map) (H:Ice) (w:World) (args:Array Value),B.le H→HRel ρ H (o5 heap) w→f9 ρ H vs args.toList→
  (∀ l,ρ l ≠ .none→∃ k,k < heap.length∧l = .b k)→JS P f args w ρ H heap.length r
theorem qd2 {vs:List V} {args:Array Value} {n:Nat} (hB:B.le H) (k:f9 ρ H vs args.toList) (hn:vs.length≤n) :
 EnvRel B [] [] ρ H n ((List.range vs.length).zip vs) { tmps:=args++Array.replicate (n - args.size) undef,defers:=[] }:=by
 have hl:=k.length;simp only[Array.length_toList] at hl;refine ⟨by simp; omega,rfl,fun t v hg=>?_,hB,fun _ _ h=>by cases h⟩
 have hmap:args.toList=(List.range vs.length).map fun t=>args.getD t undef:=by
  apply List.ext_getElem?;intro j
  by_cases hj:j < args.size
  ·simp[hj,hl]
  ·simp[hj,hl]
 rw[hmap] at k;have:=qa2 k t v hg
 have ht:t < vs.length:=by
  have mem:∀ {ts:List Nat} {vs:List V},B2 (ts.zip vs) t=some v→t∈ts:=by
   intro ts
   induction ts with
   | nil=>intro vs h; simp[B2] at h
   | cons s ts ih=>
     intro vs h
     cases vs with
     | nil=>simp[B2] at h
     | cons x vs=>
       simp only[List.zip_cons_cons,B2] at h;split at h
       ·rename_i hs; subst hs; exact List.mem_cons_self ..
       ·exact List.mem_cons_of_mem _ (ih h)
  have:=mem hg
  simpa using this
 have:(args++Array.replicate (n - args.size) undef).getD t undef=args.getD t undef:=by
  simp only[Array.getD_eq_getD_getElem?];rw[Array.getElem?_append_left (by omega)]
 rw[this]
 assumption
end
end Go.Rf

namespace Go.Rf
variable {B:Ice}
def QO (P:Program) (N:Nat):ACode→Code→(Code→Bool)→Bool
 | .skip,c,k=>k c
 | .seq a p,c,k=>match c with
   | .seq x y=>okC P N a x && QO P N p y k
   | _=>false
 | _,_,_=>false
def Zs:List Operand→List Nat→Bool
 | [],[]=>true
 | .tmp t :: xs,t' :: ts=>decide (t=t') && Zs xs ts
 | _,_=>false
def q2y (r:ARec) (N:Nat):List Oper→Bool
 | [o0,o1]=>!(r.res.map (·.1.slot)).contains r.t && o0.guard.isNone && o1.guard.isNone && decide (o0.dst=some r.t) && decide (r.t < N) && decide (o1.dst=none) &&
   (match o0.op with | .makeFunc (.func g) first caps=>decide (g=r.hf) && first.toList.isEmpty && Zs caps.toList r.caps | _=>false) &&
   (match o1.op with | .defer c=>(match c.callee with | .value (.tmp t)=>decide (t=r.t) | _=>false) && c.args.toList.isEmpty | _=>false)
 | _=>false
def q2z (r:ARec) (N:Nat):List Oper→Bool
 | [o0,o1]=>o0.guard.isNone && o1.guard.isNone &&
   (match o0.op with | .call c=>(match c.callee with | .builtin .recover=>true | _=>false) && c.args.toList.isEmpty | _=>false) &&
   (match o0.dst with | some t=>decide (t < N) && (match o1.op with | .assign (.tmp t')=>decide (t'=t) | _=>false) && decide (r.caps.length≤t) && !decide (t=r.hv) | none=>false) && decide (o1.dst=some r.hv) && decide (r.hv < N) && decide (r.caps.length≤r.hv)
 | _=>false
def qv7 (P:Program) (N:Nat) (r:ARec):Code→Bool
 | .seq (.region _ ops false) rest=>q2y r N ops.toList && okC P N r.body rest
 | _=>false
def qou (P:Program) (r:ARec):Bool:=match P.funcs[r.hf]? with
 | some fn=>(match fn.body with
   | some (.seq (.region _ ops false) rest)=>q2z r fn.ntmps ops.toList && okC P fn.ntmps r.hcode rest
   | _=>false) && fn.results.toList.isEmpty && decide (r.caps.length≤fn.ntmps)
 | none=>false
def Kx (P:Program) (f:FuncId) (r:ARec):Bool:=qB P f && qB P r.hf && qou P r && (match P.funcs[f]? with
 | some fn=>(match fn.body with | some c=>QO P fn.ntmps r.pre c (qv7 P fn.ntmps r) | none=>false) && QN P fn.results.toList r.res && decide (r.np≤fn.ntmps)
 | none=>false) && Q2 (r.res.map (·.1.slot)) r.body
theorem qam:∀ {n m:Nat} {vs:List V} {t:Nat} {v:V},B2 ((List.range' m n).zip vs) t=some v→t < m + vs.length∧m≤t
 | 0,m,vs,t,v,h=>by simp[B2] at h
 | n + 1,m,[],t,v,h=>by simp[B2] at h
 | n + 1,m,x :: vs,t,v,h=>by
   simp only[List.range'_succ,List.zip_cons_cons,B2] at h;split at h
   ·rename_i hm; subst hm; simp
   ·obtain ⟨h1,h2⟩:=qam (n:=n) (m:=m + 1) h;simp only[List.length_cons];omega
theorem H6:∀ a:ACode,Q2 [] a=true
 | .skip=>rfl
 | .region L _ _=>by
   simp only[Q2,List.all_eq_true];intro ai _
   cases ai.dst <;> simp
 | .seq a b=>by simp[Q2,H6 a,H6 b]
 | .cond _ a b=>by simp[Q2,H6 a,H6 b]
 | .block _ a=>by simp[Q2,H6 a]
 | .loop _ a=>by simp[Q2,H6 a]
 | .exit _ _=>rfl
 | .scope a=>by simp[Q2,H6 a]
 | .ret=>rfl
 | .refuse=>rfl
section
variable {P:Program} {T:Tab} {cf:CF}
theorem qfu (hcf:ZU B P cf) (hfs:∀ g vs hp r,cf g vs hp=some r→qB P g=true) {N p n:Nat} {k:Code→Bool}:∀ (pre:ACode) (c:Code),QO P N pre c k=true→∀ st x,code T cf p n pre st=some x→
 ∀ ρ H w a (Q:Exit→Act→World→Prop),StRel B [] [] ρ H N st a w→p≤st.heap.length→
 (∀ st',x=(.nrm,st')→∀ rest,k rest=true→∀ ρ' H' a' w',StRel B [] [] ρ' H' N st' a' w'→Trans ρ H w ρ' H' w'→D8 p ρ ρ'→p≤st'.heap.length→rest.wp P Q a' w')→
 (x.1 ≠ .nrm→Jr B [] [] ρ H w N p Q x)→c.wp P Q a w
 | .skip,c,hok,st,x,e,ρ,H,w,a,Q,hS,hpl,hn,_=>by
   cases e;exact hn st rfl c hok ρ H a w hS (Trans.refl ..) (D8.refl _ _) hpl
 | .seq b q,c,hok,st,x,e,ρ,H,w,a,Q,hS,hpl,hn,hx=>by
   cases c <;> first | (simp[QO] at hok; done) | skip
   simp only[QO,Bool.and_eq_true] at hok;simp only[code] at e;apply wp_seq;split at e
   ·rename_i st' e1
    exact B4 (ds:=[]) (fx:=[]) hcf hfs b _ hok.1 (H6 b) n st _ e1 ρ H w a _ hS hpl (fun ρ' H' a' w' q1 q2 q3 q4=>
     qfu hcf hfs q _ hok.2 st' x e ρ' H' w' a' Q q1 q4 (fun st2 h2 rest hr ρ2 H2 a2 w2 s1 s2 s3 s4=>hn st2 h2 rest hr ρ2 H2 a2 w2 s1 (q2.trans s2) (q3.trans s3) s4) (fun hne=>(hx hne).shift q2 q3))
   ·rename_i hne;refine B4 (ds:=[]) (fx:=[]) hcf hfs b _ hok.1 (H6 b) n st x e ρ H w a _ hS hpl ?_;obtain ⟨ex,st'⟩:=x
    cases ex with
    | nrm=>exact (hne st' e).elim
    | exit id=>exact hx (fun h=>by cases h)
    | ret=>exact hx (fun h=>by cases h)
    | pan v=>exact hx (fun h=>by cases h)
    | out=>obtain ⟨a0,w0,h0⟩:=hx (fun h=>by cases h); exact ⟨a0,w0,h0⟩
 | .region _ _ _,_,hok,_,_,_,_,_,_,_,_,_,_,_,_=>by simp[QO] at hok
 | .cond _ _ _,_,hok,_,_,_,_,_,_,_,_,_,_,_,_=>by simp[QO] at hok
 | .block _ _,_,hok,_,_,_,_,_,_,_,_,_,_,_,_=>by simp[QO] at hok
 | .loop _ _,_,hok,_,_,_,_,_,_,_,_,_,_,_,_=>by simp[QO] at hok
 | .exit _ _,_,hok,_,_,_,_,_,_,_,_,_,_,_,_=>by simp[QO] at hok
 | .scope _,_,hok,_,_,_,_,_,_,_,_,_,_,_,_=>by simp[QO] at hok
 | .ret,_,hok,_,_,_,_,_,_,_,_,_,_,_,_=>by simp[QO] at hok
 | .refuse,_,hok,_,_,_,_,_,_,_,_,_,_,_,_=>by simp[QO] at hok
theorem qmu {ρ:Map} {H:Ice} {env:List (Nat × V)} {a:Act} (hE:∀ t v,B2 env t=some v→m7 ρ H v (a.tmps.getD t undef)):∀ {xs:List Operand} {ts:List Nat} {vs:List V},Zs xs ts=true→Zj env ts=some vs→f9 ρ H vs (xs.map a.eval)∧vs.length=ts.length
 | [],[],vs,_,e=>by cases e; exact ⟨rfl,rfl⟩
 | [],_ :: _,_,h,_=>by simp[Zs] at h
 | .tmp t :: xs,[],_,h,_=>by simp[Zs] at h
 | .tmp t :: xs,t' :: ts,vs,h,e=>by
   simp only[Zs,Bool.and_eq_true,decide_eq_true_eq] at h;obtain ⟨rfl,h⟩:=h;obtain ⟨v,e1,e2⟩:=d9 e;obtain ⟨vs',e3,e4⟩:=d9 e2;cases e4;obtain ⟨k1,k2⟩:=qmu hE h e3;exact ⟨⟨_,_,rfl,hE t v e1,k1⟩,by simp[k2]⟩
 | .const _ :: _,ts,_,h,_=>by cases ts <;> simp[Zs] at h
 | .func _ :: _,ts,_,h,_=>by cases ts <;> simp[Zs] at h
 | .global _ :: _,ts,_,h,_=>by cases ts <;> simp[Zs] at h
inductive Mode (ρ:Map) (H:Ice):FrameMode→V→Prop
 | ret:Mode ρ H .returning (.d .nili)
 | pan {v u} (h:m7 ρ H v u):Mode ρ H (.panicking [{ v:=u,recovered:=false }]) v
theorem qo6 (hcf:ZU B P cf) (hfs:∀ g vs hp r,cf g vs hp=some r→qB P g=true) {r:ARec} (hok:qou P r=true) {n:Nat} {ρ:Map} {H:Ice} {w:World} {heap:List Obj} {u:FrameMode} {v:V} {cs:List V} {us:Array Value} {x:Ex × St}
 (hB:B.le H) (hH:HRel ρ H (o5 heap) w) (honly:∀ l,ρ l ≠ .none→∃ k,k < heap.length∧l = .b k) (hm:Mode ρ H u v) (hcs:f9 ρ H cs us.toList) (hlen:cs.length=r.caps.length)
 (e:code T cf heap.length n r.hcode { env:=(r.hv,v) :: (List.range cs.length).zip cs,heap } = some x) {R:Ending→FrameMode→World→Prop}
 (hx:match x with
  | (.nrm,st) | (.ret,st)=>∀ ρ' H' w',HRel ρ' H' (o5 st.heap) w'→(∀ l,ρ' l ≠ .none→∃ k,k < st.heap.length∧l = .b k)→Trans ρ H w ρ' H' w'→D8 heap.length ρ ρ'→heap.length≤st.heap.length→∀ v' u',settle u' = .returning→R (.returned v') u' w'
  | (.out,_)=>∃ w0,R .outgrown u w0
  | _=>False):CallsD P r.hf us u w R:=by
 unfold qou at hok;split at hok
 ·rename_i fn hfn;simp only[Bool.and_eq_true,decide_eq_true_eq] at hok;obtain ⟨⟨hb,hres⟩,hcn⟩:=hok;split at hb
  ·rename_i id ops rest hbody;simp only[Bool.and_eq_true] at hb;obtain ⟨hask,hrest⟩:=hb;refine callsD_of_wpS hfn hbody (fun c₀ cs0 hmode=>?_);apply wpS_seq;apply wpS_region
   cases hops:ops.toList with
   | nil=>rw[hops] at hask; cases hask
   | cons o0 l=>
   cases l with
   | nil=>rw[hops] at hask; cases hask
   | cons o1 l=>
   cases l with
   | cons _ _=>rw[hops] at hask; cases hask
   | nil=>
   rw[hops] at hask;have hopsA:ops = #[o0,o1]:=Array.toList_inj.1 hops;subst hopsA;simp only[q2z,Bool.and_eq_true,decide_eq_true_eq] at hask;obtain ⟨⟨⟨⟨⟨⟨hg0,hg1⟩,hop0⟩,hd0⟩,hd1⟩,hvN⟩,hvc⟩:=hask
   have g0:o0.guard=none:=by simpa using hg0
   have g1:o1.guard=none:=by simpa using hg1
   split at hop0
   ·rename_i c hc;simp only[Bool.and_eq_true] at hop0;obtain ⟨hcal,hargs⟩:=hop0;split at hcal
    ·rename_i hcb;split at hd0
     ·rename_i t ht;simp only[Bool.and_eq_true,decide_eq_true_eq,Bool.not_eq_true',decide_eq_false_iff_not] at hd0;obtain ⟨⟨⟨htN,hop1⟩,htc⟩,htv⟩:=hd0;split at hop1
      ·rename_i t' hop1';simp only[decide_eq_true_eq] at hop1;subst hop1;have hul:=hcs.length;simp only[Array.length_toList] at hul
       let tm:Array Value:=us++Array.replicate (fn.ntmps - us.size) undef
       have htm:tm.size=fn.ntmps:=by simp[tm]; omega
       have hrun:∀ (a:Act),(execOp a.eval o0).run P w = .ok .recover w:=fun a=>by
        unfold execOp;simp only[hc,resolve,hcb];rw[Qb hargs];rfl
       have hrange:List.range (#[o0,o1]:Array Oper).size=[0,1]:=rfl;rw[hrange]
       obtain ⟨uv,cs1,hrec,hvu,u',rfl,hset⟩:∃ uv cs1,((recoverD (c₀ :: cs0)=none∧uv=Value.nilIface∧cs1=c₀ :: cs0)∨recoverD (c₀ :: cs0)=some (uv,cs1))∧m7 ρ H v uv ∧ ∃ u',cs1 = { c₀ with mode:=u' } :: cs0∧settle u' = .returning:=by
        cases hm with
        | ret=>
          refine ⟨.nilIface,c₀ :: cs0,.inl ⟨?_,rfl,rfl⟩,rfl,.returning,?_,rfl⟩
          ·simp only[recoverD,hmode]
          ·cases c₀; simp only at hmode; subst hmode; rfl
        | pan h=>
          rename_i uu;exact ⟨uu,_,.inr (by simp only[recoverD,hmode]; rfl),h,_,rfl,rfl⟩
       have hstep:∀ Q':Exit→Act→List Frame→World→Prop,Q' .normal ((({ tmps:=tm,defers:=[] }:Act).put (some t') uv).put (some r.hv) uv) ({ c₀ with mode:=u' } :: cs0) w→wpOpsS P #[o0,o1] Q' [0,1] { tmps:=tm,defers:=[] } (c₀ :: cs0) w:=by
        intro Q' hq
        have hev:(({ tmps:=tm,defers:=[] }:Act).put (some t') uv).eval (.tmp t')=uv:=by
         simp only[Act.put,Act.eval];simp[Array.getD,htm,htN]
        have h1:wpOpsS P #[o0,o1] Q' [1] (({ tmps:=tm,defers:=[] }:Act).put (some t') uv) ({ c₀ with mode:=u' } :: cs0) w:=by
         have hx1:(execOp (({ tmps:=tm,defers:=[] }:Act).put (some t') uv).eval o1).run P w = .ok (.value uv) w:=by
          unfold execOp;simp only[hop1',hev];rfl
         simp only[wpOpsS,show (#[o0,o1]:Array Oper)[1]? = some o1 from rfl,Region.wanted,g1,if_true,hx1,Oper.upon,hd1];exact hq
        unfold wpOpsS;simp only[show (#[o0,o1]:Array Oper)[0]? = some o0 from rfl,Region.wanted,g0,if_true,hrun];rcases hrec with ⟨h,rfl,h3⟩ | h
        ·rw[h];simp only[ht];rw[h3] at h1;exact h1
        ·rw[h];simp only[ht];exact h1
       apply hstep;show rest.wpS P (bodyPostS P fn c₀ cs0 R) _ _ _;apply wpS_of_wp;have hE0:EnvRel B [] [] ρ H fn.ntmps ((List.range cs.length).zip cs) { tmps:=us++Array.replicate (fn.ntmps - us.size) undef,defers:=[] }:=qd2 hB hcs (by omega);have hE1:=(hE0.put (x:=v) (v:=uv) (some t') (fun t ht=>by cases ht; exact ⟨htN,fun x hx=>by cases hx⟩) hvu).put (x:=v) (v:=uv) (some r.hv) (fun t ht=>by cases ht; exact ⟨hvN,fun x hx=>by cases hx⟩) hvu
       have hE2:EnvRel B [] [] ρ H fn.ntmps ((r.hv,v) :: (List.range cs.length).zip cs) ((({ tmps:=tm,defers:=[] }:Act).put (some t') uv).put (some r.hv) uv):=⟨hE1.size,hE1.defers,fun t x hg=>by
        refine hE1.rel t x ?_;simp only[W6,B2] at hg ⊢;split at hg
        ·rename_i h; rw[if_pos h]; exact hg
        ·rename_i h;rw[if_neg h]
         have ht:t < cs.length:=by
          rw[List.range_eq_range'] at hg;have:=(qam hg).1;omega
         rw[if_neg (by omega)]
         exact hg,hE1.base,hE1.fix⟩
       refine B4 (ds:=[]) (fx:=[]) (p:=heap.length) hcf hfs r.hcode _ hrest (H6 _) n _ x e ρ H w _ _ ⟨hH,hE2,honly⟩ (Nat.le_refl _) ?_
       ·obtain ⟨ex,st⟩:=x
        have hre:∀ (a:Act) (w:World),(results fn a.tmps).run P w = .ok (.tuple #[]) w:=fun a w=>by
         unfold results;rw[Qb hres,Array.mapM_eq_mapM_toList];rfl
        cases ex with
        | nrm=>
          intro ρ' H' a' w' q1 q2 q3 q4;exact ⟨q1.env.defers,u',rfl,_,hre a' w',hx ρ' H' w' q1.heap q1.only q2 q3 q4 _ _ hset⟩
        | ret=>
          intro ρ' H' a' w' q1 q2 q3 q4;exact ⟨q1.env.defers,u',rfl,_,hre a' w',hx ρ' H' w' q1.heap q1.only q2 q3 q4 _ _ hset⟩
        | out=>obtain ⟨w0,h0⟩:=hx; exact ⟨{ tmps:=#[],defers:=[] },w0,u,h0⟩
        | pan v=>exact hx.elim
        | exit id=>exact hx.elim
      ·cases hop1
     ·cases hd0
    ·cases hcal
   ·cases hop0
  ·cases hb
 ·cases hok
def zne (ρ:Map) (H:Ice) (w:World) (n:Nat) (x:CRes):Ending→World→Prop:=fun e w'=>match e with
 | .outgrown=>x = .out
 | .returned v=>∃ rs os ρ' H',x = .ret rs os∧CallEnd ρ H w n os ρ' H' w'∧m7 ρ' H' (QC rs) v
 | .panicked chain=>∃ y os ρ' H' u,x = .pan y os∧chain=[{ v:=u,recovered:=false }]∧CallEnd ρ H w n os ρ' H' w'∧m7 ρ' H' y u
theorem YD:∀ {ts:List Nat} {vs:List V} {t:Nat} {v:V},B2 (ts.zip vs) t=some v→t∈ts
 | [],vs,t,v,h=>by simp[B2] at h
 | s :: ts,[],t,v,h=>by simp[B2] at h
 | s :: ts,x :: vs,t,v,h=>by
   simp only[List.zip_cons_cons,B2] at h;split at h
   ·rename_i hs; subst hs; exact List.mem_cons_self ..
   ·exact List.mem_cons_of_mem _ (YD h)
theorem WC {env:List (Nat × V)}:∀ (ks:List Nat),∀ t∈(zY env ks).1,t∈ks
 | [],t,h=>by simp[zY] at h
 | k :: ks,t,h=>by
   simp only[zY] at h
   cases hg:B2 env k with
   | none=>simp only[hg] at h; exact List.mem_cons_of_mem _ (WC ks t h)
   | some v=>
     simp only[hg] at h;rcases List.mem_cons.1 h with rfl | h
     ·exact List.mem_cons_self ..
     ·exact List.mem_cons_of_mem _ (WC ks t h)
theorem D8.le {p p':Nat} {ρ ρ':Map} (h:p≤p') (k:D8 p' ρ ρ'):D8 p ρ ρ':=fun j hj=>k j (by omega)
theorem qsd (hcf:ZU B P cf) (hfs:∀ g vs hp r,cf g vs hp=some r→qB P g=true) {f:FuncId} {r:ARec} (hok:Kx P f r=true) {n:Nat} {vs:List V} {heap:List Obj} {x:CRes}
 (e:qa0 (fun p a st=>code T cf p n a st) r vs heap=some x) {ρ:Map} {H:Ice} {w:World} {args:Array Value} (hB:B.le H) (hH:HRel ρ H (o5 heap) w) (hv:f9 ρ H vs args.toList)
 (honly:∀ l,ρ l ≠ .none→∃ k,k < heap.length∧l = .b k):JS P f args w ρ H heap.length x:=by
 simp only[Kx,Bool.and_eq_true] at hok;obtain ⟨⟨⟨⟨_,hfh⟩,hhand⟩,hfun⟩,hav⟩:=hok;split at hfun
 ·rename_i fn hfn;simp only[Bool.and_eq_true,decide_eq_true_eq] at hfun;obtain ⟨⟨hbd,hres⟩,hnp⟩:=hfun
  cases hb:fn.body with
  | none=>rw[hb] at hbd; cases hbd
  | some c=>
  rw[hb] at hbd;simp only at hbd;unfold qa0 at e;split at e
  ·rename_i hl;dsimp only at e;show Calls P f args w (zne ρ H w heap.length x);generalize hR:zne ρ H w heap.length x=R;apply calls_of_wp_defers hfn hb
   have hS:StRel B [] [] ρ H fn.ntmps { env:=(List.range r.np).zip vs,heap:=heap } { tmps:=args++Array.replicate (fn.ntmps - args.size) undef,defers:=[] } w:=
    ⟨hH,by rw[← hl]; exact qd2 hB hv (by omega),honly⟩
   have stays:∀ {ρ':Map},D8 heap.length ρ ρ'→n9 ρ ρ':=fun h l hl=>by
    obtain ⟨k,hk,rfl⟩:=honly l hl;exact h k hk hl
   have hout0:x = .out→∀ w,R .outgrown w:=fun hx w=>by subst hR; exact hx
   have hout:x = .out→LetsOut (bodyPostD P fn R):=fun hx=>⟨{ tmps:=#[],defers:=[] },w,hout0 hx w⟩
   have fin:∀ {st:St},qf heap.length r.res st=some x→∀ ρ' H' (a':Act) w',HRel ρ' H' (o5 st.heap) w'→(∀ t v,B2 st.env t=some v→m7 ρ' H' v (a'.tmps.getD t undef))→Trans ρ H w ρ' H' w'→D8 heap.length ρ ρ'→
    ∃ v,(results fn a'.tmps).run P w' = .ok v w'∧R (.returned v) w':=by
    intro st e ρ' H' a' w' q1 q1' q2 q3;obtain ⟨rs,os,ρ2,H2,v,rfl,r1,r2,r3,r4,r5,r6,r7⟩:=qdc q1 q1' hres e;subst hR;exact ⟨v,r1,rs,os,ρ2,H2,rfl,⟨r2,q2.trans r3,stays (q3.trans r5),r4,r6⟩,r7⟩
   cases h1:code T cf heap.length n r.pre { env:=(List.range r.np).zip vs,heap:=heap } with
   | none=>rw[h1] at e; cases e
   | some y=>
   rw[h1] at e;refine qfu hcf hfs r.pre c hbd _ y h1 ρ H w _ _ hS (Nat.le_refl _) ?_ ?_
   ·rintro st rfl rest hrest ρ1 H1 a1 w1 s1 s2 s3 s4
    obtain ⟨cs,hcs,e⟩:=d9 (show bnd _ _=some x from e);unfold qv7 at hrest;split at hrest
    ·rename_i id ops rest2;simp only[Bool.and_eq_true] at hrest;obtain ⟨hdef,hbody⟩:=hrest
     cases hops:ops.toList with
     | nil=>rw[hops] at hdef; cases hdef
     | cons o0 l=>
     cases l with
     | nil=>rw[hops] at hdef; cases hdef
     | cons o1 l=>
     cases l with
     | cons _ _=>rw[hops] at hdef; cases hdef
     | nil=>
     rw[hops] at hdef;have hopsA:ops = #[o0,o1]:=Array.toList_inj.1 hops;subst hopsA;simp only[q2y,Bool.and_eq_true,decide_eq_true_eq] at hdef;obtain ⟨⟨⟨⟨⟨⟨⟨htks,hg0⟩,hg1⟩,hd0⟩,htN⟩,hd1⟩,hop0⟩,hop1⟩:=hdef
     have g0:o0.guard=none:=by simpa using hg0
     have g1:o1.guard=none:=by simpa using hg1
     split at hop0
     ·rename_i g first caps hm0
      simp only[Bool.and_eq_true,decide_eq_true_eq] at hop0;obtain ⟨⟨rfl,hfirst⟩,hcaps⟩:=hop0;split at hop1
      ·rename_i cl hm1;simp only[Bool.and_eq_true] at hop1;obtain ⟨hcal,hargs⟩:=hop1;split at hcal
       ·rename_i tt hcv;simp only[decide_eq_true_eq] at hcal;subst hcal;obtain ⟨hcr,hcl⟩:=qmu s1.env.rel hcaps hcs
        let fv:Value:=.func (.func r.hf) #[] (caps.map a1.eval)
        let d:Deferred:={ target:=.fn (.func r.hf) (caps.map a1.eval),args:=#[] }
        let a2:Act:={ a1.put (some r.t) fv with defers:=[d] }
        have hx0:(execOp a1.eval o0).run P w1 = .ok (.value fv) w1:=by
         unfold execOp;simp only[hm0,Instr.makeFunc];rw[Qb hfirst];simp[fv]
        have hev:(a1.put (some r.t) fv).eval (.tmp r.t)=fv:=by
         simp only[Act.put,Act.eval];simp[Array.getD,s1.env.size,htN]
        have hx1:(execOp (a1.put (some r.t) fv).eval o1).run P w1 = .ok (.defer d) w1:=by
         unfold execOp;simp only[hm1,resolve,hcv,hev,fv,Deferred.ofValue];rw[Qb hargs];simp[d]
        have hdef0:a1.defers=[]:=s1.env.defers;apply wp_seq;apply wp_region
        have hstep:∀ Q':Exit→Act→World→Prop,Q' .normal a2 w1→wpOps P #[o0,o1] Q' [0,1] a1 w1:=by
         intro Q' hq;simp only[wpOps,show (#[o0,o1]:Array Oper)[0]? = some o0 from rfl,show (#[o0,o1]:Array Oper)[1]? = some o1 from rfl,Region.wanted,g0,g1,if_true];left;unfold Oper.wp;rw[hx0];simp only[Oper.upon,hd0];left;rw[hx1];simp only[hd1]
         have:(({ a1.put (some r.t) fv with defers:=d :: (a1.put (some r.t) fv).defers }:Act).put none undef)=a2:=by
          simp only[Act.put,a2,hdef0]
         rw[this];exact hq
        apply hstep;show rest2.wp P (bodyPostD P fn R) a2 w1
        let ks:List Nat:=r.res.map (·.1.slot)
        let fx:List (Nat × Value):=ks.map fun t=>(t,a2.tmps.getD t undef)
        have hfx:fx.map (·.1)=ks:=by simp[fx,Function.comp_def]
        have hE1:=s1.env.put (x:=.junk) (v:=fv) (some r.t) (fun t ht=>by cases ht; exact ⟨htN,fun x hx=>by cases hx⟩) rfl
        have hE2:EnvRel B [d] fx ρ1 H1 fn.ntmps ((r.t,.junk) :: st.env) a2:=⟨hE1.size,rfl,hE1.rel,hE1.base,fun t u hm=>by
         obtain ⟨t',_,h⟩:=List.mem_map.1 hm;cases h
         rfl⟩
        have hst1:∀ {ρ':Map},D8 st.heap.length ρ1 ρ'→n9 ρ1 ρ':=fun h l hl=>by
         obtain ⟨k,hk,rfl⟩:=s1.only l hl;exact h k hk hl
        have later:∀ {ρ' H' w'} {a':Act},Trans ρ1 H1 w1 ρ' H' w'→n9 ρ1 ρ'→(∀ t u,(t,u)∈fx→a'.tmps.getD t undef=u)→∀ t v,B2 (jX r st.env) t=some v→m7 ρ' H' v (a'.tmps.getD t undef):=by
         intro ρ' H' w' a' q1 q2 q3 t v hg;have hk:=qa2 (qc2 s1.env ks) t v hg;have htk:t∈ks:=WC ks t (YD hg);rw[q3 t _ (List.mem_map.2 ⟨t,htk,rfl⟩)]
         have hne:r.t≠t:=fun h=>by
          subst h;have:ks.contains r.t=true:=List.contains_iff_mem.2 htk;rw[this] at htks;cases htks
         have:a2.tmps.getD t undef=a1.tmps.getD t undef:=by
          simp only[a2,Act.put,Array.getD_eq_getD_getElem?,Array.getElem?_setIfInBounds,if_neg hne]
         rw[this];exact hk.mono q2 (q1.le s1.heap)
        have leave:∀ {u:FrameMode} {v:V} {hp:List Obj} {ρ' H'} {a':Act} {w'},qln heap.length r.res (jX r st.env) (code T cf hp.length n r.hcode { env:=(r.hv,v) :: (List.range cs.length).zip cs,heap:=hp })=some x→u ≠ .run→Mode ρ' H' u v→HRel ρ' H' (o5 hp) w'→
         (∀ l,ρ' l ≠ .none→∃ k,k < hp.length∧l = .b k)→a'.defers=[d]→(∀ t u,(t,u)∈fx→a'.tmps.getD t undef=u)→Trans ρ1 H1 w1 ρ' H' w'→D8 st.heap.length ρ1 ρ'→st.heap.length≤hp.length→Leaves P fn a'.tmps R a'.defers u w':=by
         intro u v hp ρ' H' a' w' e3 hu hm k1 k2 k3 k4 k5 k6 k7;rw[k3]
         have hinv:(invoke (.fn (.func r.hf) (caps.map a1.eval)) #[]).run P w' = .ok (.enter r.hf (#[]++caps.map a1.eval)) w':=by
          simp only[invoke];exact zn hfh _
         cases h3:code T cf hp.length n r.hcode { env:=(r.hv,v) :: (List.range cs.length).zip cs,heap:=hp } with
         | none=>rw[h3] at e3; cases e3
         | some z=>
         rw[h3] at e3;refine leaves_cons hu hinv ?_;refine qo6 hcf hfs hhand (fun b o v h=>k5.le s1.heap b o v (s1.env.base b o v h)) k1 k2 hm (cs:=cs) ?_ hcl h3 ?_
         ·have:(#[]++caps.map a1.eval).toList=caps.toList.map a1.eval:=by simp
          rw[this];exact f9.mono (hst1 k6) (k5.le s1.heap) cs hcr
         ·have done:∀ {st3:St},qf heap.length r.res { env:=jX r st.env,heap:=st3.heap } = some x→∀ ρ2 H2 w2,HRel ρ2 H2 (o5 st3.heap) w2→Trans ρ' H' w' ρ2 H2 w2→D8 hp.length ρ' ρ2→∀ u',settle u' = .returning→Leaves P fn a'.tmps R [] (settle u') w2:=by
           intro st3 e4 ρ2 H2 w2 t1 t2 t3 u' hset;rw[hset]
           have hst2:n9 ρ' ρ2:=fun l hl=>by
            obtain ⟨k,hk,rfl⟩:=k2 l hl;exact t3 k hk hl
           exact fin e4 ρ2 H2 a' w2 t1 (later (k5.trans t2) ((hst1 k6).trans hst2) k4) ((s2.trans k5).trans t2) ((s3.trans (k6.le s4)).trans (t3.le (Nat.le_trans s4 k7)))
          obtain ⟨ex,st3⟩:=z
          cases ex with
          | nrm=>exact fun ρ2 H2 w2 t1 _ t2 t3 _ v' u' hset=>done e3 ρ2 H2 w2 t1 t2 t3 u' hset
          | ret=>exact fun ρ2 H2 w2 t1 _ t2 t3 _ v' u' hset=>done e3 ρ2 H2 w2 t1 t2 t3 u' hset
          | out=>(cases e3; exact ⟨w',hout0 rfl w'⟩)
          | pan v=>cases e3
          | exit id=>cases e3
        cases h2:code T cf st.heap.length n r.body { env:=(r.t,.junk) :: st.env,heap:=st.heap } with
        | none=>rw[h2] at e; cases e
        | some z=>
        rw[h2] at e;refine B4 (B:=B) (ds:=[d]) (fx:=fx) (p:=st.heap.length) hcf hfs r.body _ hbody (by rw[hfx]; exact hav) n _ z h2 ρ1 H1 w1 a2 _ ⟨s1.heap,hE2,s1.only⟩ (Nat.le_refl _) ?_;obtain ⟨ex,st2⟩:=z
        cases ex with
        | nrm=>exact fun ρ' H' a' w' q1 q2 q3 q4=>leave (u:=.returning) e (fun h=>by cases h) .ret q1.heap q1.only q1.env.defers q1.env.fix q2 q3 q4
        | ret=>exact fun ρ' H' a' w' q1 q2 q3 q4=>leave (u:=.returning) e (fun h=>by cases h) .ret q1.heap q1.only q1.env.defers q1.env.fix q2 q3 q4
        | out=>(cases e; exact hout rfl)
        | exit id=>cases e
        | pan v=>
          cases v <;> first | (cases e; done) | skip
          rename_i yv
          cases yv <;> first | (cases e; done) | skip
          exact fun ρ' H' a' w' u q1 q2 q3 q4 q4x q5 q6 q7=>leave (u:=.panicking _) e (fun h=>by cases h) (.pan q3) q1 q2 q4 q4x q5 q6 q7
       ·cases hcal
      ·cases hop1
     ·cases hop0
    ·cases hrest
   ·intro hne;obtain ⟨ex,st⟩:=y
    cases ex with
    | nrm=>exact (hne rfl).elim
    | exit id=>cases e
    | out=>(cases e; exact hout rfl)
    | ret=>
      intro ρ' H' a' w' q1 q2 q3 q4;show Leaves P fn a'.tmps R a'.defers .returning w';rw[q1.env.defers];exact fin e ρ' H' a' w' q1.heap q1.env.rel q2 q3
    | pan v=>
      intro ρ' H' a' w' u q1 q2 q3 q4 _ q5 q6 q7;show Leaves P fn a'.tmps R a'.defers _ w';rw[q4];cases e;subst hR;exact ⟨v,st.heap,ρ',H',u,rfl,rfl,⟨q1,q5,stays q6,fun l hl=>by obtain ⟨k,_,hk⟩:=q2 l hl; exact ⟨k,hk⟩,q7⟩,q3⟩
  ·cases e
 ·cases hfun
end
end Go.Rf

namespace Go.Rf
variable {B:Ice}
section
variable {P:Program} {N p:Nat} {ρ:Map} {H:Ice} {w:World}
theorem qq5 {T:Tab} {X:Exts} (hT:∀ f af,T.funs f=some af→qfy P f af=true) (hR:∀ f r,T.recs f=some r→Kx P f r=true) (hX:∀ f e,X.run f=some e→qyt B P f e):∀ n,ZU B P (call T X n) ∧ ∀ g vs hp r,call T X n g vs hp=some r→qB P g=true
 | 0=>⟨fun f vs heap r e=>by simp[call] at e,fun g vs hp r e=>by simp[call] at e⟩
 | n + 1=>by
   obtain ⟨ih1,ih2⟩:=qq5 hT hR hX n;refine ⟨fun f vs heap r e ρ H w args hB hH hv honly=>?_,fun g vs hp r e=>?_⟩
   ·simp only[call] at e;split at e
    ·rename_i ex hex;exact (hX f ex hex).2 _ ih1 vs heap r e ρ H w args hB hH hv honly
    ·split at e
     ·split at e
      ·rename_i r hr;exact qsd ih1 ih2 (hR f r hr) e hB hH hv honly
      ·cases e
     ·rename_i af haf;have hok:=hT f af haf;simp only[qfy,Bool.and_eq_true] at hok;obtain ⟨_,hok⟩:=hok;split at hok
      ·rename_i fn hfn;simp only[Bool.and_eq_true,decide_eq_true_eq] at hok;obtain ⟨⟨k1,k2⟩,k3⟩:=hok
       cases hb:fn.body with
       | none=>rw[hb] at k1; cases k1
       | some c=>
       rw[hb] at k1;simp only at k1;split at e
       ·rename_i hnp
        have hS:StRel B [] [] ρ H fn.ntmps { env:=(List.range af.np).zip vs,heap:=heap } { tmps:=args++Array.replicate (fn.ntmps - args.size) undef,defers:=[] } w:=
         ⟨hH,by rw[← hnp]; exact qd2 hB hv (by omega),honly⟩
        have stays:∀ {ρ':Map},D8 heap.length ρ ρ'→n9 ρ ρ':=fun h l hl=>by
         obtain ⟨k,hk,rfl⟩:=honly l hl;exact h k hk hl
        unfold JS;apply calls_of_wp hfn hb
        have fin:∀ {st:St},qf heap.length af.res st=some r→∀ ρ' H' a' w',StRel B [] [] ρ' H' fn.ntmps st a' w'→Trans ρ H w ρ' H' w'→D8 heap.length ρ ρ'→
         a'.defers=[] ∧ ∃ v,(results fn a'.tmps).run P w' = .ok v w' ∧ ∃ rs os ρ2 H2,r = .ret rs os∧CallEnd ρ H w heap.length os ρ2 H2 w'∧m7 ρ2 H2 (QC rs) v:=by
         intro st e ρ' H' a' w' q1 q2 q3;obtain ⟨rs,os,ρ2,H2,v,rfl,r1,r2,r3,r4,r5,r6,r7⟩:=qdc q1.heap q1.env.rel k2 e;exact ⟨q1.env.defers,v,r1,rs,os,ρ2,H2,rfl,⟨r2,q2.trans r3,stays (q3.trans r5),r4,r6⟩,r7⟩
        split at e
        ·rename_i st e1;exact B4 (ds:=[]) (fx:=[]) (p:=heap.length) ih1 ih2 af.code c k1 (H6 _) n _ _ e1 ρ H w _ _ hS (Nat.le_refl _) (fun ρ' H' a' w' q1 q2 q3 _=>fin e ρ' H' a' w' q1 q2 q3)
        ·rename_i st e1;exact B4 (ds:=[]) (fx:=[]) (p:=heap.length) ih1 ih2 af.code c k1 (H6 _) n _ _ e1 ρ H w _ _ hS (Nat.le_refl _) (fun ρ' H' a' w' q1 q2 q3 _=>fin e ρ' H' a' w' q1 q2 q3)
        ·rename_i v st e1;cases e
         exact B4 (ds:=[]) (fx:=[]) (p:=heap.length) ih1 ih2 af.code c k1 (H6 _) n _ _ e1 ρ H w _ _ hS (Nat.le_refl _) (fun ρ' H' a' w' u q1 q2 q3 q4 _ q5 q6 q7=>
          ⟨q4,v,st.heap,ρ',H',u,rfl,rfl,⟨q1,q5,stays q6,(fun l hl=>by obtain ⟨k,_,hk⟩:=q2 l hl; exact ⟨k,hk⟩),q7⟩,q3⟩)
        ·rename_i st e1;cases e;exact B4 (ds:=[]) (fx:=[]) (p:=heap.length) ih1 ih2 af.code c k1 (H6 _) n _ _ e1 ρ H w _ _ hS (Nat.le_refl _) ⟨{ tmps:=#[],defers:=[] },w,rfl⟩
        ·cases e
       ·cases e
      ·cases hok
   ·simp only[call] at e;split at e
    ·rename_i ex hex;exact (hX g ex hex).1
    ·split at e
     ·split at e
      ·rename_i r hr;have hok:=hR g r hr;simp only[Kx,Bool.and_eq_true] at hok;exact hok.1.1.1.1
      ·cases e
     ·rename_i af haf;have hok:=hT g af haf;simp only[qfy,Bool.and_eq_true] at hok;exact hok.1
end
end Go.Rf

namespace Go.Rf
def WF (w:World):Ice:=fun b o=>w.cell? ⟨b,o,none⟩
mutual
def toD {H:Type}:DataW H→D
 | .lit (.bool b)=>.bool b
 | .lit (.int k n)=>.int k n
 | .lit (.string s)=>.str s
 | .slice es _=>.sl (KX es)
 | .agg ps=>.agg (Xb ps)
 | .nil=>.sl []
 | _=>.nilp
def KX {H:Type}:List (DataW H)→List D
 | []=>[]
 | d :: ds=>toD d :: KX ds
def Xb {H:Type}:List (DataW H)→List D
 | []=>[]
 | .agg qs :: ps=>Xb qs++Xb ps
 | .lit (.bool b) :: ps=>.bool b :: Xb ps
 | .lit (.int k n) :: ps=>.int k n :: Xb ps
 | .lit (.string s) :: ps=>.str s :: Xb ps
 | .nil :: ps=>.sl [] :: Xb ps
 | .slice es _ :: ps=>.sl (KX es) :: Xb ps
 | _ :: ps=>.nilp :: Xb ps
end
def W0 {H:Type}:DataW H→List D
 | .agg qs=>Xb qs
 | d=>[toD d]
theorem qfd {H:Type} (d:DataW H) (ps:List (DataW H)):Xb (d :: ps)=W0 d++Xb ps:=by
 cases d with
 | lit l=>cases l <;> simp[Xb,W0,toD]
 | _=>simp[Xb,W0,toD]
mutual
def xY {H:Type}:DataW H→Nat
 | .lit (.string bytes)=>bytes.length + 1
 | .lit _=>1
 | .nil=>1
 | .ptr d=>xY d + 1
 | .slice K1 spare=>xe K1 + xe spare + 1
 | .agg parts=>xe parts + 1
 | .iface _ d=>xY d + 1
 | .map entries=>qi7 entries + 1
 | .held _=>1
def xe {H:Type}:List (DataW H)→Nat
 | []=>0
 | d :: r=>xY d + xe r
def qi7 {H:Type}:List (Lit × DataW H)→Nat
 | []=>0
 | x :: r=>qx7 x + qi7 r
def qx7 {H:Type}:Lit × DataW H→Nat
 | (.string bytes,d)=>bytes.length + xY d + 1
 | (_,d)=>xY d + 1
end
theorem qkp {H:Type} (d:DataW H):1≤xY d:=by
 cases d with
 | lit l=>cases l <;> simp[xY]
 | _=>simp[xY]
theorem Yw {H:Type}:∀ l:List (DataW H),l.length≤xe l
 | []=>Nat.le_refl _
 | d :: l=>by have:=qkp d; have:=Yw l; simp only[xe,List.length_cons]; omega
mutual
theorem qfa {H:Type}:∀ d:DataW H,wts (W0 d)≤24 * xY d
 | .lit l=>by
   cases l <;> simp[W0,toD,wts,wt,xY]
   ·rename_i k _; cases k <;> simp[IntKind.bits]
   ·omega
 | .nil=>by simp[W0,toD,wts,wt,xY]
 | .ptr d=>by simp[W0,toD,wts,wt,xY]; omega
 | .slice _ _=>by simp[W0,toD,wts,wt,xY]; omega
 | .agg ps=>by have:=qjn ps; simp only[W0,xY]; omega
 | .iface _ d=>by simp[W0,toD,wts,wt,xY]; omega
 | .map _=>by simp[W0,toD,wts,wt,xY]; omega
 | .held _=>by simp[W0,toD,wts,wt,xY]
theorem qjn {H:Type}:∀ ps:List (DataW H),wts (Xb ps)≤24 * xe ps
 | []=>by simp[Xb,wts]
 | d :: ps=>by
   have h1:=qfa d;have h2:=qjn ps
   have happ:∀ a b:List D,wts (a++b)=wts a + wts b:=by
    intro a
    induction a with
    | nil=>intro b; simp[wts]
    | cons x a ih=>intro b; simp only[List.cons_append,wts,ih]; omega
   rw[qfd,happ,xe];omega
end
theorem q4y {H:Type} (d:DataW H):wt (toD d)=wts (W0 d):=by
 cases d with
 | agg ps=>simp[toD,W0,wt]
 | lit l=>cases l <;> simp[toD,W0,wts]
 | _=>simp[toD,W0,wts]
theorem qp2 {H:Type}:∀ ds:List (DataW H),wl (KX ds)≤1 + 24 * xe ds
 | []=>by simp[KX,wl]
 | d :: ds=>by
   have h1:=qfa d;have h2:=qp2 ds;simp only[KX,wl,xe,q4y];omega
theorem Xo {H:Type}:∀ ds:List (DataW H),(KX ds).length=ds.length
 | []=>rfl
 | d :: ds=>by simp[KX,Xo ds]
theorem qs6 {H:Type} {ds:List (DataW H)} (h:xe ds≤1048576):(KX ds).length * wl (KX ds)≤A5:=by
 have h1:(KX ds).length≤1048576:=by rw[Xo]; exact Nat.le_trans (Yw ds) h
 have h2:wl (KX ds)≤1 + 24 * 1048576:=Nat.le_trans (qp2 ds) (by omega);exact Nat.le_trans (Nat.mul_le_mul h1 h2) (by unfold A5; omega)
mutual
def okT (P:Program):Nat→TypeId→Bool
 | 0,_=>false
 | f + 1,t=>match P.underlying t with
   | some .bool | some (.int _) | some .string=>decide (P.cellsOf t=1)
   | some (.slice e)=>decide (P.cellsOf t=1) && decide (0 < P.cellsOf e) && okT P f e
   | some (.struct fs)=>qsj P f fs.toList 0 (P.cellsOf t)
   | _=>false
def qsj (P:Program):Nat→List Field→Nat→Nat→Bool
 | _,[],o,n=>decide (o=n)
 | 0,_ :: _,_,_=>false
 | f + 1,fl :: l,o,n=>decide (fl.offset=o) && okT P f fl.type && qsj P f l (o + P.cellsOf fl.type) n
end
theorem qyi (a:Addr) (x y:Nat):(a.add x).add y=a.add (x + y):=by
 unfold Addr.add
 by_cases hx:x=0 <;> by_cases hy:y=0 <;> simp[hx,hy,Nat.add_assoc]
theorem qf5 {α β:Type} {f:α→Option β}:∀ {l:List α} {ys:List β},l.mapM f=some ys→All2 (fun a b=>f a=some b) l ys
 | [],ys,h=>by simp at h; subst h; exact .nil
 | a :: l,ys,h=>by
   rw[List.mapM_cons] at h
   cases hf:f a with
   | none=>rw[hf] at h; simp at h
   | some b=>
     rw[hf] at h
     cases hm:l.mapM f with
     | none=>rw[hm] at h; simp at h
     | some bs=>
       rw[hm] at h;simp at h;subst h;exact .cons hf (qf5 hm)
theorem qgv {w:World} {a:Addr}:∀ {n s:Nat} {cs:List Value},All2 (fun i v=>w.cell? (a.add i)=some v) (List.range' s n) cs→cs.length=n ∧ ∀ j v,cs[j]? = some v→w.cell? (a.add (s + j))=some v
 | 0,s,_,.nil=>⟨rfl,fun j v h=>by simp at h⟩
 | n + 1,s,_,.cons h k=>by
   obtain ⟨k1,k2⟩:=qgv k;refine ⟨by simp[k1],fun j v hj=>?_⟩
   cases j with
   | zero=>simp at hj; subst hj; exact h
   | succ j=>
     have:=k2 j v (by simpa using hj)
     rwa [Nat.add_right_comm,Nat.add_assoc] at this
section
variable {H:Type} {enc:TypeId × Value→H} {P:Program} {w:World} {sp:Nat→Bool} {held:Bool}
def qf4 (d:DataW H) (cs:List Value):Value:=match d with
 | .agg _=>.agg ⟨cs⟩
 | _=>cs.headD undef
structure Read (P:Program) (w:World) (t:TypeId) (d:DataW H) (cs:List Value):Prop where
 rel:B1 (WF w) (W0 d) cs
 flat:(W0 d).any jk=false
 len:cs.length=P.cellsOf t
theorem Read.val {t:TypeId} {d:DataW H} {cs:List Value} (k:Read P w t d cs):Q6 (WF w) (toD d) (qf4 d cs)∧(qf4 d cs).cells.toList=cs:=by
 cases d with
 | agg ps=>exact ⟨⟨cs,rfl,k.rel,k.flat⟩,rfl⟩
 | _=>
   obtain ⟨v,vs,h1,h2,h3⟩:=k.rel;cases h3;subst h1;have:=Q6.one h2 (by simpa [W0] using k.flat);refine ⟨h2,?_⟩;simp only[qf4,List.headD_cons];rw[v7 this]
theorem qfn {a:Addr} {sz:Nat} (hsz:0 < sz) {e:TypeId} (he:P.cellsOf e=sz) {g:List Value→Option (DataW H × List MemPlace)} (hg:∀ cs x,g cs=some x→xY x.1≤1048576→Read P w e x.1 cs) :
 ∀ (m s:Nat) (xs:List (DataW H × List MemPlace)),All2 (fun i x=>(w.cells? 0 (a.add (i * sz)) sz).bind g=some x) (List.range' s m) xs→xe (xs.map (·.1))≤1048576→
   ∃ us,B1 (WF w) (KX (xs.map (·.1))) us∧(∀ u∈us,u.cells.size=sz)∧(∀ j v,(flat us)[j]? = some v→w.cell? (a.add (s * sz + j))=some v)∧us.length=m
 | 0,s,_,.nil,_=>⟨[],rfl,(fun u h=>by cases h),(fun j v h=>by simp[Rf.flat] at h),rfl⟩
 | m + 1,s,x :: xs,.cons h k,hb=>by
   simp only[List.map_cons,xe] at hb;obtain ⟨us,k1,k2,k3,k4⟩:=qfn hsz he hg m (s + 1) xs k (by omega);rw[Option.bind_eq_some_iff] at h;obtain ⟨cs,h1,h2⟩:=h;have hr:=hg cs x h2 (by omega);obtain ⟨r1,r2⟩:=hr.val;unfold World.cells? at h1;rw[if_pos (Nat.zero_le _),List.range_eq_range'] at h1;obtain ⟨c1,c2⟩:=qgv (qf5 h1)
   have hs:(qf4 x.1 cs).cells.size=sz:=by rw[← Array.length_toList,r2,c1]
   refine ⟨qf4 x.1 cs :: us,⟨_,_,rfl,r1,k1⟩,fun u hu=>?_,fun j v hj=>?_,by simp[k4]⟩
   ·rcases List.mem_cons.1 hu with rfl | hu
    ·exact hs
    ·exact k2 u hu
   ·rw[M6,r2] at hj
    by_cases hjs:j < sz
    ·rw[List.getElem?_append_left (by omega)] at hj;have:=c2 j v hj;rw[Nat.zero_add] at this
     rwa [qyi] at this
    ·rw[List.getElem?_append_right (by omega),c1] at hj;have:=k3 _ v hj
     have e2:(s + 1) * sz + (j - sz)=s * sz + j:=by rw[Nat.add_mul]; omega
     rwa [e2] at this
theorem qd8 {β:Type} {F:Nat→Option β}:∀ (n s:Nat) (xs:List β),xs.length=n→(∀ i,i < n→F (s + i)=xs[i]?)→All2 (fun i x=>F i=some x) (List.range' s n) xs
 | 0,s,[],_,_=>.nil
 | n + 1,s,x :: xs,hl,h=>by
   rw[List.range'_succ];refine .cons (by simpa using h 0 (by omega)) (qd8 n (s + 1) xs (by simpa using hl) fun i hi=>?_);have:=h (i + 1) (by omega);rw[Nat.add_assoc,Nat.add_comm 1 i]
   simpa using this
theorem qg5 {α β:Type} {F:α→Option β}:∀ (l:List α) (xs:List β),xs.length=l.length→(∀ (i:Nat) (f:α),l[i]? = some f→F f=xs[i]?)→All2 (fun f x=>F f=some x) l xs
 | [],[],_,_=>.nil
 | f :: l,x :: xs,hl,h=>.cons (by simpa using h 0 f rfl) (qg5 l xs (by simpa using hl) fun i g hg=>by simpa using h (i + 1) g (by simpa using hg))
mutual
theorem KO:∀ (f:Nat) (t:TypeId),okT P f t=true→∀ (fuel:Nat) (cs:List Value) (x:DataW H × List MemPlace),DataW.trod enc P w 0 sp held fuel t cs=some x→xY x.1≤1048576→Read P w t x.1 cs
 | 0,t,h,_,_,_,_,_=>by simp[okT] at h
 | f + 1,t,h,fuel,cs,x,e,hb=>by
   unfold okT at h;split at h
   ·rename_i hu;simp only[decide_eq_true_eq] at h;obtain ⟨b,rfl,rfl⟩:=DataW.trod_bool hu e;exact ⟨⟨_,_,rfl,rfl,rfl⟩,rfl,by rw[h]; rfl⟩
   ·rename_i k hu;simp only[decide_eq_true_eq] at h;obtain ⟨n,rfl,rfl,_⟩:=DataW.trod_int hu e;exact ⟨⟨_,_,rfl,rfl,rfl⟩,rfl,by rw[h]; rfl⟩
   ·rename_i hu;simp only[decide_eq_true_eq] at h;obtain ⟨s,rfl,rfl,hs⟩:=DataW.trod_string hu e;refine ⟨⟨_,_,rfl,⟨rfl,?_⟩,rfl⟩,rfl,by rw[h]; rfl⟩;simp only[xY] at hb;unfold long;omega
   ·rename_i el hu;simp only[Bool.and_eq_true,decide_eq_true_eq] at h;obtain ⟨⟨h1,h2⟩,h3⟩:=h;rcases DataW.trod_slice hu e with ⟨rfl,rfl⟩ | ⟨a,len,cap,K1,rest,n,rfl,rfl,rfl,_,hlc,_,hel,hget,_⟩
    ·exact ⟨⟨_,_,rfl,⟨none,0,rfl,Nat.le_refl _,by simp[wl],fun h=>absurd rfl h⟩,rfl⟩,rfl,by rw[h1]; rfl⟩
    ·simp only[xY] at hb;obtain ⟨us,k1,k2,k3,k4⟩:=qfn h2 rfl (fun cs x e hb=>KO f el h3 n cs x e hb) len 0 K1 (qd8 (F:=fun i=>(w.cells? 0 (a.add (i * P.cellsOf el)) (P.cellsOf el)).bind (DataW.trod enc P w 0 sp held n el)) len 0 K1 hel (fun i hi=>by rw[Nat.zero_add]; exact hget i hi)) (by omega)
     have hlen:(KX (K1.map (·.1))).length=len:=by rw[Xo,List.length_map,hel]
     refine ⟨⟨_,_,rfl,⟨some a,cap,by rw[hlen],by omega,qs6 (by omega),fun hne=>?_⟩,rfl⟩,rfl,by rw[h1]; rfl⟩;obtain ⟨b,off,spot⟩:=a
     have hsp:spot=none:=by
      cases hl:len with
      | zero=>rw[hl] at hlen; exact (hne (List.eq_nil_of_length_eq_zero hlen)).elim
      | succ m=>
        obtain ⟨u,us',rfl⟩:∃ u us',us=u :: us':=by cases us with | nil=>simp[hl] at k4 | cons u us'=>exact ⟨u,us',rfl⟩
        have hu:=k2 u (List.mem_cons_self ..)
        have hc:(Rf.flat (u :: us'))[0]? = some (u.cells.toList[0]'(by simp[hu]; exact h2)):=by
         rw[M6,List.getElem?_append_left (by simp[hu]; exact h2)];exact List.getElem?_eq_getElem _
        have:=k3 0 _ hc;unfold World.cell? at this;split at this
        ·split at this
         ·cases this
         ·rename_i hn; simpa [Addr.add] using hn
        ·cases this
     subst hsp
     exact ⟨b,off,P.cellsOf el,us,rfl,k1,k2,fun j v hj=>by
      have:=k3 j v hj;rw[Nat.zero_mul,Nat.zero_add,zM] at this
      exact this⟩
   ·rename_i fs hu;obtain ⟨xs,n,rfl,rfl,hl,hxs,hget⟩:=DataW.trod_struct hu e;simp only[xY] at hb;obtain ⟨k1,k2⟩:=qqv f fs.toList 0 _ h n cs hl xs (qg5 _ _ (by simpa using hxs) (fun i g hg=>hget i g (by simpa using hg))) (by omega);exact ⟨by simpa [W0] using k1,k2,hl⟩
   ·cases h
theorem qqv:∀ (f:Nat) (l:List Field) (o n:Nat),qsj P f l o n=true→∀ (fuel:Nat) (cs:List Value),cs.length=n→∀ xs,All2 (fun fl (x:DataW H × List MemPlace)=>DataW.trod enc P w 0 sp held fuel fl.type ((cs.drop fl.offset).take (P.cellsOf fl.type))=some x) l xs→xe (xs.map (·.1))≤1048576→
 B1 (WF w) (Xb (xs.map (·.1))) (cs.drop o)∧(Xb (xs.map (·.1))).any jk=false
 | f,[],o,n,h,fuel,cs,hl,xs,k,hb=>by
   cases k
   have ho:o=n:=by cases f <;> simpa [qsj] using h
   rw[List.drop_eq_nil_of_le (by omega)];exact ⟨rfl,rfl⟩
 | 0,_ :: _,o,n,h,_,_,_,_,_,_=>by simp[qsj] at h
 | f + 1,fl :: l,o,n,h,fuel,cs,hl,x :: xs,.cons k1 k2,hb=>by
   simp only[qsj,Bool.and_eq_true,decide_eq_true_eq] at h;obtain ⟨⟨h1,h2⟩,h3⟩:=h;simp only[List.map_cons,xe] at hb;have r:=KO f fl.type h2 fuel _ x k1 (by omega);obtain ⟨s1,s2⟩:=qqv f l _ n h3 fuel cs hl xs k2 (by omega);rw[List.map_cons,qfd];refine ⟨?_,by rw[List.any_append,r.flat,s2]; rfl⟩
   have hsp:cs.drop o=(cs.drop fl.offset).take (P.cellsOf fl.type)++cs.drop (o + P.cellsOf fl.type):=by
    rw[h1,← List.drop_drop,List.take_append_drop]
   rw[hsp]
   have app:∀ {a b:List D} {u v:List Value},B1 (WF w) a u→B1 (WF w) b v→B1 (WF w) (a++b) (u++v):=by
    intro a
    induction a with
    | nil=>intro b u v h k; cases h; exact k
    | cons y a ih=>intro b u v h k; obtain ⟨z,zs,rfl,h1,h2⟩:=h; exact ⟨z,zs++v,rfl,h1,ih h2 k⟩
   exact app r.rel s1
end
end
end Go.Rf
