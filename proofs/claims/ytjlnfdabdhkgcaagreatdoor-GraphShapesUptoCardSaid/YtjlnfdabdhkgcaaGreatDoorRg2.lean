/- Parts of the proof: RfOp1, RfBack, RfBack2, RfOp2, RfOp3, RfOp4, RfOp5. -/
import Derived.Test.YtjlnfdabdhkgcaaGreatDoorRg1
import Derived.ChangeKeysEq

set_option linter.unusedSimpArgs false
set_option linter.unusedVariables false
set_option linter.unnecessarySimpa false
set_option linter.unusedSectionVars false
set_option linter.all false
namespace Go.Rf
variable {B:Ice} {ds:List Deferred} {fx:List (Nat × Value)}
structure EnvRel (B:Ice) (ds:List Deferred) (fx:List (Nat × Value)) (ρ:Map) (H:Ice) (N:Nat) (env:List (Nat × V)) (a:Act):Prop where
 size:a.tmps.size=N
 defers:a.defers=ds
 rel:∀ t v,B2 env t=some v→m7 ρ H v (a.tmps.getD t undef)
 base:Ice.le B H
 fix:∀ t u,(t,u)∈fx→a.tmps.getD t undef=u
theorem EnvRel.mono {ρ ρ' H H' N env a} (k:EnvRel B ds fx ρ H N env a) (hs:n9 ρ ρ') (hl:H.le H'):EnvRel B ds fx ρ' H' N env a:=
 ⟨k.size,k.defers,fun t v e=>(k.rel t v e).mono hs hl,fun b o v e=>hl b o v (k.base b o v e),k.fix⟩
theorem EnvRel.put {ρ H N env a x v} (k:EnvRel B ds fx ρ H N env a) (d:Option Nat) (hd:∀ t,d=some t→t < N ∧ ∀ x∈fx,x.1≠t) (hv:m7 ρ H x v):EnvRel B ds fx ρ H N (W6 env d x) (a.put d v):=by
 cases d with
 | none=>exact k
 | some t=>
   obtain ⟨ht,hfx⟩:=hd t rfl;refine ⟨by simpa [Act.put] using k.size,k.defers,fun t' v' e=>?_,k.base,fun t' u' hm=>?_⟩
   ·simp only[W6,B2] at e
    by_cases h:t=t'
    ·subst h;rw[if_pos rfl] at e
     injection e with e
     subst e
     have:(a.tmps.setIfInBounds t v).getD t undef=v:=by
      simp[Array.getD,k.size,ht]
     simpa [Act.put,this] using hv
    ·rw[if_neg h] at e
     have:(a.tmps.setIfInBounds t v).getD t' undef=a.tmps.getD t' undef:=by
      simp only[Array.getD_eq_getD_getElem?,Array.getElem?_setIfInBounds,if_neg h]
     simpa [Act.put,this] using k.rel t' v' e
   ·have hne:=hfx _ hm
    have:(a.tmps.setIfInBounds t v).getD t' undef=a.tmps.getD t' undef:=by
     simp only[Array.getD_eq_getD_getElem?,Array.getElem?_setIfInBounds,if_neg (Ne.symm hne)]
    simpa [Act.put,this] using k.fix t' u' hm
mutual
def qj:D→Value→Bool
 | .bool b,v=>match v with | .bool c=>b == c | _=>false
 | .int k n,v=>match v with | .int j m=>decide (k=j) && decide (n=m) | _=>false
 | .str b,v=>match v with | .string s=>decide (s.data.toList=b) && decide (b.length≤long) | _=>false
 | .agg ds,v=>match v with | .agg vs=>JK ds vs.toList && !ds.any jk | _=>false
 | .sl l,v=>match l,v with | [],.slice none 0 0=>true | _,_=>false
 | .nilp,v=>match v with | .pointer none=>true | _=>false
 | .nili,v=>match v with | .nilIface=>true | _=>false
 | .nilf,v=>match v with | .nilFunc=>true | _=>false
 | .nilm,v=>match v with | .map none=>true | _=>false
 | .nils,v=>match v with | .slice none 0 0=>true | _=>false
 | .fn f l,v=>match l,v with | [],.func (.func g) a b=>(decide (f=g) && decide (f < fB)) && a.toList.isEmpty && b.toList.isEmpty | _,_=>false
 | .iface t x,v=>match v with | .iface u v=>decide (t=u) && qj x v | _=>false
 | .box _,_=>false
def JK:List D→List Value→Bool
 | [],vs=>match vs with | []=>true | _=>false
 | d :: ds,vs=>match vs with | v :: vs=>qj d v && JK ds vs | []=>false
end
theorem Qb {α:Type} {a:Array α} (h:a.toList.isEmpty=true):a = #[]:=by
 cases a with
 | mk l=>cases l <;> simp_all
mutual
theorem vk {H:Ice}:∀ (x:D) (v:Value),qj x v=true→Q6 H x v
 | .bool b,v,h=>by cases v <;> simp_all [qj,Q6]
 | .int k n,v,h=>by cases v <;> simp_all [qj,Q6]
 | .str b,v,h=>by
   cases v <;> simp_all only [qj,Bool.false_eq_true]
   rename_i s;simp only[Bool.and_eq_true,decide_eq_true_eq] at h;obtain ⟨h1,h2⟩:=h;subst h1;exact ⟨rfl,h2⟩
 | .agg ds,v,h=>by
   cases v <;> simp_all only [qj,Bool.false_eq_true]
   rename_i vs;simp only[Bool.and_eq_true,Bool.not_eq_true'] at h;exact ⟨vs.toList,rfl,qat ds _ h.1,h.2⟩
 | .sl l,v,h=>by
   unfold qj at h;split at h
   ·exact ⟨none,0,rfl,Nat.le_refl _,by simp[wl],fun h=>absurd rfl h⟩
   ·cases h
 | .nilp,v,h=>by unfold qj at h; split at h <;> first | rfl | cases h
 | .nili,v,h=>by unfold qj at h; split at h <;> first | rfl | cases h
 | .nilf,v,h=>by unfold qj at h; split at h <;> first | rfl | cases h
 | .nilm,v,h=>by unfold qj at h; split at h <;> first | exact ⟨_,rfl⟩ | cases h
 | .nils,v,h=>by unfold qj at h; split at h <;> first | rfl | cases h
 | .fn f l,v,h=>by
   unfold qj at h;split at h
   ·simp only[Bool.and_eq_true,decide_eq_true_eq] at h;obtain ⟨⟨⟨rfl,h0⟩,h1⟩,h2⟩:=h;rw[Qb h1,Qb h2];exact ⟨[],by simp[ZY,h0],rfl⟩
   ·cases h
 | .iface t x,v,h=>by
   cases v <;> simp_all only [qj,Bool.false_eq_true]
   rename_i u v;simp only[Bool.and_eq_true,decide_eq_true_eq] at h;obtain ⟨rfl,h⟩:=h;exact ⟨v,rfl,vk x v h⟩
 | .box _,_,h=>by simp[qj] at h
theorem qat {H:Ice}:∀ (xs:List D) (vs:List Value),JK xs vs=true→B1 H xs vs
 | [],vs,h=>by cases vs <;> simp_all [JK,B1]
 | x :: xs,vs,h=>by
   cases vs with
   | nil=>simp[JK] at h
   | cons v vs=>
     simp only[JK,Bool.and_eq_true] at h;exact ⟨v,vs,rfl,vk x v h.1,qat xs vs h.2⟩
end
def okO:Operand→Opnd→Bool
 | .tmp t,.t n=>decide (t=n)
 | .const v,.c x=>qj x v
 | .func f,.c (.fn g [])=>decide (f=g) && decide (f < fB)
 | _,_=>false
theorem j9 {ρ H N env a} (k:EnvRel B ds fx ρ H N env a) {o:Operand} {x:Opnd} (h:okO o x=true) {v:V} (e:evO env x=some v):m7 ρ H v (a.eval o):=by
 unfold okO at h;split at h
 ·simp only[decide_eq_true_eq] at h; subst h; exact k.rel _ _ e
 ·simp only[evO,Option.some.injEq] at e; subst e; exact vk _ _ h
 ·simp only[Bool.and_eq_true,decide_eq_true_eq] at h;obtain ⟨rfl,h0⟩:=h;simp only[evO,Option.some.injEq] at e; subst e;exact ⟨[],by rw[ZY,if_pos h0]; rfl,rfl⟩
 ·cases h
def aggT:TypeDesc→Bool
 | .struct _ | .array _ _=>true
 | _=>false
def Qi (P:Program) (t:TypeId) (n:Nat) (ag:Bool):Bool:=
 match P.info? t,P.underlying t with
 | some i,some d=>decide (i.size=n) && (aggT d == ag)
 | _,_=>false
def qM (P:Program) (t:TypeId) (n:Nat):Bool:=match P.info? t with
 | some i=>decide (i.size=n)
 | none=>false
def V2 (P:Program) (t:TypeId) (z:D):Bool:=match P.info? t with
 | some i=>match i.zero with
   | some v=>qj z v && !(match v with | .tuple _=>true | _=>false)
   | none=>false
 | none=>false
theorem qM.run {P:Program} {t n} (h:qM P t n=true) (w:World):(sizeOf t).run P w = .ok n w:=by
 unfold qM at h;split at h
 ·rename_i i hi;simp only[decide_eq_true_eq] at h;rw[run_sizeOf w hi,Program.cellsOf,hi];simp[h]
 ·cases h
theorem Qi.size {P:Program} {t n ag} (h:Qi P t n ag=true):qM P t n=true:=by
 unfold Qi at h;unfold qM
 cases hi:P.info? t with
 | none=>simp[hi] at h
 | some i=>
   cases hu:P.underlying t with
   | none=>simp[hi,hu] at h
   | some d=>simp[hi,hu] at h; simp[h.1]
theorem Qi.isAgg {P:Program} {t n ag} (h:Qi P t n ag=true) (w:World):(Go.isAgg t).run P w = .ok ag w:=by
 unfold Qi at h
 cases hi:P.info? t with
 | none=>simp[hi] at h
 | some i=>
   cases hu:P.underlying t with
   | none=>simp[hi,hu] at h
   | some d=>
     simp[hi,hu] at h;have h2:=h.2;unfold Go.isAgg;rw[Sem.run_bind,run_underlying hu,Result.andThen_ok,← h2]
     cases d <;> rfl
theorem V2.run {P:Program} {t z} (h:V2 P t z=true) (w:World):∃ v,(zeroValue t).run P w = .ok v w ∧ ∀ H,Q6 H z v:=by
 unfold V2 at h;split at h
 ·rename_i i hi;split at h
  ·rename_i v hv;simp only[Bool.and_eq_true] at h;refine ⟨v,?_,fun H=>vk z v h.1⟩;unfold zeroValue;rw[Sem.run_bind,run_typeInfo w hi,Result.andThen_ok,hv];rfl
  ·cases h
 ·cases h
def K4 (i:Nat) (ρ ρ':Map):Prop:=∀ l,ρ l = .none→ρ' l ≠ .none→∃ k,l = .n i k
theorem K4.refl (i ρ):K4 i ρ ρ:=fun _ h h'=>absurd h h'
theorem K4.upd {i ρ} (k:Nat) (p:Place):K4 i ρ (O3 ρ (.n i k) p):=fun l h h'=>by
 by_cases e:l = .n i k
 ·exact ⟨k,e⟩
 ·rw[r8 e] at h'; exact absurd h h'
theorem K4.trans {i ρ ρ1 ρ2} (h:K4 i ρ ρ1) (k:K4 i ρ1 ρ2):K4 i ρ ρ2:=fun l h1 h2=>by
 by_cases e:ρ1 l = .none
 ·exact k l e h2
 ·exact h l h1 e
theorem K4.kill {i ρ l} (h:ρ l ≠ .none) (p:Place):K4 i ρ (O3 ρ l p):=fun l' h1 h2=>by
 by_cases e:l'=l
 ·subst e; exact absurd h1 h
 ·rw[r8 e] at h2; exact absurd h1 h2
structure Post (ρ:Map) (H:Ice) (h:Loc→Option Obj) (w:World) (i:Nat) (e:Eff) (ρ':Map) (H':Ice) (v:Value) (w':World):Prop where
 heap:HRel ρ' H' (i9 h e.wr) w'
 trans:Trans ρ H w ρ' H' w'
 stays:n9 ρ ρ'
 new:K4 i ρ ρ'
 val:m7 ρ' H' e.v v
def f8 (P:Program) (o:Oper) (a:Act) (w:World) (ρ:Map) (H:Ice) (h:Loc→Option Obj) (i:Nat) (r:R):Prop:=
 ∀ (K:Act→World→Prop) (Q:Exit→Act→World→Prop),
   (match r with
    | .ok e=>∀ ρ' H' v w',Post ρ H h w i e ρ' H' v w'→K (a.put o.dst v) w'
    | .pan e=>∀ ρ' H' v w',Post ρ H h w i e ρ' H' v w'→Q (.panic [{ v,recovered:=false }]) a w'
    | .out=>LetsOut Q)→o.wp P a w K Q∨(o.asks P a w∧LetsOut Q)
theorem f8.of {P:Program} {o:Oper} {a:Act} {w w':World} {ρ ρ':Map} {H H':Ice} {h i} {e:Eff} {v:Value} (hr:(execOp a.eval o).run P w = .ok (.value v) w')
 (hp:Post ρ H h w i e ρ' H' v w'):f8 P o a w ρ H h i (.ok e):=fun K Q hk=>.inl (by
 unfold Oper.wp;rw[hr]
 exact hk _ _ _ _ hp)
theorem f8.ofU {P:Program} {o:Oper} {a:Act} {w w':World} {ρ ρ':Map} {H H':Ice} {h i} {e:Eff} (hr:(execOp a.eval o).run P w = .ok .skip w')
 (hp:Post ρ H h w i e ρ' H' undef w'):f8 P o a w ρ H h i (.ok e):=fun K Q hk=>.inl (by
 unfold Oper.wp;rw[hr]
 exact hk _ _ _ _ hp)
theorem Post.pure {ρ H h w i} {x:V} {v:Value} (hH:HRel ρ H h w) (hv:m7 ρ H x v) (rd:List Loc):Post ρ H h w i { v:=x,rd:=rd } ρ H v w:=
 ⟨hH,Trans.refl ..,n9.refl _,K4.refl _ _,hv⟩
theorem f8.pure {P:Program} {o:Oper} {a:Act} {w:World} {ρ:Map} {H:Ice} {h i} {x:V} {v:Value} (hr:(execOp a.eval o).run P w = .ok (.value v) w)
 (hH:HRel ρ H h w) (hv:m7 ρ H x v) (rd:List Loc:=[]):f8 P o a w ρ H h i (.ok { v:=x,rd:=rd }):=f8.of hr (Post.pure hH hv rd)
theorem x5 {x:V} {r:R} (h:Rf.val x=some r):r = .ok { v:=x }:=by cases h; rfl
theorem d9 {α β:Type} {x:Option α} {k:α→Option β} {r:β} (h:bnd x k=some r):∃ a,x=some a∧k a=some r:=by
 cases x with
 | none=>cases h
 | some a=>exact ⟨a,rfl,h⟩
end Go.Rf

namespace Go.Rf
theorem vV {ρ:Map} {H:Ice} {h:Loc→Option Obj} {w:World} (hH:HRel ρ H h w):∀ (args:List (V × Bool)) (vs:List V) (m:List Loc),A7 h args=some (vs,m)→
 ∀ S:List Loc,(∀ l∈m,l∈S)→∀ us,f9 ρ H (args.map (·.1)) us→f9 (xS ρ S) (jU ρ H w S) vs us
 | [],vs,m,e,S,_,us,k=>by cases e; exact k
 | (v,fl) :: l,vs,m,e,S,hS,us,k=>by
   obtain ⟨u,us',rfl,k1,k2⟩:=k;simp only[A7] at e;split at e
   ·rename_i v' m1 vs' m2 e1 e2;cases e;have tail:=vV hH l vs' m2 e2 S (fun x hx=>hS x (List.mem_append_right _ hx)) us' k2;refine ⟨u,us',rfl,?_,tail⟩
    cases fl with
    | true=>
      simp only[if_true,Option.map_eq_some_iff] at e1;obtain ⟨⟨x,m'⟩,f1,f2⟩:=e1;cases f2;exact (vU hH 24 v x _ f1).2.2 S (fun x hx=>hS x (List.mem_append_left _ hx)) u k1
    | false=>
      simp only[Bool.false_eq_true,if_false] at e1;cases e1;exact k1.mono (X2 hH S).2.2.1 (X2 hH S).2.2.2
   ·cases e
section
variable {m:List Loc} {i:Nat}
theorem xf {k:Nat} {l:Loc} (h:m[k]? = some l):P4 m i (.b k)=l:=by
 have hk:=(List.getElem?_eq_some_iff.1 h).1;simp only[P4,if_pos hk,List.getD,h,Option.getD_some]
theorem qT {k:Nat} (h:m.length≤k):P4 m i (.b k) = .n i (k - m.length):=by
 simp only[P4,if_neg (Nat.not_lt.2 h)]
theorem qto (hnd:m.Nodup) (hm:∀ j,.n i j ∉ m) {a b:Nat} (h:P4 m i (.b a)=P4 m i (.b b)):a=b:=by
 by_cases ha:a < m.length <;> by_cases hb:b < m.length
 ·have h1:=List.getElem?_eq_getElem ha;have h2:=List.getElem?_eq_getElem hb;rw[xf h1,xf h2] at h;exact (List.getElem_inj hnd).1 h
 ·have h1:=List.getElem?_eq_getElem ha;rw[xf h1,qT (by omega)] at h;exact (hm _ (h ▸ List.getElem_mem ha)).elim
 ·have h2:=List.getElem?_eq_getElem hb;rw[xf h2,qT (by omega)] at h;exact (hm _ (h.symm ▸ List.getElem_mem hb)).elim
 ·rw[qT (by omega),qT (by omega)] at h
  injection h with _ h
  omega
theorem qay (hinj:∀ a b,P4 m i (.b a)=P4 m i (.b b)→a=b):∀ (os:List Obj) (k:Nat) (h:Loc→Option Obj),
 (∀ j o,os[j]? = some o→i9 h (N8 m i k os) (P4 m i (.b (k + j)))=o.mapL (P4 m i)) ∧
 (∀ l,(∀ j,j < os.length→P4 m i (.b (k + j))≠l)→i9 h (N8 m i k os) l=h l)
 | [],k,h=>⟨fun j o e=>by simp at e,fun l _=>rfl⟩
 | o :: os,k,h=>by
   obtain ⟨a1,a2⟩:=qay hinj os (k + 1) (Zc h (P4 m i (.b k)) (o.mapL (P4 m i)));refine ⟨fun j o' e=>?_,fun l hl=>?_⟩
   ·cases j with
    | zero=>
      simp at e;subst e;simp only[N8,Jk];rw[a2]
      ·exact V3 ..
      ·intro j hj he;have:=hinj _ _ he;omega
    | succ j=>
      have:=a1 j o' (by simpa using e);simp only[N8,Jk];rw[show k + (j + 1)=k + 1 + j from by omega];exact this
   ·simp only[N8,Jk];rw[a2 l (fun j hj he=>hl (j + 1) (by simp; omega) (by rw[← he]; congr 2; omega))];exact zm (fun he=>hl 0 (by simp) he.symm)
end
mutual
theorem m7.mapL {ρ ρ':Map} {H:Ice} {f:Loc→Loc} (hf:∀ l,ρ l ≠ .none→ρ' (f l) = ρ l):∀ (v:V) {u:Value},m7 ρ H v u→m7 ρ' H (V.mapL f v) u
 | .d x,_,k=>k
 | .ref l sz o n,u,k=>by
   have k:H0 (ρ l) sz o n u:=k;show H0 (ρ' (f l)) sz o n u;rw[hf l (fun h=>by rw[h] at k; exact k)];exact k
 | .ptr l e j,u,k=>by
   have k:M4 (ρ l) e j u:=k;show M4 (ρ' (f l)) e j u;rw[hf l (fun h=>by rw[h] at k; exact k)];exact k
 | .map l,u,k=>by
   have k:xh (ρ l) (fun r=>.map (some r)) u:=k;show xh (ρ' (f l)) (fun r=>.map (some r)) u;rw[hf l (fun h=>by rw[h] at k; exact k)];exact k
 | .iter l,u,k=>by
   have k:xh (ρ l) (fun r=>.pointer (some ⟨r,0,Option.none⟩)) u:=k;show xh (ρ' (f l)) (fun r=>.pointer (some ⟨r,0,Option.none⟩)) u;rw[hf l (fun h=>by rw[h] at k; exact k)];exact k
 | .agg cs,u,k=>by
   obtain ⟨vs,e,k1,k2⟩:=k;exact ⟨vs,e,(f9.mapL hf cs k1).1,by rw[(f9.mapL hf cs k1).2.1]; exact k2⟩
 | .iface t x,u,k=>by
   obtain ⟨v,e,k1⟩:=k;exact ⟨v,e,m7.mapL hf x k1⟩
 | .fn g cs,u,k=>by
   obtain ⟨vs,e,k1⟩:=k;exact ⟨vs,e,(f9.mapL hf cs k1).1⟩
 | .tup cs,u,k=>by
   obtain ⟨vs,e,k1⟩:=k;exact ⟨vs,e,(f9.mapL hf cs k1).1⟩
 | .junk,_,k=>k
theorem f9.mapL {ρ ρ':Map} {H:Ice} {f:Loc→Loc} (hf:∀ l,ρ l ≠ .none→ρ' (f l) = ρ l):∀ (vs:List V) {us:List Value},f9 ρ H vs us→
 f9 ρ' H (Q1 f vs) us∧(Q1 f vs).any K7=vs.any K7∧(Q1 f vs).any z7.isJunk=vs.any z7.isJunk
 | [],_,k=>⟨k,rfl,rfl⟩
 | v :: vs,us,k=>by
   obtain ⟨u,us',rfl,k1,k2⟩:=k;obtain ⟨a1,a2,a3⟩:=f9.mapL hf vs k2;refine ⟨⟨u,us',rfl,m7.mapL hf v k1,a1⟩,?_,?_⟩
   ·simp only[Q1,List.any_cons,a2]
    congr 1
    cases v <;> rfl
   ·simp only[Q1,List.any_cons,a3]
    congr 1
    cases v <;> rfl
end
theorem qf6 {ρ ρ':Map} {H:Ice} {f:Loc→Loc} (hf:∀ l,ρ l ≠ .none→ρ' (f l) = ρ l):∀ (es:List (D × V)) {ents:List MapEntry},All2 (qeh ρ H) es ents→All2 (qeh ρ' H) (ZW f es) ents
 | [],_,k=>by cases k; exact .nil
 | (key,v) :: es,_,k=>by
   cases k with
   | cons k1 k2=>
     obtain ⟨c1,c2,c3⟩:=k1;refine .cons ⟨c1,m7.mapL hf v c2,?_⟩ (qf6 hf es k2);rw[← c3]
     cases v <;> rfl
theorem z7.mapL {ρ ρ':Map} {H:Ice} {w:World} {f:Loc→Loc} (hf:∀ l,ρ l ≠ .none→ρ' (f l) = ρ l) {o:Obj} {p:Place} (k:z7 ρ H w o p):∃ o',o.mapL f=some o'∧z7 ρ' H w o' p:=by
 cases o with
 | arr xs sz=>
   refine ⟨_,rfl,?_⟩
   cases p with
   | virt s=>
     obtain ⟨rfl,k2⟩:=k;exact ⟨rfl,k2⟩
   | at_ b base s size=>
     obtain ⟨e,arr,elem,fr,us,h1,h2,h3,h4,h5,h6⟩:=k;obtain ⟨a1,a2,a3⟩:=f9.mapL hf xs h3;exact ⟨e,arr,elem,fr,us,h1,h2,a1,by rw[a3]; exact h4,h5,h6⟩
   | _=>exact k.elim
 | map es=>
   refine ⟨_,rfl,?_⟩
   cases p with
   | blk r=>
     obtain ⟨ents,clock,h1,h2⟩:=k;exact ⟨ents,clock,h1,qf6 hf es h2⟩
   | _=>exact k.elim
 | iter s pos=>exact ⟨_,rfl,by cases p <;> exact k⟩
 | lol ls=>exact ⟨_,rfl,by cases p <;> exact k⟩
 | dead=>cases p <;> exact k.elim
end Go.Rf

namespace Go.Rf
def Za (ρ1 ρ':Map) (m:List Loc) (i:Nat):Map:=fun l=>match idx m l with
 | some k=>ρ' (.b k)
 | none=>match l with
   | .n a j=>if a=i then ρ' (.b (m.length + j)) else ρ1 (.n a j)
   | .b k=>ρ1 (.b k)
theorem q8w {m:List Loc} (hnd:m.Nodup) {k:Nat} {l:Loc} (h:m[k]? = some l):idx m l=some k:=by
 cases hi:idx m l with
 | none=>exact (Yz hi (List.mem_of_getElem? h)).elim
 | some k'=>rw[qf0 hnd (YA hi) h]
theorem q0u {m:List Loc} {l:Loc} (h:l ∉ m):idx m l=none:=by
 cases hi:idx m l with
 | none=>rfl
 | some k=>exact (h (List.mem_of_getElem? (YA hi))).elim
theorem qye {ρ1 ρ':Map} {H1 H':Ice} {h1:Loc→Option Obj} {w w':World} {m:List Loc} {i:Nat} {os:List Obj} (hH:HRel ρ1 H1 h1 w) (hnd:m.Nodup) (hm:∀ l∈m,ρ1 l ≠ .none) (hN:∀ k,ρ1 (.n i k) = .none)
 (hH':HRel ρ' H' (o5 os) w') (ht:Trans (zV ρ1 m) H1 w ρ' H' w') (hst:n9 (zV ρ1 m) ρ') (hb:∀ l,ρ' l ≠ .none→∃ k,l = .b k) (hlen:m.length≤os.length) :
 HRel (Za ρ1 ρ' m i) H' (i9 h1 (N8 m i 0 os)) w'∧Trans ρ1 H1 w (Za ρ1 ρ' m i) H' w'∧n9 ρ1 (Za ρ1 ρ' m i)∧K4 i ρ1 (Za ρ1 ρ' m i) ∧
  ∀ v u,m7 ρ' H' v u→m7 (Za ρ1 ρ' m i) H' (V.mapL (P4 m i) v) u:=by
 have hni:∀ j,Loc.n i j ∉ m:=fun j hj=>hm _ hj (hN j)
 have hinj:∀ a b,P4 m i (.b a)=P4 m i (.b b)→a=b:=fun a b=>qto hnd hni
 have hback:∀ k,Za ρ1 ρ' m i (P4 m i (.b k)) = ρ' (.b k):=by
  intro k
  by_cases hk:k < m.length
  ·have e:=List.getElem?_eq_getElem hk;rw[xf e];simp only[Za,q8w hnd e]
  ·rw[qT (by omega)];simp only[Za,q0u (hni _),if_true]
   congr 2
   omega
 have hf:∀ l,ρ' l ≠ .none→Za ρ1 ρ' m i (P4 m i l) = ρ' l:=fun l hl=>by
  obtain ⟨k,rfl⟩:=hb l hl;exact hback k
 have hcases:∀ l,(∃ k,l=P4 m i (.b k))∨(l ∉ m∧(∀ k,l≠P4 m i (.b k))∧Za ρ1 ρ' m i l = ρ1 l):=by
  intro l
  cases hi:idx m l with
  | some k=>exact .inl ⟨k,(xf (YA hi)).symm⟩
  | none=>
    have hlm:=Yz hi
    by_cases hni':∃ j,l = .n i j
    ·obtain ⟨j,rfl⟩:=hni';refine .inl ⟨m.length + j,?_⟩;rw[qT (by omega)]
     congr 1
     omega
    ·refine .inr ⟨hlm,fun k hk=>?_,?_⟩
     ·by_cases h:k < m.length
      ·rw[xf (List.getElem?_eq_getElem h)] at hk;exact hlm (hk ▸ List.getElem_mem h)
      ·rw[qT (by omega)] at hk;exact hni' ⟨_,hk⟩
     ·simp only[Za,hi]
      cases l with
      | b k=>rfl
      | n a j=>
        simp only;rw[if_neg (fun h=>hni' ⟨j,by rw[h]⟩)]
 have hnew:∀ k b,(ρ' (.b k)).has b→w.heap.size≤b ∨ ∃ l∈m,(ρ1 l).has b:=by
  intro k b hkb;rcases ht.new _ b hkb with h | ⟨l',h⟩
  ·exact .inl h
  ·right
   cases l' with
   | n a j=>cases h
   | b k'=>
     simp only[zV] at h;split at h
     ·rename_i l e; exact ⟨l,List.mem_of_getElem? e,h⟩
     ·cases h
 have hstay:n9 ρ1 (Za ρ1 ρ' m i):=by
  intro l hl;rcases hcases l with ⟨k,rfl⟩ | ⟨_,_,e⟩
  ·rw[hback]
   by_cases hk:k < m.length
   ·have e:=List.getElem?_eq_getElem hk;rw[xf e] at hl ⊢;have:=hst (.b k);rw[Xz e] at this;exact this hl
   ·rw[qT (by omega)] at hl;exact (hl (hN _)).elim
  ·exact .inl (by rw[e])
 have hnoc:∀ b,b < w.heap.size→(∀ l∈m,¬ (ρ1 l).has b)→w'.heap[b]? = w.heap[b]? ∧ ∀ o,H' b o=H1 b o:=fun b hb hn=>ht.keep b hb (fun l hl=>by
  cases l with
  | n a j=>cases hl
  | b k=>
    simp only[zV] at hl;split at hl
    ·rename_i l e; exact hn l (List.mem_of_getElem? e) hl
    ·cases hl)
 have hlt:∀ {l b},(ρ1 l).has b→b < w.heap.size:=fun e=>hH.lt e
 have hle:H1.le H':=fun b o v e=>by
  have hbl:=hH.iceLt e;rw[(hnoc b hbl (fun l _ hl=>by rw[hH.sep l b hl o] at e; cases e)).2 o];exact e
 obtain ⟨w1,w2⟩:=qay (m:=m) (i:=i) hinj os 0 h1
 have ofl:∀ {k o},o5 os (.b k)=some o→os[k]? = some o:=fun {k o} ho=>by
  simp only[o5] at ho;split at ho
  ·cases ho
  ·exact ho
 refine ⟨⟨hH'.ice,?_,?_,?_,?_⟩,⟨ht.os,ht.tape,ht.output,ht.size,?_,?_⟩,hstay,?_,fun v u k=>m7.mapL hf v k⟩
 ·
  intro l o ho;rcases hcases l with ⟨k,rfl⟩ | ⟨hlm,hne,e⟩
  ·rw[hback]
   cases hk:os[k]? with
   | some o'=>
     have:=w1 k o' hk;rw[Nat.zero_add] at this;rw[this] at ho
     cases hd:o5 os (.b k) with
     | some o''=>
       have h2:=ofl hd;rw[hk] at h2;cases h2;obtain ⟨o3,q1,q2⟩:=z7.mapL hf (hH'.objs _ _ hd);rw[q1] at ho;cases ho;exact q2
     | none=>
       simp only[o5,hk] at hd;split at hd
       ·rename_i hdd; cases hdd; cases ho
       ·cases hd
   | none=>
     have hkl:=List.getElem?_eq_none_iff.1 hk
     rw[w2 _ (fun j hj he=>by
      rw[Nat.zero_add] at he;have:=hinj _ _ he
      omega)] at ho
     exfalso
     rw[qT (by omega)] at ho;have:=hH.objs _ _ ho;rw[hN] at this
     cases o <;> exact this.elim
  ·rw[w2 l (fun j _ he=>hne _ he.symm)] at ho;rw[e];refine (hH.objs l o ho).mono hstay hle (fun b hbk=>?_);exact (hnoc b (hlt hbk) (fun l' hl' he=>hlm (hH.inj l l' b hbk he ▸ hl'))).1
 ·
  intro l ho;rcases hcases l with ⟨k,rfl⟩ | ⟨hlm,hne,e⟩
  ·rw[hback]
   cases hd:o5 os (.b k) with
   | none=>exact hH'.gone _ hd
   | some o=>
     exfalso
     have h2:=ofl hd;have:=w1 k o h2;rw[Nat.zero_add] at this;obtain ⟨o3,q1,_⟩:=z7.mapL hf (hH'.objs _ _ hd);rw[this,q1] at ho;cases ho
  ·rw[w2 l (fun j _ he=>hne _ he.symm)] at ho;rw[e];exact hH.gone l ho
 ·
  intro l l' b e1 e2
  rcases hcases l with ⟨k,rfl⟩ | ⟨hlm,hne,e⟩ <;> rcases hcases l' with ⟨k',rfl⟩ | ⟨hlm',hne',e'⟩
  ·rw[hback] at e1 e2;have:=hH'.inj _ _ b e1 e2;rw[this]
  ·rw[hback] at e1;rw[e'] at e2;rcases hnew k b e1 with h | ⟨l2,h2,h3⟩
   ·have:=hlt e2; omega
   ·exact (hlm' (hH.inj l' l2 b e2 h3 ▸ h2)).elim
  ·rw[e] at e1;rw[hback] at e2;rcases hnew k' b e2 with h | ⟨l2,h2,h3⟩
   ·have:=hlt e1; omega
   ·exact (hlm (hH.inj l l2 b e1 h3 ▸ h2)).elim
  ·rw[e] at e1;rw[e'] at e2;exact hH.inj l l' b e1 e2
 ·
  intro l b e1 o;rcases hcases l with ⟨k,rfl⟩ | ⟨hlm,hne,e⟩
  ·rw[hback] at e1;exact hH'.sep _ b e1 o
  ·rw[e] at e1;rw[(hnoc b (hlt e1) (fun l' hl' he=>hlm (hH.inj l l' b e1 he ▸ hl'))).2 o];exact hH.sep l b e1 o
 ·intro b hb hn;exact hnoc b hb (fun l _=>hn l)
 ·intro l b e1;rcases hcases l with ⟨k,rfl⟩ | ⟨hlm,hne,e⟩
  ·rw[hback] at e1;rcases hnew k b e1 with h | ⟨l2,_,h3⟩
   ·exact .inl h
   ·exact .inr ⟨l2,h3⟩
  ·rw[e] at e1;exact .inr ⟨l,e1⟩
 ·intro l h2 h3;rcases hcases l with ⟨k,rfl⟩ | ⟨hlm,hne,e⟩
  ·by_cases hk:k < m.length
   ·have e:=List.getElem?_eq_getElem hk;rw[xf e] at h2;exact (hm _ (List.getElem_mem hk) h2).elim
   ·exact ⟨_,qT (by omega)⟩
  ·rw[e] at h3;exact (h3 h2).elim
end Go.Rf

namespace Go.Rf
variable {B:Ice} {ds:List Deferred} {fx:List (Nat × Value)}
section
variable {P:Program} {T:Tab} {cf:CF} {o:Oper} {a:Act} {w:World} {ρ:Map} {H:Ice} {h:Loc→Option Obj} {i N:Nat} {env:List (Nat × V)} {r:R}
def qv5 (x:Opnd):Op→Bool
 | .move y | .assign y=>okO y x
 | _=>false
theorem s_mv {x} (hH:HRel ρ H h w) (hE:EnvRel B ds fx ρ H N env a) (hok:qv5 x o.op=true) (e:j4 T cf i (.mv x) (evO env) h=some r):f8 P o a w ρ H h i r:=by
 obtain ⟨v,e1,e2⟩:=d9 e;rw[x5 e2];unfold qv5 at hok;split at hok
 ·rename_i y hop;exact f8.pure (by unfold execOp; rw[hop]; rfl) hH (j9 hE hok e1)
 ·rename_i y hop;exact f8.pure (by unfold execOp; rw[hop]; rfl) hH (j9 hE hok e1)
 ·cases hok
def qhq (c x y:Opnd):Op→Bool
 | .pick c' x' y'=>okO c' c && okO x' x && okO y' y
 | _=>false
theorem q54 {c x y} (hH:HRel ρ H h w) (hE:EnvRel B ds fx ρ H N env a) (hok:qhq c x y o.op=true) (e:j4 T cf i (.pick c x y) (evO env) h=some r):f8 P o a w ρ H h i r:=by
 unfold qhq at hok;split at hok
 ·rename_i c' x' y' hop;simp only[Bool.and_eq_true] at hok;obtain ⟨⟨h1,h2⟩,h3⟩:=hok;simp only[j4] at e;split at e
  ·rename_i hc;obtain ⟨v,e1,e2⟩:=d9 e;rw[x5 e2];have hc':a.eval c' = .bool true:=j9 hE h1 hc;exact f8.pure (by unfold execOp; simp only[hop,hc']; rfl) hH (j9 hE h2 e1)
  ·rename_i hc;obtain ⟨v,e1,e2⟩:=d9 e;rw[x5 e2];have hc':a.eval c' = .bool false:=j9 hE h1 hc;exact f8.pure (by unfold execOp; simp only[hop,hc']; rfl) hH (j9 hE h3 e1)
  ·cases e
 ·cases hok
def qv3 (op:UnOp) (x:Opnd):Op→Bool
 | .unOp op' _ x'=>decide (op'=op) && okO x' x
 | _=>false
theorem s_un {op x} (hH:HRel ρ H h w) (hE:EnvRel B ds fx ρ H N env a) (hok:qv3 op x o.op=true) (e:j4 T cf i (.un op x) (evO env) h=some r):f8 P o a w ρ H h i r:=by
 unfold qv3 at hok;split at hok
 ·rename_i op' t x' hop;simp only[Bool.and_eq_true,decide_eq_true_eq] at hok;obtain ⟨h1,h2⟩:=hok;subst h1;obtain ⟨v,e1,e2⟩:=d9 e;obtain ⟨d,e3,e4⟩:=d9 e2;rw[x5 e4];have hx:=j9 hE h2 e1;unfold un at e3;split at e3
  ·cases e3;have hx':a.eval x' = .bool _:=hx;rename_i b;exact f8.pure (x:=.d (.bool (!b))) (v:=.bool (!b)) (by unfold execOp; simp only[hop,hx']; rfl) hH rfl
  ·cases e3;have hx':a.eval x' = .int _ _:=hx;rename_i k n;exact f8.pure (x:=.d (.int k (k.wrap (0 - n)))) (v:=.int k (k.wrap (0 - n))) (by unfold execOp; simp only[hop,hx']; rfl) hH rfl
  ·cases e3
 ·cases hok
def qom (t:TypeId) (x:Opnd) (P:Program):Op→Bool
 | .makeInterface t' x'=>decide (t'=t) && okO x' x && (match P.underlying t with | some (.interface _)=>false | some _=>true | none=>false)
 | _=>false
theorem zg4 {t x} (hH:HRel ρ H h w) (hE:EnvRel B ds fx ρ H N env a) (hok:qom t x P o.op=true) (e:j4 T cf i (.mkI t x) (evO env) h=some r):f8 P o a w ρ H h i r:=by
 unfold qom at hok;split at hok
 ·rename_i t' x' hop;simp only[Bool.and_eq_true,decide_eq_true_eq] at hok;obtain ⟨⟨h1,h2⟩,h3⟩:=hok;subst h1;obtain ⟨v,e1,e2⟩:=d9 e;rw[x5 e2];have hx:=j9 hE h2 e1;refine f8.pure (v:=.iface t' (a.eval x')) ?_ hH ?_
  ·unfold execOp;simp only[hop,Instr.makeInterface]
   cases hu:P.underlying t' with
   | none=>rw[hu] at h3; cases h3
   | some d=>
     rw[hu] at h3;simp only[Sem.run_bind,run_underlying hu,Result.andThen_ok]
     cases d <;> first | rfl | cases h3
  ·unfold JA;split
   ·exact ⟨_,rfl,hx⟩
   ·exact ⟨_,rfl,hx⟩
 ·cases hok
theorem qn8 {op k x y d} (e:F1 op k x y=some d):∃ v,Q6 H d v∧(binOp op 0 (.int k x) (.int k y)).run P w = .ok v w∧(∀ t,binOp op t (.int k x) (.int k y)=binOp op 0 (.int k x) (.int k y)):=by
 unfold F1 at e;split at e
 all_goals first
  | (injection e with e; subst e; refine ⟨_,rfl,?_,fun t=>rfl⟩; simp only[binOp,ne_eq,not_true_eq_false,if_false,Op.intArith,Op.intBits,Op.intCmp]; rfl)
  | (split at e
     ·cases e
     ·rename_i hy
      injection e with e; subst e; refine ⟨_,rfl,?_,fun t=>rfl⟩; simp only[binOp,ne_eq,not_true_eq_false,if_false,Op.intDiv,if_neg hy]; rfl)
  | cases e
theorem qhi {op k x k' y d} (e:Ya op k x y=some d):∃ v,Q6 H d v ∧ ∀ t,(binOp op t (.int k x) (.int k' y)).run P w = .ok v w:=by
 unfold Ya at e;split at e
 ·cases e
 ·rename_i hy;split at e
  ·cases e; exact ⟨_,rfl,fun t=>by simp only[binOp,Op.shift,if_neg hy]; rfl⟩
  ·cases e; exact ⟨_,rfl,fun t=>by simp only[binOp,Op.shift,if_neg hy]; rfl⟩
  ·cases e
theorem jq (op:BinOp) (t:TypeId) (x y:Operand) (u v:Value) (h:(match u,v with | .nilIface,.nilIface=>false | .agg _,.agg _=>false | _,_=>true)=true) :
 (eqGuard op t x y u v).run P w = .ok () w:=by
 unfold eqGuard
 cases op <;> first
  | rfl
  | (split at h
     ·cases h
     ·cases h
     ·simp only[Bool.not_true,Bool.false_eq_true,if_false]
      first
       | rfl
       | (split
          ·simp_all
          ·simp_all
          ·rfl))
def qos (op:BinOp) (x y:Opnd):Op→Bool
 | .binOp op' _ x' y' _=>decide (op'=op) && okO x' x && okO y' y
 | _=>false
theorem qg3 (a b:List UInt8):((⟨a.toArray⟩:ByteArray).toList == (⟨b.toArray⟩:ByteArray).toList)=(a == b):=by
 rw[ByteArray.toList_mk,ByteArray.toList_mk]
theorem zhb {op x y} (hH:HRel ρ H h w) (hE:EnvRel B ds fx ρ H N env a) (hok:qos op x y o.op=true) (e:j4 T cf i (.bin op x y) (evO env) h=some r):f8 P o a w ρ H h i r:=by
 unfold qos at hok;split at hok
 ·rename_i op' t x' y' yt hop;simp only[Bool.and_eq_true,decide_eq_true_eq] at hok;obtain ⟨⟨h1,h2⟩,h3⟩:=hok;subst h1;obtain ⟨u,e1,e2⟩:=d9 e;obtain ⟨v,e3,e4⟩:=d9 e2;obtain ⟨d,e5,e6⟩:=d9 e4;rw[x5 e6];have hx:=j9 hE h2 e1;have hy:=j9 hE h3 e3
  have go:∀ z,(match a.eval x',a.eval y' with | .nilIface,.nilIface=>false | .agg _,.agg _=>false | _,_=>true)=true→Q6 H d z→(binOp op' t (a.eval x') (a.eval y')).run P w = .ok z w→f8 P o a w ρ H h i (.ok { v:=.d d }):=by
   intro z hg hz hr;refine f8.pure (x:=.d d) (v:=z) ?_ hH hz;unfold execOp;simp only[hop,Sem.run_bind,jq _ _ _ _ _ _ hg,Result.andThen_ok,hr];rfl
  unfold bin at e5;split at e5
  ·rename_i k m k' n;have hx':a.eval x' = .int k m:=hx;have hy':a.eval y' = .int k' n:=hy;rw[hx',hy'] at go
   have sh:∀ d,Ya op' k m n=some d→∃ z,Q6 H d z∧(binOp op' t (.int k m) (.int k' n)).run P w = .ok z w:=fun d e=>by
    obtain ⟨z,h1,h2⟩:=qhi (P:=P) (w:=w) (H:=H) (k':=k') e;exact ⟨z,h1,h2 t⟩
   split at e5
   ·obtain ⟨z,h1,h2⟩:=sh d e5;exact go z rfl h1 h2
   ·obtain ⟨z,h1,h2⟩:=sh d e5;exact go z rfl h1 h2
   ·split at e5
    ·rename_i hk;subst hk;obtain ⟨z,h1,h2,h3⟩:=qn8 (P:=P) (w:=w) (H:=H) e5;exact go z rfl h1 (by rw[h3]; exact h2)
    ·cases e5
  ·rename_i s s';obtain ⟨hx',hl⟩:=(hx:a.eval x' = .string ⟨s.toArray⟩∧s.length≤long);obtain ⟨hy',hl'⟩:=(hy:a.eval y' = .string ⟨s'.toArray⟩∧s'.length≤long);rw[hx',hy'] at go;unfold Wf at e5;split at e5
   ·split at e5
    ·rename_i hlen;cases e5;refine go (.string ⟨(s++s').toArray⟩) rfl ⟨rfl,by simpa using hlen⟩ ?_
     have h1:¬ ((((⟨s.toArray⟩:ByteArray).size + (⟨s'.toArray⟩:ByteArray).size:Nat):Int) > IntKind.i64.max):=by
      have:(⟨s.toArray⟩:ByteArray).size + (⟨s'.toArray⟩:ByteArray).size=s.length + s'.length:=by simp[ByteArray.size]
      rw[this]
      have:IntKind.i64.max=9223372036854775807:=by decide
      rw[this];unfold long at hlen;omega
     simp only[binOp,Op.stringOp,if_neg h1]
     have h2:(⟨s.toArray⟩:ByteArray)++⟨s'.toArray⟩=⟨(s++s').toArray⟩:=by
      apply ByteArray.ext;simp
     rw[h2];rfl
    ·cases e5
   ·cases e5;refine go (.bool (s == s')) rfl rfl ?_;simp only[binOp,Op.stringOp,qg3];rfl
   ·cases e5;refine go (.bool (!(s == s'))) rfl rfl ?_;simp only[binOp,Op.stringOp,qg3];rfl
   ·cases e5
  ·cases e5
 ·cases hok
theorem ZH (t:TypeId) (x y:Value):Op.equal t x y=Op.equalIn (9999 + 1) t x y:=rfl
def qoq (eq:Bool) (x y:Opnd) (P:Program):Op→Bool
 | .binOp op t x' y' _=>(match op with | .eql=>eq | .neq=>!eq | _=>false) && okO x' x && okO y' y && (match P.underlying t with | some .bool=>true | _=>false)
 | _=>false
theorem zg9 {eq x y} (hH:HRel ρ H h w) (hE:EnvRel B ds fx ρ H N env a) (hok:qoq eq x y P o.op=true) (e:j4 T cf i (.eqB eq x y) (evO env) h=some r):f8 P o a w ρ H h i r:=by
 unfold qoq at hok;split at hok
 ·rename_i op t x' y' yt hop;simp only[Bool.and_eq_true] at hok;obtain ⟨⟨⟨h1,h2⟩,h3⟩,h4⟩:=hok;simp only[j4] at e;split at e
  ·rename_i b c e1 e2;rw[x5 e];have hx:a.eval x' = .bool b:=j9 hE h2 e1;have hy:a.eval y' = .bool c:=j9 hE h3 e2
   have hu:P.underlying t=some .bool:=by split at h4 <;> first | assumption | cases h4
   have he:(Op.equal t (.bool b) (.bool c)).run P w = .ok (b == c) w:=by
    rw[ZH,Op.equalIn,Sem.run_bind,run_underlying hu,Result.andThen_ok];rfl
   refine f8.pure (x:=.d (.bool ((b == c) == eq))) (v:=.bool ((b == c) == eq)) ?_ hH rfl;unfold execOp;split at h1
   ·subst h1;simp only[hop,Sem.run_bind,hx,hy,jq _ _ _ _ (.bool b) (.bool c) rfl,Result.andThen_ok,binOp,he];simp
   ·have:eq=false:=by simpa using h1
    subst this;simp only[hop,Sem.run_bind,hx,hy,jq _ _ _ _ (.bool b) (.bool c) rfl,Result.andThen_ok,binOp,he];simp
   ·cases h1
  ·cases e
 ·cases hok
def qoo (eq ifc:Bool) (x:Opnd) (P:Program):Op→Bool
 | .binOp op t x' y' _=>(match op with | .eql=>eq | .neq=>!eq | _=>false) && okO x' x &&
  (match P.underlying t,y' with | some (.pointer _),.const (.pointer none)=>!ifc | some (.interface _),.const .nilIface=>ifc | _,_=>false)
 | _=>false
theorem zg7 {eq ifc x} (hH:HRel ρ H h w) (hE:EnvRel B ds fx ρ H N env a) (hok:qoo eq ifc x P o.op=true) (e:j4 T cf i (.isN eq ifc x) (evO env) h=some r):f8 P o a w ρ H h i r:=by
 unfold qoo at hok;split at hok
 ·rename_i op t x' y' yt hop;simp only[Bool.and_eq_true] at hok;obtain ⟨⟨h1,h2⟩,h4⟩:=hok;obtain ⟨v,e1,e2⟩:=d9 e;obtain ⟨b,e3,e4⟩:=d9 e2;rw[x5 e4];have hx:=j9 hE h2 e1
  have key:(eqGuard op t x' y' (a.eval x') (a.eval y')).run P w = .ok () w∧(∀ op',op' = .eql∨op' = .neq→binOp op' t (a.eval x') (a.eval y')=(match op' with | .eql=>(do pure (.bool (← Op.equal t (a.eval x') (a.eval y')))) | _=>(do pure (.bool (!(← Op.equal t (a.eval x') (a.eval y'))))))) ∧
   (Op.equal t (a.eval x') (a.eval y')).run P w = .ok b w:=by
   split at h4
   ·rename_i el hu
    have hi:ifc=false:=by simpa using h4
    subst hi;have hy:a.eval (.const (.pointer none)) = .pointer none:=rfl;rw[hy]
    have hp:∃ p,a.eval x' = .pointer p∧b=p.isNone:=by
     unfold ZX at e3
     split at e3 <;> first | contradiction | cases e3
     ·exact ⟨none,hx,rfl⟩
     ·obtain ⟨b',off,u,hv,_⟩:=hx;exact ⟨_,hv,rfl⟩
     ·rename_i l e j _;have hx:M4 (ρ l) e j (a.eval x'):=hx
      cases hp:ρ l with
      | dead=>rw[hp] at hx; obtain ⟨q,hq⟩:=hx; exact ⟨_,hq,rfl⟩
      | at_ b1 b2 b3 b4=>rw[hp] at hx; exact ⟨_,hx,rfl⟩
      | lol b1 b2 b3 b4 b5=>rw[hp] at hx; exact ⟨_,hx,rfl⟩
      | _=>rw[hp] at hx; exact hx.elim
    obtain ⟨p,hp,rfl⟩:=hp;rw[hp];refine ⟨jq _ _ _ _ _ _ rfl,?_,?_⟩
    ·rintro op' (rfl | rfl) <;> rfl
    ·rw[ZH,Op.equalIn,Sem.run_bind,run_underlying hu,Result.andThen_ok]
     cases p <;> rfl
   ·rename_i ms hu;subst h4;have hy:a.eval (.const .nilIface) = .nilIface:=rfl;rw[hy]
    have hp:(a.eval x' = .nilIface∧b=true) ∨ ∃ t u,a.eval x' = .iface t u∧b=false:=by
     unfold ZX at e3
     split at e3 <;> first | contradiction | cases e3
     ·exact .inl ⟨hx,rfl⟩
     ·obtain ⟨u,hv,_⟩:=hx;exact .inr ⟨_,_,hv,rfl⟩
     ·obtain ⟨u,hv,_⟩:=hx;exact .inr ⟨_,_,hv,rfl⟩
    rcases hp with ⟨hp,rfl⟩ | ⟨t',u,hp,rfl⟩
    ·rw[hp];refine ⟨?_,?_,?_⟩
     ·unfold eqGuard
      cases op <;> first | rfl | simp
     ·rintro op' (rfl | rfl) <;> rfl
     ·rw[ZH,Op.equalIn,Sem.run_bind,run_underlying hu,Result.andThen_ok];rfl
    ·rw[hp];refine ⟨jq _ _ _ _ _ _ rfl,?_,?_⟩
     ·rintro op' (rfl | rfl) <;> rfl
     ·rw[ZH,Op.equalIn,Sem.run_bind,run_underlying hu,Result.andThen_ok];rfl
   ·cases h4
  obtain ⟨k1,k2,k3⟩:=key;refine f8.pure (x:=.d (.bool (b == eq))) (v:=.bool (b == eq)) ?_ hH rfl;unfold execOp;split at h1
  ·subst h1;simp only[hop,Sem.run_bind,k1,Result.andThen_ok,k2 .eql (.inl rfl),k3];simp
  ·have:eq=false:=by simpa using h1
   subst this;simp only[hop,Sem.run_bind,k1,Result.andThen_ok,k2 .neq (.inr rfl),k3];simp
  ·cases h1
 ·cases hok
end
end Go.Rf

namespace Go.Rf
variable {B:Ice} {ds:List Deferred} {fx:List (Nat × Value)}
section
variable {P:Program} {T:Tab} {cf:CF} {o:Oper} {a:Act} {w:World} {ρ:Map} {H:Ice} {h:Loc→Option Obj} {i N:Nat} {env:List (Nat × V)} {r:R}
theorem xU (s:List UInt8):(⟨s.toArray⟩:ByteArray).size=s.length:=by simp[ByteArray.size]
def qcg (k:IntKind) (x:Opnd) (P:Program):Op→Bool
 | .convert src dst x'=>okO x' x && (P.underlying src).isSome && (match P.underlying dst with | some (.int k')=>decide (k'=k) | _=>false)
 | _=>false
theorem qzq {k x} (hH:HRel ρ H h w) (hE:EnvRel B ds fx ρ H N env a) (hok:qcg k x P o.op=true) (e:j4 T cf i (.conv (.int k) x) (evO env) h=some r):f8 P o a w ρ H h i r:=by
 unfold qcg at hok;split at hok
 ·rename_i src dst x' hop;simp only[Bool.and_eq_true] at hok;obtain ⟨⟨h1,h2⟩,h3⟩:=hok;obtain ⟨v,e1,e2⟩:=d9 e
  cases v with
  | d x0=>
    cases x0 with
    | int j n=>
      rw[x5 e2];have hx:a.eval x' = .int j n:=j9 hE h1 e1;obtain ⟨d,hd⟩:=Option.isSome_iff_exists.1 h2
      have hu:P.underlying dst=some (.int k):=by
       split at h3
       ·rename_i k'' hh; simp only[decide_eq_true_eq] at h3; subst h3; exact hh
       ·cases h3
      refine f8.pure (x:=.d (.int k (k.wrap n))) (v:=.int k (k.wrap n)) ?_ hH rfl;unfold execOp;simp only[hop,hx,convert,Sem.run_bind,run_underlying hd,run_underlying hu,Result.andThen_ok];rfl
    | _=>simp at e2
  | _=>simp at e2
 ·cases hok
def qcf (x:Opnd) (P:Program):Op→Bool
 | .convert src dst x'=>okO x' x && (P.underlying src).isSome && (match P.underlying dst with | some .string=>true | _=>false)
 | _=>false
theorem qzp {x} (hH:HRel ρ H h w) (hE:EnvRel B ds fx ρ H N env a) (hok:qcf x P o.op=true) (e:j4 T cf i (.conv .rune x) (evO env) h=some r):f8 P o a w ρ H h i r:=by
 unfold qcf at hok;split at hok
 ·rename_i src dst x' hop;simp only[Bool.and_eq_true] at hok;obtain ⟨⟨h1,h2⟩,h3⟩:=hok;obtain ⟨v,e1,e2⟩:=d9 e
  cases v with
  | d x0=>
    cases x0 with
    | int j n=>
      rw[x5 e2];have hx:a.eval x' = .int j n:=j9 hE h1 e1;obtain ⟨d,hd⟩:=Option.isSome_iff_exists.1 h2
      have hu:P.underlying dst=some .string:=by
       split at h3
       ·assumption
       ·cases h3
      refine f8.pure (x:=.d (.str (Utf8.encode n).data.toList)) (v:=.string (Utf8.encode n)) ?_ hH ⟨rfl,?_⟩
      ·unfold execOp;simp only[hop,hx,convert,Sem.run_bind,run_underlying hd,run_underlying hu,Result.andThen_ok]
       cases d <;> rfl
      ·have:(Utf8.encode n).data.toList.length≤8:=by
        unfold Utf8.encode;simp only
        repeat' split
        all_goals simp
       unfold long;omega
    | _=>simp at e2
  | _=>simp at e2
 ·cases hok
def Ku (f:FuncId) (cap:List Opnd):Op→Bool
 | .makeFunc (.func g) first cs=>(decide (f=g) && decide (f < fB) && first.toList.isEmpty && okOs cs.toList cap) || (decide (f=g + fB) && cs.toList.isEmpty && okOs first.toList cap)
 | _=>false
 where okOs:List Operand→List Opnd→Bool
 | [],[]=>true
 | x :: xs,y :: ys=>okO x y && okOs xs ys
 | _,_=>false
theorem qcm (hE:EnvRel B ds fx ρ H N env a):∀ {xs ys vs},Ku.okOs xs ys=true→evl (evO env) ys=some vs→f9 ρ H vs (xs.map a.eval)
 | [],[],vs,_,e=>by cases e; rfl
 | [],_ :: _,_,h,_=>by simp[Ku.okOs] at h
 | _ :: _,[],_,h,_=>by simp[Ku.okOs] at h
 | x :: xs,y :: ys,vs,h,e=>by
   simp only[Ku.okOs,Bool.and_eq_true] at h;simp only[evl] at e;split at e
   ·rename_i v vs' e1 e2;cases e;exact ⟨_,_,rfl,j9 hE h.1 e1,qcm hE h.2 e2⟩
   ·cases e
theorem zg5 {f cap} (hH:HRel ρ H h w) (hE:EnvRel B ds fx ρ H N env a) (hok:Ku f cap o.op=true) (e:j4 T cf i (.mkF f cap) (evO env) h=some r):f8 P o a w ρ H h i r:=by
 unfold Ku at hok;split at hok
 ·rename_i g first cs hop
  simp only[Bool.or_eq_true,Bool.and_eq_true,decide_eq_true_eq] at hok;obtain ⟨vs,e1,e2⟩:=d9 e;rw[x5 e2]
  have rel:∀ us,f9 ρ H vs us→m7 ρ H (qky f vs) (ZY f us):=fun us hv=>by
   unfold qky
   cases hd:S9 vs with
   | none=>exact ⟨_,rfl,hv⟩
   | some ds=>
     have:=JP hd;subst this;exact ⟨_,rfl,hv.toD⟩
  rcases hok with ⟨⟨⟨h1,h0⟩,h2⟩,h3⟩ | ⟨⟨h1,h2⟩,h3⟩
  ·subst h1;have hf:=Qb h2;subst hf;refine f8.pure ?_ hH (rel _ (qcm hE h3 e1));unfold execOp;simp only[hop,Instr.makeFunc,ZY,if_pos h0];have:Array.map a.eval cs=⟨cs.toList.map a.eval⟩:=Array.toList_inj.1 (by simp);rw[this];simp
  ·subst h1;have hf:=Qb h2;subst hf;refine f8.pure ?_ hH (rel _ (qcm hE h3 e1));unfold execOp;have h0:¬ g + fB < fB:=Nat.not_lt.2 (Nat.le_add_left ..);simp only[hop,Instr.makeFunc,ZY,if_neg h0,Nat.add_sub_cancel]
   have:Array.map a.eval first=⟨first.toList.map a.eval⟩:=Array.toList_inj.1 (by simp)
   rw[this];simp
 ·cases hok
def qon (s:Bool) (x:Opnd) (P:Program):Op→Bool
 | .call c=>(match c.callee with | .builtin .len=>true | _=>false) && (match c.args.toList,c.argTypes.toList with
   | [x'],t :: _=>okO x' x && (match P.underlying t with | some (.slice _)=>!s | some .string=>s | _=>false)
   | _,_=>false)
 | _=>false
theorem qf8 {x:V} {n:Nat} {v:Value} (hv:m7 ρ H x v) (e:lenOf x=some n):(kF x=true ∧ ∃ s:ByteArray,v = .string s∧s.size=n)∨(kF x=false ∧ ∃ a c,v = .slice a n c):=by
 unfold lenOf at e;split at e
 ·cases e; cases hv; exact .inr ⟨rfl,_,_,rfl⟩
 ·cases e;obtain ⟨a,c,rfl,_⟩:=hv;exact .inr ⟨rfl,a,c,rfl⟩
 ·cases e;obtain ⟨rfl,_⟩:=hv;exact .inl ⟨rfl,_,rfl,xU _⟩
 ·cases e;rename_i l sz off;have hv:H0 (ρ l) sz off n v:=hv
  cases hp:ρ l with
  | none=>rw[hp] at hv; exact hv.elim
  | dead=>rw[hp] at hv; obtain ⟨a,c,rfl,_⟩:=hv; exact .inr ⟨rfl,a,c,rfl⟩
  | virt s=>rw[hp] at hv; obtain ⟨_,_,rfl,rfl⟩:=hv; exact .inr ⟨rfl,_,_,rfl⟩
  | at_ b base s size=>rw[hp] at hv; obtain ⟨_,c,rfl,_⟩:=hv; exact .inr ⟨rfl,_,c,rfl⟩
  | lol b base s size inn=>rw[hp] at hv; obtain ⟨_,c,rfl,_⟩:=hv; exact .inr ⟨rfl,_,c,rfl⟩
  | blk q=>rw[hp] at hv; exact hv.elim
 ·cases e
theorem Q6.fits {x:D} {v:Value} (hv:Q6 H x v):jQ x=true:=by
 cases x with
 | sl xs=>obtain ⟨a,c,_,_,hl,_⟩:=hv; simpa [jQ] using hl
 | str s=>obtain ⟨_,hl⟩:=hv; simpa [jQ] using hl
 | _=>rfl
theorem B1.fits:∀ {xs:List D} {vs:List Value},B1 H xs vs→xs.all jQ=true
 | [],_,_=>rfl
 | x :: xs,_,k=>by
   obtain ⟨v,vs',rfl,k1,k2⟩:=k;simp[k1.fits,k2.fits]
theorem m7.fits {x:V} {v:Value} (hv:m7 ρ H x v):N6 x=true:=by
 cases x with
 | d x=>
   cases x with
   | agg cs=>obtain ⟨vs,_,k,_⟩:=hv; exact k.fits
   | _=>exact Q6.fits hv
 | ref l sz off len=>
   have hv:H0 (ρ l) sz off len v:=hv
   cases hp:ρ l with
   | none=>rw[hp] at hv; exact hv.elim
   | dead=>rw[hp] at hv; obtain ⟨a,c,rfl,h1,_⟩:=hv; simpa [N6] using h1
   | virt s=>rw[hp] at hv; obtain ⟨_,_,rfl,rfl⟩:=hv; simp[N6]
   | at_ b base s size=>
     rw[hp] at hv;obtain ⟨_,c,rfl,h1,h2,_⟩:=hv;have:=Nat.mul_le_mul_right sz.w h1;simp only[N6,decide_eq_true_eq];omega
   | lol b base s size inn=>
     rw[hp] at hv;obtain ⟨_,c,rfl,h1,h2,_⟩:=hv;have:=Nat.mul_le_mul_right sz.w h1;simp only[N6,decide_eq_true_eq];omega
   | blk q=>rw[hp] at hv; exact hv.elim
 | _=>rfl
theorem zg6 {s x} (hH:HRel ρ H h w) (hE:EnvRel B ds fx ρ H N env a) (hok:qon s x P o.op=true) (e:j4 T cf i (.len s x) (evO env) h=some r):f8 P o a w ρ H h i r:=by
 unfold qon at hok;split at hok
 ·rename_i c hop;simp only[Bool.and_eq_true] at hok;obtain ⟨h1,h2⟩:=hok;split at h1
  ·rename_i hc;split at h2
   ·rename_i x' t ts ha ht;simp only[Bool.and_eq_true] at h2;obtain ⟨h3,h4⟩:=h2;obtain ⟨v,e1,e2⟩:=d9 e
    have hs:kF v=s:=by
     cases hb:(kF v == s) with
     | true=>simpa using hb
     | false=>rw[hb] at e2; cases e2
    simp only[hs,beq_self_eq_true,j6] at e2;obtain ⟨n,e3,e4⟩:=d9 e2;have hx:=j9 hE h3 e1;rw[hx.fits] at e4;rw[x5 e4];have ha':c.args = #[x']:=Array.toList_inj.1 ha
    have ht':c.argTypes[0]? = some t:=by rw[← Array.getElem?_toList,ht]; rfl
    refine f8.pure (x:=.d (.int .i64 n)) (v:=.int .i64 n) ?_ hH rfl;unfold execOp;simp only[hop,resolve,hc,ha',invoke,builtin]
    have hlen:(Builtin.len_ c.argTypes o.type #[a.eval x']).run P w = .ok (.int .i64 n) w:=by
     simp only[Builtin.len_,ht'];split at h4
     ·rename_i el hu;rcases qf8 hx e3 with ⟨h7,s',h5,h6⟩ | ⟨h7,b,c',h5⟩
      ·rw[← hs,h7] at h4; cases h4
      ·rw[h5];simp only[List.getElem?_toArray,List.getElem?_cons_zero,Sem.run_bind,run_underlying hu,Result.andThen_ok];rfl
     ·rename_i hu;rcases qf8 hx e3 with ⟨h7,s',h5,h6⟩ | ⟨h7,b,c',h5⟩
      ·rw[h5];simp only[List.getElem?_toArray,List.getElem?_cons_zero,Sem.run_bind,run_underlying hu,Result.andThen_ok];subst h6;rfl
      ·rw[← hs,h7] at h4; cases h4
     ·cases h4
    rw[Sem.run_bind];show Result.andThen (.ok _ w) _=_;rw[Result.andThen_ok];simp only[List.map_toArray,List.map_cons,List.map_nil];rw[Sem.run_bind,hlen];rfl
   ·cases h2
  ·cases h1
 ·cases hok
end
end Go.Rf

namespace Go.Rf
variable {B:Ice} {ds:List Deferred} {fx:List (Nat × Value)}
section
variable {P:Program} {T:Tab} {cf:CF} {o:Oper} {a:Act} {w:World} {ρ:Map} {H:Ice} {h:Loc→Option Obj} {i N:Nat} {env:List (Nat × V)} {r:R}
def Kv (x:Opnd) (k:Nat):Op→Bool
 | .extract x' k'=>okO x' x && decide (k'=k)
 | _=>false
theorem qsa {x k} (hH:HRel ρ H h w) (hE:EnvRel B ds fx ρ H N env a) (hok:Kv x k o.op=true) (e:j4 T cf i (.extract x k) (evO env) h=some r):f8 P o a w ρ H h i r:=by
 unfold Kv at hok;split at hok
 ·rename_i x' k' hop;simp only[Bool.and_eq_true,decide_eq_true_eq] at hok;obtain ⟨h1,h2⟩:=hok;subst h2;simp only[j4] at e;split at e
  ·rename_i vs e1;obtain ⟨v,e2,e3⟩:=d9 e;rw[x5 e3];obtain ⟨us,hx,hv⟩:=j9 hE h1 e1;obtain ⟨u,hu,hr⟩:=hv.get e2;refine f8.pure (v:=u) ?_ hH hr;unfold execOp
   have:(⟨us⟩:Array Value)[k']? = some u:=by simpa using hu
   simp only[hop,hx,Instr.extract,this];rfl
  ·cases e
 ·cases hok
def qhp (t:TypeId) (ok:Bool) (z:D) (x:Opnd) (P:Program):Op→Bool
 | .typeAssert x' _ t' ok'=>okO x' x && decide (t'=t) && decide (ok'=ok) && (!ok || V2 P t z) &&
   (match P.underlying t with | some (.interface _)=>false | some _=>true | none=>false)
 | _=>false
theorem XU {x y:V} {t:TypeId} {v:Value} (hv:m7 ρ H x v) (e:Q9 x=some (t,y)):∃ u,v = .iface t u∧m7 ρ H y u:=by
 unfold Q9 at e;split at e
 ·cases e; obtain ⟨u,rfl,k⟩:=hv; exact ⟨u,rfl,k⟩
 ·cases e; obtain ⟨u,rfl,k⟩:=hv; exact ⟨u,rfl,k⟩
 ·cases e
theorem q53 {t ok z x} (hH:HRel ρ H h w) (hE:EnvRel B ds fx ρ H N env a) (hok:qhp t ok z x P o.op=true) (e:j4 T cf i (.tass t ok z x) (evO env) h=some r):f8 P o a w ρ H h i r:=by
 unfold qhp at hok;split at hok
 ·rename_i x' xt t' ok' hop;simp only[Bool.and_eq_true,decide_eq_true_eq] at hok;obtain ⟨⟨⟨⟨h1,h2⟩,h3⟩,h4⟩,h5⟩:=hok;subst h2 h3;obtain ⟨v,e1,e2⟩:=d9 e;have hx:=j9 hE h1 e1
  obtain ⟨d,hu,hd⟩:∃ d,P.underlying t'=some d ∧ ∀ ms,d ≠ .interface ms:=by
   cases hu:P.underlying t' with
   | none=>rw[hu] at h5; cases h5
   | some d=>
     refine ⟨d,rfl,fun ms he=>?_⟩;rw[hu,he] at h5;cases h5
  have hz:ok'=true→∃ u,(zeroValue t').run P w = .ok u w ∧ ∀ H,Q6 H z u:=fun hk=>by
   subst hk;exact V2.run (by simpa using h4) w
  split at e2
  ·rename_i t2 y hi;obtain ⟨u,hu2,hr⟩:=XU hx hi;split at e2
   ·rename_i ht;subst ht;rw[x5 e2];refine f8.pure (v:=if ok' then .tuple #[u,.bool true] else u) ?_ hH ?_
    ·unfold execOp;simp only[hop,hu2,Instr.typeAssert];rw[Sem.run_bind,Sem.run_bind,run_underlying hu,Result.andThen_ok]
     cases d <;> first | exact absurd rfl (hd _) | (simp; done)
    ·cases ok'
     ·exact hr
     ·exact ⟨_,rfl,_,_,rfl,hr,_,_,rfl,rfl,rfl⟩
   ·rename_i ht;split at e2
    ·rename_i hk;subst hk;rw[x5 e2];obtain ⟨u0,hz1,hz2⟩:=hz rfl;refine f8.pure (x:=.tup [.d z,.d (.bool false)]) (v:=.tuple #[u0,.bool false]) ?_ hH ⟨_,rfl,_,_,rfl,hz2 H,_,_,rfl,rfl,rfl⟩;unfold execOp;simp only[hop,hu2,Instr.typeAssert];rw[Sem.run_bind,Sem.run_bind,run_underlying hu,Result.andThen_ok]
     cases d <;> first | exact absurd rfl (hd _) | (simp[ht,hz1]; done)
    ·cases e2
  ·split at e2
   ·rename_i hk;rw[x5 e2];obtain ⟨u0,hz1,hz2⟩:=hz rfl;have hx:a.eval x' = .nilIface:=hx;refine f8.pure (x:=.tup [.d z,.d (.bool false)]) (v:=.tuple #[u0,.bool false]) ?_ hH ⟨_,rfl,_,_,rfl,hz2 H,_,_,rfl,rfl,rfl⟩;unfold execOp;simp only[hop,hx,Instr.typeAssert];rw[Sem.run_bind,Sem.run_bind,run_underlying hu,Result.andThen_ok]
    cases d <;> first | exact absurd rfl (hd _) | (simp[hz1]; done)
   ·cases e2
 ·cases hok
def qv4 (x y:Opnd):Op→Bool
 | .call c=>(match c.callee with | .builtin .max=>true | _=>false) && (match c.args.toList with
   | [x',y']=>okO x' x && okO y' y
   | _=>false)
 | _=>false
theorem s_mx {x y} (hH:HRel ρ H h w) (hE:EnvRel B ds fx ρ H N env a) (hok:qv4 x y o.op=true) (e:j4 T cf i (.mx x y) (evO env) h=some r):f8 P o a w ρ H h i r:=by
 unfold qv4 at hok;split at hok
 ·rename_i c hop;simp only[Bool.and_eq_true] at hok;obtain ⟨h1,h2⟩:=hok;split at h1
  ·rename_i hc;split at h2
   ·rename_i x' y' ha;simp only[Bool.and_eq_true] at h2;obtain ⟨h3,h4⟩:=h2;simp only[j4] at e;split at e
    ·rename_i k m k' n e1 e2;split at e
     ·rename_i hk;subst hk;rw[x5 e];have hx:a.eval x' = .int k m:=j9 hE h3 e1;have hy:a.eval y' = .int k n:=j9 hE h4 e2;have ha':c.args = #[x',y']:=Array.toList_inj.1 ha;refine f8.pure (x:=.d (.int k (if n > m then n else m))) (v:=.int k (if n > m then n else m)) ?_ hH rfl;unfold execOp;simp only[hop,resolve,hc,ha',invoke,builtin];rw[Sem.run_bind];show Result.andThen (.ok _ w) _=_;rw[Result.andThen_ok];simp only[List.map_toArray,List.map_cons,List.map_nil,hx,hy];simp[Builtin.max_,Builtin.max2]
     ·cases e
    ·cases e
   ·cases h2
  ·cases h1
 ·cases hok
def qcc (x:Opnd):Op→Bool
 | .nilCheck x'=>okO x' x
 | _=>false
theorem M4.some {p e j v} (k:M4 p e j v):∃ q,v = .pointer (some q):=by
 cases p with
 | none=>exact k.elim
 | dead=>exact k
 | virt s=>exact k.elim
 | at_ b base s size=>exact ⟨_,k⟩
 | lol b base s size inn=>exact ⟨_,k⟩
 | blk r=>exact k.elim
theorem qzk {x} (hH:HRel ρ H h w) (hE:EnvRel B ds fx ρ H N env a) (hok:qcc x o.op=true) (e:j4 T cf i (.nilCk x) (evO env) h=some r):f8 P o a w ρ H h i r:=by
 unfold qcc at hok;split at hok
 ·rename_i x' hop;simp only[j4] at e;split at e
  ·rename_i y e1;rw[x5 e];have hx:=j9 hE hok e1;obtain ⟨b,off,u,hv,_⟩:=id hx;refine f8.pure (v:=a.eval x') ?_ hH hx;unfold execOp;simp only[hop,hv];rfl
  ·rename_i l e' j e1;rw[x5 e];have hx:=j9 hE hok e1;obtain ⟨q,hv⟩:=M4.some (show M4 (ρ l) e' j _ from hx);refine f8.pure (v:=a.eval x') ?_ hH hx;unfold execOp;simp only[hop,hv];rfl
  ·cases e
 ·cases hok
def qcb (x:Opnd):Op→Bool
 | .panic x'=>okO x' x
 | _=>false
theorem qzj {x} (hH:HRel ρ H h w) (hE:EnvRel B ds fx ρ H N env a) (hok:qcb x o.op=true) (e:j4 T cf i (.panic x) (evO env) h=some r):f8 P o a w ρ H h i r:=by
 unfold qcb at hok;split at hok
 ·rename_i x' hop;obtain ⟨v,e1,e2⟩:=d9 e;split at e2
  ·rename_i ty hi;cases e2;obtain ⟨t,y⟩:=ty;have hx:=j9 hE hok e1;obtain ⟨u,hu,_⟩:=XU hx hi;intro K Q hk;refine .inl ?_;unfold Oper.wp
   have hrun:(execOp a.eval o).run P w = .halt (.panic (a.eval x')) w:=by
    unfold execOp;simp only[hop,hu,Instr.panic];rfl
   rw[hrun];exact hk _ _ _ _ (Post.pure hH hx [])
  ·cases e2
 ·cases hok
end
end Go.Rf

namespace Go.Rf
variable {B:Ice} {ds:List Deferred} {fx:List (Nat × Value)}
section
variable {P:Program} {T:Tab} {cf:CF} {o:Oper} {a:Act} {w:World} {ρ:Map} {H:Ice} {h:Loc→Option Obj} {i N:Nat} {env:List (Nat × V)} {r:R}
def ZB (P:Program) (t k off n:Nat) (ag:Bool):Bool:=match P.underlying t with
 | some (.struct fs)=>match fs[k]? with
   | some f=>decide (f.offset=off) && Qi P f.type n ag
   | none=>false
 | _=>false
theorem ZB.get {t k off n ag} (hf:ZB P t k off n ag=true):∃ fs f,P.underlying t=some (.struct fs)∧fs[k]? = some f∧f.offset=off∧Qi P f.type n ag=true:=by
 unfold ZB at hf;split at hf
 ·rename_i fs hu;split at hf
  ·rename_i f hk;simp only[Bool.and_eq_true,decide_eq_true_eq] at hf;exact ⟨fs,f,hu,hk,hf.1,hf.2⟩
  ·cases hf
 ·cases hf
theorem Yc (t off n:Nat) (ag:Bool) (ht:Qi P t n ag=true) (cs:List Value) (v:Value)
 (h1:ag=true→off + n≤cs.length∧v = .agg ⟨(cs.drop off).take n⟩) (h2:ag=false→cs[off]? = some v):(Go.part t ⟨cs⟩ off).run P w = .ok v w:=by
 unfold Go.part;rw[Sem.run_bind,Qi.isAgg ht,Result.andThen_ok]
 cases ag with
 | true=>
   obtain ⟨h3,rfl⟩:=h1 rfl;simp only[if_true,Sem.run_bind,qM.run (Qi.size ht),Result.andThen_ok,Sem.run_pure]
   congr 2
   apply Array.toList_inj.1;rw[Array.toList_extract];simp only[List.extract]
   have:off + n - off=n:=by omega
   rw[this]
 | false=>
   have:(⟨cs⟩:Array Value)[off]? = some v:=by simpa using h2 rfl
   simp only[Bool.false_eq_true,if_false,this];rfl
def qce (off n:Nat) (ag:Bool) (x:Opnd) (P:Program):Op→Bool
 | .field t x' k=>okO x' x && ZB P t k off n ag
 | _=>false
theorem qzo {off n ag x} (hH:HRel ρ H h w) (hE:EnvRel B ds fx ρ H N env a) (hok:qce off n ag x P o.op=true) (e:j4 T cf i (.field off n ag x) (evO env) h=some r):f8 P o a w ρ H h i r:=by
 unfold qce at hok;split at hok
 ·rename_i t x' k hop;simp only[Bool.and_eq_true] at hok;obtain ⟨h1,h2⟩:=hok;obtain ⟨v,e1,e2⟩:=d9 e;have hx:=j9 hE h1 e1;obtain ⟨fs,f,hu,hk,rfl,ht⟩:=ZB.get h2;split at e2
  ·rename_i hag;obtain ⟨y,e3,e4⟩:=d9 e2;rw[x5 e4]
   have hsol:jR v=true:=by cases v <;> first | rfl | cases hag
   obtain ⟨p1,p2,_⟩:=Yg hx hsol e3
   obtain ⟨vs,hv⟩:∃ vs,a.eval x' = .agg ⟨vs⟩:=by
    unfold Rf.isAgg at hag;split at hag
    ·obtain ⟨vs,hv,_⟩:=hx; exact ⟨vs,hv⟩
    ·obtain ⟨vs,hv,_⟩:=hx; exact ⟨vs,hv⟩
    ·cases hag
   rw[hv] at p1 p2
   have run:∀ u,(Go.part f.type ⟨vs⟩ f.offset).run P w = .ok u w→(execOp a.eval o).run P w = .ok (.value u) w:=fun u hr=>by
    unfold execOp;simp only[hop,hv,Instr.field,Sem.run_bind,run_underlying hu,Result.andThen_ok,hk];show Result.andThen (Result.andThen (.ok _ w) _) _=_;rw[Result.andThen_ok,hr];rfl
   cases ag with
   | true=>
     obtain ⟨q1,q2⟩:=p1 rfl;exact f8.pure (run _ (Yc f.type f.offset n true ht vs _ (fun _=>⟨by simpa [Value.cells] using q1,rfl⟩) (fun h=>by cases h))) hH q2
   | false=>
     obtain ⟨u,q1,q2,_⟩:=p2 rfl;exact f8.pure (run u (Yc f.type f.offset n false ht vs _ (fun h=>by cases h) (fun _=>q1))) hH q2
  ·cases e2
 ·cases hok
def Ws (off n:Nat) (ag:Bool) (x:Opnd) (P:Program):Op→Bool
 | .fieldAddr t x' k=>okO x' x && ZB P t k off n ag && decide (n≠0)
 | _=>false
theorem qu7 {off n ag x} (hH:HRel ρ H h w) (hE:EnvRel B ds fx ρ H N env a) (hok:Ws off n ag x P o.op=true) (e:j4 T cf i (.fieldA off n ag x) (evO env) h=some r):f8 P o a w ρ H h i r:=by
 unfold Ws at hok;split at hok
 ·rename_i t x' k hop;simp only[Bool.and_eq_true,decide_eq_true_eq] at hok;obtain ⟨⟨h1,h2⟩,h3⟩:=hok;obtain ⟨fs,f,hu,hk,rfl,ht⟩:=ZB.get h2
  have run:∀ q,a.eval x' = .pointer (some q)→(execOp a.eval o).run P w = .ok (.value (.pointer (some (q.add f.offset)))) w:=fun q hq=>by
   unfold execOp;simp only[hop,hq,Instr.fieldAt,Instr.sureAddr,fieldPlace,Sem.run_bind,run_underlying hu,Result.andThen_ok,hk,Sem.run_pure];have:(sizeOf f.type).run P w = .ok n w:=qM.run (Qi.size ht) w;simp[this,h3]
  simp only[j4] at e;split at e
  ·rename_i y e1;obtain ⟨v,e3,e4⟩:=d9 e;obtain ⟨b,o',u,hv,hu',hc⟩:=j9 hE h1 e1
   cases v with
   | d z=>
     rw[x5 e4];obtain ⟨p1,p2,_⟩:=Yg (ρ:=ρ) (x:=.d y) hu' rfl e3;refine f8.pure (run _ hv) hH ?_;rw[zM]
     cases ag with
     | true=>
       obtain ⟨q1,q2⟩:=p1 rfl;refine ⟨b,o' + f.offset,_,rfl,q2,fun j v hj=>?_⟩;simp only[Value.cells] at hj;rw[List.getElem?_take] at hj;split at hj
       ·rw[List.getElem?_drop] at hj;have:=hc _ _ hj
        rwa [← Nat.add_assoc] at this
       ·cases hj
     | false=>
       obtain ⟨u',q1,q2,q3⟩:=p2 rfl;refine ⟨b,o' + f.offset,_,rfl,q2,fun j v hj=>?_⟩;rw[v7 (m7.one (ρ:=ρ) (x:=.d z) q2 q3)] at hj
       cases j with
       | zero=>simp at hj; subst hj; exact hc _ _ q1
       | succ j=>simp at hj
   | _=>cases e4
  ·rename_i l e' j e1;rw[x5 e];have hx:M4 (ρ l) e' j (a.eval x'):=j9 hE h1 e1;obtain ⟨q,hv⟩:=M4.some hx;refine f8.pure (x:=.ptr l e' (j + f.offset)) (run _ hv) hH (?_:M4 (ρ l) e' (j + f.offset) _)
   cases hp:ρ l with
   | dead=>exact ⟨_,rfl⟩
   | at_ b base s size=>
     rw[hp,hv] at hx;cases hx;show Value.pointer _=_;rw[zM,Nat.add_assoc]
   | lol b base s size inn=>
     rw[hp,hv] at hx;cases hx;show Value.pointer _=_;rw[zM,Nat.add_assoc]
   | _=>rw[hp] at hx; exact hx.elim
  ·cases e
 ·cases hok
theorem xF {x:V} {n:Nat} {v:Value} (hv:m7 ρ H x v) (e:vQ x=some n):∃ k,v = .int k (n:Int):=by
 unfold vQ at e;split at e
 ·rename_i k m;split at e
  ·rename_i hm;cases e;have hv:v = .int k m:=hv;exact ⟨k,by rw[hv,Int.toNat_of_nonneg hm]⟩
  ·cases e
 ·cases e
def qhu (x k:Opnd) (P:Program):Op→Bool
 | .index t x' k'=>okO x' x && okO k' k && (match P.underlying t with | some .string=>true | _=>false)
 | _=>false
theorem q59 {x k} (hH:HRel ρ H h w) (hE:EnvRel B ds fx ρ H N env a) (hok:qhu x k P o.op=true) (e:j4 T cf i (.idxS x k) (evO env) h=some r):f8 P o a w ρ H h i r:=by
 unfold qhu at hok;split at hok
 ·rename_i t x' k' hop;simp only[Bool.and_eq_true] at hok;obtain ⟨⟨h1,h2⟩,h3⟩:=hok
  have hu:P.underlying t=some .string:=by
   split at h3
   ·assumption
   ·cases h3
  obtain ⟨v,e1,e2⟩:=d9 e;obtain ⟨m,e3,e4⟩:=d9 e2;have hx:=j9 hE h1 e1;have hk:=j9 hE h2 e3;split at e4
  ·rename_i s j hj;obtain ⟨kk,hk'⟩:=xF hk hj;split at e4
   ·rename_i b hb;rw[x5 e4];obtain ⟨hs,_⟩:=(hx:a.eval x' = .string ⟨s.toArray⟩∧s.length≤long);refine f8.pure (x:=.d (.int .u8 b.toNat)) (v:=.int .u8 b.toNat) ?_ hH rfl;unfold execOp
    have hg:(⟨s.toArray⟩:ByteArray)[j]? = some b:=by
     have hlt:=(List.getElem?_eq_some_iff.1 hb);obtain ⟨hl,hbb⟩:=hlt;rw[getElem?_pos _ _ (by rw[xU]; exact hl)];simp[ByteArray.getElem_eq_getElem_data,hbb]
    simp only[hop,hs,hk',Instr.index,asIntOf,Sem.run_bind,Sem.run_pure,run_underlying hu,Result.andThen_ok]
    have:(0:Int)≤(j:Int):=by omega
    simp[this,hg]
   ·cases e4
  ·cases e4
 ·cases hok
end
end Go.Rf
