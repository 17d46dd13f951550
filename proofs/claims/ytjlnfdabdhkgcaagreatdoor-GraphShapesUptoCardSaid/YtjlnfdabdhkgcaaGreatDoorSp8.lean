/- Parts of the proof: SpA4, SpA5, SpA6, SpR7, SpA7, SpA8, SpC4, SpC5, SpC6, SpS1, SpC8, SpK1, SpM4, SpM5. -/
import Derived.Test.YtjlnfdabdhkgcaaGreatDoorRb2
import Derived.Test.YtjlnfdabdhkgcaaGreatDoorSp7
import Derived.Test.YtjlnfdabdhkgcaaGreatDoorSp6

set_option linter.unusedSimpArgs false
set_option linter.unusedVariables false
set_option linter.unnecessarySimpa false
set_option linter.unusedSectionVars false
set_option linter.all false
namespace Go.Rf
@[simp] theorem qyu:(T9=qK)=False:=eq_false (by decide)
@[simp] theorem quj:(T9=X9)=False:=eq_false (by decide)
@[simp] theorem qy5:(T9=xD)=False:=eq_false (by decide)
@[simp] theorem qyv:(qK=T9)=False:=eq_false (by decide)
@[simp] theorem qy6:(qK=X9)=False:=eq_false (by decide)
@[simp] theorem q5d:(qK=xD)=False:=eq_false (by decide)
@[simp] theorem quk:(X9=T9)=False:=eq_false (by decide)
@[simp] theorem qy7:(X9=qK)=False:=eq_false (by decide)
@[simp] theorem q17:(X9=xD)=False:=eq_false (by decide)
@[simp] theorem qy4:(xD=T9)=False:=eq_false (by decide)
@[simp] theorem q5c:(xD=qK)=False:=eq_false (by decide)
@[simp] theorem q16:(xD=X9)=False:=eq_false (by decide)
@[simp] theorem fitV_nd (x:Nd):N6 (.d x.d)=true:=by cases x <;> rfl
theorem qbq {n w:Nat} {f:List Int} (h:f=[]∨Sh n w f) (hn:n≤16) (hw:w < 134217728):f.length≤1000 ∧ ∀ i,i < f.length→nl (nth f i) < 1073741824:=by
 rcases h with h | h
 ·subst h;exact ⟨by simp,fun i hi=>by simp at hi⟩
 ·have:=h.l;refine ⟨by omega,fun i hi=>?_⟩;have:=h.b i (by omega);omega
theorem qxf (n:Nat) (hn:n≤16) (k:Int) (hw:nl k < 134217728):d5 T0 X0 S8 [.d (Nd.num k).d,.d (.int .i64 n)] []=some (.ret [.d (.sl (WL (r9 n (.num k)).1)),.d (.bool (r9 n (.num k)).2)] []):=by
 have s1:=Zb (m:=k) (by omega)
 have ht:∀ v:Int,((List.replicate (n + 1) 0).set n v).take (n + 1)=(List.replicate (n + 1) 0).set n v:=fun v=>List.take_of_length_le (by simp)
 have hg1:(WV (List.replicate (n + 1) 0))[n]? = some (.d (Wd 0)):=by rw[qea (by simp),qh1]
 rw[a8 (af:=L4) rfl rfl rfl];simp only[Nd.d,r9];simp -implicitDefEqProofs (disch:=omega) [L4,s1,ht,hg1]
theorem qs0 (n:Nat) (hn:n≤16) (v:Nat) (s:List UInt8) (hv:v < n) (hs:s.length≤1100000):d5 T0 X0 S8 [.d (Nd.name v s).d,.d (.int .i64 n)] []=some (.ret [.d (.sl (WL (r9 n (.name v s)).1)),.d (.bool (r9 n (.name v s)).2)] []):=by
 have s1:=Xj (n:=1) (by omega)
 have ht:∀ k (w:Int),((List.replicate (n + 1) 0).set k w).take (n + 1)=(List.replicate (n + 1) 0).set k w:=fun k w=>List.take_of_length_le (by simp)
 have hg1:(WV (List.replicate (n + 1) 0))[v]? = some (.d (Wd 0)):=by rw[qea (by simp; omega),qh1]
 rw[a8 (af:=L4) rfl rfl rfl];simp only[Nd.d,r9,Int.toNat_natCast];simp -implicitDefEqProofs (disch:=omega) [L4,s1,ht,hg1]
theorem qpb (n:Nat) (hn:n≤16) (x:Nd) (hx:x.fine n) (hw:x.w < 134217728) (ih:d5 T0 X0 S8 [.d x.d,.d (.int .i64 n)] []=some (.ret [.d (.sl (WL (r9 n x).1)),.d (.bool (r9 n x).2)] [])) :
 d5 T0 X0 S8 [.d (Nd.minus x).d,.d (.int .i64 n)] []=some (.ret [.d (.sl (WL (r9 n (.minus x)).1)),.d (.bool (r9 n (.minus x)).2)] []):=by
 have s1:=Xj (n:=-1) (by omega);obtain ⟨t1,t2⟩:=qbq ((kr n x hx).imp And.left id) hn hw;have s2:=Zf (f:=(r9 n x).1) (k:=-1) t1 (by decide) t2;rw[a8 (af:=L4) rfl rfl rfl];simp only[Nd.d,r9];generalize (r9 n x).1.map (· * -1)=g at *;simp -implicitDefEqProofs (disch:=omega) [L4,s1,s2,ih]
theorem qxe (n:Nat) (hn:n≤16) (op:Int) (x y:Nd) (hx:x.fine n) (hy:y.fine n) (hw:x.w + y.w < 134217728) (ih:d5 T0 X0 S8 [.d x.d,.d (.int .i64 n)] []=some (.ret [.d (.sl (WL (r9 n x).1)),.d (.bool (r9 n x).2)] []))
 (ih2:d5 T0 X0 S8 [.d y.d,.d (.int .i64 n)] []=some (.ret [.d (.sl (WL (r9 n y).1)),.d (.bool (r9 n y).2)] [])) :
 d5 T0 X0 S8 [.d (Nd.two op x y).d,.d (.int .i64 n)] []=some (.ret [.d (.sl (WL (r9 n (.two op x y)).1)),.d (.bool (r9 n (.two op x y)).2)] []):=by
 have f1:=kr n x hx;have f2:=kr n y hy;rw[a8 (af:=L4) rfl rfl rfl];simp only[Nd.d,r9];generalize r9 n x=fx at *;generalize r9 n y=fy at *;obtain ⟨fx,b1⟩:=fx;obtain ⟨fy,b2⟩:=fy;simp only[] at *;obtain ⟨t1,t2⟩:=qbq (f1.imp And.left id) hn (by omega);obtain ⟨t3,t4⟩:=qbq (f2.imp And.left id) hn (by omega)
 by_cases hb:b1=true∧b2=true
 ·rw[if_pos hb];obtain ⟨rfl,rfl⟩:=hb
  have f1:Sh n x.w fx:=by rcases f1 with ⟨_,h⟩ | h; cases h; exact h
  have f2:Sh n y.w fy:=by rcases f2 with ⟨_,h⟩ | h; cases h; exact h
  have s1:=qtl (op:=op) (l:=fx) (r:=fy) (N:=n + 1) (by omega) (by omega) f1.l f2.l (fun i hi=>by have:=f1.b i hi; omega) (fun i hi=>by have:=f2.b i hi; omega);generalize YW op fx fy=z at *;obtain ⟨z,b3⟩:=z;simp -implicitDefEqProofs (disch:=omega) [L4,s1,ih,ih2]
 ·rw[if_neg hb]
  cases b1 <;> cases b2 <;> simp at hb <;> simp -implicitDefEqProofs (disch:=omega) [L4,ih,ih2]
theorem wM (n:Nat) (hn:n≤16):∀ x:Nd,x.fine n→x.w < 134217728→d5 T0 X0 S8 [.d x.d,.d (.int .i64 n)] []=some (.ret [.d (.sl (WL (r9 n x).1)),.d (.bool (r9 n x).2)] [])
 | .num k,_,hw=>qxf n hn k (by unfold Nd.w at hw; omega)
 | .name v s,h,_=>by
   obtain ⟨v,rfl⟩:=Int.eq_ofNat_of_zero_le h.1;exact qs0 n hn v s (by have:=h.2.1; omega) h.2.2
 | .minus x,h,hw=>qpb n hn x h hw (wM n hn x h hw)
 | .two op x y,h,hw=>by
   unfold Nd.w at hw;exact qxe n hn op x y h.2.1 h.2.2 hw (wM n hn x h.2.1 (by omega)) (wM n hn y h.2.2 (by omega))
end Go.Rf

namespace Go.Rf
abbrev RWh:=Bool × List Int
def Rw (w:RWh):D:=.agg [.bool w.1,.sl (L w.2)]
def rv (w:RWh):Int:=sg w.1 (nv w.2)
def RL (ws:List RWh):List D:=ws.map Rw
def rth (ws:List RWh) (i:Nat):RWh:=ws.getD i (false,[])
@[simp] theorem RL_len (l):(RL l).length=l.length:=by simp[RL]
theorem zbg {l:List RWh} {i:Nat} (h:i < l.length):(RL l)[i]? = some (Rw (rth l i)):=by simp[RL,rth,h]
attribute [simp] zbg
theorem q1x (l:List RWh):wl (RL l)≤32:=by
 induction l with
 | nil=>simp[RL,wl]
 | cons x xs ih=>
   show max (wt (Rw x)) (wl (RL xs))≤32;have:wt (Rw x)=25:=rfl;omega
@[simp] theorem wl_RL32 (l):(wl (RL l)≤32)=True:=eq_true (q1x l)
@[simp] theorem fit_RL {n:Nat} {l:List RWh} (h:n≤1099511627):(n * wl (RL l)≤A5)=True:=eq_true (Nat.le_trans (Nat.mul_le_mul h (q1x l)) (by unfold A5; omega))
@[simp] theorem zm7 (l):(∀ x∈RL l,x.cells.length=2)=True:=eq_true (by
  intro x hx;obtain ⟨n,_,rfl⟩:=List.mem_map.1 hx
  rfl)
@[simp] theorem zl5 (n):(Rw n).cells.length=2:=rfl
@[simp] theorem zbo (n):(V.cells (.d (Rw n))).length=2:=rfl
@[simp] theorem aggO_Rw (n):qd9 (List.take 2 (V.d (Rw n)).cells) (S9 (List.take 2 (V.d (Rw n)).cells)) = .d (Rw n):=rfl
@[simp] theorem zgr (n):List.take 2 (V.d (Rw n)).cells=(V.d (Rw n)).cells:=rfl
@[simp] theorem zmw (n):qd9 (V.d (Rw n)).cells (S9 (V.d (Rw n)).cells) = .d (Rw n):=rfl
theorem q04 {n:RWh} (h:n.2.length < 1099511627776):N6 (.d (Rw n))=true:=by
 have:wl (L n.2)≤4:=JT _;have h2:n.2.length * wl (L n.2)≤1099511627776 * 4:=Nat.mul_le_mul (Nat.le_of_lt h) this;simp[Rw,N6,jQ];unfold A5; omega
attribute [simp] q04
@[simp] theorem zjs (h n):S7 h 2 true (.d (.box (Rw n)))=val (.d (Rw n)):=by simp[Rw]
@[simp] theorem q50 (x:Int) (n):B6 (.d (Wd x)) 0 (.d (Rw n))=some (.d (Rw n)):=by simp[Wd,Rw,B6]
@[simp] theorem q5z (n:Int) (x):B6 (.d (Rw x)) 0 (.d (Wd n))=some (.d (Wd n)):=by simp[Wd,Rw,B6]
def ZZ (r:Int × Int):Int × Int:=if r.2=0 then (if 512 < nl r.1 then (0,2) else r) else (0,r.2)
def jT (st:Nat→Int):Nd→Int × Int
 | .num k=>(k,0)
 | .name v _=>(st v.toNat,0)
 | .minus x=>(-(ZZ (jT st x)).1,(ZZ (jT st x)).2)
 | .two op x y=>
   if (ZZ (jT st x)).2≠0 then ZZ (jT st x)
   else if (ZZ (jT st y)).2≠0 then ZZ (jT st y)
   else if op=43 then ((ZZ (jT st x)).1 + (ZZ (jT st y)).1,0)
   else if op=45 then ((ZZ (jT st x)).1 - (ZZ (jT st y)).1,0)
   else if op=42 then ((ZZ (jT st x)).1 * (ZZ (jT st y)).1,0)
   else if (ZZ (jT st y)).1=0 then (0,20)
   else if op=47 then ((ZZ (jT st x)).1 / (ZZ (jT st y)).1,0)
   else ((ZZ (jT st x)).1 % (ZZ (jT st y)).1,0)
def stV (ws:List RWh) (i:Nat):Int:=rv (rth ws i)
end Go.Rf

namespace Go.Rf
def zgt (f:List Int) (st:Nat→Int):Nat→Int
 | 0=>0
 | n + 1=>zgt f st n + nth f n * st n
end Go.Rf

namespace Go.Rf
theorem qq3 (T X p a st):x9 T X p a st=j0 T X p a (some (.nrm,st)):=rfl
section
variable (p:Nat) (res:List (ARes × Bool))
@[simp] theorem zh7 (k st):qho p res k (some (.nrm,st))=k st:=rfl
@[simp] theorem zh6 (k st):qho p res k (some (.ret,st))=qf p res st:=rfl
@[simp] theorem zka (env st):qln p res env (some (.nrm,st))=qf p res { env,heap:=st.heap }:=rfl
@[simp] theorem zj9 (env st):qln p res env (some (.ret,st))=qf p res { env,heap:=st.heap }:=rfl
@[simp] theorem zmj (k st):q1p k (some (.nrm,st))=k (.d .nili) st.heap:=rfl
@[simp] theorem zmh (k st):q1p k (some (.ret,st))=k (.d .nili) st.heap:=rfl
@[simp] theorem zmi (k t x st):q1p k (some (.pan (.d (.iface t x)),st))=k (.d (.iface t x)) st.heap:=rfl
end
def rd0 (ts:List Tok) (vs:List (List UInt8)):Rd:=⟨ts,0,vs,0,some (.sl (SL vs)),[]⟩
end Go.Rf

namespace Go.Rf
theorem qz3:∀ n m r e p r',rd n m r = .bad e p r'→e≠0:=by
 intro n
 induction n with
 | zero=>intro m r e p r' h; unfold rd at h; cases h; decide
 | succ n ih=>
   intro m r e p r' h
   have bnd:∀ (x:Rs) (f:Nd→Rd→Rs),(∀ e p r',x = .bad e p r'→e≠0)→(∀ y r e p r',f y r = .bad e p r'→e≠0)→x.bind f = .bad e p r'→e≠0:=by
    intro x f h1 h2 h3
    cases x with
    | ok y r=>exact h2 _ _ _ _ _ h3
    | bad e' p' r2=>cases h3; exact h1 _ _ _ rfl
   cases m with
   | u=>
     unfold rd at h;split at h
     ·exact bnd _ _ (ih _ _) (fun y r e p r' h=>by cases h) h
     split at h
     ·cases h
     split at h
     ·split at h
      ·cases h
      ·cases h; decide
     split at h
     ·rename_i e' he;cases h;unfold Rd.into at he;split at he
      ·split at he
       ·cases he
       ·cases he; decide
      ·cases he; decide
     ·refine bnd _ _ (ih _ _) (fun y r e p r' h=>?_) h;split at h
      ·cases h
      ·cases h; decide
   | p=>unfold rd at h; exact bnd _ _ (ih _ _) (fun y r=>ih _ _) h
   | s=>unfold rd at h; exact bnd _ _ (ih _ _) (fun y r=>ih _ _) h
   | lp x=>
     unfold rd at h;split at h
     ·exact bnd _ _ (ih _ _) (fun y r=>ih _ _) h
     split at h
     ·exact bnd _ _ (ih _ _) (fun y r=>ih _ _) h
     split at h
     ·exact bnd _ _ (ih _ _) (fun y r=>ih _ _) h
     cases h
   | ls x=>
     unfold rd at h;split at h
     ·exact bnd _ _ (ih _ _) (fun y r=>ih _ _) h
     split at h
     ·exact bnd _ _ (ih _ _) (fun y r=>ih _ _) h
     cases h
theorem q7a {s:List UInt8} (h:qJ s):nl (jO s) + 1≤457:=by
 have hn:=Jy h.1;have:(d6 (jO s)).length≤456:=o6 hn.1 (by have:=(wj 456).2; have:=h.1; omega);unfold nl;rw[Int.natAbs_of_nonneg hn.1];omega
def qec (r:Rd) (a:Nat):Rs→Prop
 | .ok x r'=>Kept r r'∧x.fine r.vs.length∧x.w + 457 * r.i≤a + 457 * r'.i
 | .bad _ _ _=>True
theorem qec.bind {r r0:Rd} {a c:Nat} {b:Rs} {f:Nd→Rd→Rs} (h:qec r0 a b) (g:∀ x r',Kept r0 r'→x.fine r0.vs.length→x.w + 457 * r0.i≤a + 457 * r'.i→qec r c (f x r')):qec r c (b.bind f):=by
 cases b with
 | bad e p r'=>trivial
 | ok x r'=>exact g x r' h.1 h.2.1 h.2.2
theorem qec.from {r r':Rd} {a c:Nat} {b:Rs} (h:qec r' c b) (k:Kept r r') (hw:c + 457 * r.i≤a + 457 * r'.i):qec r a b:=by
 cases b with
 | bad e p r2=>trivial
 | ok x r2=>
   obtain ⟨h1,h2,h3⟩:=h;exact ⟨k.trans h1,by rw[← k.vs]; exact h2,by omega⟩
def Md.w:Md→Nat
 | .lp x=>x.w
 | .ls x=>x.w
 | _=>0
def Md.fine (k:Nat):Md→Prop
 | .lp x=>x.fine k
 | .ls x=>x.fine k
 | _=>True
theorem qvm:∀ n m r,Rd.ok r→(∀ t∈r.ts,t.kind=2→qJ t.text)→m.fine r.vs.length→qec r m.w (rd n m r):=by
 intro n
 induction n with
 | zero=>intro m r _ _ _; trivial
 | succ n ih=>
   intro m r h hnum hm;have hno:=r.next_op;have kn:=Kept.next h
   have two:∀ (op:Int) (x:Nd) (md:Md) (m2:Nd→Md),(op=43∨op=45∨op=42∨op=47∨op=37)→r.tok.kind≠0→md.w=0→md.fine r.vs.length→x.fine r.vs.length→(∀ y,(m2 y).w=y.w ∧ ∀ k,y.fine k→(m2 y).fine k)→
    qec r x.w ((rd n md r.next).bind fun y r=>rd n (m2 (.two op x y)) r):=by
    intro op x md m2 hop hk h0 hf hx h2;have hi:=K6 hk;have a:=ih md r.next (Rd.next_ok h) (by rw[hno.2.1]; exact hnum) (by rw[hno.2.2]; exact hf);rw[h0] at a
    refine a.bind fun y r' k1 fy wy=>?_
    have k2:=kn.trans k1;have b:=ih (m2 (.two op x y)) r' k1.ok (by rw[k2.ts]; exact hnum) ((h2 _).2 _ (by rw[k2.vs]; exact ⟨hop,hx,by rw[← hno.2.2]; exact fy⟩));rw[(h2 _).1] at b;exact b.from k2 (by show x.w + y.w + _≤_; omega)
   have seq:∀ (md:Md) (m2:Nd→Md),md.w=0→md.fine r.vs.length→(∀ y,(m2 y).w=y.w ∧ ∀ k,y.fine k→(m2 y).fine k)→qec r 0 ((rd n md r).bind fun y r=>rd n (m2 y) r):=by
    intro md m2 h0 hf h2;have a:=ih md r h hnum hf;rw[h0] at a
    refine a.bind fun y r' k1 fy wy=>?_
    have b:=ih (m2 y) r' k1.ok (by rw[k1.ts]; exact hnum) ((h2 _).2 _ (by rw[k1.vs]; exact fy));rw[(h2 _).1] at b;exact b.from k1 (by omega)
   have self:∀ x:Nd,x.fine r.vs.length→qec r x.w (.ok x r):=fun x hx=>⟨Kept.refl h,hx,Nat.le_refl _⟩
   cases m with
   | p=>unfold rd; exact seq .u .lp rfl trivial (fun _=>⟨rfl,fun _ h=>h⟩)
   | s=>unfold rd; exact seq .p .ls rfl trivial (fun _=>⟨rfl,fun _ h=>h⟩)
   | lp x=>
     unfold rd;split
     ·rename_i c; exact two 42 x .u .lp (by omega) (A8 c) rfl trivial hm (fun _=>⟨rfl,fun _ h=>h⟩)
     split
     ·rename_i c; exact two 47 x .u .lp (by omega) (A8 c) rfl trivial hm (fun _=>⟨rfl,fun _ h=>h⟩)
     split
     ·rename_i c; exact two 37 x .u .lp (by omega) (A8 c) rfl trivial hm (fun _=>⟨rfl,fun _ h=>h⟩)
     exact self x hm
   | ls x=>
     unfold rd;split
     ·rename_i c; exact two 43 x .p .ls (by omega) (A8 c) rfl trivial hm (fun _=>⟨rfl,fun _ h=>h⟩)
     split
     ·rename_i c; exact two 45 x .p .ls (by omega) (A8 c) rfl trivial hm (fun _=>⟨rfl,fun _ h=>h⟩)
     exact self x hm
   | u=>
     unfold rd;split
     ·rename_i c;have hi:=K6 (A8 c);have a:=ih .u r.next (Rd.next_ok h) (by rw[hno.2.1]; exact hnum) trivial
      refine a.bind fun y r' k1 fy wy=>?_
      refine ⟨kn.trans k1,by rw[← hno.2.2]; exact fy,?_⟩;show y.w + _≤_;have:Md.w .u=0:=rfl;omega
     split
     ·rename_i c;have hi:=K6 (r:=r) (by omega);have:=q7a (hnum _ (Ze h) c);refine ⟨kn,trivial,?_⟩;show nl _ + 1 + _≤0 + _;omega
     split
     ·rename_i c
      have hk:r.tok.kind=1:=by
       unfold Rd.isName at c;simp only[Bool.and_eq_true,decide_eq_true_eq] at c;exact c.1
      have hi:=K6 (r:=r) (by omega);split
      ·rename_i c2;have hv:=qa4 r.vs r.tok.text r.vs.length 0 (by omega);refine ⟨kn,⟨c2,by unfold Rd.var; omega,X8 h⟩,?_⟩;show 1 + _≤0 + _;omega
      ·trivial
     split
     ·trivial
     ·rename_i hin
      have hop:r.op < 16:=by
       unfold Rd.into at hin;split at hin
       ·split at hin
        ·assumption
        ·cases hin
       ·cases hin
      have ho:=Rd.opened_ok h hop;have kn2:=Kept.next ho;have hno2:=r.opened.next_op;have a:=ih .s r.opened.next (Rd.next_ok ho) (by rw[hno2.2.1]; exact hnum) trivial
      refine a.bind fun y r' k1 fy wy=>?_
      have k3:=kn2.trans k1;split
      ·have kn4:=Kept.next k3.ok
       have hpos:0 < r'.next.op:=by
        rw[kn4.op,k3.op];have:=h.op;show 0 < r.op + 1;omega
       have hi4:=kn4.i;have hi5:r.i≤r.opened.next.i:=kn2.i;have hi6:=k1.i;refine ⟨⟨Rd.closed_ok kn4.ok hpos,?_,?_,?_,?_,kn4.ly.trans k3.ly,kn4.ms.trans k3.ms⟩,?_,?_⟩
       ·exact kn4.ts.trans k3.ts
       ·exact kn4.vs.trans k3.vs
       ·show r'.next.op - 1=r.op;rw[kn4.op,k3.op];show r.op + 1 - 1=r.op;omega
       ·show r.i≤r'.next.i;omega
       ·have:r.opened.next.vs=r.vs:=hno2.2.2;rw[← this]; exact fy
       ·have:Md.w .s=0:=rfl;show y.w + _≤0 + 457 * r'.next.i;omega
      ·trivial
end Go.Rf

namespace Go.Rf
theorem qbs:∀ f (s:Sc) (out:List Tok) e p,jd f s out=(none,e,p)→e≠0
 | 0,s,out,e,p,h=>by unfold jd at h; cases h
 | f + 1,s,out,e,p,h=>by
   unfold jd at h;split at h
   ·rename_i c; cases h; exact c
   ·split at h
    ·cases h
    ·exact qbs f _ _ _ _ h
theorem qr6 {s:List UInt8} {e p} (h:Zl s=(none,e,p)):e≠0:=by
 unfold Zl at h;split at h
 ·cases h; decide
 ·exact qbs _ _ _ _ _ h
structure TsOk (ts:List Tok):Prop where
 rd:∀ vs:List (List UInt8),vs.length≤16→(∀ k,(tx vs k).length≤1100000)→(rd0 ts vs).ok
 n:ts.length≤5000
 num:∀ t∈ts,t.kind=2→qJ t.text
theorem Wi {s:List UInt8} {ts e p} (h:Zl s=(some ts,e,p)):e=0∧TsOk ts:=by
 unfold Zl at h;split at h
 ·cases h
 rename_i hl;have hok:Sc.ok ⟨s,start,0,n0⟩:=⟨by show s.length≤4096; omega,by show Pl.small start s.length; unfold Pl.small start; simp only[]; omega⟩;obtain ⟨o,t,rfl,hp,hk,ht,he⟩:=qj4 _ _ _ _ _ _ hok (by show s.length < s.length + 1; omega) ⟨(fun t h=>by cases h),(fun t h=>by cases h),(fun t h=>by cases h)⟩ h;have hn:=Wj _ _ _ _ _ _ hok h;simp only[List.length_append,List.length_cons,List.length_nil] at hn;refine ⟨he,⟨fun vs hv ht2=>⟨?_,?_,?_,?_,hv,⟨by show (0:Int)≤0; omega,by show (0:Int)≤16; omega⟩,?_,ht2,fun x h=>.inl (by cases h; rfl)⟩,by simp; omega,?_⟩⟩
 ·show 0 < (o++[t]).length;simp
 ·show (o++[t]).length≤5000;simp; omega
 ·intro j hj
  have hj:j < o.length:=by
   have:(rd0 (o++[t]) vs).ts.length=o.length + 1:=by simp[rd0]
   omega
  show ((o++[t]).getD j ⟨0,[],n0⟩).kind≠0;rw[List.getD_eq_getElem?_getD,List.getElem?_append_left hj,List.getElem?_eq_getElem hj];exact hp.k _ (List.getElem_mem hj)
 ·intro j hj
  have hj:j=o.length:=by
   have:(rd0 (o++[t]) vs).ts.length=o.length + 1:=by simp[rd0]
   omega
  subst hj;show ((o++[t]).getD o.length ⟨0,[],n0⟩).kind=0;simp[hk]
 ·intro t' hm;rcases List.mem_append.1 (show t'∈o++[t] from hm) with h | h
  ·exact hp.tx _ h
  ·rw[List.mem_singleton.1 h]; exact ht
 ·intro t' hm h2;rcases List.mem_append.1 hm with h | h
  ·exact hp.nm _ h h2
  ·rw[List.mem_singleton.1 h] at h2;omega
def oD:Option Nd→D
 | none=>.nili
 | some x=>x.d
@[simp] theorem q5v:B6 (.d .nili) 0 (.d .nili)=some (.d .nili):=rfl
@[simp] theorem q5t (x:Nd):B6 (.d x.d) 0 (.d .nili)=some (.d .nili):=by cases x <;> rfl
@[simp] theorem q5s (x:Nd):B6 (.d x.d) 0 (.d x.d)=some (.d x.d):=by cases x <;> rfl
@[simp] theorem zjd (f l a b):qky f [.ptr l a b] = .fn f [.ptr l a b]:=rfl
end Go.Rf

namespace Go.Rf
abbrev Tk:=Int × List UInt8
mutual
inductive Un (vs:List (List UInt8)):Nat→List Tk→Nd→Prop where
 | num {e w}:Un vs e [(2,w)] (.num (jO w))
 | name {e w v}:wO vs w vs.length 0=v→0≤v→xH w=false→Un vs e [(1,w)] (.name v w)
 | minus {e l x}:Un vs e l x→Un vs e ((3,[45]) :: l) (.minus x)
 | par {e l x}:Su vs e l x→Un vs (e + 1) ((3,[40]) :: (l++[(3,[41])])) x
 | weak {e l x}:Un vs e l x→Un vs (e + 1) l x
inductive Pr (vs:List (List UInt8)):Nat→List Tk→Nd→Prop where
 | one {e l x}:Un vs e l x→Pr vs e l x
 | mul {e l l' x y c op}:Pr vs e l x→Un vs e l' y→(c=42∧op=42∨c=47∧op=47∨c=37∧op=37)→Pr vs e (l++(3,[c]) :: l') (.two op x y)
inductive Su (vs:List (List UInt8)):Nat→List Tk→Nd→Prop where
 | one {e l x}:Pr vs e l x→Su vs e l x
 | add {e l l' x y c op}:Su vs e l x→Pr vs e l' y→(c=43∧op=43∨c=45∧op=45)→Su vs e (l++(3,[c]) :: l') (.two op x y)
end
def nm:List Tk→Prop
 | (k,w) :: _=>¬ ((k=3∨k=1)∧(w=[42]∨w=[47]∨w=[37]))
 | []=>True
def ns:List Tk→Prop
 | (k,w) :: _=>¬ ((k=3∨k=1)∧(w=[43]∨w=[45]))
 | []=>True
end Go.Rf

namespace Go.Rf
theorem qg9 (vs:List (List UInt8)) (s:List UInt8):∀ d i,0≤wO vs s d i→∃ j,j < i + d∧wO vs s d i=(j:Int)∧tx vs j=s
 | 0,i,h=>by exact absurd h (by show ¬ (0:Int) ≤ -1; decide)
 | d + 1,i,h=>by
   unfold wO at h ⊢;split at h
   ·rename_i c;rw[if_pos c];exact ⟨i,by omega,rfl,c.symm⟩
   ·rename_i c;rw[if_neg c];obtain ⟨j,a,b,e⟩:=qg9 vs s d (i + 1) h;exact ⟨j,by omega,b,e⟩
def R9 (op:Int):Bool:=op == 43 || op == 45
def Nd.adds:Nd→Bool
 | .two op _ _=>R9 op
 | _=>false
def Nd.single:Nd→Bool
 | .two _ _ _=>false
 | _=>true
def opc (op:Int):UInt8:=UInt8.ofNat op.toNat
def wrB (b:Bool) (w:List UInt8):List UInt8:=if b then 40 :: (w++[41]) else w
def ptB (b:Bool) (l:List Tk):List Tk:=if b then (3,[40]) :: (l++[(3,[41])]) else l
def dpB (b:Bool) (d:Nat):Nat:=if b then d + 1 else d
def wr:Nd→List UInt8
 | .num k=>L0 456 k
 | .name _ s=>s
 | .minus x=>45 :: wrB (!x.single) (wr x)
 | .two op x y=>wrB (!R9 op && x.adds) (wr x)++32 :: opc op :: 32 :: wrB (R9 op && y.adds || !R9 op && !y.single) (wr y)
def pt:Nd→List Tk
 | .num k=>[(2,L0 456 k)]
 | .name _ s=>[(1,s)]
 | .minus x=>(3,[45]) :: ptB (!x.single) (pt x)
 | .two op x y=>ptB (!R9 op && x.adds) (pt x)++(3,[opc op]) :: ptB (R9 op && y.adds || !R9 op && !y.single) (pt y)
def dp:Nd→Nat
 | .num _=>0
 | .name _ _=>0
 | .minus x=>dpB (!x.single) (dp x)
 | .two op x y=>max (dpB (!R9 op && x.adds) (dp x)) (dpB (R9 op && y.adds || !R9 op && !y.single) (dp y))
def Nd.pr (vs:List (List UInt8)):Nd→Prop
 | .num k=>0≤k∧(d6 k).length≤32
 | .name v s=>NameOk s∧wO vs s vs.length 0=v∧0≤v∧xH s=false
 | .minus x=>x.pr vs
 | .two op x y=>(op=43∨op=45∨op=42∨op=47∨op=37)∧x.pr vs∧y.pr vs
structure PtOk (vs:List (List UInt8)) (x:Nd):Prop where
 s:Su vs (dp x) (pt x) x
 p:x.adds=false→Pr vs (dp x) (pt x) x
 u:x.single=true→Un vs (dp x) (pt x) x
theorem PtOk.pb {vs x} (h:PtOk vs x) (b:Bool) (hb:b=x.adds):Pr vs (dpB b (dp x)) (ptB b (pt x)) x:=by
 subst hb
 cases hs:x.adds with
 | true=>exact .one (.par h.s)
 | false=>exact h.p hs
end Go.Rf

namespace Go.Rf
theorem qfl:∀ f (s:Sc) (out l:List Tok) e p,(∀ t∈out,t.kind=2→∃ v:Int,0≤v∧(d6 v).length≤32∧t.text=L0 456 v)→s.ok→jd f s out=(some l,e,p)→
 ∀ t∈l,t.kind=2→∃ v:Int,0≤v∧(d6 v).length≤32∧t.text=L0 456 v
 | 0,s,out,l,e,p,h,_,hs=>by unfold jd at hs; cases hs; exact h
 | f + 1,s,out,l,e,p,h,hok,hs=>by
   have hb:=xL (s.rest.length + 1) hok;change s.blanks.ok∧s.blanks.rest.length≤s.rest.length at hb;have hto:=Xn hb.1;unfold jd at hs;split at hs
   ·cases hs
   rename_i hc;have hc:s.blanks.token.2.code=0:=Classical.not_not.1 hc
   have key:s.blanks.token.1.kind=2→∃ v:Int,0≤v∧(d6 v).length≤32∧s.blanks.token.1.text=L0 456 v:=by
    intro hk;generalize s.blanks=z at *;unfold Sc.token at hk hc ⊢
    by_cases c2:z.cls.1=2
    ·rw[if_pos c2] at hk; cases hk
    ·rw[if_neg c2] at hk hc ⊢
     by_cases c3:z.cls.1=3
     ·rw[if_pos c3] at hk hc ⊢
      have h3:(z.ran J9).length≤4096:=by have:=hb.1.1; unfold Sc.ran; rw[List.length_take]; omega
      have hn:=Jy h3
      by_cases h32:32 < (d6 (jO (z.ran J9))).length
      ·simp only[if_pos h32] at hc;cases hc
      ·exact ⟨_,hn.1,by omega,rfl⟩
     ·rw[if_neg c3] at hk
      by_cases c5:z.cls.1=5
      ·rw[if_pos c5] at hk; cases hk
      ·rw[if_neg c5] at hk
       by_cases c1:z.cls.1 = -1
       ·rw[if_pos c1] at hk; cases hk
       ·rw[if_neg c1] at hk; cases hk
   have hout:∀ t∈out++[s.blanks.token.1],t.kind=2→∃ v:Int,0≤v∧(d6 v).length≤32∧t.text=L0 456 v:=by
    intro t ht;rcases List.mem_append.1 ht with ht | ht
    ·exact h t ht
    ·rw[List.mem_singleton.1 ht]; exact key
   split at hs
   ·cases hs; exact hout
   ·exact qfl f _ _ l e p hout hto.1 hs
theorem qu5 {s:List UInt8} {ts e p} (h:Zl s=(some ts,e,p)):∀ t∈ts,t.kind=2→∃ v:Int,0≤v∧(d6 v).length≤32∧t.text=L0 456 v:=by
 unfold Zl at h;split at h
 ·cases h
 rename_i hl;have hok:Sc.ok ⟨s,start,0,n0⟩:=⟨by show s.length≤4096; omega,by show Pl.small start s.length; unfold Pl.small start; simp only[]; omega⟩;exact qfl _ _ _ _ _ _ (fun t ht=>by cases ht) hok h
def QOk (Q:Nd→Prop):Rs→Prop
 | .ok x _=>Q x
 | .bad _ _ _=>True
def Md.q (Q:Nd→Prop):Md→Prop
 | .lp x=>Q x
 | .ls x=>Q x
 | _=>True
theorem q6m {vs:List (List UInt8)} {ts:List Tok} (Q:Nd→Prop) (hnum:∀ t∈ts,t.kind=2→qJ t.text) (qn:∀ t∈ts,t.kind=2→Q (.num (jO t.text))) (qv:∀ w,0≤wO vs w vs.length 0→xH w=false→Q (.name (wO vs w vs.length 0) w))
 (qm:∀ x,Q x→Q (.minus x)) (qt:∀ op x y,(op=43∨op=45∨op=42∨op=47∨op=37)→Q x→Q y→Q (.two op x y)) :
 ∀ n m (r:Rd),r.ok→r.ts=ts→r.vs=vs→m.fine vs.length→m.q Q→QOk Q (rd n m r):=by
 intro n
 induction n with
 | zero=>intro m r _ _ _ _ _; trivial
 | succ n ih=>
   intro m r h hts hvs hf hm;have kn:=Kept.next h
   have rk:=fun (md:Md) (r2:Rd) (h2:r2.ok) (e1:r2.ts=ts) (e2:r2.vs=vs) (hf2:md.fine vs.length)=>qvm n md r2 h2 (by rw[e1]; exact hnum) (by rw[e2]; exact hf2)
   have bnd:∀ (md:Md) (r2:Rd) (f:Nd→Rd→Rs),r2.ok→r2.ts=ts→r2.vs=vs→md.fine vs.length→md.q Q→(∀ x r3,Kept r2 r3→x.fine vs.length→Q x→QOk Q (f x r3))→QOk Q ((rd n md r2).bind f):=by
    intro md r2 f h2 e1 e2 hf2 hq2 g;have a:=ih md r2 h2 e1 e2 hf2 hq2;have b:=rk md r2 h2 e1 e2 hf2
    cases hb:rd n md r2 with
    | bad e p r3=>trivial
    | ok x r3=>
      rw[hb] at a b;exact g x r3 b.1 (by rw[← e2]; exact b.2.1) a
   have two:∀ (op:Int) (x:Nd) (md:Md) (m2:Nd→Md),(op=43∨op=45∨op=42∨op=47∨op=37)→md.fine vs.length→md.q Q→x.fine vs.length→Q x→(∀ y,(∀ k,y.fine k→(m2 y).fine k)∧(Q y→(m2 y).q Q))→
    QOk Q ((rd n md r.next).bind fun y r=>rd n (m2 (.two op x y)) r):=by
    intro op x md m2 hop hf2 hq2 hx hqx h2
    refine bnd md r.next _ kn.ok (kn.ts.trans hts) (kn.vs.trans hvs) hf2 hq2 fun y r3 k3 fy qy=>?_
    exact ih _ r3 k3.ok (k3.ts.trans (kn.ts.trans hts)) (k3.vs.trans (kn.vs.trans hvs)) ((h2 _).1 _ ⟨hop,hx,fy⟩) ((h2 _).2 (qt op x y hop hqx qy))
   have seq:∀ (md:Md) (m2:Nd→Md),md.fine vs.length→md.q Q→(∀ y,(∀ k,y.fine k→(m2 y).fine k)∧(Q y→(m2 y).q Q))→QOk Q ((rd n md r).bind fun y r=>rd n (m2 y) r):=by
    intro md m2 hf2 hq2 h2
    refine bnd md r _ h hts hvs hf2 hq2 fun y r3 k3 fy qy=>?_
    exact ih _ r3 k3.ok (k3.ts.trans hts) (k3.vs.trans hvs) ((h2 _).1 _ fy) ((h2 _).2 qy)
   cases m with
   | p=>unfold rd; exact seq .u .lp trivial trivial (fun _=>⟨fun _ h=>h,fun h=>h⟩)
   | s=>unfold rd; exact seq .p .ls trivial trivial (fun _=>⟨fun _ h=>h,fun h=>h⟩)
   | lp x=>
     unfold rd;split
     ·exact two 42 x .u .lp (by omega) trivial trivial hf hm (fun _=>⟨fun _ h=>h,fun h=>h⟩)
     split
     ·exact two 47 x .u .lp (by omega) trivial trivial hf hm (fun _=>⟨fun _ h=>h,fun h=>h⟩)
     split
     ·exact two 37 x .u .lp (by omega) trivial trivial hf hm (fun _=>⟨fun _ h=>h,fun h=>h⟩)
     exact hm
   | ls x=>
     unfold rd;split
     ·exact two 43 x .p .ls (by omega) trivial trivial hf hm (fun _=>⟨fun _ h=>h,fun h=>h⟩)
     split
     ·exact two 45 x .p .ls (by omega) trivial trivial hf hm (fun _=>⟨fun _ h=>h,fun h=>h⟩)
     exact hm
   | u=>
     unfold rd;split
     ·exact bnd .u r.next _ kn.ok (kn.ts.trans hts) (kn.vs.trans hvs) trivial trivial fun y r3 _ _ qy=>qm y qy
     split
     ·rename_i c;exact qn _ (hts ▸ Ze h) c
     split
     ·rename_i c;split
      ·rename_i c2;unfold Rd.isName at c;simp only[Bool.and_eq_true,Bool.not_eq_true'] at c;unfold Rd.var at c2 ⊢;rw[hvs] at c2 ⊢;exact qv _ c2 c.2
      ·trivial
     split
     ·trivial
     ·rename_i hin
      have hop:r.op < 16:=by
       unfold Rd.into at hin;split at hin
       ·split at hin
        ·assumption
        ·cases hin
       ·cases hin
      have ho:=Rd.opened_ok h hop;have kn2:=Kept.next ho
      refine bnd .s r.opened.next _ kn2.ok (kn2.ts.trans hts) (kn2.vs.trans hvs) trivial trivial fun y r3 _ _ qy=>?_
      split
      ·exact qy
      ·trivial
end Go.Rf

namespace Go.Rf
theorem qqz {w t:List UInt8} {r n:Nat} (h:w≠[]) (e:dec (w++t) 0=(r,n)) (hn:n≤w.length) (hb:¬ (r=65533∧n=1)):dec w 0=(r,n):=by
 unfold dec Utf8.decode at *
 have hsz:(ByteArray.mk w.toArray).size=w.length:=by simp[ByteArray.size]
 have hsz2:(ByteArray.mk (w++t).toArray).size=w.length + t.length:=by simp[ByteArray.size]
 have hl:0 < w.length:=List.length_pos_iff.2 h
 have g:∀ k,k < w.length→(ByteArray.mk (w++t).toArray).get! (0 + k)=(ByteArray.mk w.toArray).get! (0 + k):=by
  intro k hk;simp only[ByteArray.get!,Nat.zero_add];simp[hk,List.getElem?_append_left]
 extract_lets a2 c2 b2 y1 y2 y3 at e
 extract_lets a1 c1 b1 x1 x2 x3
 have ha:∀ k,k < w.length→a2 k=a1 k:=fun k hk=>congrArg UInt8.toNat (g k hk)
 have hc:∀ k,c1 k=true→c2 k=true:=by
  intro k hk;simp only[c1,Bool.and_eq_true,decide_eq_true_eq,hsz] at hk;simp only[c2,Bool.and_eq_true,decide_eq_true_eq,hsz2];refine ⟨by omega,?_⟩;rw[ha k (by omega)];exact hk.2
 have hc':∀ k,k < w.length→c2 k=true→c1 k=true:=by
  intro k hk hk2;simp only[c2,Bool.and_eq_true,decide_eq_true_eq] at hk2;simp only[c1,Bool.and_eq_true,decide_eq_true_eq,hsz];refine ⟨by omega,?_⟩;rw[← ha k hk];exact hk2.2
 have hb0:b2=b1:=ha 0 hl
 have hx1:1 < w.length→y1=x1:=fun h=>by simp only[y1,x1,hb0,ha 1 h]
 have hx2:2 < w.length→y2=x2:=fun h=>by simp only[y2,x2,hb0,ha 1 (by omega),ha 2 h]
 have hx3:3 < w.length→y3=x3:=fun h=>by simp only[y3,x3,hb0,ha 1 (by omega),ha 2 (by omega),ha 3 h]
 clear_value y1 y2 y3 x1 x2 x3
 clear_value c1 c2
 clear_value b1 b2
 subst hb0
 by_cases k0:b2 < 128
 ·rw[if_pos k0] at e ⊢;exact e
 rw[if_neg k0] at e ⊢
 by_cases k1:(b2 / 32 == 6 && c2 1)=true
 ·rw[if_pos k1] at e;simp only[Bool.and_eq_true] at k1
  have hn2:n=2∨n=1:=by split at e <;> (cases e; omega)
  rcases hn2 with rfl | rfl
  ·rw[if_pos (by simp[k1.1,hc' 1 (by omega) k1.2]),← hx1 (by omega)];exact e
  ·split at e
   ·cases e
   ·cases e; exact absurd ⟨rfl,rfl⟩ hb
 rw[if_neg k1] at e
 have m1:¬ (b2 / 32 == 6 && c1 1)=true:=fun hh=>k1 (by simp only[Bool.and_eq_true] at hh ⊢; exact ⟨hh.1,hc 1 hh.2⟩)
 by_cases k2:(b2 / 16 == 14 && c2 1 && c2 2)=true
 ·rw[if_pos k2] at e;simp only[Bool.and_eq_true] at k2
  have hn2:n=3∨n=1:=by split at e <;> (cases e; omega)
  rcases hn2 with rfl | rfl
  ·rw[if_neg m1,if_pos (by simp[k2.1.1,hc' 1 (by omega) k2.1.2,hc' 2 (by omega) k2.2]),← hx2 (by omega)];exact e
  ·split at e
   ·cases e
   ·cases e; exact absurd ⟨rfl,rfl⟩ hb
 rw[if_neg k2] at e
 have m2:¬ (b2 / 16 == 14 && c1 1 && c1 2)=true:=fun hh=>k2 (by simp only[Bool.and_eq_true] at hh ⊢; exact ⟨⟨hh.1.1,hc 1 hh.1.2⟩,hc 2 hh.2⟩)
 by_cases k3:(b2 / 8 == 30 && c2 1 && c2 2 && c2 3)=true
 ·rw[if_pos k3] at e;simp only[Bool.and_eq_true] at k3
  have hn2:n=4∨n=1:=by split at e <;> (cases e; omega)
  rcases hn2 with rfl | rfl
  ·rw[if_neg m1,if_neg m2,if_pos (by simp[k3.1.1.1,hc' 1 (by omega) k3.1.1.2,hc' 2 (by omega) k3.1.2,hc' 3 (by omega) k3.2]),← hx3 (by omega)];exact e
  ·split at e
   ·cases e
   ·cases e; exact absurd ⟨rfl,rfl⟩ hb
 rw[if_neg k3] at e;cases e;exact absurd ⟨rfl,rfl⟩ hb
theorem qj9 {p:Int→Bool}:∀ (F:Nat) (s:Sc),s.ok→qu9 p F (s.rest.take (s.rest.length - (X5 p F s).rest.length))=true
 | 0,s,_=>by
   unfold X5;simp[qu9]
 | F + 1,s,hok=>by
   unfold X5;split
   ·rename_i c;have hr:=(s.cls_same (by omega)).2
    have hn:0≤s.next.1:=by
     unfold Sc.cls at c
     by_cases h0:s.next.1 < 0
     ·rw[if_pos h0] at c; exact absurd c.1 (by simp)
     ·omega
    have hnx:kg s.rest (dec s.rest 0).1=false∧s.next.1=(dec s.rest 0).1:=by
     unfold Sc.next at hn ⊢;rw[if_neg hr] at hn ⊢
     by_cases hb:kg s.rest (dec s.rest 0).1=true
     ·rw[if_pos hb] at hn; exact absurd hn (by simp)
     ·rw[if_neg hb];exact ⟨by simpa using hb,rfl⟩
    have hcl:s.cls.1=cls (dec s.rest 0).1:=by
     unfold Sc.cls;rw[if_neg (by omega),hnx.2]
    have hp:s.pass.rest=s.rest.drop (dec s.rest 0).2:=by
     unfold Sc.pass;rw[kN hr]
    have hd:=WO s.rest hr;have ih:=qj9 (p:=p) F s.pass (Sc.pass_ok hok hr);have hle:=(QB p F (Sc.pass_ok hok hr)).2;generalize (X5 p F s.pass).rest.length=m at *;rw[hp,List.length_drop] at hle ih;have hsp:s.rest=s.rest.take (s.rest.length - m)++s.rest.drop (s.rest.length - m):=(List.take_append_drop ..).symm
    have hw:(s.rest.take (s.rest.length - m)).length=s.rest.length - m:=by rw[List.length_take]; omega
    have hdr:(s.rest.take (s.rest.length - m)).drop (dec s.rest 0).2=(s.rest.drop (dec s.rest 0).2).take (s.rest.length - (dec s.rest 0).2 - m):=by
     rw[List.drop_take]
     congr 1
     omega
    generalize hgw:s.rest.take (s.rest.length - m)=w at *
    have hne:¬ ((dec s.rest 0).1=65533∧(dec s.rest 0).2=1):=by
     intro hc;have:=hnx.1;unfold kg at this;rw[kN hr] at this;simp[hc.1,hc.2] at this
    have hw0:w≠[]:=fun e=>by rw[e] at hw; simp at hw; omega
    have e:=qqz (w:=w) (t:=s.rest.drop (s.rest.length - m)) hw0 (r:=(dec s.rest 0).1) (n:=(dec s.rest 0).2) (by rw[← hsp]) (by omega) hne;rw[← hdr] at ih
    cases hww:w with
    | nil=>exact absurd hww hw0
    | cons b v=>
      rw[hww] at e ih;unfold qu9;rw[e];simp only[];rw[ih,← hcl,c.2]
      have:kg (b :: v) (dec s.rest 0).1=false:=by
       unfold kg;rw[kN (by simp),e];simp only[Bool.and_eq_false_iff,beq_eq_false_iff_ne,decide_eq_false_iff_not]
       by_cases h1:(dec s.rest 0).1=65533
       ·right; exact fun h2=>hne ⟨h1,by omega⟩
       ·left; omega
      rw[this];rfl
   ·rw[s.cls_rest.1];simp
    cases F <;> rfl
theorem qvp {z:Sc} (hok:z.ok) (h2:z.cls.1=2) (h16:rc (z.ran F2)≤16):NameOk (z.ran F2):=by
 have hr:=(z.cls_same (by omega)).2
 have hn:0≤z.next.1:=by
  unfold Sc.cls at h2
  by_cases h0:z.next.1 < 0
  ·rw[if_pos h0] at h2; cases h2
  ·omega
 have hnx:kg z.rest (dec z.rest 0).1=false∧z.next.1=(dec z.rest 0).1:=by
  unfold Sc.next at hn ⊢;rw[if_neg hr] at hn ⊢
  by_cases hb:kg z.rest (dec z.rest 0).1=true
  ·rw[if_pos hb] at hn; exact absurd hn (by simp)
  ·rw[if_neg hb];exact ⟨by simpa using hb,rfl⟩
 have hcl:z.cls.1=cls (dec z.rest 0).1:=by
  unfold Sc.cls;rw[if_neg (by omega),hnx.2]
 have hd:=WO z.rest hr;have hrun:=qj9 (p:=F2) (z.rest.length + 1) z hok
 have hm:(X5 F2 (z.rest.length + 1) z).rest.length≤z.rest.length - (dec z.rest 0).2:=by
  unfold X5;rw[if_pos ⟨by omega,by rw[h2]; rfl⟩];have:=(QB F2 z.rest.length (Sc.pass_ok hok hr)).2
  have hp:z.pass.rest=z.rest.drop (dec z.rest 0).2:=by
   unfold Sc.pass;rw[kN hr]
  rw[hp,List.length_drop] at this;exact this
 have hw:(z.ran F2).length=z.rest.length - (X5 F2 (z.rest.length + 1) z).rest.length:=by
  unfold Sc.ran Sc.run;rw[List.length_take]; omega
 have hw0:z.ran F2≠[]:=fun e=>by rw[e] at hw; simp at hw; omega
 have hsp:z.rest=z.ran F2++z.rest.drop (z.rest.length - (X5 F2 (z.rest.length + 1) z).rest.length):=(List.take_append_drop ..).symm
 have hne:¬ ((dec z.rest 0).1=65533∧(dec z.rest 0).2=1):=by
  intro hc;have:=hnx.1;unfold kg at this;rw[kN hr] at this;simp[hc.1,hc.2] at this
 have e:=qqz hw0 (t:=z.rest.drop (z.rest.length - (X5 F2 (z.rest.length + 1) z).rest.length)) (r:=(dec z.rest 0).1) (n:=(dec z.rest 0).2) (by rw[← hsp]) (by omega) hne;have:=hok.1;exact ⟨hw0,by rw[e]; rw[hcl] at h2; exact h2,⟨_,hrun⟩,h16,by omega⟩
theorem qbt:∀ f (s:Sc) (out l:List Tok) e p,(∀ t∈out,t.kind=1→NameOk t.text)→s.ok→jd f s out=(some l,e,p)→∀ t∈l,t.kind=1→NameOk t.text
 | 0,s,out,l,e,p,h,_,hs=>by unfold jd at hs; cases hs; exact h
 | f + 1,s,out,l,e,p,h,hok,hs=>by
   have hb:=xL (s.rest.length + 1) hok;change s.blanks.ok∧s.blanks.rest.length≤s.rest.length at hb;have hto:=Xn hb.1;unfold jd at hs;split at hs
   ·cases hs
   rename_i hc;have hc:s.blanks.token.2.code=0:=Classical.not_not.1 hc
   have key:s.blanks.token.1.kind=1→NameOk s.blanks.token.1.text:=by
    intro hk;generalize s.blanks=z at *;unfold Sc.token at hk hc ⊢
    by_cases c2:z.cls.1=2
    ·rw[if_pos c2] at hk hc ⊢
     by_cases h16:16 < rc (z.ran F2)
     ·simp only[if_pos h16] at hc;cases hc
     ·exact qvp hb.1 c2 (by omega)
    ·rw[if_neg c2] at hk
     by_cases c3:z.cls.1=3
     ·rw[if_pos c3] at hk; cases hk
     ·rw[if_neg c3] at hk
      by_cases c5:z.cls.1=5
      ·rw[if_pos c5] at hk; cases hk
      ·rw[if_neg c5] at hk
       by_cases c1:z.cls.1 = -1
       ·rw[if_pos c1] at hk; cases hk
       ·rw[if_neg c1] at hk; cases hk
   have hout:∀ t∈out++[s.blanks.token.1],t.kind=1→NameOk t.text:=by
    intro t ht;rcases List.mem_append.1 ht with ht | ht
    ·exact h t ht
    ·rw[List.mem_singleton.1 ht]; exact key
   split at hs
   ·cases hs; exact hout
   ·exact qbt f _ _ l e p hout hto.1 hs
theorem qr7 {s:List UInt8} {ts e p} (h:Zl s=(some ts,e,p)):∀ t∈ts,t.kind=1→NameOk t.text:=by
 unfold Zl at h;split at h
 ·cases h
 rename_i hl;have hok:Sc.ok ⟨s,start,0,n0⟩:=⟨by show s.length≤4096; omega,by show Pl.small start s.length; unfold Pl.small start; simp only[]; omega⟩;exact qbt _ _ _ _ _ _ (fun t ht=>by cases ht) hok h
end Go.Rf

namespace Go.Rf
def Nd.sz:Nd→Nat
 | .num _=>1
 | .name _ _=>1
 | .minus x=>x.sz + 1
 | .two _ x y=>x.sz + y.sz + 1
def qeb (r:Rd) (a:Nat):Rs→Prop
 | .ok x r'=>Kept r r'∧x.fine r.vs.length∧x.sz + r.i≤a + r'.i
 | .bad _ _ _=>True
theorem qeb.bind {r r0:Rd} {a c:Nat} {b:Rs} {f:Nd→Rd→Rs} (h:qeb r0 a b) (g:∀ x r',Kept r0 r'→x.fine r0.vs.length→x.sz + r0.i≤a + r'.i→qeb r c (f x r')):qeb r c (b.bind f):=by
 cases b with
 | bad e p r'=>trivial
 | ok x r'=>exact g x r' h.1 h.2.1 h.2.2
theorem qeb.from {r r':Rd} {a c:Nat} {b:Rs} (h:qeb r' c b) (k:Kept r r') (hw:c + r.i≤a + r'.i):qeb r a b:=by
 cases b with
 | bad e p r2=>trivial
 | ok x r2=>
   obtain ⟨h1,h2,h3⟩:=h;exact ⟨k.trans h1,by rw[← k.vs]; exact h2,by omega⟩
def Md.sz:Md→Nat
 | .lp x=>x.sz
 | .ls x=>x.sz
 | _=>0
theorem zhy:∀ n m r,Rd.ok r→(∀ t∈r.ts,t.kind=2→qJ t.text)→m.fine r.vs.length→qeb r m.sz (rd n m r):=by
 intro n
 induction n with
 | zero=>intro m r _ _ _; trivial
 | succ n ih=>
   intro m r h hnum hm;have hno:=r.next_op;have kn:=Kept.next h
   have two:∀ (op:Int) (x:Nd) (md:Md) (m2:Nd→Md),(op=43∨op=45∨op=42∨op=47∨op=37)→r.tok.kind≠0→md.sz=0→md.fine r.vs.length→x.fine r.vs.length→(∀ y,(m2 y).sz=y.sz ∧ ∀ k,y.fine k→(m2 y).fine k)→
    qeb r x.sz ((rd n md r.next).bind fun y r=>rd n (m2 (.two op x y)) r):=by
    intro op x md m2 hop hk h0 hf hx h2;have hi:=K6 hk;have a:=ih md r.next (Rd.next_ok h) (by rw[hno.2.1]; exact hnum) (by rw[hno.2.2]; exact hf);rw[h0] at a
    refine a.bind fun y r' k1 fy wy=>?_
    have k2:=kn.trans k1;have b:=ih (m2 (.two op x y)) r' k1.ok (by rw[k2.ts]; exact hnum) ((h2 _).2 _ (by rw[k2.vs]; exact ⟨hop,hx,by rw[← hno.2.2]; exact fy⟩));rw[(h2 _).1] at b;exact b.from k2 (by show x.sz + y.sz + 1 + _≤_; omega)
   have seq:∀ (md:Md) (m2:Nd→Md),md.sz=0→md.fine r.vs.length→(∀ y,(m2 y).sz=y.sz ∧ ∀ k,y.fine k→(m2 y).fine k)→qeb r 0 ((rd n md r).bind fun y r=>rd n (m2 y) r):=by
    intro md m2 h0 hf h2;have a:=ih md r h hnum hf;rw[h0] at a
    refine a.bind fun y r' k1 fy wy=>?_
    have b:=ih (m2 y) r' k1.ok (by rw[k1.ts]; exact hnum) ((h2 _).2 _ (by rw[k1.vs]; exact fy));rw[(h2 _).1] at b;exact b.from k1 (by omega)
   have self:∀ x:Nd,x.fine r.vs.length→qeb r x.sz (.ok x r):=fun x hx=>⟨Kept.refl h,hx,Nat.le_refl _⟩
   cases m with
   | p=>unfold rd; exact seq .u .lp rfl trivial (fun _=>⟨rfl,fun _ h=>h⟩)
   | s=>unfold rd; exact seq .p .ls rfl trivial (fun _=>⟨rfl,fun _ h=>h⟩)
   | lp x=>
     unfold rd;split
     ·rename_i c; exact two 42 x .u .lp (by omega) (A8 c) rfl trivial hm (fun _=>⟨rfl,fun _ h=>h⟩)
     split
     ·rename_i c; exact two 47 x .u .lp (by omega) (A8 c) rfl trivial hm (fun _=>⟨rfl,fun _ h=>h⟩)
     split
     ·rename_i c; exact two 37 x .u .lp (by omega) (A8 c) rfl trivial hm (fun _=>⟨rfl,fun _ h=>h⟩)
     exact self x hm
   | ls x=>
     unfold rd;split
     ·rename_i c; exact two 43 x .p .ls (by omega) (A8 c) rfl trivial hm (fun _=>⟨rfl,fun _ h=>h⟩)
     split
     ·rename_i c; exact two 45 x .p .ls (by omega) (A8 c) rfl trivial hm (fun _=>⟨rfl,fun _ h=>h⟩)
     exact self x hm
   | u=>
     unfold rd;split
     ·rename_i c;have hi:=K6 (A8 c);have a:=ih .u r.next (Rd.next_ok h) (by rw[hno.2.1]; exact hnum) trivial
      refine a.bind fun y r' k1 fy wy=>?_
      refine ⟨kn.trans k1,by rw[← hno.2.2]; exact fy,?_⟩;show y.sz + 1 + _≤_;have:Md.sz .u=0:=rfl;omega
     split
     ·rename_i c;have hi:=K6 (r:=r) (by omega);refine ⟨kn,trivial,?_⟩;show 1 + _≤0 + _;omega
     split
     ·rename_i c
      have hk:r.tok.kind=1:=by
       unfold Rd.isName at c;simp only[Bool.and_eq_true,decide_eq_true_eq] at c;exact c.1
      have hi:=K6 (r:=r) (by omega);split
      ·rename_i c2;have hv:=qa4 r.vs r.tok.text r.vs.length 0 (by omega);refine ⟨kn,⟨c2,by unfold Rd.var; omega,X8 h⟩,?_⟩;show 1 + _≤0 + _;omega
      ·trivial
     split
     ·trivial
     ·rename_i hin
      have hop:r.op < 16:=by
       unfold Rd.into at hin;split at hin
       ·split at hin
        ·assumption
        ·cases hin
       ·cases hin
      have ho:=Rd.opened_ok h hop;have kn2:=Kept.next ho;have hno2:=r.opened.next_op;have a:=ih .s r.opened.next (Rd.next_ok ho) (by rw[hno2.2.1]; exact hnum) trivial
      refine a.bind fun y r' k1 fy wy=>?_
      have k3:=kn2.trans k1;split
      ·have kn4:=Kept.next k3.ok
       have hpos:0 < r'.next.op:=by
        rw[kn4.op,k3.op];have:=h.op;show 0 < r.op + 1;omega
       have hi4:=kn4.i;have hi5:r.i≤r.opened.next.i:=kn2.i;have hi6:=k1.i;refine ⟨⟨Rd.closed_ok kn4.ok hpos,?_,?_,?_,?_,kn4.ly.trans k3.ly,kn4.ms.trans k3.ms⟩,?_,?_⟩
       ·exact kn4.ts.trans k3.ts
       ·exact kn4.vs.trans k3.vs
       ·show r'.next.op - 1=r.op;rw[kn4.op,k3.op];show r.op + 1 - 1=r.op;omega
       ·show r.i≤r'.next.i;omega
       ·have:r.opened.next.vs=r.vs:=hno2.2.2;rw[← this]; exact fy
       ·have:Md.sz .s=0:=rfl;show y.sz + _≤0 + r'.next.i;omega
      ·trivial
theorem QE {v:Int}:(L0 456 v).length≤4104:=by
 unfold L0;split
 ·simp
 ·rw[List.length_reverse];exact Nat.le_trans (JN 456 _) (by omega)
theorem Qh {vs:List (List UInt8)}:∀ x:Nd,x.pr vs→(wr x).length≤4110 * x.sz:=by
 have brk:∀ (b:Bool) (w:List UInt8),(wrB b w).length≤w.length + 2:=by
  intro b w
  cases b <;> simp[wrB]
 intro x
 induction x with
 | num k=>intro _; have:=QE (v:=k); show (L0 456 k).length≤4110 * 1; omega
 | name v s=>intro h; have:=h.1.l; show s.length≤4110 * 1; omega
 | minus x ih=>
   intro h;have:=ih h;have:=brk (!x.single) (wr x);show (45 :: wrB (!x.single) (wr x)).length≤4110 * (x.sz + 1);rw[List.length_cons];omega
 | two op x y ih1 ih2=>
   intro h;have a1:=ih1 h.2.1;have a2:=ih2 h.2.2;have b1:=brk (!R9 op && x.adds) (wr x);have b2:=brk (R9 op && y.adds || !R9 op && !y.single) (wr y);show (wrB (!R9 op && x.adds) (wr x)++32 :: opc op :: 32 :: wrB (R9 op && y.adds || !R9 op && !y.single) (wr y)).length≤4110 * (x.sz + y.sz + 1);rw[List.length_append,List.length_cons,List.length_cons,List.length_cons];omega
end Go.Rf

namespace Go.Rf
theorem qpl (b:Bool) (d:Nat):d≤dpB b d∧dpB b d≤d + 1:=by cases b <;> simp[dpB]
theorem qnc (x:Nd) (h:x.adds=true):x.single=false:=by cases x <;> first | rfl | cases h
theorem q1c (x:Nd):dpB x.adds (dp x)≤dpB (!x.single) (dp x):=by
 cases h:x.adds with
 | false=>exact (qpl _ _).1
 | true=>rw[qnc x h]; exact Nat.le_refl _
theorem q94 {op:Int} (h:R9 op=false) (x y:Nd):dpB (Nd.two op x y).adds (dp (.two op x y))=max (dpB x.adds (dp x)) (dpB (!y.single) (dp y)):=by
 rw[show (Nd.two op x y).adds=false from h,dp,h];simp[dpB]
theorem q95 {op:Int} (h:R9 op=true) (x y:Nd):dp (.two op x y)=max (dp x) (dpB y.adds (dp y)):=by
 rw[dp,h];simp[dpB]
def Md.bnd:Md→Nd→Nat
 | .u,x=>dpB (!x.single) (dp x)
 | .p,x=>dpB x.adds (dp x)
 | .lp _,x=>dpB x.adds (dp x)
 | _,x=>dp x
def Md.dp (r:Rd):Md→Prop
 | .lp x=>((dpB x.adds (Rf.dp x):Nat):Int) + r.op≤16
 | .ls x=>((Rf.dp x:Nat):Int) + r.op≤16
 | _=>True
def qp1 (r:Rd) (m:Md):Rs→Prop
 | .ok x _=>((m.bnd x:Nat):Int) + r.op≤16
 | .bad _ _ _=>True
theorem zhz:∀ n m (r:Rd),r.ok→(∀ t∈r.ts,t.kind=2→qJ t.text)→m.fine r.vs.length→m.dp r→qp1 r m (rd n m r):=by
 intro n
 induction n with
 | zero=>intro m r _ _ _ _; trivial
 | succ n ih=>
   intro m r h hnum hf hm;have kn:=Kept.next h;have hno:=r.next_op;have hop:=h.op
   have bnd:∀ (md:Md) (r2:Rd) (m3:Md) (f:Nd→Rd→Rs),r2.ok→r2.ts=r.ts→r2.vs=r.vs→md.fine r.vs.length→md.dp r2→(∀ x r3,Kept r2 r3→x.fine r.vs.length→((md.bnd x:Nat):Int) + r2.op≤16→qp1 r m3 (f x r3))→qp1 r m3 ((rd n md r2).bind f):=by
    intro md r2 m3 f h2 e1 e2 hf2 hq2 g;have a:=ih md r2 h2 (by rw[e1]; exact hnum) (by rw[e2]; exact hf2) hq2;have b:=qvm n md r2 h2 (by rw[e1]; exact hnum) (by rw[e2]; exact hf2)
    cases hb:rd n md r2 with
    | bad e p r3=>trivial
    | ok x r3=>
      rw[hb] at a b;exact g x r3 b.1 (by rw[← e2]; exact b.2.1) a
   have to:∀ {m2:Md} {r2:Rd} {m3:Md} {rs:Rs},qp1 r2 m2 rs→r2.op=r.op→(∀ x,m3.bnd x≤m2.bnd x)→qp1 r m3 rs:=by
    intro m2 r2 m3 rs a e le
    cases rs with
    | bad e p r3=>trivial
    | ok x r3=>
      have:=le x;have a:((m2.bnd x:Nat):Int) + r2.op≤16:=a;show ((m3.bnd x:Nat):Int) + r.op≤16;omega
   have mul:∀ (op:Int) (x:Nd),(op=42∨op=47∨op=37)→x.fine r.vs.length→((dpB x.adds (dp x):Nat):Int) + r.op≤16→
    qp1 r (.lp x) ((rd n .u r.next).bind fun y r=>rd n (.lp (.two op x y)) r):=by
    intro op x ho hx hdx
    refine bnd .u r.next (.lp x) _ kn.ok kn.ts kn.vs trivial trivial fun y r3 k3 fy qy=>?_
    have k:=kn.trans k3;have e:=q94 (op:=op) (by rcases ho with rfl | rfl | rfl <;> rfl) x y;have qy:((dpB (!y.single) (dp y):Nat):Int) + r.next.op≤16:=qy;rw[hno.1] at qy;refine to (m2:=.lp (.two op x y)) (ih _ r3 k3.ok (by rw[k.ts]; exact hnum) (by rw[k.vs]; exact ⟨by omega,hx,fy⟩) ?_) k.op (fun _=>Nat.le_refl _);show ((dpB (Nd.two op x y).adds (dp (.two op x y)):Nat):Int) + r3.op≤16;rw[e,k.op];omega
   have add:∀ (op:Int) (x:Nd),(op=43∨op=45)→x.fine r.vs.length→((dp x:Nat):Int) + r.op≤16→
    qp1 r (.ls x) ((rd n .p r.next).bind fun y r=>rd n (.ls (.two op x y)) r):=by
    intro op x ho hx hdx
    refine bnd .p r.next (.ls x) _ kn.ok kn.ts kn.vs trivial trivial fun y r3 k3 fy qy=>?_
    have k:=kn.trans k3;have e:=q95 (op:=op) (by rcases ho with rfl | rfl <;> rfl) x y;have qy:((dpB y.adds (dp y):Nat):Int) + r.next.op≤16:=qy;rw[hno.1] at qy;refine to (m2:=.ls (.two op x y)) (ih _ r3 k3.ok (by rw[k.ts]; exact hnum) (by rw[k.vs]; exact ⟨by omega,hx,fy⟩) ?_) k.op (fun _=>Nat.le_refl _);show ((dp (.two op x y):Nat):Int) + r3.op≤16;rw[e,k.op];omega
   cases m with
   | p=>
     unfold rd
     refine bnd .u r .p _ h rfl rfl trivial trivial fun y r3 k3 fy qy=>?_
     have:=q1c y;have qy:((dpB (!y.single) (dp y):Nat):Int) + r.op≤16:=qy;refine to (m2:=.lp y) (ih _ r3 k3.ok (by rw[k3.ts]; exact hnum) (by rw[k3.vs]; exact fy) ?_) k3.op (fun _=>Nat.le_refl _);show ((dpB y.adds (dp y):Nat):Int) + r3.op≤16;rw[k3.op];omega
   | s=>
     unfold rd
     refine bnd .p r .s _ h rfl rfl trivial trivial fun y r3 k3 fy qy=>?_
     have:=(qpl y.adds (dp y)).1;have qy:((dpB y.adds (dp y):Nat):Int) + r.op≤16:=qy;refine to (m2:=.ls y) (ih _ r3 k3.ok (by rw[k3.ts]; exact hnum) (by rw[k3.vs]; exact fy) ?_) k3.op (fun _=>Nat.le_refl _);show ((dp y:Nat):Int) + r3.op≤16;rw[k3.op];omega
   | lp x=>
     unfold rd;split
     ·exact mul 42 x (by omega) hf hm
     split
     ·exact mul 47 x (by omega) hf hm
     split
     ·exact mul 37 x (by omega) hf hm
     exact hm
   | ls x=>
     unfold rd;split
     ·exact add 43 x (by omega) hf hm
     split
     ·exact add 45 x (by omega) hf hm
     exact hm
   | u=>
     unfold rd;split
     ·refine bnd .u r.next .u _ kn.ok kn.ts kn.vs trivial trivial fun y r3 k3 fy qy=>?_
      rw[hno.1] at qy;exact qy
     split
     ·show ((0:Nat):Int) + r.op≤16;omega
     split
     ·split
      ·show ((0:Nat):Int) + r.op≤16;omega
      ·trivial
     split
     ·trivial
     ·rename_i hin
      have hlt:r.op < 16:=by
       unfold Rd.into at hin;split at hin
       ·split at hin
        ·assumption
        ·cases hin
       ·cases hin
      have ho:=Rd.opened_ok h hlt;have kn2:=Kept.next ho
      refine bnd .s r.opened.next .u _ kn2.ok kn2.ts kn2.vs trivial trivial fun y r3 _ _ qy=>?_
      split
      ·have e:r.opened.next.op=r.op + 1:=r.opened.next_op.1;have qy:((dp y:Nat):Int) + r.opened.next.op≤16:=qy;rw[e] at qy;have:=(qpl (!y.single) (dp y)).2;show ((dpB (!y.single) (dp y):Nat):Int) + r.op≤16;omega
      ·trivial
end Go.Rf

namespace Go.Rf
mutual
inductive Sm where
 | set (p:Pl) (v:Int) (s:List UInt8) (e:Option Nd)
 | skip (p:Pl)
 | stop (p:Pl)
 | mark (p:Pl) (s:List UInt8)
 | choose (p:Pl) (bs:List Bl)
 | loop (p:Pl) (b:List Sm)
 | ifs (p:Pl) (x y:Nd) (q:Bool) (b:List Sm)
 | ife (p:Pl) (x y:Nd) (q:Bool) (b:List Sm) (pe:Pl) (e:List Sm)
 | while (p:Pl) (x y:Nd) (q:Bool) (b:List Sm)
inductive Bl where
 | mk (p:Pl) (b:List Sm)
end
mutual
def Sm.d:Sm→D
 | .set p v s e=>.iface v8 (.agg [.int .i64 p.b,.int .i64 p.g,.int .i64 p.l,.int .i64 p.c,.int .i64 v,.str s,oD e])
 | .skip p=>.iface p7 (.agg [.int .i64 p.b,.int .i64 p.g,.int .i64 p.l,.int .i64 p.c])
 | .stop p=>.iface o9 (.agg [.int .i64 p.b,.int .i64 p.g,.int .i64 p.l,.int .i64 p.c])
 | .mark p s=>.iface p9 (.agg [.int .i64 p.b,.int .i64 p.g,.int .i64 p.l,.int .i64 p.c,.str s])
 | .choose p bs=>.iface f7 (.agg [.int .i64 p.b,.int .i64 p.g,.int .i64 p.l,.int .i64 p.c,.sl (Bls.d bs)])
 | .loop p b=>.iface l8 (.agg [.int .i64 p.b,.int .i64 p.g,.int .i64 p.l,.int .i64 p.c,.sl (Sms.d b)])
 | .ifs p x y q b=>.iface n7 (.agg [.int .i64 p.b,.int .i64 p.g,.int .i64 p.l,.int .i64 p.c,x.d,y.d,.bool q,.sl (Sms.d b),.nilp])
 | .ife p x y q b pe e=>.iface n7 (.agg [.int .i64 p.b,.int .i64 p.g,.int .i64 p.l,.int .i64 p.c,x.d,y.d,.bool q,.sl (Sms.d b),.box (.agg [.int .i64 pe.b,.int .i64 pe.g,.int .i64 pe.l,.int .i64 pe.c,.sl (Sms.d e)])])
 | .while p x y q b=>.iface j8 (.agg [.int .i64 p.b,.int .i64 p.g,.int .i64 p.l,.int .i64 p.c,x.d,y.d,.bool q,.sl (Sms.d b)])
def Bl.d:Bl→D
 | .mk p b=>.agg [.int .i64 p.b,.int .i64 p.g,.int .i64 p.l,.int .i64 p.c,.sl (Sms.d b)]
def Sms.d:List Sm→List D
 | []=>[]
 | s :: l=>s.d :: Sms.d l
def Bls.d:List Bl→List D
 | []=>[]
 | s :: l=>s.d :: Bls.d l
end
theorem Sms.d_map:∀ l,Sms.d l=l.map Sm.d
 | []=>by simp[Sms.d]
 | s :: l=>by simp[Sms.d,Sms.d_map l]
theorem Bls.d_map:∀ l,Bls.d l=l.map Bl.d
 | []=>by simp[Bls.d]
 | s :: l=>by simp[Bls.d,Bls.d_map l]
theorem Sm.wt (s:Sm):wt s.d=16:=by cases s <;> simp only[Sm.d,Rf.wt]
theorem Sm.cells (s:Sm):s.d.cells=[s.d]:=by cases s <;> simp only[Sm.d,D.cells]
theorem Bl.wt (s:Bl):wt s.d=56:=by cases s; simp[Bl.d,Rf.wt,Rf.wts,IntKind.bits]
theorem Sm.vcells (s:Sm):V.cells (.d s.d)=[.d s.d]:=by cases s <;> simp only[Sm.d,V.cells]
theorem Bl.vcells (s:Bl):(V.cells (.d s.d)).length=5:=by cases s; simp[Bl.d,V.cells]
attribute [simp] Sm.vcells Bl.vcells
structure Lst (α:Type) where
 d:α→D
 w:W
 wt:∀ x,wt (d x)≤w.w
 cells:∀ x,(V.cells (.d (d x))).length=w.c
 pos:1≤w.w
def smL:Lst Sm:=⟨Sm.d,⟨1,16⟩,fun x=>by rw[Sm.wt]; exact Nat.le_refl _,fun x=>by simp,by decide⟩
def blL:Lst Bl:=⟨Bl.d,⟨5,56⟩,fun x=>by rw[Bl.wt]; exact Nat.le_refl _,fun x=>by simp,by decide⟩
def LD {α:Type} (k:Lst α) (l:List α):List D:=l.map k.d
def LW {α:Type} (k:Lst α) (l:List α):List V:=l.map fun x=>.d (k.d x)
section
variable {α:Type} (k:Lst α) (l:List α)
@[simp] theorem LW_len:(LW k l).length=l.length:=by simp[LW]
@[simp] theorem LD_len:(LD k l).length=l.length:=by simp[LD]
@[simp] theorem qyr:(LD k l).map V.d=LW k l:=by simp[LD,LW,Function.comp_def]
@[simp] theorem qeg:LW k []=[]:=rfl
@[simp] theorem qjd:LD k []=[]:=rfl
@[simp] theorem LW_take (n):(LW k l).take n=LW k (l.take n):=by simp[LW,List.map_take]
theorem kA (x:α):LW k l++[.d (k.d x)]=LW k (l++[x]):=by simp[LW]
@[simp] theorem rens_LW (al:Loc→Bool) (m:List Loc):qN al (LW k l) m=(LW k l,m):=by rw[← qyr]; exact wQ ..
@[simp] theorem zjk (f:Loc→Loc):Q1 f (LW k l)=LW k l:=by
  induction l with
  | nil=>rfl
  | cons x xs ih=>
    show V.mapL f (.d _) :: Q1 f (LW k xs)=_;rw[ih];rfl
@[simp] theorem frzL_LW (h:Loc→Option Obj) (n:Nat):jP (frz h (n + 1)) (LW k l)=some (LD k l,[]):=by rw[← qyr]; exact qlw ..
@[simp] theorem kT:(∀ x∈LW k l,x.cells.length=k.w.c)=True:=eq_true (by
  intro x hx;obtain ⟨n,_,rfl⟩:=List.mem_map.1 hx
  exact k.cells n)
theorem qbi:wl (LD k l)≤k.w.w:=by
 induction l with
 | nil=>exact k.pos
 | cons x xs ih=>
   show max (Rf.wt (k.d x)) (wl (LD k xs))≤_;have:=k.wt x;omega
@[simp] theorem Xk:(wl (LD k l)≤k.w.w)=True:=eq_true (qbi k l)
@[simp] theorem WG {n:Nat} (hw:k.w.w≤64) (h:n≤1099511627776):(n * wl (LD k l)≤A5)=True:=eq_true (Nat.le_trans (Nat.mul_le_mul h (qbi k l)) (by unfold A5; have:=Nat.mul_le_mul (Nat.le_refl 1099511627776) hw; omega))
theorem zU {i:Nat} (h:i < l.length):(LD k l)[i]? = some (k.d (l[i])):=by simp[LD,h]
end
theorem Sms.d_LD (l:List Sm):Sms.d l=LD smL l:=Sms.d_map l
theorem Bls.d_LD (l:List Bl):Bls.d l=LD blL l:=Bls.d_map l
@[simp] theorem q4p (l):(∀ x∈LW smL l,x.cells.length=1)=True:=kT smL l
@[simp] theorem q4u (l):(∀ x∈LW blL l,x.cells.length=5)=True:=kT blL l
@[simp] theorem wl_sm (l):(wl (LD smL l)≤16)=True:=Xk smL l
@[simp] theorem wl_bl (l):(wl (LD blL l)≤56)=True:=Xk blL l
@[simp] theorem fit_sm {n:Nat} (l) (h:n≤1099511627776):(n * wl (LD smL l)≤A5)=True:=WG smL l (by decide) h
@[simp] theorem fit_bl {n:Nat} (l) (h:n≤1099511627776):(n * wl (LD blL l)≤A5)=True:=WG blL l (by decide) h
@[simp] theorem zf7 (l s):LW smL l++[.d (Sm.d s)]=LW smL (l++[s]):=kA smL l s
@[simp] theorem zf9 (l s):LW blL l++[.d (Bl.d s)]=LW blL (l++[s]):=kA blL l s
end Go.Rf

namespace Go.Rf
structure KeptS (r r':Rd):Prop where
 ok:r'.ok
 ts:r'.ts=r.ts
 vs:r'.vs=r.vs
 op:r'.op=r.op
 i:r.i≤r'.i
 ly:r'.ly=r.ly
theorem Kept.s {r r':Rd} (h:Kept r r'):KeptS r r':=⟨h.ok,h.ts,h.vs,h.op,h.i,h.ly⟩
theorem KeptS.refl {r:Rd} (h:r.ok):KeptS r r:=(Kept.refl h).s
theorem KeptS.trans {a b c:Rd} (h:KeptS a b) (k:KeptS b c):KeptS a c:=⟨k.ok,k.ts.trans h.ts,k.vs.trans h.vs,k.op.trans h.op,Nat.le_trans h.i k.i,k.ly.trans h.ly⟩
def Rz.fineS {α:Type} (r:Rd) (d:Nat):Rz α→Prop
 | .ok _ r'=>KeptS r r'∧r.i + d≤r'.i
 | .bad _ _ r'=>r'.ly=r.ly
theorem Rz.fineS_ly {α:Type} {r:Rd} {d:Nat} {b:Rz α} (h:b.fineS r d):b.st.ly=r.ly:=by
 cases b with
 | ok x r'=>exact h.1.ly
 | bad e p r'=>exact h
theorem Rz.fineS_kept {α:Type} {r r':Rd} {d d':Nat} {b:Rz α} (h:b.fineS r' d') (k:KeptS r r') (l:r.i + d≤r'.i + d'):b.fineS r d:=by
 cases b with
 | bad e p r2=>exact Eq.trans h k.ly
 | ok x r2=>exact ⟨k.trans h.1,by have:=h.2; omega⟩
theorem Rz.fine.s {α:Type} {r:Rd} {d:Nat} {b:Rz α} (h:b.fine r d):b.fineS r d:=by
 cases b with
 | ok x r'=>exact ⟨h.1.s,h.2⟩
 | bad e p r'=>exact h
def Rd.semi {α:Type} (r:Rd) (x:α):Rz α:=if r.isT [59]=true then .ok x r.next else .bad 80 r.tok.pos r
theorem Jv {α:Type} {r:Rd} (h:r.ok) (x:α):(r.semi x).fineS r 1:=by
 unfold Rd.semi;split
 ·rename_i c;exact ⟨(Kept.next h).s,by rw[K6 (A8 c)]; omega⟩
 ·rfl
def Rd.expr (r:Rd):Rz (Option Nd):=if r.isT [97,110,121]=true then .ok none r.next else r.sum.bind fun x r=>.ok (some x) r
def Rd.assign (r:Rd) (p:Pl):Rz Sm:=
 if r.var r.tok.text < 0 then .bad 81 r.tok.pos r
 else if r.next.isT [58,61]=true then r.next.next.expr.bind fun e r3=>r3.semi (.set p (r.var r.tok.text) r.tok.text e)
 else .bad 80 r.next.tok.pos r.next
def smO (s:Sm):List V:=[.d s.d]
set_option maxHeartbeats 4000000 in
theorem qm7 {r:Rd} (h:r.ok) (hk:r.tok.kind≠0) (hnum:∀ t∈r.ts,t.kind=2→qJ t.text) (p:Pl) :
 d5 T0 X0 kH [.ptr (.b 0) 0 0,.d (.agg p.cs)] r.heap=(r.assign p).out smO∧(r.assign p).fineS r 1:=by
 have s0:=w7 h;have htx:=X8 h;have s3:=KT h _ htx;have hno:=r.next_op;have l1:=(lys r).1;have hr:=qa4 r.vs r.tok.text r.vs.length 0 (by omega);have hv:=h.vs
 have hr1:-1≤r.var r.tok.text∧r.var r.tok.text≤16:=by unfold Rd.var; omega
 rw[a8 (af:=x8) rfl rfl rfl];unfold Rd.assign
 by_cases c1:r.var r.tok.text < 0
 ·rw[if_pos c1];refine ⟨?_,rfl⟩;have n1:=H4 h 81;cases hly:r.ly
  all_goals
   simp only[Rd.heap,hly,Rz.out,Tok.cs,Pl.cs,i7] at s0 s3 n1 ⊢;generalize r.tok=t at *;simp -implicitDefEqProofs (disch:=omega) [x8,s0,s3,n1]
 rw[if_neg c1];have n1:=C7 r 81;have s4:=Y1 h;have h1:=Rd.next_ok h;have i1:=K6 hk
 by_cases c2:r.next.isT [58,61]=true
 case neg=>
  rw[if_neg c2];refine ⟨?_,l1⟩;have n2:=U4 h1 (s:=[58,61]) (by simp) (by simpa using c2);cases hly:r.ly
  all_goals
   simp only[Rd.heap,hly,l1,Rz.out,Tok.cs,Pl.cs,i7] at s0 s3 s4 n1 n2 ⊢;generalize r.next.tok=t2 at *;generalize r.tok=t at *;simp -implicitDefEqProofs (disch:=omega) [x8,s0,s3,s4,n1,n2]
 rw[if_pos c2];have n2:=qd h1 (by simp) c2;have h2:=Rd.next_ok h1;have k2:=(Kept.next h).trans (Kept.next h1);have i2:=K6 (A8 c2);have l2:=k2.ly;have a1:=m9 h2 [97,110,121] (by simp)
 have k3:∀ e (r3:Rd),KeptS r.next.next r3→(r3.semi (Sm.set p (r.var r.tok.text) r.tok.text e)).fineS r 1:=fun e r3 k=>
  Rz.fineS_kept (Jv k.ok _) (k2.s.trans k) (by have:=k.i; omega)
 generalize hq:r.next.next=q at *;unfold Rd.expr
 by_cases c3:q.isT [97,110,121]=true
 ·rw[if_pos c3];rw[c3,if_pos rfl] at a1;have h3:=Rd.next_ok h2;refine ⟨?_,k3 _ _ (Kept.next h2).s⟩;have l3:=(lys q).1.trans l2;simp only[Rz.bind];unfold Rd.semi
  by_cases c4:q.next.isT [59]=true
  ·rw[if_pos c4];have n3:=qd h3 (by simp) c4;have l4:=(lys q.next).1.trans l3;cases hly:r.ly
   all_goals
    simp only[Rd.heap,hly,l1,l2,l3,l4,Rz.out,smO,Sm.d,oD,Tok.cs,Pl.cs] at s0 s3 s4 n1 n2 n3 a1 ⊢;generalize r.tok=t at *;simp -implicitDefEqProofs (disch:=omega) [x8,s0,s3,s4,n1,n2,n3,a1]
  ·rw[if_neg c4];have n3:=U4 h3 (s:=[59]) (by simp) (by simpa using c4);cases hly:r.ly
   all_goals
    simp only[Rd.heap,hly,l1,l2,l3,Rz.out,Tok.cs,Pl.cs,i7] at s0 s3 s4 n1 n2 n3 a1 ⊢;generalize q.next.tok=t2 at *;generalize r.tok=t at *;simp -implicitDefEqProofs (disch:=omega) [x8,s0,s3,s4,n1,n2,n3,a1]
 rw[if_neg c3];rw[show q.isT [97,110,121]=false by simpa using c3,if_neg (by simp)] at a1;obtain ⟨s5,f5⟩:=Wn h2 (by rw[k2.ts]; exact hnum);have e5:=(Rz.fine_ly f5).trans l2
 have f6:((q.sum.bind fun x r=>(.ok (some x) r:Rz (Option Nd))).bind fun e r3=>r3.semi (Sm.set p (r.var r.tok.text) r.tok.text e)).fineS r 1:=by
  rcases hb:q.sum with ⟨x,r3⟩ | ⟨e,p',r3⟩ <;> rw[hb] at f5
  ·exact k3 _ _ f5.1.s
  ·exact Eq.trans f5 l2
 refine ⟨?_,f6⟩;clear f6 k3;rcases hb:q.sum with ⟨x,r3⟩ | ⟨e,p',r3⟩
 all_goals
  rw[hb] at s5 e5 f5;have e5:r3.ly=r.ly:=e5
 case bad=>
  cases hly:r.ly
  all_goals
   simp only[Rd.heap,hly,l1,l2,e5,Rz.bind,Rz.out,Tok.cs,Pl.cs,i7] at s0 s3 s4 s5 n1 n2 a1 ⊢;generalize r.tok=t at *;simp -implicitDefEqProofs (disch:=omega) [x8,s0,s3,s4,s5,n1,n2,a1]
 simp only[Rz.bind];unfold Rd.semi
 by_cases c4:r3.isT [59]=true
 ·rw[if_pos c4];have n3:=qd f5.1.ok (by simp) c4;have l4:=(lys r3).1.trans e5;cases hly:r.ly
  all_goals
   simp only[Rd.heap,hly,l1,l2,l4,e5,Rz.out,smO,Sm.d,oD,Tok.cs,Pl.cs] at s0 s3 s4 s5 n1 n2 n3 a1 ⊢;generalize r.tok=t at *;simp -implicitDefEqProofs (disch:=omega) [x8,s0,s3,s4,s5,n1,n2,n3,a1]
 ·rw[if_neg c4];have n3:=U4 f5.1.ok (s:=[59]) (by simp) (by simpa using c4);cases hly:r.ly
  all_goals
   simp only[Rd.heap,hly,l1,l2,e5,Rz.out,Tok.cs,Pl.cs,i7] at s0 s3 s4 s5 n1 n2 n3 a1 ⊢;generalize r3.tok=t2 at *;generalize r.tok=t at *;simp -implicitDefEqProofs (disch:=omega) [x8,s0,s3,s4,s5,n1,n2,n3,a1]
end Go.Rf
