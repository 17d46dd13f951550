/- Parts of the proof: SpA4, SpA5, SpA6, SpR7, SpA7, SpA8, SpC4, SpC5, SpC6, SpS1, SpC8, SpK1. -/
import Derived.Test.YtjlnfdabdhkgcaaGreatDoorRb2
import Derived.Test.YtjlnfdabdhkgcaaGreatDoorSp7
import Derived.Test.YtjlnfdabdhkgcaaGreatDoorSp6

set_option linter.unusedSimpArgs false
set_option linter.unusedVariables false
set_option linter.unnecessarySimpa false
set_option linter.unusedSectionVars false
set_option linter.all false
namespace Go.Rf
@[simp] theorem q0k:(Qu=kP)=False:=eq_false (by decide)
@[simp] theorem qwd:(wY=kP)=False:=eq_false (by decide)
@[simp] theorem q0v:(wY=Qu)=False:=eq_false (by decide)
@[simp] theorem q0u:(ZU=kP)=False:=eq_false (by decide)
@[simp] theorem q6a:(ZU=Qu)=False:=eq_false (by decide)
@[simp] theorem q3o:(ZU=wY)=False:=eq_false (by decide)
@[simp] theorem fitV_nd (x:Nd):P6 (.d x.d)=true:=by cases x <;> rfl
theorem qc0 {n w:Nat} {f:List Int} (h:f=[]∨Sh n w f) (hn:n≤16) (hw:w < 134217728):f.length≤1000 ∧ ∀ i,i < f.length→nl (nth f i) < 1073741824:=by
 rcases h with h | h
 ·subst h;exact ⟨by simp,fun i hi=>by simp at hi⟩
 ·have:=h.l;refine ⟨by omega,fun i hi=>?_⟩;have:=h.b i (by omega);omega
theorem qzd (n:Nat) (hn:n≤16) (k:Int) (hw:nl k < 134217728):d5 T0 X0 U6 [.d (Nd.num k).d,.d (.int .i64 n)] []=some (.ret [.d (.sl (WL (w8 n (.num k)).1)),.d (.bool (w8 n (.num k)).2)] []):=by
 have s1:=kN (m:=k) (by omega)
 have ht:∀ v:Int,((List.replicate (n + 1) 0).set n v).take (n + 1)=(List.replicate (n + 1) 0).set n v:=fun v=>List.take_of_length_le (by simp)
 have hg1:(WV (List.replicate (n + 1) 0))[n]? = some (.d (Wd 0)):=by rw[qba (by simp),qjt]
 rw[c8 (af:=M8) rfl rfl rfl];simp only[Nd.d,w8];simp -implicitDefEqProofs (disch:=omega) [M8,s1,ht,hg1]
theorem quv (n:Nat) (hn:n≤16) (v:Nat) (s:List UInt8) (hv:v < n) (hs:s.length≤1100000):d5 T0 X0 U6 [.d (Nd.name v s).d,.d (.int .i64 n)] []=some (.ret [.d (.sl (WL (w8 n (.name v s)).1)),.d (.bool (w8 n (.name v s)).2)] []):=by
 have s1:=kY (n:=1) (by omega)
 have ht:∀ k (w:Int),((List.replicate (n + 1) 0).set k w).take (n + 1)=(List.replicate (n + 1) 0).set k w:=fun k w=>List.take_of_length_le (by simp)
 have hg1:(WV (List.replicate (n + 1) 0))[v]? = some (.d (Wd 0)):=by rw[qba (by simp; omega),qjt]
 rw[c8 (af:=M8) rfl rfl rfl];simp only[Nd.d,w8,Int.toNat_natCast];simp -implicitDefEqProofs (disch:=omega) [M8,s1,ht,hg1]
theorem qqv (n:Nat) (hn:n≤16) (x:Nd) (hx:x.fine n) (hw:x.w < 134217728) (ih:d5 T0 X0 U6 [.d x.d,.d (.int .i64 n)] []=some (.ret [.d (.sl (WL (w8 n x).1)),.d (.bool (w8 n x).2)] [])) :
 d5 T0 X0 U6 [.d (Nd.minus x).d,.d (.int .i64 n)] []=some (.ret [.d (.sl (WL (w8 n (.minus x)).1)),.d (.bool (w8 n (.minus x)).2)] []):=by
 have s1:=kY (n:=-1) (by omega);obtain ⟨t1,t2⟩:=qc0 ((kS n x hx).imp And.left id) hn hw;have s2:=ZT (f:=(w8 n x).1) (k:=-1) t1 (by decide) t2;rw[c8 (af:=M8) rfl rfl rfl];simp only[Nd.d,w8];generalize (w8 n x).1.map (· * -1)=g at *;simp -implicitDefEqProofs (disch:=omega) [M8,s1,s2,ih]
theorem qzc (n:Nat) (hn:n≤16) (op:Int) (x y:Nd) (hx:x.fine n) (hy:y.fine n) (hw:x.w + y.w < 134217728) (ih:d5 T0 X0 U6 [.d x.d,.d (.int .i64 n)] []=some (.ret [.d (.sl (WL (w8 n x).1)),.d (.bool (w8 n x).2)] []))
 (ih2:d5 T0 X0 U6 [.d y.d,.d (.int .i64 n)] []=some (.ret [.d (.sl (WL (w8 n y).1)),.d (.bool (w8 n y).2)] [])) :
 d5 T0 X0 U6 [.d (Nd.two op x y).d,.d (.int .i64 n)] []=some (.ret [.d (.sl (WL (w8 n (.two op x y)).1)),.d (.bool (w8 n (.two op x y)).2)] []):=by
 have f1:=kS n x hx;have f2:=kS n y hy;rw[c8 (af:=M8) rfl rfl rfl];simp only[Nd.d,w8];generalize w8 n x=fx at *;generalize w8 n y=fy at *;obtain ⟨fx,b1⟩:=fx;obtain ⟨fy,b2⟩:=fy;simp only[] at *;obtain ⟨t1,t2⟩:=qc0 (f1.imp And.left id) hn (by omega);obtain ⟨t3,t4⟩:=qc0 (f2.imp And.left id) hn (by omega)
 by_cases hb:b1=true∧b2=true
 ·rw[if_pos hb];obtain ⟨rfl,rfl⟩:=hb
  have f1:Sh n x.w fx:=by rcases f1 with ⟨_,h⟩ | h; cases h; exact h
  have f2:Sh n y.w fy:=by rcases f2 with ⟨_,h⟩ | h; cases h; exact h
  have s1:=qve (op:=op) (l:=fx) (r:=fy) (N:=n + 1) (by omega) (by omega) f1.l f2.l (fun i hi=>by have:=f1.b i hi; omega) (fun i hi=>by have:=f2.b i hi; omega);generalize WP op fx fy=z at *;obtain ⟨z,b3⟩:=z;simp -implicitDefEqProofs (disch:=omega) [M8,s1,ih,ih2]
 ·rw[if_neg hb]
  cases b1 <;> cases b2 <;> simp at hb <;> simp -implicitDefEqProofs (disch:=omega) [M8,ih,ih2]
theorem ZF (n:Nat) (hn:n≤16):∀ x:Nd,x.fine n→x.w < 134217728→d5 T0 X0 U6 [.d x.d,.d (.int .i64 n)] []=some (.ret [.d (.sl (WL (w8 n x).1)),.d (.bool (w8 n x).2)] [])
 | .num k,_,hw=>qzd n hn k (by unfold Nd.w at hw; omega)
 | .name v s,h,_=>by
   obtain ⟨v,rfl⟩:=Int.eq_ofNat_of_zero_le h.1;exact quv n hn v s (by have:=h.2.1; omega) h.2.2
 | .minus x,h,hw=>qqv n hn x h hw (ZF n hn x h hw)
 | .two op x y,h,hw=>by
   unfold Nd.w at hw;exact qzc n hn op x y h.2.1 h.2.2 hw (ZF n hn x h.2.1 (by omega)) (ZF n hn y h.2.2 (by omega))
end Go.Rf

namespace Go.Rf
abbrev RWh:=Bool × List Int
def Rw (w:RWh):D:=.agg [.bool w.1,.sl (L w.2)]
def rv (w:RWh):Int:=sg w.1 (nv w.2)
def RL (ws:List RWh):List D:=ws.map Rw
def rth (ws:List RWh) (i:Nat):RWh:=ws.getD i (false,[])
@[simp] theorem RL_len (l):(RL l).length=l.length:=by simp[RL]
theorem zbw {l:List RWh} {i:Nat} (h:i < l.length):(RL l)[i]? = some (Rw (rth l i)):=by simp[RL,rth,h]
attribute [simp] zbw
theorem zfz (l:List RWh):wl (RL l)≤32:=by
 induction l with
 | nil=>simp[RL,wl]
 | cons x xs ih=>
   show max (wt (Rw x)) (wl (RL xs))≤32;have:wt (Rw x)=25:=rfl;omega
@[simp] theorem fit_RL {n:Nat} {l:List RWh} (h:n≤1099511627):(n * wl (RL l)≤D2)=True:=eq_true (Nat.le_trans (Nat.mul_le_mul h (zfz l)) (by unfold D2; omega))
@[simp] theorem zk6 (n):(Rw n).cells.length=2:=rfl
@[simp] theorem zb6 (n):(V.cells (.d (Rw n))).length=2:=rfl
@[simp] theorem zgb (n):List.take 2 (V.d (Rw n)).cells=(V.d (Rw n)).cells:=rfl
@[simp] theorem zlu (n):qrq (V.d (Rw n)).cells (xj (V.d (Rw n)).cells) = .d (Rw n):=rfl
theorem q2s {n:RWh} (h:n.2.length < 1099511627776):P6 (.d (Rw n))=true:=by
 have:wl (L n.2)≤4:=KO _;have h2:n.2.length * wl (L n.2)≤1099511627776 * 4:=Nat.mul_le_mul (Nat.le_of_lt h) this;simp[Rw,P6,JS];unfold D2; omega
attribute [simp] q2s
@[simp] theorem ziz (h n):qx h 2 true (.d (.box (Rw n)))=val (.d (Rw n)):=by simp[Rw]
@[simp] theorem q6q (x:Int) (n):S5 (.d (Wd x)) 0 (.d (Rw n))=some (.d (Rw n)):=by simp[Wd,Rw,S5]
theorem q0s {w:RWh} (hg:n6 w.2) (h:w.2.length < 1073741824):d5 T0 X0 M5 [.d (Rw w)] []=some (.ret [.d (Wd (rv w))] []):=qgl hg h w.1
theorem q8e {m:Int} {w:RWh} (hm:nl m < 1073741824) (hg:n6 w.2) (h:w.2.length < 1073741824):d5 T0 X0 JU [.d (Wd m),.d (Rw w)] []=some (.ret [.d (Wd (m * rv w))] []):=by
 have:=qlm (g8 m.natAbs) hg hm h (decide (m < 0)) w.1
 rwa [qD,vI] at this
def zc (r:Int × Int):Int × Int:=if r.2=0 then (if 512 < nl r.1 then (0,2) else r) else (0,r.2)
def C1 (st:Nat→Int):Nd→Int × Int
 | .num k=>(k,0)
 | .name v _=>(st v.toNat,0)
 | .minus x=>(-(zc (C1 st x)).1,(zc (C1 st x)).2)
 | .two op x y=>
   if (zc (C1 st x)).2≠0 then zc (C1 st x)
   else if (zc (C1 st y)).2≠0 then zc (C1 st y)
   else if op=43 then ((zc (C1 st x)).1 + (zc (C1 st y)).1,0)
   else if op=45 then ((zc (C1 st x)).1 - (zc (C1 st y)).1,0)
   else if op=42 then ((zc (C1 st x)).1 * (zc (C1 st y)).1,0)
   else if (zc (C1 st y)).1=0 then (0,20)
   else if op=47 then ((zc (C1 st x)).1 / (zc (C1 st y)).1,0)
   else ((zc (C1 st x)).1 % (zc (C1 st y)).1,0)
theorem ZP (r:Int × Int):nl (zc r).1≤512:=by
 unfold zc;split
 ·split
  ·simp
  ·omega
 ·simp
theorem q74 {a b:Int} {k m:Nat} (ha:nl a≤k) (hb:nl b≤m) (hk:0 < k) (hm:0 < m):nl (a - b)≤k + m:=by
 rw[Int.sub_eq_add_neg];exact qao ha (by rwa [qd2]) hk hm
theorem qck (st:Nat→Int) (hst:∀ i,nl (st i)≤1500) (x:Nd) (hx:x.w < 134217728):nl (C1 st x).1 < 268435456:=by
 cases x with
 | num k=>unfold Nd.w at hx; show nl k < _; omega
 | name v s=>show nl (st v.toNat) < _; have:=hst v.toNat; omega
 | minus x=>show nl (-(zc (C1 st x)).1) < _; rw[qd2]; have:=ZP (C1 st x); omega
 | two op x y=>
   unfold C1;have h1:=ZP (C1 st x);have h2:=ZP (C1 st y);have a:=qao h1 h2 (by omega) (by omega);have b:=q74 h1 h2 (by omega) (by omega);have c:=qd3 h1 h2;have d:=qx7 (zc (C1 st x)).1 (zc (C1 st y)).1
   have hz:nl ((zc (C1 st x)).1 % (zc (C1 st y)).1)≤600:=by
    by_cases hz:(zc (C1 st y)).1=0
    ·rw[hz,Int.emod_zero]; omega
    ·have e:=qx5 (zc (C1 st x)).1 _ hz; omega
   (repeat' split) <;> (try simp only[nl_0]) <;> omega
structure StOk (ws:List RWh):Prop where
 g:∀ i,n6 (rth ws i).2
 l:∀ i,(rth ws i).2.length≤1500
 n:ws.length≤1099511
def stV (ws:List RWh) (i:Nat):Int:=rv (rth ws i)
theorem qcz {ws:List RWh} (h:StOk ws) (i:Nat):nl (stV ws i)≤1500:=by
 have b:=d7 (h.g i);have p:=Qy (h.l i);unfold stV rv sg;split
 ·exact qbk (by omega) (by omega)
 ·exact qbk (by omega) (by omega)
theorem qcc {x:Nd} {ws:List RWh} (h:StOk ws) {v e:Int} (hv:nl v < 268435456) (s1:d5 T0 X0 Y9 [.d x.d,.d (.sl (RL ws))] []=some (.ret [.d (Wd v),.d (.int .i64 e)] [])) :
 d5 T0 X0 M6 [.d x.d,.d (.sl (RL ws))] []=some (.ret [.d (Wd (zc (v,e)).1),.d (.int .i64 (zc (v,e)).2)] []):=by
 have hn:=h.n;have s2:=Je (m:=v) (by omega);rw[c8 (af:=xC) rfl rfl rfl];unfold zc
 by_cases he:e=0
 ·subst he;rw[if_pos rfl]
  by_cases hw:512 < nl v
  ·rw[if_pos hw];simp -implicitDefEqProofs (disch:=omega) [xC,s1,s2]
  ·rw[if_neg hw];simp -implicitDefEqProofs (disch:=omega) [xC,s1,s2]
 ·rw[if_neg he];simp -implicitDefEqProofs (disch:=omega) [xC,s1,he]
theorem qy3 {ws:List RWh} (h:StOk ws) (k:Int) (hk:nl k < 134217728):d5 T0 X0 Y9 [.d (Nd.num k).d,.d (.sl (RL ws))] []=some (.ret [.d (Wd k),.d (.int .i64 0)] []):=by
 have hn:=h.n;have s1:=kN (m:=k) (by omega);rw[c8 (af:=A8) rfl rfl rfl];simp only[Nd.d];simp -implicitDefEqProofs (disch:=omega) [A8,s1]
theorem qun {ws:List RWh} (h:StOk ws) (v:Nat) (s:List UInt8) (hv:v < ws.length) (hs:s.length≤1100000):d5 T0 X0 Y9 [.d (Nd.name v s).d,.d (.sl (RL ws))] []=some (.ret [.d (Wd (stV ws v)),.d (.int .i64 0)] []):=by
 have hn:=h.n;have hl:=h.l v;have s1:=q0s (h.g v) (by omega);rw[c8 (af:=A8) rfl rfl rfl];simp only[Nd.d,stV];simp -implicitDefEqProofs (disch:=omega) [A8,s1]
theorem qqj {ws:List RWh} (h:StOk ws) (x:Nd) {v e:Int} (hv:nl v≤512) (s1:d5 T0 X0 M6 [.d x.d,.d (.sl (RL ws))] []=some (.ret [.d (Wd v),.d (.int .i64 e)] [])) :
 d5 T0 X0 Y9 [.d (Nd.minus x).d,.d (.sl (RL ws))] []=some (.ret [.d (Wd (-v)),.d (.int .i64 e)] []):=by
 have hn:=h.n;have s2:=qir (m:=v) (by omega);rw[c8 (af:=A8) rfl rfl rfl];simp only[Nd.d];generalize -v=u at *;simp -implicitDefEqProofs (disch:=omega) [A8,s1,s2]
theorem qum {ws:List RWh} (h:StOk ws) (op:Int) (x y:Nd) {v e:Int} (hv:nl v≤512) (he:e≠0) (s1:d5 T0 X0 M6 [.d x.d,.d (.sl (RL ws))] []=some (.ret [.d (Wd v),.d (.int .i64 e)] [])) :
 d5 T0 X0 Y9 [.d (Nd.two op x y).d,.d (.sl (RL ws))] []=some (.ret [.d (Wd v),.d (.int .i64 e)] []):=by
 have hn:=h.n;rw[c8 (af:=A8) rfl rfl rfl];simp only[Nd.d];simp -implicitDefEqProofs (disch:=omega) [A8,s1,he]
theorem qul {ws:List RWh} (h:StOk ws) (op:Int) (x y:Nd) {v u e:Int} (hv:nl v≤512) (hu:nl u≤512) (he:e≠0) (s1:d5 T0 X0 M6 [.d x.d,.d (.sl (RL ws))] []=some (.ret [.d (Wd v),.d (.int .i64 0)] []))
 (s2:d5 T0 X0 M6 [.d y.d,.d (.sl (RL ws))] []=some (.ret [.d (Wd u),.d (.int .i64 e)] [])) :
 d5 T0 X0 Y9 [.d (Nd.two op x y).d,.d (.sl (RL ws))] []=some (.ret [.d (Wd u),.d (.int .i64 e)] []):=by
 have hn:=h.n;rw[c8 (af:=A8) rfl rfl rfl];simp only[Nd.d];simp -implicitDefEqProofs (disch:=omega) [A8,s1,s2,he]
def opV (op v u:Int):Int × Int:=
 if op=43 then (v + u,0) else if op=45 then (v - u,0) else if op=42 then (v * u,0) else if u=0 then (0,20) else if op=47 then (v / u,0) else (v % u,0)
theorem qy2 {ws:List RWh} (h:StOk ws) (op:Int) (x y:Nd) {v u:Int} (hv:nl v≤512) (hu:nl u≤512) (s1:d5 T0 X0 M6 [.d x.d,.d (.sl (RL ws))] []=some (.ret [.d (Wd v),.d (.int .i64 0)] []))
 (s2:d5 T0 X0 M6 [.d y.d,.d (.sl (RL ws))] []=some (.ret [.d (Wd u),.d (.int .i64 0)] [])) :
 d5 T0 X0 Y9 [.d (Nd.two op x y).d,.d (.sl (RL ws))] []=some (.ret [.d (Wd (opV op v u).1),.d (.int .i64 (opV op v u).2)] []):=by
 have hn:=h.n;rw[c8 (af:=A8) rfl rfl rfl];simp only[Nd.d];unfold opV
 by_cases o1:op=43
 ·have s3:=WW (m:=v) (n:=u) (by omega) (by omega);rw[if_pos o1];subst o1;simp -implicitDefEqProofs (disch:=omega) [A8,s1,s2,s3]
 rw[if_neg o1]
 by_cases o2:op=45
 ·have s3:=qo4 (m:=v) (n:=u) (by omega) (by omega);rw[if_pos o2];subst o2;simp -implicitDefEqProofs (disch:=omega) [A8,s1,s2,s3]
 rw[if_neg o2]
 by_cases o3:op=42
 ·have s3:=qis (m:=v) (n:=u) (by omega) (by omega);rw[if_pos o3];subst o3;simp -implicitDefEqProofs (disch:=omega) [A8,s1,s2,s3]
 rw[if_neg o3];have s3:=Kp (m:=v) (n:=u) (by omega) (by omega)
 by_cases hz:u=0
 ·rw[if_pos hz] at s3 ⊢;subst hz;simp -implicitDefEqProofs (disch:=omega) [A8,s1,s2,s3,o1,o2,o3]
 rw[if_neg hz] at s3 ⊢;generalize v / u=q at *;generalize v % u=m at *
 by_cases o4:op=47
 ·rw[if_pos o4];subst o4;simp -implicitDefEqProofs (disch:=omega) [A8,s1,s2,s3]
 ·rw[if_neg o4];simp -implicitDefEqProofs (disch:=omega) [A8,s1,s2,s3,o1,o2,o3,o4]
theorem KB {ws:List RWh} (h:StOk ws):∀ x:Nd,x.fine ws.length→x.w < 134217728→d5 T0 X0 Y9 [.d x.d,.d (.sl (RL ws))] []=some (.ret [.d (Wd (C1 (stV ws) x).1),.d (.int .i64 (C1 (stV ws) x).2)] [])
 | .num k,_,hw=>qy3 h k (by unfold Nd.w at hw; omega)
 | .name v s,hx,_=>by
   obtain ⟨v,rfl⟩:=Int.eq_ofNat_of_zero_le hx.1;exact qun h v s (by have:=hx.2.1; omega) hx.2.2
 | .minus x,hx,hw=>qqj h x (ZP _) (qcc h (qck _ (qcz h) x hw) (KB h x hx hw))
 | .two op x y,hx,hw=>by
   unfold Nd.w at hw;have r1:=qcc h (qck _ (qcz h) x (by omega)) (KB h x hx.2.1 (by omega));have r2:=qcc h (qck _ (qcz h) y (by omega)) (KB h y hx.2.2 (by omega));have w1:=ZP (C1 (stV ws) x);have w2:=ZP (C1 (stV ws) y);unfold C1
   by_cases e1:(zc (C1 (stV ws) x)).2≠0
   ·rw[if_pos e1];exact qum h op x y w1 e1 r1
   rw[if_neg e1];have e1:(zc (C1 (stV ws) x)).2=0:=Classical.not_not.1 e1;rw[show ((C1 (stV ws) x).1,(C1 (stV ws) x).2)=C1 (stV ws) x from rfl,e1] at r1
   by_cases e2:(zc (C1 (stV ws) y)).2≠0
   ·rw[if_pos e2];exact qul h op x y w1 w2 e2 r1 r2
   rw[if_neg e2];have e2:(zc (C1 (stV ws) y)).2=0:=Classical.not_not.1 e2;rw[show ((C1 (stV ws) y).1,(C1 (stV ws) y).2)=C1 (stV ws) y from rfl,e2] at r2;exact qy2 h op x y w1 w2 r1 r2
theorem qt1 {ws:List RWh} (h:StOk ws) (x:Nd) (hx:x.fine ws.length) (hw:x.w < 134217728):d5 T0 X0 M6 [.d x.d,.d (.sl (RL ws))] []=some (.ret [.d (Wd (zc (C1 (stV ws) x)).1),.d (.int .i64 (zc (C1 (stV ws) x)).2)] []):=
 qcc h (qck _ (qcz h) x hw) (KB h x hx hw)
end Go.Rf

namespace Go.Rf
def KP (f:List Int) (st:Nat→Int):Nat→Int
 | 0=>0
 | n + 1=>KP f st n + nth f n * st n
theorem qi1 {f:List Int} {st:Nat→Int} (hf:∀ i,nl (nth f i)≤4194304) (hs:∀ i,nl (st i)≤1500):∀ n,nl (KP f st n)≤1 + n * 4200000
 | 0=>by simp[KP]
 | n + 1=>by
   have h:=qi1 hf hs n;have h2:=qd3 (hf n) (hs n);have h3:=qao h (show nl (nth f n * st n)≤4200000 by omega) (by omega) (by omega);unfold KP;omega
theorem qwf {ws:List RWh} (h:StOk ws) (f:List Int) (hf:∀ i,nl (nth f i)≤4194304) (hl:ws.length≤f.length) (hw:ws.length≤16) (hfl:f.length≤1000):∀ d i (e:List (Nat × V)),d + i=ws.length→
 i9 T0 X0 0 xT (some (.nrm,⟨(0,.d (.sl (WL f))) :: (4,.ptr (.b 0) 0 0) :: (5,.ptr (.b 1) 0 0) :: (9,.d (.sl (RL ws))) :: (10,.d (.int .i64 ws.length)) :: (11,.d (.int .i64 i)) :: e,[.arr [.d (Wd 0)] ⟨2,0⟩,.arr [.d (Wd (KP f (stV ws) i))] ⟨2,0⟩]⟩)) =
  some (.exit 0,⟨[(4,.ptr (.b 0) 0 0),(5,.ptr (.b 1) 0 0)],[.arr [.d (Wd 0)] ⟨2,0⟩,.arr [.d (Wd (KP f (stV ws) ws.length))] ⟨2,0⟩]⟩):=by
 intro d
 induction d with
 | zero=>
   intro i e hd
   have:i=ws.length:=by omega
   subst this;rw[c9 (l:=xT) rfl];simp -implicitDefEqProofs (disch:=omega) [wT]
 | succ d ih=>
   intro i e hd
   have hi:i < f.length:=by omega
   have hb:=qi1 hf (qcz h) i;have hfi:=hf i;have hli:=h.l i;have hp:=qd3 hfi (qcz h i);have s1:=q8e (m:=nth f i) (w:=rth ws i) (by omega) (h.g i) (by omega);have s2:=WW (m:=KP f (stV ws) i) (n:=nth f i * stV ws i) (by omega) (by omega)
   have s3:=fun e=>ih (i + 1) e (by omega)
   simp only[Int.natCast_add,Int.cast_ofNat_Int,KP] at s3;change _=some (CRes.ret [.d (Wd (nth f i * stV ws i))] []) at s1;rw[c9 (l:=xT) rfl];generalize nth f i * stV ws i=p at *;simp -implicitDefEqProofs (disch:=omega) [wT,s1,s2,s3]
theorem qwe {ws:List RWh} (h:StOk ws) {f:List Int} (hf:∀ i,nl (nth f i)≤4194304) (hl:ws.length≤f.length) (hw:ws.length≤16) (hfl:f.length≤1000) :
 d5 T0 X0 qku [.d (.sl (WL f)),.d (.sl (RL ws))] []=some (.ret [.d (Wd (KP f (stV ws) ws.length))] []):=by
 have lp:=fun e=>qwf h f hf hl hw hfl ws.length 0 e (by omega)
 simp only[Int.cast_ofNat_Int,KP] at lp;rw[c8 (af:=XK) rfl rfl rfl];simp -implicitDefEqProofs (disch:=omega) [XK,lp]
end Go.Rf

namespace Go.Rf
theorem qsq (T X p a st):A4 T X p a st=i9 T X p a (some (.nrm,st)):=rfl
section
variable (p:Nat) (res:List (ARes × Bool))
@[simp] theorem zhh (k st):qjg p res k (some (.nrm,st))=k st:=rfl
@[simp] theorem zhg (k st):qjg p res k (some (.ret,st))=zj p res st:=rfl
@[simp] theorem zje (env st):qqn p res env (some (.nrm,st))=zj p res { env,heap:=st.heap }:=rfl
@[simp] theorem zlh (k st):zbm k (some (.ret,st))=k (.d .nili) st.heap:=rfl
@[simp] theorem zli (k t x st):zbm k (some (.pan (.d (.iface t x)),st))=k (.d (.iface t x)) st.heap:=rfl
end
def rd0 (ts:List Tok) (vs:List (List UInt8)):Rd:=⟨ts,0,vs,0,some (.sl (SL vs)),[]⟩
end Go.Rf

namespace Go.Rf
theorem q1m:∀ n m r e p r',rd n m r = .bad e p r'→e≠0:=by
 intro n
 induction n with
 | zero=>intro m r e p r' h; unfold rd at h; cases h; decide
 | succ n ih=>
   intro m r e p r' h
   have bnd:∀ (x:Rs) (f:Nd→Rd→Rs),(∀ e p r',x = .bad e p r'→e≠0)→(∀ y r e p r',f y r = .bad e p r'→e≠0)→x.bind f = .bad e p r'→e≠0:=by
    intro x f h1 h2 h3
    cases x with
    | ok y r=>exact h2 _ _ _ _ _ h3
    | bad e' p' r2=>cases h3; exact h1 _ _ _ rfl
   cases m with
   | u=>
     unfold rd at h;split at h
     ·exact bnd _ _ (ih _ _) (fun y r e p r' h=>by cases h) h
     split at h
     ·cases h
     split at h
     ·split at h
      ·cases h
      ·cases h; decide
     split at h
     ·rename_i e' he;cases h;unfold Rd.into at he;split at he
      ·split at he
       ·cases he
       ·cases he; decide
      ·cases he; decide
     ·refine bnd _ _ (ih _ _) (fun y r e p r' h=>?_) h;split at h
      ·cases h
      ·cases h; decide
   | p=>unfold rd at h; exact bnd _ _ (ih _ _) (fun y r=>ih _ _) h
   | s=>unfold rd at h; exact bnd _ _ (ih _ _) (fun y r=>ih _ _) h
   | lp x=>
     unfold rd at h;split at h
     ·exact bnd _ _ (ih _ _) (fun y r=>ih _ _) h
     split at h
     ·exact bnd _ _ (ih _ _) (fun y r=>ih _ _) h
     split at h
     ·exact bnd _ _ (ih _ _) (fun y r=>ih _ _) h
     cases h
   | ls x=>
     unfold rd at h;split at h
     ·exact bnd _ _ (ih _ _) (fun y r=>ih _ _) h
     split at h
     ·exact bnd _ _ (ih _ _) (fun y r=>ih _ _) h
     cases h
theorem q72 {s:List UInt8} (h:qZ s):nl (ku s) + 1≤457:=by
 have hn:=Kt h.1;have:(d6 (ku s)).length≤456:=o5 hn.1 (by have:=(wW 456).2; have:=h.1; omega);unfold nl;rw[Int.natAbs_of_nonneg hn.1];omega
def qfn (r:Rd) (a:Nat):Rs→Prop
 | .ok x r'=>Kept r r'∧x.fine r.vs.length∧x.w + 457 * r.i≤a + 457 * r'.i
 | .bad _ _ _=>True
theorem qfn.bind {r r0:Rd} {a c:Nat} {b:Rs} {f:Nd→Rd→Rs} (h:qfn r0 a b) (g:∀ x r',Kept r0 r'→x.fine r0.vs.length→x.w + 457 * r0.i≤a + 457 * r'.i→qfn r c (f x r')):qfn r c (b.bind f):=by
 cases b with
 | bad e p r'=>trivial
 | ok x r'=>exact g x r' h.1 h.2.1 h.2.2
theorem qfn.from {r r':Rd} {a c:Nat} {b:Rs} (h:qfn r' c b) (k:Kept r r') (hw:c + 457 * r.i≤a + 457 * r'.i):qfn r a b:=by
 cases b with
 | bad e p r2=>trivial
 | ok x r2=>
   obtain ⟨h1,h2,h3⟩:=h;exact ⟨k.trans h1,by rw[← k.vs]; exact h2,by omega⟩
def Md.w:Md→Nat
 | .lp x=>x.w
 | .ls x=>x.w
 | _=>0
def Md.fine (k:Nat):Md→Prop
 | .lp x=>x.fine k
 | .ls x=>x.fine k
 | _=>True
theorem qxf:∀ n m r,Rd.ok r→(∀ t∈r.ts,t.kind=2→qZ t.text)→m.fine r.vs.length→qfn r m.w (rd n m r):=by
 intro n
 induction n with
 | zero=>intro m r _ _ _; trivial
 | succ n ih=>
   intro m r h hnum hm;have hno:=r.next_op;have kn:=Kept.next h
   have two:∀ (op:Int) (x:Nd) (md:Md) (m2:Nd→Md),(op=43∨op=45∨op=42∨op=47∨op=37)→r.tok.kind≠0→md.w=0→md.fine r.vs.length→x.fine r.vs.length→(∀ y,(m2 y).w=y.w ∧ ∀ k,y.fine k→(m2 y).fine k)→
    qfn r x.w ((rd n md r.next).bind fun y r=>rd n (m2 (.two op x y)) r):=by
    intro op x md m2 hop hk h0 hf hx h2;have hi:=L8 hk;have a:=ih md r.next (Rd.next_ok h) (by rw[hno.2.1]; exact hnum) (by rw[hno.2.2]; exact hf);rw[h0] at a
    refine a.bind fun y r' k1 fy wy=>?_
    have k2:=kn.trans k1;have b:=ih (m2 (.two op x y)) r' k1.ok (by rw[k2.ts]; exact hnum) ((h2 _).2 _ (by rw[k2.vs]; exact ⟨hop,hx,by rw[← hno.2.2]; exact fy⟩));rw[(h2 _).1] at b;exact b.from k2 (by show x.w + y.w + _≤_; omega)
   have seq:∀ (md:Md) (m2:Nd→Md),md.w=0→md.fine r.vs.length→(∀ y,(m2 y).w=y.w ∧ ∀ k,y.fine k→(m2 y).fine k)→qfn r 0 ((rd n md r).bind fun y r=>rd n (m2 y) r):=by
    intro md m2 h0 hf h2;have a:=ih md r h hnum hf;rw[h0] at a
    refine a.bind fun y r' k1 fy wy=>?_
    have b:=ih (m2 y) r' k1.ok (by rw[k1.ts]; exact hnum) ((h2 _).2 _ (by rw[k1.vs]; exact fy));rw[(h2 _).1] at b;exact b.from k1 (by omega)
   have self:∀ x:Nd,x.fine r.vs.length→qfn r x.w (.ok x r):=fun x hx=>⟨Kept.refl h,hx,Nat.le_refl _⟩
   cases m with
   | p=>unfold rd; exact seq .u .lp rfl trivial (fun _=>⟨rfl,fun _ h=>h⟩)
   | s=>unfold rd; exact seq .p .ls rfl trivial (fun _=>⟨rfl,fun _ h=>h⟩)
   | lp x=>
     unfold rd;split
     ·rename_i c; exact two 42 x .u .lp (by omega) (B4 c) rfl trivial hm (fun _=>⟨rfl,fun _ h=>h⟩)
     split
     ·rename_i c; exact two 47 x .u .lp (by omega) (B4 c) rfl trivial hm (fun _=>⟨rfl,fun _ h=>h⟩)
     split
     ·rename_i c; exact two 37 x .u .lp (by omega) (B4 c) rfl trivial hm (fun _=>⟨rfl,fun _ h=>h⟩)
     exact self x hm
   | ls x=>
     unfold rd;split
     ·rename_i c; exact two 43 x .p .ls (by omega) (B4 c) rfl trivial hm (fun _=>⟨rfl,fun _ h=>h⟩)
     split
     ·rename_i c; exact two 45 x .p .ls (by omega) (B4 c) rfl trivial hm (fun _=>⟨rfl,fun _ h=>h⟩)
     exact self x hm
   | u=>
     unfold rd;split
     ·rename_i c;have hi:=L8 (B4 c);have a:=ih .u r.next (Rd.next_ok h) (by rw[hno.2.1]; exact hnum) trivial
      refine a.bind fun y r' k1 fy wy=>?_
      refine ⟨kn.trans k1,by rw[← hno.2.2]; exact fy,?_⟩;show y.w + _≤_;have:Md.w .u=0:=rfl;omega
     split
     ·rename_i c;have hi:=L8 (r:=r) (by omega);have:=q72 (hnum _ (ZS h) c);refine ⟨kn,trivial,?_⟩;show nl _ + 1 + _≤0 + _;omega
     split
     ·rename_i c
      have hk:r.tok.kind=1:=by
       unfold Rd.isName at c;simp only[Bool.and_eq_true,decide_eq_true_eq] at c;exact c.1
      have hi:=L8 (r:=r) (by omega);split
      ·rename_i c2;have hv:=qca r.vs r.tok.text r.vs.length 0 (by omega);refine ⟨kn,⟨c2,by unfold Rd.var; omega,Z5 h⟩,?_⟩;show 1 + _≤0 + _;omega
      ·trivial
     split
     ·trivial
     ·rename_i hin
      have hop:r.op < 16:=by
       unfold Rd.into at hin;split at hin
       ·split at hin
        ·assumption
        ·cases hin
       ·cases hin
      have ho:=Rd.opened_ok h hop;have kn2:=Kept.next ho;have hno2:=r.opened.next_op;have a:=ih .s r.opened.next (Rd.next_ok ho) (by rw[hno2.2.1]; exact hnum) trivial
      refine a.bind fun y r' k1 fy wy=>?_
      have k3:=kn2.trans k1;split
      ·have kn4:=Kept.next k3.ok
       have hpos:0 < r'.next.op:=by
        rw[kn4.op,k3.op];have:=h.op;show 0 < r.op + 1;omega
       have hi4:=kn4.i;have hi5:r.i≤r.opened.next.i:=kn2.i;have hi6:=k1.i;refine ⟨⟨Rd.closed_ok kn4.ok hpos,?_,?_,?_,?_,kn4.ly.trans k3.ly,kn4.ms.trans k3.ms⟩,?_,?_⟩
       ·exact kn4.ts.trans k3.ts
       ·exact kn4.vs.trans k3.vs
       ·show r'.next.op - 1=r.op;rw[kn4.op,k3.op];show r.op + 1 - 1=r.op;omega
       ·show r.i≤r'.next.i;omega
       ·have:r.opened.next.vs=r.vs:=hno2.2.2;rw[← this]; exact fy
       ·have:Md.w .s=0:=rfl;show y.w + _≤0 + 457 * r'.next.i;omega
      ·trivial
end Go.Rf

namespace Go.Rf
theorem qc3:∀ f (s:Sc) (out:List Tok) e p,jw f s out=(none,e,p)→e≠0
 | 0,s,out,e,p,h=>by unfold jw at h; cases h
 | f + 1,s,out,e,p,h=>by
   unfold jw at h;split at h
   ·rename_i c; cases h; exact c
   ·split at h
    ·cases h
    ·exact qc3 f _ _ _ _ h
theorem qtt {s:List UInt8} {e p} (h:ZY s=(none,e,p)):e≠0:=by
 unfold ZY at h;split at h
 ·cases h; decide
 ·exact qc3 _ _ _ _ _ h
structure TsOk (ts:List Tok):Prop where
 rd:∀ vs:List (List UInt8),vs.length≤16→(∀ k,(tx vs k).length≤1100000)→(rd0 ts vs).ok
 n:ts.length≤5000
 num:∀ t∈ts,t.kind=2→qZ t.text
theorem qac {s:List UInt8} {ts e p} (h:ZY s=(some ts,e,p)):e=0∧TsOk ts:=by
 unfold ZY at h;split at h
 ·cases h
 rename_i hl;have hok:Sc.ok ⟨s,start,0,o9⟩:=⟨by show s.length≤4096; omega,by show Pl.small start s.length; unfold Pl.small start; simp only[]; omega⟩;obtain ⟨o,t,rfl,hp,hk,ht,he⟩:=ql2 _ _ _ _ _ _ hok (by show s.length < s.length + 1; omega) ⟨(fun t h=>by cases h),(fun t h=>by cases h),(fun t h=>by cases h)⟩ h;have hn:=qad _ _ _ _ _ _ hok h;simp only[List.length_append,List.length_cons,List.length_nil] at hn;refine ⟨he,⟨fun vs hv ht2=>⟨?_,?_,?_,?_,hv,⟨by show (0:Int)≤0; omega,by show (0:Int)≤16; omega⟩,?_,ht2,fun x h=>.inl (by cases h; rfl)⟩,by simp; omega,?_⟩⟩
 ·show 0 < (o++[t]).length;simp
 ·show (o++[t]).length≤5000;simp; omega
 ·intro j hj
  have hj:j < o.length:=by
   have:(rd0 (o++[t]) vs).ts.length=o.length + 1:=by simp[rd0]
   omega
  show ((o++[t]).getD j ⟨0,[],o9⟩).kind≠0;rw[List.getD_eq_getElem?_getD,List.getElem?_append_left hj,List.getElem?_eq_getElem hj];exact hp.k _ (List.getElem_mem hj)
 ·intro j hj
  have hj:j=o.length:=by
   have:(rd0 (o++[t]) vs).ts.length=o.length + 1:=by simp[rd0]
   omega
  subst hj;show ((o++[t]).getD o.length ⟨0,[],o9⟩).kind=0;simp[hk]
 ·intro t' hm;rcases List.mem_append.1 (show t'∈o++[t] from hm) with h | h
  ·exact hp.tx _ h
  ·rw[List.mem_singleton.1 h]; exact ht
 ·intro t' hm h2;rcases List.mem_append.1 hm with h | h
  ·exact hp.nm _ h h2
  ·rw[List.mem_singleton.1 h] at h2;omega
def oD:Option Nd→D
 | none=>.nili
 | some x=>x.d
@[simp] theorem zii (f l a b):qud f [.ptr l a b] = .fn f [.ptr l a b]:=rfl
end Go.Rf

namespace Go.Rf
abbrev Tk:=Int × List UInt8
mutual
inductive Un (vs:List (List UInt8)):Nat→List Tk→Nd→Prop where
 | num {e w}:Un vs e [(2,w)] (.num (ku w))
 | name {e w v}:vF vs w vs.length 0=v→0≤v→xX w=false→Un vs e [(1,w)] (.name v w)
 | minus {e l x}:Un vs e l x→Un vs e ((3,[45]) :: l) (.minus x)
 | par {e l x}:Su vs e l x→Un vs (e + 1) ((3,[40]) :: (l++[(3,[41])])) x
 | weak {e l x}:Un vs e l x→Un vs (e + 1) l x
inductive Pr (vs:List (List UInt8)):Nat→List Tk→Nd→Prop where
 | one {e l x}:Un vs e l x→Pr vs e l x
 | mul {e l l' x y c op}:Pr vs e l x→Un vs e l' y→(c=42∧op=42∨c=47∧op=47∨c=37∧op=37)→Pr vs e (l++(3,[c]) :: l') (.two op x y)
inductive Su (vs:List (List UInt8)):Nat→List Tk→Nd→Prop where
 | one {e l x}:Pr vs e l x→Su vs e l x
 | add {e l l' x y c op}:Su vs e l x→Pr vs e l' y→(c=43∧op=43∨c=45∧op=45)→Su vs e (l++(3,[c]) :: l') (.two op x y)
end
def nm:List Tk→Prop
 | (k,w) :: _=>¬ ((k=3∨k=1)∧(w=[42]∨w=[47]∨w=[37]))
 | []=>True
def ns:List Tk→Prop
 | (k,w) :: _=>¬ ((k=3∨k=1)∧(w=[43]∨w=[45]))
 | []=>True
end Go.Rf

namespace Go.Rf
theorem qiu (vs:List (List UInt8)) (s:List UInt8):∀ d i,0≤vF vs s d i→∃ j,j < i + d∧vF vs s d i=(j:Int)∧tx vs j=s
 | 0,i,h=>by exact absurd h (by show ¬ (0:Int) ≤ -1; decide)
 | d + 1,i,h=>by
   unfold vF at h ⊢;split at h
   ·rename_i c;rw[if_pos c];exact ⟨i,by omega,rfl,c.symm⟩
   ·rename_i c;rw[if_neg c];obtain ⟨j,a,b,e⟩:=qiu vs s d (i + 1) h;exact ⟨j,by omega,b,e⟩
def XP (op:Int):Bool:=op == 43 || op == 45
def Nd.adds:Nd→Bool
 | .two op _ _=>XP op
 | _=>false
def Nd.single:Nd→Bool
 | .two _ _ _=>false
 | _=>true
def opc (op:Int):UInt8:=UInt8.ofNat op.toNat
def wrB (b:Bool) (w:List UInt8):List UInt8:=if b then 40 :: (w++[41]) else w
def ptB (b:Bool) (l:List Tk):List Tk:=if b then (3,[40]) :: (l++[(3,[41])]) else l
def dpB (b:Bool) (d:Nat):Nat:=if b then d + 1 else d
def wr:Nd→List UInt8
 | .num k=>qw 456 k
 | .name _ s=>s
 | .minus x=>45 :: wrB (!x.single) (wr x)
 | .two op x y=>wrB (!XP op && x.adds) (wr x)++32 :: opc op :: 32 :: wrB (XP op && y.adds || !XP op && !y.single) (wr y)
def pt:Nd→List Tk
 | .num k=>[(2,qw 456 k)]
 | .name _ s=>[(1,s)]
 | .minus x=>(3,[45]) :: ptB (!x.single) (pt x)
 | .two op x y=>ptB (!XP op && x.adds) (pt x)++(3,[opc op]) :: ptB (XP op && y.adds || !XP op && !y.single) (pt y)
def dp:Nd→Nat
 | .num _=>0
 | .name _ _=>0
 | .minus x=>dpB (!x.single) (dp x)
 | .two op x y=>max (dpB (!XP op && x.adds) (dp x)) (dpB (XP op && y.adds || !XP op && !y.single) (dp y))
def Nd.pr (vs:List (List UInt8)):Nd→Prop
 | .num k=>0≤k∧(d6 k).length≤32
 | .name v s=>NameOk s∧vF vs s vs.length 0=v∧0≤v∧xX s=false
 | .minus x=>x.pr vs
 | .two op x y=>(op=43∨op=45∨op=42∨op=47∨op=37)∧x.pr vs∧y.pr vs
structure PtOk (vs:List (List UInt8)) (x:Nd):Prop where
 s:Su vs (dp x) (pt x) x
 p:x.adds=false→Pr vs (dp x) (pt x) x
 u:x.single=true→Un vs (dp x) (pt x) x
theorem PtOk.pb {vs x} (h:PtOk vs x) (b:Bool) (hb:b=x.adds):Pr vs (dpB b (dp x)) (ptB b (pt x)) x:=by
 subst hb
 cases hs:x.adds with
 | true=>exact .one (.par h.s)
 | false=>exact h.p hs
end Go.Rf

namespace Go.Rf
theorem qgu:∀ f (s:Sc) (out l:List Tok) e p,(∀ t∈out,t.kind=2→∃ v:Int,0≤v∧(d6 v).length≤32∧t.text=qw 456 v)→s.ok→jw f s out=(some l,e,p)→
 ∀ t∈l,t.kind=2→∃ v:Int,0≤v∧(d6 v).length≤32∧t.text=qw 456 v
 | 0,s,out,l,e,p,h,_,hs=>by unfold jw at hs; cases hs; exact h
 | f + 1,s,out,l,e,p,h,hok,hs=>by
   have hb:=jc (s.rest.length + 1) hok;change s.blanks.ok∧s.blanks.rest.length≤s.rest.length at hb;have hto:=Jh hb.1;unfold jw at hs;split at hs
   ·cases hs
   rename_i hc;have hc:s.blanks.token.2.code=0:=Classical.not_not.1 hc
   have key:s.blanks.token.1.kind=2→∃ v:Int,0≤v∧(d6 v).length≤32∧s.blanks.token.1.text=qw 456 v:=by
    intro hk;generalize s.blanks=z at *;unfold Sc.token at hk hc ⊢
    by_cases c2:z.cls.1=2
    ·rw[if_pos c2] at hk; cases hk
    ·rw[if_neg c2] at hk hc ⊢
     by_cases c3:z.cls.1=3
     ·rw[if_pos c3] at hk hc ⊢
      have h3:(z.ran L2).length≤4096:=by have:=hb.1.1; unfold Sc.ran; rw[List.length_take]; omega
      have hn:=Kt h3
      by_cases h32:32 < (d6 (ku (z.ran L2))).length
      ·simp only[if_pos h32] at hc;cases hc
      ·exact ⟨_,hn.1,by omega,rfl⟩
     ·rw[if_neg c3] at hk
      by_cases c5:z.cls.1=5
      ·rw[if_pos c5] at hk; cases hk
      ·rw[if_neg c5] at hk
       by_cases c1:z.cls.1 = -1
       ·rw[if_pos c1] at hk; cases hk
       ·rw[if_neg c1] at hk; cases hk
   have hout:∀ t∈out++[s.blanks.token.1],t.kind=2→∃ v:Int,0≤v∧(d6 v).length≤32∧t.text=qw 456 v:=by
    intro t ht;rcases List.mem_append.1 ht with ht | ht
    ·exact h t ht
    ·rw[List.mem_singleton.1 ht]; exact key
   split at hs
   ·cases hs; exact hout
   ·exact qgu f _ _ l e p hout hto.1 hs
theorem qww {s:List UInt8} {ts e p} (h:ZY s=(some ts,e,p)):∀ t∈ts,t.kind=2→∃ v:Int,0≤v∧(d6 v).length≤32∧t.text=qw 456 v:=by
 unfold ZY at h;split at h
 ·cases h
 rename_i hl;have hok:Sc.ok ⟨s,start,0,o9⟩:=⟨by show s.length≤4096; omega,by show Pl.small start s.length; unfold Pl.small start; simp only[]; omega⟩;exact qgu _ _ _ _ _ _ (fun t ht=>by cases ht) hok h
def QOk (Q:Nd→Prop):Rs→Prop
 | .ok x _=>Q x
 | .bad _ _ _=>True
def Md.q (Q:Nd→Prop):Md→Prop
 | .lp x=>Q x
 | .ls x=>Q x
 | _=>True
theorem q7c {vs:List (List UInt8)} {ts:List Tok} (Q:Nd→Prop) (hnum:∀ t∈ts,t.kind=2→qZ t.text) (qn:∀ t∈ts,t.kind=2→Q (.num (ku t.text))) (qv:∀ w,0≤vF vs w vs.length 0→xX w=false→Q (.name (vF vs w vs.length 0) w))
 (qm:∀ x,Q x→Q (.minus x)) (qt:∀ op x y,(op=43∨op=45∨op=42∨op=47∨op=37)→Q x→Q y→Q (.two op x y)) :
 ∀ n m (r:Rd),r.ok→r.ts=ts→r.vs=vs→m.fine vs.length→m.q Q→QOk Q (rd n m r):=by
 intro n
 induction n with
 | zero=>intro m r _ _ _ _ _; trivial
 | succ n ih=>
   intro m r h hts hvs hf hm;have kn:=Kept.next h
   have rk:=fun (md:Md) (r2:Rd) (h2:r2.ok) (e1:r2.ts=ts) (e2:r2.vs=vs) (hf2:md.fine vs.length)=>qxf n md r2 h2 (by rw[e1]; exact hnum) (by rw[e2]; exact hf2)
   have bnd:∀ (md:Md) (r2:Rd) (f:Nd→Rd→Rs),r2.ok→r2.ts=ts→r2.vs=vs→md.fine vs.length→md.q Q→(∀ x r3,Kept r2 r3→x.fine vs.length→Q x→QOk Q (f x r3))→QOk Q ((rd n md r2).bind f):=by
    intro md r2 f h2 e1 e2 hf2 hq2 g;have a:=ih md r2 h2 e1 e2 hf2 hq2;have b:=rk md r2 h2 e1 e2 hf2
    cases hb:rd n md r2 with
    | bad e p r3=>trivial
    | ok x r3=>
      rw[hb] at a b;exact g x r3 b.1 (by rw[← e2]; exact b.2.1) a
   have two:∀ (op:Int) (x:Nd) (md:Md) (m2:Nd→Md),(op=43∨op=45∨op=42∨op=47∨op=37)→md.fine vs.length→md.q Q→x.fine vs.length→Q x→(∀ y,(∀ k,y.fine k→(m2 y).fine k)∧(Q y→(m2 y).q Q))→
    QOk Q ((rd n md r.next).bind fun y r=>rd n (m2 (.two op x y)) r):=by
    intro op x md m2 hop hf2 hq2 hx hqx h2
    refine bnd md r.next _ kn.ok (kn.ts.trans hts) (kn.vs.trans hvs) hf2 hq2 fun y r3 k3 fy qy=>?_
    exact ih _ r3 k3.ok (k3.ts.trans (kn.ts.trans hts)) (k3.vs.trans (kn.vs.trans hvs)) ((h2 _).1 _ ⟨hop,hx,fy⟩) ((h2 _).2 (qt op x y hop hqx qy))
   have seq:∀ (md:Md) (m2:Nd→Md),md.fine vs.length→md.q Q→(∀ y,(∀ k,y.fine k→(m2 y).fine k)∧(Q y→(m2 y).q Q))→QOk Q ((rd n md r).bind fun y r=>rd n (m2 y) r):=by
    intro md m2 hf2 hq2 h2
    refine bnd md r _ h hts hvs hf2 hq2 fun y r3 k3 fy qy=>?_
    exact ih _ r3 k3.ok (k3.ts.trans hts) (k3.vs.trans hvs) ((h2 _).1 _ fy) ((h2 _).2 qy)
   cases m with
   | p=>unfold rd; exact seq .u .lp trivial trivial (fun _=>⟨fun _ h=>h,fun h=>h⟩)
   | s=>unfold rd; exact seq .p .ls trivial trivial (fun _=>⟨fun _ h=>h,fun h=>h⟩)
   | lp x=>
     unfold rd;split
     ·exact two 42 x .u .lp (by omega) trivial trivial hf hm (fun _=>⟨fun _ h=>h,fun h=>h⟩)
     split
     ·exact two 47 x .u .lp (by omega) trivial trivial hf hm (fun _=>⟨fun _ h=>h,fun h=>h⟩)
     split
     ·exact two 37 x .u .lp (by omega) trivial trivial hf hm (fun _=>⟨fun _ h=>h,fun h=>h⟩)
     exact hm
   | ls x=>
     unfold rd;split
     ·exact two 43 x .p .ls (by omega) trivial trivial hf hm (fun _=>⟨fun _ h=>h,fun h=>h⟩)
     split
     ·exact two 45 x .p .ls (by omega) trivial trivial hf hm (fun _=>⟨fun _ h=>h,fun h=>h⟩)
     exact hm
   | u=>
     unfold rd;split
     ·exact bnd .u r.next _ kn.ok (kn.ts.trans hts) (kn.vs.trans hvs) trivial trivial fun y r3 _ _ qy=>qm y qy
     split
     ·rename_i c;exact qn _ (hts ▸ ZS h) c
     split
     ·rename_i c;split
      ·rename_i c2;unfold Rd.isName at c;simp only[Bool.and_eq_true,Bool.not_eq_true'] at c;unfold Rd.var at c2 ⊢;rw[hvs] at c2 ⊢;exact qv _ c2 c.2
      ·trivial
     split
     ·trivial
     ·rename_i hin
      have hop:r.op < 16:=by
       unfold Rd.into at hin;split at hin
       ·split at hin
        ·assumption
        ·cases hin
       ·cases hin
      have ho:=Rd.opened_ok h hop;have kn2:=Kept.next ho
      refine bnd .s r.opened.next _ kn2.ok (kn2.ts.trans hts) (kn2.vs.trans hvs) trivial trivial fun y r3 _ _ qy=>?_
      split
      ·exact qy
      ·trivial
end Go.Rf

namespace Go.Rf
theorem qsm {w t:List UInt8} {r n:Nat} (h:w≠[]) (e:dec (w++t) 0=(r,n)) (hn:n≤w.length) (hb:¬ (r=65533∧n=1)):dec w 0=(r,n):=by
 unfold dec Utf8.decode at *
 have hsz:(ByteArray.mk w.toArray).size=w.length:=by simp[ByteArray.size]
 have hsz2:(ByteArray.mk (w++t).toArray).size=w.length + t.length:=by simp[ByteArray.size]
 have hl:0 < w.length:=List.length_pos_iff.2 h
 have g:∀ k,k < w.length→(ByteArray.mk (w++t).toArray).get! (0 + k)=(ByteArray.mk w.toArray).get! (0 + k):=by
  intro k hk;simp only[ByteArray.get!,Nat.zero_add];simp[hk,List.getElem?_append_left]
 extract_lets a2 c2 b2 y1 y2 y3 at e
 extract_lets a1 c1 b1 x1 x2 x3
 have ha:∀ k,k < w.length→a2 k=a1 k:=fun k hk=>congrArg UInt8.toNat (g k hk)
 have hc:∀ k,c1 k=true→c2 k=true:=by
  intro k hk;simp only[c1,Bool.and_eq_true,decide_eq_true_eq,hsz] at hk;simp only[c2,Bool.and_eq_true,decide_eq_true_eq,hsz2];refine ⟨by omega,?_⟩;rw[ha k (by omega)];exact hk.2
 have hc':∀ k,k < w.length→c2 k=true→c1 k=true:=by
  intro k hk hk2;simp only[c2,Bool.and_eq_true,decide_eq_true_eq] at hk2;simp only[c1,Bool.and_eq_true,decide_eq_true_eq,hsz];refine ⟨by omega,?_⟩;rw[← ha k hk];exact hk2.2
 have hb0:b2=b1:=ha 0 hl
 have hx1:1 < w.length→y1=x1:=fun h=>by simp only[y1,x1,hb0,ha 1 h]
 have hx2:2 < w.length→y2=x2:=fun h=>by simp only[y2,x2,hb0,ha 1 (by omega),ha 2 h]
 have hx3:3 < w.length→y3=x3:=fun h=>by simp only[y3,x3,hb0,ha 1 (by omega),ha 2 (by omega),ha 3 h]
 clear_value y1 y2 y3 x1 x2 x3
 clear_value c1 c2
 clear_value b1 b2
 subst hb0
 by_cases k0:b2 < 128
 ·rw[if_pos k0] at e ⊢;exact e
 rw[if_neg k0] at e ⊢
 by_cases k1:(b2 / 32 == 6 && c2 1)=true
 ·rw[if_pos k1] at e;simp only[Bool.and_eq_true] at k1
  have hn2:n=2∨n=1:=by split at e <;> (cases e; omega)
  rcases hn2 with rfl | rfl
  ·rw[if_pos (by simp[k1.1,hc' 1 (by omega) k1.2]),← hx1 (by omega)];exact e
  ·split at e
   ·cases e
   ·cases e; exact absurd ⟨rfl,rfl⟩ hb
 rw[if_neg k1] at e
 have m1:¬ (b2 / 32 == 6 && c1 1)=true:=fun hh=>k1 (by simp only[Bool.and_eq_true] at hh ⊢; exact ⟨hh.1,hc 1 hh.2⟩)
 by_cases k2:(b2 / 16 == 14 && c2 1 && c2 2)=true
 ·rw[if_pos k2] at e;simp only[Bool.and_eq_true] at k2
  have hn2:n=3∨n=1:=by split at e <;> (cases e; omega)
  rcases hn2 with rfl | rfl
  ·rw[if_neg m1,if_pos (by simp[k2.1.1,hc' 1 (by omega) k2.1.2,hc' 2 (by omega) k2.2]),← hx2 (by omega)];exact e
  ·split at e
   ·cases e
   ·cases e; exact absurd ⟨rfl,rfl⟩ hb
 rw[if_neg k2] at e
 have m2:¬ (b2 / 16 == 14 && c1 1 && c1 2)=true:=fun hh=>k2 (by simp only[Bool.and_eq_true] at hh ⊢; exact ⟨⟨hh.1.1,hc 1 hh.1.2⟩,hc 2 hh.2⟩)
 by_cases k3:(b2 / 8 == 30 && c2 1 && c2 2 && c2 3)=true
 ·rw[if_pos k3] at e;simp only[Bool.and_eq_true] at k3
  have hn2:n=4∨n=1:=by split at e <;> (cases e; omega)
  rcases hn2 with rfl | rfl
  ·rw[if_neg m1,if_neg m2,if_pos (by simp[k3.1.1.1,hc' 1 (by omega) k3.1.1.2,hc' 2 (by omega) k3.1.2,hc' 3 (by omega) k3.2]),← hx3 (by omega)];exact e
  ·split at e
   ·cases e
   ·cases e; exact absurd ⟨rfl,rfl⟩ hb
 rw[if_neg k3] at e;cases e;exact absurd ⟨rfl,rfl⟩ hb
theorem ql7 {p:Int→Bool}:∀ (F:Nat) (s:Sc),s.ok→qw0 p F (s.rest.take (s.rest.length - (Z1 p F s).rest.length))=true
 | 0,s,_=>by
   unfold Z1;simp[qw0]
 | F + 1,s,hok=>by
   unfold Z1;split
   ·rename_i c;have hr:=(s.cls_same (by omega)).2
    have hn:0≤s.next.1:=by
     unfold Sc.cls at c
     by_cases h0:s.next.1 < 0
     ·rw[if_pos h0] at c; exact absurd c.1 (by simp)
     ·omega
    have hnx:kJ s.rest (dec s.rest 0).1=false∧s.next.1=(dec s.rest 0).1:=by
     unfold Sc.next at hn ⊢;rw[if_neg hr] at hn ⊢
     by_cases hb:kJ s.rest (dec s.rest 0).1=true
     ·rw[if_pos hb] at hn; exact absurd hn (by simp)
     ·rw[if_neg hb];exact ⟨by simpa using hb,rfl⟩
    have hcl:s.cls.1=cls (dec s.rest 0).1:=by
     unfold Sc.cls;rw[if_neg (by omega),hnx.2]
    have hp:s.pass.rest=s.rest.drop (dec s.rest 0).2:=by
     unfold Sc.pass;rw[wv hr]
    have hd:=qa3 s.rest hr;have ih:=ql7 (p:=p) F s.pass (Sc.pass_ok hok hr);have hle:=(Zn p F (Sc.pass_ok hok hr)).2;generalize (Z1 p F s.pass).rest.length=m at *;rw[hp,List.length_drop] at hle ih;have hsp:s.rest=s.rest.take (s.rest.length - m)++s.rest.drop (s.rest.length - m):=(List.take_append_drop ..).symm
    have hw:(s.rest.take (s.rest.length - m)).length=s.rest.length - m:=by rw[List.length_take]; omega
    have hdr:(s.rest.take (s.rest.length - m)).drop (dec s.rest 0).2=(s.rest.drop (dec s.rest 0).2).take (s.rest.length - (dec s.rest 0).2 - m):=by
     rw[List.drop_take]
     congr 1
     omega
    generalize hgw:s.rest.take (s.rest.length - m)=w at *
    have hne:¬ ((dec s.rest 0).1=65533∧(dec s.rest 0).2=1):=by
     intro hc;have:=hnx.1;unfold kJ at this;rw[wv hr] at this;simp[hc.1,hc.2] at this
    have hw0:w≠[]:=fun e=>by rw[e] at hw; simp at hw; omega
    have e:=qsm (w:=w) (t:=s.rest.drop (s.rest.length - m)) hw0 (r:=(dec s.rest 0).1) (n:=(dec s.rest 0).2) (by rw[← hsp]) (by omega) hne;rw[← hdr] at ih
    cases hww:w with
    | nil=>exact absurd hww hw0
    | cons b v=>
      rw[hww] at e ih;unfold qw0;rw[e];simp only[];rw[ih,← hcl,c.2]
      have:kJ (b :: v) (dec s.rest 0).1=false:=by
       unfold kJ;rw[wv (by simp),e];simp only[Bool.and_eq_false_iff,beq_eq_false_iff_ne,decide_eq_false_iff_not]
       by_cases h1:(dec s.rest 0).1=65533
       ·right; exact fun h2=>hne ⟨h1,by omega⟩
       ·left; omega
      rw[this];rfl
   ·rw[s.cls_rest.1];simp
    cases F <;> rfl
theorem qxi {z:Sc} (hok:z.ok) (h2:z.cls.1=2) (h16:rc (z.ran F6)≤16):NameOk (z.ran F6):=by
 have hr:=(z.cls_same (by omega)).2
 have hn:0≤z.next.1:=by
  unfold Sc.cls at h2
  by_cases h0:z.next.1 < 0
  ·rw[if_pos h0] at h2; cases h2
  ·omega
 have hnx:kJ z.rest (dec z.rest 0).1=false∧z.next.1=(dec z.rest 0).1:=by
  unfold Sc.next at hn ⊢;rw[if_neg hr] at hn ⊢
  by_cases hb:kJ z.rest (dec z.rest 0).1=true
  ·rw[if_pos hb] at hn; exact absurd hn (by simp)
  ·rw[if_neg hb];exact ⟨by simpa using hb,rfl⟩
 have hcl:z.cls.1=cls (dec z.rest 0).1:=by
  unfold Sc.cls;rw[if_neg (by omega),hnx.2]
 have hd:=qa3 z.rest hr;have hrun:=ql7 (p:=F6) (z.rest.length + 1) z hok
 have hm:(Z1 F6 (z.rest.length + 1) z).rest.length≤z.rest.length - (dec z.rest 0).2:=by
  unfold Z1;rw[if_pos ⟨by omega,by rw[h2]; rfl⟩];have:=(Zn F6 z.rest.length (Sc.pass_ok hok hr)).2
  have hp:z.pass.rest=z.rest.drop (dec z.rest 0).2:=by
   unfold Sc.pass;rw[wv hr]
  rw[hp,List.length_drop] at this;exact this
 have hw:(z.ran F6).length=z.rest.length - (Z1 F6 (z.rest.length + 1) z).rest.length:=by
  unfold Sc.ran Sc.run;rw[List.length_take]; omega
 have hw0:z.ran F6≠[]:=fun e=>by rw[e] at hw; simp at hw; omega
 have hsp:z.rest=z.ran F6++z.rest.drop (z.rest.length - (Z1 F6 (z.rest.length + 1) z).rest.length):=(List.take_append_drop ..).symm
 have hne:¬ ((dec z.rest 0).1=65533∧(dec z.rest 0).2=1):=by
  intro hc;have:=hnx.1;unfold kJ at this;rw[wv hr] at this;simp[hc.1,hc.2] at this
 have e:=qsm hw0 (t:=z.rest.drop (z.rest.length - (Z1 F6 (z.rest.length + 1) z).rest.length)) (r:=(dec z.rest 0).1) (n:=(dec z.rest 0).2) (by rw[← hsp]) (by omega) hne;have:=hok.1;exact ⟨hw0,by rw[e]; rw[hcl] at h2; exact h2,⟨_,hrun⟩,h16,by omega⟩
theorem qc4:∀ f (s:Sc) (out l:List Tok) e p,(∀ t∈out,t.kind=1→NameOk t.text)→s.ok→jw f s out=(some l,e,p)→∀ t∈l,t.kind=1→NameOk t.text
 | 0,s,out,l,e,p,h,_,hs=>by unfold jw at hs; cases hs; exact h
 | f + 1,s,out,l,e,p,h,hok,hs=>by
   have hb:=jc (s.rest.length + 1) hok;change s.blanks.ok∧s.blanks.rest.length≤s.rest.length at hb;have hto:=Jh hb.1;unfold jw at hs;split at hs
   ·cases hs
   rename_i hc;have hc:s.blanks.token.2.code=0:=Classical.not_not.1 hc
   have key:s.blanks.token.1.kind=1→NameOk s.blanks.token.1.text:=by
    intro hk;generalize s.blanks=z at *;unfold Sc.token at hk hc ⊢
    by_cases c2:z.cls.1=2
    ·rw[if_pos c2] at hk hc ⊢
     by_cases h16:16 < rc (z.ran F6)
     ·simp only[if_pos h16] at hc;cases hc
     ·exact qxi hb.1 c2 (by omega)
    ·rw[if_neg c2] at hk
     by_cases c3:z.cls.1=3
     ·rw[if_pos c3] at hk; cases hk
     ·rw[if_neg c3] at hk
      by_cases c5:z.cls.1=5
      ·rw[if_pos c5] at hk; cases hk
      ·rw[if_neg c5] at hk
       by_cases c1:z.cls.1 = -1
       ·rw[if_pos c1] at hk; cases hk
       ·rw[if_neg c1] at hk; cases hk
   have hout:∀ t∈out++[s.blanks.token.1],t.kind=1→NameOk t.text:=by
    intro t ht;rcases List.mem_append.1 ht with ht | ht
    ·exact h t ht
    ·rw[List.mem_singleton.1 ht]; exact key
   split at hs
   ·cases hs; exact hout
   ·exact qc4 f _ _ l e p hout hto.1 hs
theorem qtu {s:List UInt8} {ts e p} (h:ZY s=(some ts,e,p)):∀ t∈ts,t.kind=1→NameOk t.text:=by
 unfold ZY at h;split at h
 ·cases h
 rename_i hl;have hok:Sc.ok ⟨s,start,0,o9⟩:=⟨by show s.length≤4096; omega,by show Pl.small start s.length; unfold Pl.small start; simp only[]; omega⟩;exact qc4 _ _ _ _ _ _ (fun t ht=>by cases ht) hok h
end Go.Rf

namespace Go.Rf
def Nd.sz:Nd→Nat
 | .num _=>1
 | .name _ _=>1
 | .minus x=>x.sz + 1
 | .two _ x y=>x.sz + y.sz + 1
def qfm (r:Rd) (a:Nat):Rs→Prop
 | .ok x r'=>Kept r r'∧x.fine r.vs.length∧x.sz + r.i≤a + r'.i
 | .bad _ _ _=>True
theorem qfm.bind {r r0:Rd} {a c:Nat} {b:Rs} {f:Nd→Rd→Rs} (h:qfm r0 a b) (g:∀ x r',Kept r0 r'→x.fine r0.vs.length→x.sz + r0.i≤a + r'.i→qfm r c (f x r')):qfm r c (b.bind f):=by
 cases b with
 | bad e p r'=>trivial
 | ok x r'=>exact g x r' h.1 h.2.1 h.2.2
theorem qfm.from {r r':Rd} {a c:Nat} {b:Rs} (h:qfm r' c b) (k:Kept r r') (hw:c + r.i≤a + r'.i):qfm r a b:=by
 cases b with
 | bad e p r2=>trivial
 | ok x r2=>
   obtain ⟨h1,h2,h3⟩:=h;exact ⟨k.trans h1,by rw[← k.vs]; exact h2,by omega⟩
def Md.sz:Md→Nat
 | .lp x=>x.sz
 | .ls x=>x.sz
 | _=>0
theorem zg9:∀ n m r,Rd.ok r→(∀ t∈r.ts,t.kind=2→qZ t.text)→m.fine r.vs.length→qfm r m.sz (rd n m r):=by
 intro n
 induction n with
 | zero=>intro m r _ _ _; trivial
 | succ n ih=>
   intro m r h hnum hm;have hno:=r.next_op;have kn:=Kept.next h
   have two:∀ (op:Int) (x:Nd) (md:Md) (m2:Nd→Md),(op=43∨op=45∨op=42∨op=47∨op=37)→r.tok.kind≠0→md.sz=0→md.fine r.vs.length→x.fine r.vs.length→(∀ y,(m2 y).sz=y.sz ∧ ∀ k,y.fine k→(m2 y).fine k)→
    qfm r x.sz ((rd n md r.next).bind fun y r=>rd n (m2 (.two op x y)) r):=by
    intro op x md m2 hop hk h0 hf hx h2;have hi:=L8 hk;have a:=ih md r.next (Rd.next_ok h) (by rw[hno.2.1]; exact hnum) (by rw[hno.2.2]; exact hf);rw[h0] at a
    refine a.bind fun y r' k1 fy wy=>?_
    have k2:=kn.trans k1;have b:=ih (m2 (.two op x y)) r' k1.ok (by rw[k2.ts]; exact hnum) ((h2 _).2 _ (by rw[k2.vs]; exact ⟨hop,hx,by rw[← hno.2.2]; exact fy⟩));rw[(h2 _).1] at b;exact b.from k2 (by show x.sz + y.sz + 1 + _≤_; omega)
   have seq:∀ (md:Md) (m2:Nd→Md),md.sz=0→md.fine r.vs.length→(∀ y,(m2 y).sz=y.sz ∧ ∀ k,y.fine k→(m2 y).fine k)→qfm r 0 ((rd n md r).bind fun y r=>rd n (m2 y) r):=by
    intro md m2 h0 hf h2;have a:=ih md r h hnum hf;rw[h0] at a
    refine a.bind fun y r' k1 fy wy=>?_
    have b:=ih (m2 y) r' k1.ok (by rw[k1.ts]; exact hnum) ((h2 _).2 _ (by rw[k1.vs]; exact fy));rw[(h2 _).1] at b;exact b.from k1 (by omega)
   have self:∀ x:Nd,x.fine r.vs.length→qfm r x.sz (.ok x r):=fun x hx=>⟨Kept.refl h,hx,Nat.le_refl _⟩
   cases m with
   | p=>unfold rd; exact seq .u .lp rfl trivial (fun _=>⟨rfl,fun _ h=>h⟩)
   | s=>unfold rd; exact seq .p .ls rfl trivial (fun _=>⟨rfl,fun _ h=>h⟩)
   | lp x=>
     unfold rd;split
     ·rename_i c; exact two 42 x .u .lp (by omega) (B4 c) rfl trivial hm (fun _=>⟨rfl,fun _ h=>h⟩)
     split
     ·rename_i c; exact two 47 x .u .lp (by omega) (B4 c) rfl trivial hm (fun _=>⟨rfl,fun _ h=>h⟩)
     split
     ·rename_i c; exact two 37 x .u .lp (by omega) (B4 c) rfl trivial hm (fun _=>⟨rfl,fun _ h=>h⟩)
     exact self x hm
   | ls x=>
     unfold rd;split
     ·rename_i c; exact two 43 x .p .ls (by omega) (B4 c) rfl trivial hm (fun _=>⟨rfl,fun _ h=>h⟩)
     split
     ·rename_i c; exact two 45 x .p .ls (by omega) (B4 c) rfl trivial hm (fun _=>⟨rfl,fun _ h=>h⟩)
     exact self x hm
   | u=>
     unfold rd;split
     ·rename_i c;have hi:=L8 (B4 c);have a:=ih .u r.next (Rd.next_ok h) (by rw[hno.2.1]; exact hnum) trivial
      refine a.bind fun y r' k1 fy wy=>?_
      refine ⟨kn.trans k1,by rw[← hno.2.2]; exact fy,?_⟩;show y.sz + 1 + _≤_;have:Md.sz .u=0:=rfl;omega
     split
     ·rename_i c;have hi:=L8 (r:=r) (by omega);refine ⟨kn,trivial,?_⟩;show 1 + _≤0 + _;omega
     split
     ·rename_i c
      have hk:r.tok.kind=1:=by
       unfold Rd.isName at c;simp only[Bool.and_eq_true,decide_eq_true_eq] at c;exact c.1
      have hi:=L8 (r:=r) (by omega);split
      ·rename_i c2;have hv:=qca r.vs r.tok.text r.vs.length 0 (by omega);refine ⟨kn,⟨c2,by unfold Rd.var; omega,Z5 h⟩,?_⟩;show 1 + _≤0 + _;omega
      ·trivial
     split
     ·trivial
     ·rename_i hin
      have hop:r.op < 16:=by
       unfold Rd.into at hin;split at hin
       ·split at hin
        ·assumption
        ·cases hin
       ·cases hin
      have ho:=Rd.opened_ok h hop;have kn2:=Kept.next ho;have hno2:=r.opened.next_op;have a:=ih .s r.opened.next (Rd.next_ok ho) (by rw[hno2.2.1]; exact hnum) trivial
      refine a.bind fun y r' k1 fy wy=>?_
      have k3:=kn2.trans k1;split
      ·have kn4:=Kept.next k3.ok
       have hpos:0 < r'.next.op:=by
        rw[kn4.op,k3.op];have:=h.op;show 0 < r.op + 1;omega
       have hi4:=kn4.i;have hi5:r.i≤r.opened.next.i:=kn2.i;have hi6:=k1.i;refine ⟨⟨Rd.closed_ok kn4.ok hpos,?_,?_,?_,?_,kn4.ly.trans k3.ly,kn4.ms.trans k3.ms⟩,?_,?_⟩
       ·exact kn4.ts.trans k3.ts
       ·exact kn4.vs.trans k3.vs
       ·show r'.next.op - 1=r.op;rw[kn4.op,k3.op];show r.op + 1 - 1=r.op;omega
       ·show r.i≤r'.next.i;omega
       ·have:r.opened.next.vs=r.vs:=hno2.2.2;rw[← this]; exact fy
       ·have:Md.sz .s=0:=rfl;show y.sz + _≤0 + r'.next.i;omega
      ·trivial
end Go.Rf

namespace Go.Rf
theorem qq8 (b:Bool) (d:Nat):d≤dpB b d∧dpB b d≤d + 1:=by cases b <;> simp[dpB]
theorem qoz (x:Nd) (h:x.adds=true):x.single=false:=by cases x <;> first | rfl | cases h
theorem q21 (x:Nd):dpB x.adds (dp x)≤dpB (!x.single) (dp x):=by
 cases h:x.adds with
 | false=>exact (qq8 _ _).1
 | true=>rw[qoz x h]; exact Nat.le_refl _
theorem zao {op:Int} (h:XP op=false) (x y:Nd):dpB (Nd.two op x y).adds (dp (.two op x y))=max (dpB x.adds (dp x)) (dpB (!y.single) (dp y)):=by
 rw[show (Nd.two op x y).adds=false from h,dp,h];simp[dpB]
theorem zap {op:Int} (h:XP op=true) (x y:Nd):dp (.two op x y)=max (dp x) (dpB y.adds (dp y)):=by
 rw[dp,h];simp[dpB]
def Md.bnd:Md→Nd→Nat
 | .u,x=>dpB (!x.single) (dp x)
 | .p,x=>dpB x.adds (dp x)
 | .lp _,x=>dpB x.adds (dp x)
 | _,x=>dp x
def Md.dp (r:Rd):Md→Prop
 | .lp x=>((dpB x.adds (Rf.dp x):Nat):Int) + r.op≤16
 | .ls x=>((Rf.dp x:Nat):Int) + r.op≤16
 | _=>True
def qrt (r:Rd) (m:Md):Rs→Prop
 | .ok x _=>((m.bnd x:Nat):Int) + r.op≤16
 | .bad _ _ _=>True
theorem zha:∀ n m (r:Rd),r.ok→(∀ t∈r.ts,t.kind=2→qZ t.text)→m.fine r.vs.length→m.dp r→qrt r m (rd n m r):=by
 intro n
 induction n with
 | zero=>intro m r _ _ _ _; trivial
 | succ n ih=>
   intro m r h hnum hf hm;have kn:=Kept.next h;have hno:=r.next_op;have hop:=h.op
   have bnd:∀ (md:Md) (r2:Rd) (m3:Md) (f:Nd→Rd→Rs),r2.ok→r2.ts=r.ts→r2.vs=r.vs→md.fine r.vs.length→md.dp r2→(∀ x r3,Kept r2 r3→x.fine r.vs.length→((md.bnd x:Nat):Int) + r2.op≤16→qrt r m3 (f x r3))→qrt r m3 ((rd n md r2).bind f):=by
    intro md r2 m3 f h2 e1 e2 hf2 hq2 g;have a:=ih md r2 h2 (by rw[e1]; exact hnum) (by rw[e2]; exact hf2) hq2;have b:=qxf n md r2 h2 (by rw[e1]; exact hnum) (by rw[e2]; exact hf2)
    cases hb:rd n md r2 with
    | bad e p r3=>trivial
    | ok x r3=>
      rw[hb] at a b;exact g x r3 b.1 (by rw[← e2]; exact b.2.1) a
   have to:∀ {m2:Md} {r2:Rd} {m3:Md} {rs:Rs},qrt r2 m2 rs→r2.op=r.op→(∀ x,m3.bnd x≤m2.bnd x)→qrt r m3 rs:=by
    intro m2 r2 m3 rs a e le
    cases rs with
    | bad e p r3=>trivial
    | ok x r3=>
      have:=le x;have a:((m2.bnd x:Nat):Int) + r2.op≤16:=a;show ((m3.bnd x:Nat):Int) + r.op≤16;omega
   have mul:∀ (op:Int) (x:Nd),(op=42∨op=47∨op=37)→x.fine r.vs.length→((dpB x.adds (dp x):Nat):Int) + r.op≤16→
    qrt r (.lp x) ((rd n .u r.next).bind fun y r=>rd n (.lp (.two op x y)) r):=by
    intro op x ho hx hdx
    refine bnd .u r.next (.lp x) _ kn.ok kn.ts kn.vs trivial trivial fun y r3 k3 fy qy=>?_
    have k:=kn.trans k3;have e:=zao (op:=op) (by rcases ho with rfl | rfl | rfl <;> rfl) x y;have qy:((dpB (!y.single) (dp y):Nat):Int) + r.next.op≤16:=qy;rw[hno.1] at qy;refine to (m2:=.lp (.two op x y)) (ih _ r3 k3.ok (by rw[k.ts]; exact hnum) (by rw[k.vs]; exact ⟨by omega,hx,fy⟩) ?_) k.op (fun _=>Nat.le_refl _);show ((dpB (Nd.two op x y).adds (dp (.two op x y)):Nat):Int) + r3.op≤16;rw[e,k.op];omega
   have add:∀ (op:Int) (x:Nd),(op=43∨op=45)→x.fine r.vs.length→((dp x:Nat):Int) + r.op≤16→
    qrt r (.ls x) ((rd n .p r.next).bind fun y r=>rd n (.ls (.two op x y)) r):=by
    intro op x ho hx hdx
    refine bnd .p r.next (.ls x) _ kn.ok kn.ts kn.vs trivial trivial fun y r3 k3 fy qy=>?_
    have k:=kn.trans k3;have e:=zap (op:=op) (by rcases ho with rfl | rfl <;> rfl) x y;have qy:((dpB y.adds (dp y):Nat):Int) + r.next.op≤16:=qy;rw[hno.1] at qy;refine to (m2:=.ls (.two op x y)) (ih _ r3 k3.ok (by rw[k.ts]; exact hnum) (by rw[k.vs]; exact ⟨by omega,hx,fy⟩) ?_) k.op (fun _=>Nat.le_refl _);show ((dp (.two op x y):Nat):Int) + r3.op≤16;rw[e,k.op];omega
   cases m with
   | p=>
     unfold rd
     refine bnd .u r .p _ h rfl rfl trivial trivial fun y r3 k3 fy qy=>?_
     have:=q21 y;have qy:((dpB (!y.single) (dp y):Nat):Int) + r.op≤16:=qy;refine to (m2:=.lp y) (ih _ r3 k3.ok (by rw[k3.ts]; exact hnum) (by rw[k3.vs]; exact fy) ?_) k3.op (fun _=>Nat.le_refl _);show ((dpB y.adds (dp y):Nat):Int) + r3.op≤16;rw[k3.op];omega
   | s=>
     unfold rd
     refine bnd .p r .s _ h rfl rfl trivial trivial fun y r3 k3 fy qy=>?_
     have:=(qq8 y.adds (dp y)).1;have qy:((dpB y.adds (dp y):Nat):Int) + r.op≤16:=qy;refine to (m2:=.ls y) (ih _ r3 k3.ok (by rw[k3.ts]; exact hnum) (by rw[k3.vs]; exact fy) ?_) k3.op (fun _=>Nat.le_refl _);show ((dp y:Nat):Int) + r3.op≤16;rw[k3.op];omega
   | lp x=>
     unfold rd;split
     ·exact mul 42 x (by omega) hf hm
     split
     ·exact mul 47 x (by omega) hf hm
     split
     ·exact mul 37 x (by omega) hf hm
     exact hm
   | ls x=>
     unfold rd;split
     ·exact add 43 x (by omega) hf hm
     split
     ·exact add 45 x (by omega) hf hm
     exact hm
   | u=>
     unfold rd;split
     ·refine bnd .u r.next .u _ kn.ok kn.ts kn.vs trivial trivial fun y r3 k3 fy qy=>?_
      rw[hno.1] at qy;exact qy
     split
     ·show ((0:Nat):Int) + r.op≤16;omega
     split
     ·split
      ·show ((0:Nat):Int) + r.op≤16;omega
      ·trivial
     split
     ·trivial
     ·rename_i hin
      have hlt:r.op < 16:=by
       unfold Rd.into at hin;split at hin
       ·split at hin
        ·assumption
        ·cases hin
       ·cases hin
      have ho:=Rd.opened_ok h hlt;have kn2:=Kept.next ho
      refine bnd .s r.opened.next .u _ kn2.ok kn2.ts kn2.vs trivial trivial fun y r3 _ _ qy=>?_
      split
      ·have e:r.opened.next.op=r.op + 1:=r.opened.next_op.1;have qy:((dp y:Nat):Int) + r.opened.next.op≤16:=qy;rw[e] at qy;have:=(qq8 (!y.single) (dp y)).2;show ((dpB (!y.single) (dp y):Nat):Int) + r.op≤16;omega
      ·trivial
end Go.Rf
