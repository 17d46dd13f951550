/- Parts of the proof: RfSimp. -/
import Derived.Test.YtjlnfdabdhkgcaaGreatDoorRb2

set_option linter.unusedSimpArgs false
set_option linter.unusedVariables false
set_option linter.unnecessarySimpa false
set_option linter.unusedSectionVars false
set_option linter.all false
set_option linter.unusedSectionVars false
namespace Go.Rf
def okV (o:Option V):Option R:=bnd o val
@[simp] theorem zid (v):okV (some v)=some (.ok { v:=v }):=rfl
@[simp] theorem zie:okV none=none:=rfl
@[simp] theorem val_eq (v):val v=some (.ok { v:=v }):=rfl
def qvu (c a b:Option V):Option R:=match c with
 | some (.d (.bool true))=>okV a
 | some (.d (.bool false))=>okV b
 | _=>none
@[simp] theorem q6p (a b):qvu (some (.d (.bool true))) a b=okV a:=rfl
@[simp] theorem q2s (a b):qvu (some (.d (.bool false))) a b=okV b:=rfl
def zmb (i n:Nat) (o:Option V):Option R:=bnd o fun v=>if v.cells.length=n then some (.ok { v:=.ptr (.n i 0) 0 0,wr:=[(.n i 0,some (.arr [v] ⟨n,0⟩))] }) else none
@[simp] theorem zfq (i n v):zmb i n (some v)=if v.cells.length=n then some (.ok { v:=.ptr (.n i 0) 0 0,wr:=[(.n i 0,some (.arr [v] ⟨n,0⟩))] }) else none:=rfl
def q6y (wr:List (Loc × Option Obj)) (o:Option (List V)):Option R:=bnd o fun cs=>some (.ok { v:=wT cs,wr:=wr })
@[simp] theorem zic (wr cs):q6y wr (some cs)=some (.ok { v:=wT cs,wr:=wr }):=rfl
def qx8 (x:V × List (Loc × Option Obj)) (o:Option (List (Nat × Nat × V))):Option R:=bnd o fun ps=>q6y x.2 (wR x.1.cells ps)
@[simp] theorem q4k (v wr ps):qx8 (v,wr) (some ps)=q6y wr (wR v.cells ps):=rfl
def zg1 (n:W) (z:D) (len:Nat) (o:Option (List (Nat × V))):Option (List V):=bnd o fun ps=>if z.cells.length=n.c∧len * n.w≤A5 then jc n (List.replicate len (.d z)) ps else none
@[simp] theorem qr5 (n z len ps):zg1 n z len (some ps)=if z.cells.length=n.c∧len * n.w≤A5 then jc n (List.replicate len (.d z)) ps else none:=rfl
def zl7 (i:Nat) (n:W) (len:Nat) (o:Option (List V)):Option R:=bnd o fun xs=>some (.ok { v:=.ref (.n i 0) n 0 len,wr:=[(.n i 0,some (.arr xs n))] })
@[simp] theorem zfn (i n len xs):zl7 i n len (some xs)=some (.ok { v:=.ref (.n i 0) n 0 len,wr:=[(.n i 0,some (.arr xs n))] }):=rfl
def qwr (h:Loc→Option Obj) (n:Nat) (ag:Bool) (o:Option V):Option R:=bnd o (S7 h n ag)
@[simp] theorem q7v (h n ag v):qwr h n ag (some v)=S7 h n ag v:=rfl
def qup (h:Loc→Option Obj) (n:Nat) (a b:Option V):Option R:=bnd a fun a=>bnd b fun v=>Qj h n a v
@[simp] theorem q18 (h n a b):qup h n (some a) (some b)=Qj h n a b:=rfl
def q7e (o:Option V):Option R:=match o with
 | some (.d (.box y))=>val (.d (.box y))
 | some (.ptr l e j)=>val (.ptr l e j)
 | _=>none
@[simp] theorem zi2 (y):q7e (some (.d (.box y)))=val (.d (.box y)):=rfl
@[simp] theorem zi1 (l e j):q7e (some (.ptr l e j))=val (.ptr l e j):=rfl
def okD (o:Option D):Option R:=bnd o fun r=>val (.d r)
@[simp] theorem zig (x):okD (some x)=some (.ok { v:=.d x }):=rfl
def zmg (op:BinOp) (a b:Option V):Option R:=bnd a fun a=>bnd b fun b=>okD (bin op a b)
@[simp] theorem zfr (op a b):zmg op (some a) (some b)=okD (bin op a b):=rfl
def unX (op:UnOp) (a:Option V):Option R:=bnd a fun a=>okD (un op a)
@[simp] theorem zgi (op a):unX op (some a)=okD (un op a):=rfl
def q8f (eq:Bool) (o:Option Bool):Option R:=bnd o fun b=>val (.d (.bool (b == eq)))
@[simp] theorem zdn (eq b):q8f eq (some b)=val (.d (.bool (b == eq))):=rfl
def zj2 (eq ifc:Bool) (a:Option V):Option R:=bnd a fun a=>q8f eq (ZX ifc a)
@[simp] theorem zdo (eq ifc a):zj2 eq ifc (some a)=q8f eq (ZX ifc a):=rfl
@[simp] theorem isNil_1:ZX false (.d .nilp)=some true:=rfl
@[simp] theorem isNil_2 (x):ZX false (.d (.box x))=some false:=rfl
@[simp] theorem isNil_3 (l e j):ZX false (.ptr l e j)=some false:=rfl
@[simp] theorem isNil_4:ZX true (.d .nili)=some true:=rfl
@[simp] theorem isNil_5 (t x):ZX true (.d (.iface t x))=some false:=rfl
@[simp] theorem isNil_6 (t x):ZX true (.iface t x)=some false:=rfl
def zln (eq:Bool) (a b:Option V):Option R:=match a,b with
    | some (.d (.bool a)),some (.d (.bool b))=>val (.d (.bool ((a == b) == eq)))
    | _,_=>none
@[simp] theorem ze6 (eq a b):zln eq (some (.d (.bool a))) (some (.d (.bool b)))=val (.d (.bool ((a == b) == eq))):=rfl
def qq1 (h:Loc→Option Obj) (k:Cv) (o:Option V):Option R:=bnd o fun a=>match k,a with
    | .int k,.d (.int _ n)=>val (.d (.int k (k.wrap n)))
    | .rune,.d (.int _ n)=>val (.d (.str (Utf8.encode n).data.toList))
    | .b2s,a=>bnd (K1 h a) fun (xs,m)=>bnd (zr xs) fun s=>some (.ok { v:=.d (.str s),rd:=m })
    | _,_=>none
@[simp] theorem zfb (h k j n):qq1 h (.int k) (some (.d (.int j n)))=val (.d (.int k (k.wrap n))):=rfl
@[simp] theorem zad (h j n):qq1 h .rune (some (.d (.int j n)))=val (.d (.str (Utf8.encode n).data.toList)):=rfl
def za7 (m:List Loc) (o:Option (List UInt8)):Option R:=bnd o fun s=>some (.ok { v:=.d (.str s),rd:=m })
@[simp] theorem zfs (m s):za7 m (some s)=some (.ok { v:=.d (.str s),rd:=m }):=rfl
def zmk (o:Option (List V × List Loc)):Option R:=bnd o fun x=>za7 x.2 (zr x.1)
@[simp] theorem zft (xs m):zmk (some (xs,m))=za7 m (zr xs):=rfl
@[simp] theorem zfc (h a):qq1 h .b2s (some a)=zmk (K1 h a):=by cases a <;> first | rfl | (rename_i x; cases x <;> rfl)
def zjc (t:TypeId) (o:Option V):Option R:=bnd o fun v=>val (JA t v)
@[simp] theorem zcy (t v):zjc t (some v)=val (JA t v):=rfl
def zjf (f:FuncId) (o:Option (List V)):Option R:=bnd o fun vs=>val (qky f vs)
@[simp] theorem zc0 (f vs):zjf f (some vs)=val (qky f vs):=rfl
def q7o (i:Nat) (n:W) (z:D) (a b:Option Nat):Option R:=match a,b with
    | some l,some c=>if l≤c∧z.cells.length=n.c∧c * n.w≤A5 then some (.ok { v:=.ref (.n i 0) n 0 l,wr:=[(.n i 0,some (.arr (List.replicate l (.d z)) n))] }) else none
    | _,_=>none
@[simp] theorem zcw (i n z l c):q7o i n z (some l) (some c)=if l≤c∧z.cells.length=n.c∧c * n.w≤A5 then some (.ok { v:=.ref (.n i 0) n 0 l,wr:=[(.n i 0,some (.arr (List.replicate l (.d z)) n))] }) else none:=rfl
def Ww (o:Option V):Option Nat:=bnd o vQ
@[simp] theorem zcu (v):Ww (some v)=vQ v:=rfl
def q74 (o:Option V):Option Nat:=bnd o lenOf
@[simp] theorem zdj (v):q74 (some v)=lenOf v:=rfl
def qbp (s:Option W) (v:Option V) (lo hi:Option Nat):Option R:=bnd v fun v=>match lo,hi with
    | some l,some u=>okV (Kk s v l u)
    | _,_=>none
@[simp] theorem q2a (s v l u):qbp s (some v) (some l) (some u)=okV (Kk s v l u):=rfl
@[simp] theorem zdl (s):kF (.d (.str s))=true:=rfl
@[simp] theorem zj1 (s):kF (.d (.sl s))=false:=rfl
@[simp] theorem zdm (l sz o n):kF (.ref l sz o n)=false:=rfl
def qpc (o:Option V):Option R:=bnd o fun v=>match v with
 | .d z=>val (.d (.box z))
 | _=>none
@[simp] theorem q3v (z):qpc (some (.d z))=val (.d (.box z)):=rfl
def qpd (off n:Nat) (ag:Bool) (o:Option V):Option R:=match o with
    | some (.d (.box y))=>qpc (part (.d y) off n ag)
    | some (.ptr l e j)=>val (.ptr l e (j + off))
    | _=>none
@[simp] theorem q9j (off n ag y):qpd off n ag (some (.d (.box y)))=qpc (part (.d y) off n ag):=rfl
@[simp] theorem q9i (off n ag l e j):qpd off n ag (some (.ptr l e j))=val (.ptr l e (j + off)):=rfl
def q2u (off n:Nat) (ag:Bool) (o:Option V):Option R:=bnd o fun v=>if isAgg v then okV (part v off n ag) else none
@[simp] theorem q6r (off n ag v):q2u off n ag (some v)=if isAgg v then okV (part v off n ag) else none:=rfl
def q8x (n:W) (o:Option D):Option R:=match o with
        | some y=>if y.cells.length=n.c then val (.d (.box y)) else none
        | none=>none
@[simp] theorem zd3 (n y):q8x n (some y)=if y.cells.length=n.c then val (.d (.box y)) else none:=rfl
def q0v (n:W) (v:Option V) (j:Option Nat):Option R:=bnd v fun v=>match j with
    | none=>none
    | some j=>match v with
      | .d (.sl xs)=>q8x n xs[j]?
      | .ref l sz off len=>if j < len∧sz=n then val (.ptr l (off + j) 0) else none
      | _=>none
@[simp] theorem idxX_sl (n xs j):q0v n (some (.d (.sl xs))) (some j)=q8x n xs[j]?:=rfl
@[simp] theorem zj7 (n l sz off len j):q0v n (some (.ref l sz off len)) (some j)=if j < len∧sz=n then val (.ptr l (off + j) 0) else none:=rfl
def qw9 (o:Option UInt8):Option R:=match o with
 | some b=>val (.d (.int .u8 b.toNat))
 | none=>none
@[simp] theorem q8y (b):qw9 (some b)=val (.d (.int .u8 b.toNat)):=rfl
def qxa (v:Option V) (j:Option Nat):Option R:=bnd v fun v=>match v,j with
    | .d (.str s),some j=>qw9 s[j]?
    | _,_=>none
@[simp] theorem q8z (s j):qxa (some (.d (.str s))) (some j)=qw9 s[j]?:=rfl
def zk3 (k:Nat) (o:Option V):Option R:=match o with
    | some (.tup vs)=>okV vs[k]?
    | _=>none
@[simp] theorem zep (k vs):zk3 k (some (.tup vs))=okV vs[k]?:=rfl
def qp6 (t:TypeId) (ok:Bool) (z:D) (v:V) (o:Option (TypeId × V)):Option R:=match o with
    | some (t',y)=>if t'=t then val (if ok then .tup [y,.d (.bool true)] else y) else if ok then val (.tup [.d z,.d (.bool false)]) else none
    | none=>match v,ok with
      | .d .nili,true=>val (.tup [.d z,.d (.bool false)])
      | _,_=>none
@[simp] theorem q49 (t ok z v t' y):qp6 t ok z v (some (t',y))=if t'=t then val (if ok then .tup [y,.d (.bool true)] else y) else if ok then val (.tup [.d z,.d (.bool false)]) else none:=rfl
@[simp] theorem q5a (t z):qp6 t true z (.d .nili) none=val (.tup [.d z,.d (.bool false)]):=rfl
def q15 (t:TypeId) (ok:Bool) (z:D) (o:Option V):Option R:=bnd o fun v=>qp6 t ok z v (Q9 v)
@[simp] theorem q5b (t ok z v):q15 t ok z (some v)=qp6 t ok z v (Q9 v):=rfl
def qq6 (fm m:List Loc) (i:Nat) (o:Option CRes):Option R:=bnd o fun r=>some (JL fm m i r)
@[simp] theorem zav (fm m i r):qq6 fm m i (some r)=some (JL fm m i r):=rfl
def callB (cf:CF) (f:FuncId) (i:Nat) (fm:List Loc) (o:Option (List V × List Obj × List Loc)):Option R:=bnd o fun b=>if b.1.all N6 then qq6 fm b.2.2 i (cf f b.1 b.2.1) else none
@[simp] theorem zaw (cf f i fm vs os m):callB cf f i fm (some (vs,os,m))=if vs.all N6 then qq6 fm m i (cf f vs os) else none:=rfl
def vn (cf:CF) (f:FuncId) (i:Nat) (h:Loc→Option Obj) (o:Option (List V × List Loc)):Option R:=bnd o fun a=>callB cf f i a.2 (XK [] a.1 (Q7 h a.2))
@[simp] theorem zax (cf f i h vs fm):vn cf f i h (some (vs,fm))=callB cf f i fm (XK [] vs (Q7 h fm)):=rfl
theorem ZK (cf:CF) (f i h args):Y8 cf f i h args=vn cf f i h (A7 h args):=by
 unfold Y8 vn callB qq6
 congr 1; funext a; congr 1; funext b
 cases b.1.all N6 <;> rfl
def q4d (cf:CF) (f:FuncId) (i:Nat) (h:Loc→Option Obj) (o:Option (List (V × Bool))):Option R:=bnd o fun vs=>Y8 cf f i h vs
@[simp] theorem zau (cf f i h vs):q4d cf f i h (some vs)=vn cf f i h (A7 h vs):=ZK ..
def za0 (l:Loc) (sz:W) (off len:Nat) (o:Option (List D)):Option (D × List Loc):=bnd o fun ds=>if wl ((ds.drop off).take len)≤sz.w∧ds.all (fun x=>x.cells.all qae)=true then some (.sl ((ds.drop off).take len),[l]) else none
@[simp] theorem zfp (l sz off len ds):za0 l sz off len (some ds)=if wl ((ds.drop off).take len)≤sz.w∧ds.all (fun x=>x.cells.all qae)=true then some (.sl ((ds.drop off).take len),[l]) else none:=rfl
def zma (l:Loc) (sz:W) (off len:Nat):Option Obj→Option (D × List Loc)
 | some (.arr xs _)=>if off + len≤xs.length then za0 l sz off len (S9 xs) else none
 | _=>none
@[simp] theorem zl9 (l sz off len xs s):zma l sz off len (some (.arr xs s))=if off + len≤xs.length then za0 l sz off len (S9 xs) else none:=rfl
@[simp] theorem brw_d (h x b):brw h (.d x,b)=some (x,[]):=rfl
@[simp] theorem brw_ref (h l sz off len):brw h (.ref l sz off len,true)=zma l sz off len (h l):=by
  simp only[brw]
  cases h l with
  | none=>rfl
  | some o=>cases o <;> rfl
def q4l (a:Option (D × List Loc)) (b:Option (List D × List Loc)):Option (List D × List Loc):=bnd a fun a=>bnd b fun b=>some (a.1 :: b.1,a.2++b.2)
@[simp] theorem zaz (d m ds m'):q4l (some (d,m)) (some (ds,m'))=some (d :: ds,m++m'):=rfl
@[simp] theorem zl8 (h):qdx h []=some ([],[]):=rfl
@[simp] theorem zfo (h x l):qdx h (x :: l)=q4l (brw h x) (qdx h l):=rfl
def q3f (fm:List Loc) (o:Option (List D)):Option R:=bnd o fun ds=>sel (Xv ds) (some (.ok { v:=QC (ds.map .d),rd:=fm })) none
@[simp] theorem q71 (fm ds):q3f fm (some ds)=if Xv ds=true then some (.ok { v:=QC (ds.map .d),rd:=fm }) else none:=by
  show sel _ _ _=_
  cases Xv ds <;> rfl
def q3g (fm:List Loc) (o:Option CRes):Option R:=bnd o (qh7 fm)
@[simp] theorem zde (fm rs):q3g fm (some (.ret rs []))=q3f fm (S9 rs):=rfl
def q3h (cf:CF) (f:FuncId) (o:Option (List D × List Loc)):Option R:=bnd o fun a=>sel ((a.1.map V.d).all N6) (bnd (cf f (a.1.map .d) []) (qh7 a.2)) none
@[simp] theorem q72 (cf f ds fm):q3h cf f (some (ds,fm))=if (ds.map V.d).all N6=true then q3g fm (cf f (ds.map .d) []) else none:=by
  show sel _ _ _=_
  cases (ds.map V.d).all N6 <;> rfl
def qx6 (cf:CF) (f:FuncId) (h:Loc→Option Obj) (o:Option (List (V × Bool))):Option R:=bnd o fun vs=>JC cf f h vs
@[simp] theorem q4j (cf f h vs):qx6 cf f h (some vs)=q3h cf f (qdx h vs):=rfl
attribute [simp] Wh Xv qae
def qi4 (cf:CF) (i:Nat) (h:Loc→Option Obj) (vs:List (V × Bool)) (o:Option (FuncId × List V)):Option R:=bnd o fun x=>vn cf (wZ x.1) i h (A7 h (N2 x.1 vs (x.2.map (·,false))))
@[simp] theorem q4e (cf i h vs f cap):qi4 cf i h vs (some (f,cap))=vn cf (wZ f) i h (A7 h (N2 f vs (cap.map (·,false)))):=rfl
def qx5 (cf:CF) (i:Nat) (h:Loc→Option Obj) (g:Option V) (o:Option (List (V × Bool))):Option R:=bnd g fun g=>bnd o fun vs=>qi4 cf i h vs (qep g)
@[simp] theorem q4f (cf i h g vs):qx5 cf i h (some g) (some vs)=qi4 cf i h vs (qep g):=rfl
def qsu (cf:CF) (f:FuncId) (i:Nat) (h:Loc→Option Obj) (vs:List (V × Bool)) (o:Option V):Option R:=bnd o fun r=>vn cf f i h (A7 h ((r,true) :: vs))
@[simp] theorem zdz (cf f i h vs r):qsu cf f i h vs (some r)=vn cf f i h (A7 h ((r,true) :: vs)):=rfl
def qw8 (cf:CF) (i:Nat) (h:Loc→Option Obj) (y:V) (vs:List (V × Bool)) (o:Option (FuncId × Option (Nat × Nat × Bool))):Option R:=bnd o fun x=>match x.2 with
    | none=>qsu cf x.1 i h vs (some y)
    | some (off,n,ag)=>qsu cf x.1 i h vs (Yh y off n ag)
@[simp] theorem zdx (cf i h y vs f):qw8 cf i h y vs (some (f,none))=qsu cf f i h vs (some y):=rfl
@[simp] theorem zdw (cf i h y vs f off n ag):qw8 cf i h y vs (some (f,some (off,n,ag)))=qsu cf f i h vs (Yh y off n ag):=rfl
@[simp] theorem partA_d (cs off n ag):Yh (.d (.agg cs)) off n ag=part (.d (.agg cs)) off n ag:=rfl
@[simp] theorem partA_v (cs off n ag):Yh (.agg cs) off n ag=part (.agg cs) off n ag:=rfl
def qc5 (T:Tab) (cf:CF) (m:List (TypeId × FuncId × Option (Nat × Nat × Bool))) (i:Nat) (h:Loc→Option Obj) (vs:List (V × Bool)) (o:Option (TypeId × V)):Option R:=bnd o fun x=>qw8 cf i h x.2 vs (wU m x.1)
@[simp] theorem wJ (T cf m i h vs t y):qc5 T cf m i h vs (some (t,y))=qw8 cf i h y vs (wU m t):=rfl
def zj5 (T:Tab) (cf:CF) (m:List (TypeId × FuncId × Option (Nat × Nat × Bool))) (i:Nat) (h:Loc→Option Obj) (v:Option V) (o:Option (List (V × Bool))):Option R:=bnd v fun v=>bnd o fun vs=>qc5 T cf m i h vs (Q9 v)
@[simp] theorem zdy (T cf m i h v vs):zj5 T cf m i h (some v) (some vs)=qc5 T cf m i h vs (Q9 v):=rfl
def q0k (fit:Bool) (o:Option Nat):Option R:=bnd o fun n=>if fit=true then val (.d (.int .i64 n)) else none
@[simp] theorem zdf (str n):q0k str (some n)=if str=true then val (.d (.int .i64 n)) else none:=rfl
def zjv (s:Bool) (o:Option V):Option R:=bnd o fun v=>sel (kF v == s) (q0k (N6 v) (lenOf v)) none
@[simp] theorem zdg (s v):zjv s (some v)=sel (kF v == s) (q0k (N6 v) (lenOf v)) none:=rfl
def qyg (i:Nat) (n:W) (off len:Nat) (l:Loc) (sz:W) (ys:List V) (m:List Loc) (o:Option Obj):Option R:=match o with
        | some (.arr xs _)=>
          if sz=n∧off + len≤xs.length∧l ∉ m then
           if (len + ys.length) * n.w≤A5 then some (.ok { v:=.ref (.n i 0) n 0 (len + ys.length),rd:=l :: m,wr:=[(l,none),(.n i 0,some (.arr ((xs.drop off).take len++ys) n))] }) else none
          else none
        | _=>none
@[simp] theorem zmn (i n off len l sz ys m xs s):qyg i n off len l sz ys m (some (.arr xs s))=if sz=n∧off + len≤xs.length∧l ∉ m then
 if (len + ys.length) * n.w≤A5 then some (.ok { v:=.ref (.n i 0) n 0 (len + ys.length),rd:=l :: m,wr:=[(l,none),(.n i 0,some (.arr ((xs.drop off).take len++ys) n))] }) else none
 else none:=rfl
def qna (h:Loc→Option Obj) (i:Nat) (n:W) (x:Option V) (o:Option (List V × List Loc)):Option R:=bnd o fun y=>
 if y.1.all (fun v=>v.cells.length == n.c) then
  match x with
  | none=>if y.1.length * n.w≤A5 then some (.ok { v:=.ref (.n i 0) n 0 y.1.length,rd:=y.2,wr:=[(.n i 0,some (.arr y.1 n))] }) else none
  | some (.ref l sz off len)=>qyg i n off len l sz y.1 y.2 (h l)
  | _=>none
 else none
@[simp] theorem zfu (h i n ys m):qna h i n none (some (ys,m))=if ys.all (fun v=>v.cells.length == n.c) then (if ys.length * n.w≤A5 then some (.ok { v:=.ref (.n i 0) n 0 ys.length,rd:=m,wr:=[(.n i 0,some (.arr ys n))] }) else none) else none:=rfl
@[simp] theorem zmo (h i n l sz off len ys m):qna h i n (some (.ref l sz off len)) (some (ys,m))=if ys.all (fun v=>v.cells.length == n.c) then qyg i n off len l sz ys m (h l) else none:=rfl
def q4n (h:Loc→Option Obj) (i:Nat) (n:W) (y:Option V):Option R:=bnd y fun b=>qna h i n none (K1 h b)
@[simp] theorem za9 (h i n b):q4n h i n (some b)=qna h i n none (K1 h b):=rfl
def zmp (h:Loc→Option Obj) (i:Nat) (n:W) (x y:Option V):Option R:=bnd x fun a=>bnd y fun b=>qna h i n (unN a) (K1 h b)
@[simp] theorem unN_ref (l sz o n):unN (.ref l sz o n)=some (.ref l sz o n):=rfl
@[simp] theorem zgj:unN (.d .nils)=none:=rfl
@[simp] theorem zfv (h i n a b):zmp h i n (some a) (some b)=qna h i n (unN a) (K1 h b):=rfl
theorem qrc (h i n x y):qe8 h i n x y=qna h i n x (K1 h y):=by
 unfold qe8 qna
 cases K1 h y with
 | none=>rfl
 | some e=>
   obtain ⟨ys,m⟩:=e;show (if ys.all _=true then _ else none)=(if ys.all _=true then _ else none);split
   ·cases x with
    | none=>rfl
    | some x=>cases x with
      | ref l sz off len=>show (match h l with | some (.arr xs _)=>_ | _=>none)=qyg ..; unfold qyg; cases h l with
        | none=>rfl
        | some o=>cases o <;> rfl
      | _=>rfl
   ·rfl
def mxX (a b:Option V):Option R:=match a,b with
    | some (.d (.int k a)),some (.d (.int k' b))=>if k=k' then val (.d (.int k (if b > a then b else a))) else none
    | _,_=>none
@[simp] theorem zja (k a k' b):mxX (some (.d (.int k a))) (some (.d (.int k' b)))=if k=k' then val (.d (.int k (if b > a then b else a))) else none:=rfl
def mnX (a b:Option V):Option R:=match a,b with
    | some (.d (.int k a)),some (.d (.int k' b))=>if k=k' then val (.d (.int k (if b < a then b else a))) else none
    | _,_=>none
@[simp] theorem zjb (k a k' b):mnX (some (.d (.int k a))) (some (.d (.int k' b)))=if k=k' then val (.d (.int k (if b < a then b else a))) else none:=rfl
def qcx (i:Nat) (l:Loc) (e:Nat) (ls:List (Option (List D))):Option (Option (List D))→Option R
 | some (some [])=>some (.ok { v:=.d .nils,rd:=[l] })
 | some (some (x :: xs))=>some (.ok { v:=.ref (.n i (e + 1)) ⟨1,8⟩ 0 (xs.length + 1),rd:=[l],wr:=[(l,some (.lol (ls.set e none))),(.n i (e + 1),some (.arr (.d x :: xs.map .d) ⟨1,8⟩))] })
 | _=>none
@[simp] theorem q70 (i l e ls):qcx i l e ls (some (some []))=some (.ok { v:=.d .nils,rd:=[l] }):=rfl
@[simp] theorem q3e (i l e ls x xs):qcx i l e ls (some (some (x :: xs)))=some (.ok { v:=.ref (.n i (e + 1)) ⟨1,8⟩ 0 (xs.length + 1),rd:=[l],wr:=[(l,some (.lol (ls.set e none))),(.n i (e + 1),some (.arr (.d x :: xs.map .d) ⟨1,8⟩))] }):=rfl
def qwy (i:Nat) (l:Loc) (e:Nat):Option Obj→Option R
 | some (.lol ls)=>qcx i l e ls ls[e]?
 | _=>none
@[simp] theorem q7z (i l e ls):qwy i l e (some (.lol ls))=qcx i l e ls ls[e]?:=rfl
def qwx (h:Loc→Option Obj) (i:Nat) (o:Option V):Option R:=bnd o (qh6 h i)
@[simp] theorem q3d (h i l e):qwx h i (some (.ptr l e 0))=qwy i l e (h l):=by
  show (match h l with | some (.lol ls)=>_ | _=>none)=_
  cases h l with
  | none=>rfl
  | some o=>cases o <;> first | rfl | (rename_i ls; show (match ls[e]? with | _=>_)=qcx i l e ls ls[e]?; rcases ls[e]? with _ | (_ | (_ | _)) <;> rfl)
def qba (l l':Loc) (e:Nat) (sz sz':W) (len:Nat) (ls:List (Option (List D))):Option (List D)→Option R
 | some ds=>if XV ls e=true∧sz=⟨1,8⟩∧sz'=⟨1,8⟩∧len=ds.length∧0 < len then some (.ok { v:=.tup [],rd:=[l,l'],wr:=[(l,some (.lol (ls.set e (some ds)))),(l',none)] }) else none
 | none=>none
@[simp] theorem q0f (l l' e sz sz' len ls ds):qba l l' e sz sz' len ls (some ds)=if XV ls e=true∧sz=⟨1,8⟩∧sz'=⟨1,8⟩∧len=ds.length∧0 < len then some (.ok { v:=.tup [],rd:=[l,l'],wr:=[(l,some (.lol (ls.set e (some ds)))),(l',none)] }) else none:=rfl
def qh4 (l l':Loc) (e:Nat) (sz:W) (len:Nat):Option Obj→Option Obj→Option R
 | some (.lol ls),some (.arr xs sz')=>qba l l' e sz sz' len ls (S9 xs)
 | _,_=>none
@[simp] theorem q28 (l l' e sz len ls xs sz'):qh4 l l' e sz len (some (.lol ls)) (some (.arr xs sz'))=qba l l' e sz sz' len ls (S9 xs):=rfl
def qh3 (h:Loc→Option Obj) (a b:Option V):Option R:=bnd a fun a=>bnd b fun v=>Yr h a v
@[simp] theorem q0e (h l e l' sz len):qh3 h (some (.ptr l e 0)) (some (.ref l' sz 0 len))=qh4 l l' e sz len (h l) (h l'):=by
  rcases ha:h l with _ | (_ | _ | _ | ls | _) <;> rcases hb:h l' with _ | (⟨xs,sz'⟩ | _ | _ | _ | _) <;> simp[qh3,Yr,qh4,ha,hb,bnd]
  cases hc:S9 xs <;> simp[qba]
@[simp] theorem zc6 (ls):qcv (some (.lol ls))=some ls:=rfl
@[simp] theorem zc5 (sz):qcv (some (.arr [] sz))=some []:=rfl
@[simp] theorem q8e:WE [.d .nils]=true:=rfl
def q3j (i:Nat) (n:W) (l:Loc) (sz:W) (len:Nat):Option (List (Option (List D)))→Option (List V × List Loc)→Option R
 | some ls,some (ys,m)=>if WE ys=true∧sz=n∧n.c=1∧n.w < 1000000∧len=ls.length∧l ∉ m∧(len + 1) * n.w≤A5 then
  some (.ok { v:=.ref (.n i 0) n 0 (len + 1),rd:=l :: m,wr:=[(l,none),(.n i 0,some (.lol (ls++[some []])))] }) else none
 | _,_=>none
@[simp] theorem q76 (i n l sz len ls ys m):q3j i n l sz len (some ls) (some (ys,m))=if WE ys=true∧sz=n∧n.c=1∧n.w < 1000000∧len=ls.length∧l ∉ m∧(len + 1) * n.w≤A5 then
 some (.ok { v:=.ref (.n i 0) n 0 (len + 1),rd:=l :: m,wr:=[(l,none),(.n i 0,some (.lol (ls++[some []])))] }) else none:=rfl
def q3i (h:Loc→Option Obj) (i:Nat) (n:W) (a b:Option V):Option R:=bnd a fun a=>bnd b fun v=>qqn h i n a v
@[simp] theorem q75 (h i n l sz len y):q3i h i n (some (.ref l sz 0 len)) (some y)=q3j i n l sz len (qcv (h l)) (K1 h y):=by
  show bnd (qcv (h l)) _=_
  cases qcv (h l) with
  | none=>rfl
  | some ls=>cases K1 h y <;> rfl
def qwv (k:Nat) (o:Option V):Option R:=bnd o fun v=>some (.ok { v,rd:=[.n hdI k] })
@[simp] theorem q3c (k v):qwv k (some v)=some (.ok { v,rd:=[.n hdI k] }):=rfl
def qwu (h:Loc→Option Obj) (o:Option V):Option R:=match o with
    | some (.ptr (.b k) 0 0)=>bnd (Zz h k) fun v=>some (.ok { v,rd:=[.n hdI k] })
    | _=>none
@[simp] theorem q3b (h k):qwu h (some (.ptr (.b k) 0 0))=qwv k (Ke (h (.b k))):=rfl
def q3m (o:Option D):Option R:=bnd o fun y=>val (.d y)
@[simp] theorem q81 (y):q3m (some y)=val (.d y):=rfl
def q3l (n:Nat) (x:Option V) (j:Option Nat):Option R:=bnd x fun v=>bnd j fun j=>match v with
    | .d (.agg cs)=>if j < n then bnd (cs[j]?) fun y=>val (.d y) else none
    | _=>none
@[simp] theorem q80 (n cs j):q3l n (some (.d (.agg cs))) (some j)=if j < n then q3m cs[j]? else none:=rfl
def q6s (v:V) (o:Option (TypeId × V)):Option R:=match o with
    | some _=>some (.pan { v })
    | none=>none
@[simp] theorem zci (v x):q6s v (some x)=some (.pan { v }):=rfl
def zh4 (o:Option V):Option R:=bnd o fun v=>q6s v (Q9 v)
@[simp] theorem zcj (v):zh4 (some v)=q6s v (Q9 v):=rfl
def qvo (i:Nat) (o:Option V):Option R:=match o with
    | some (.d (.str s))=>some (.ok { v:=.iter (.n i 0),wr:=[(.n i 0,some (.iter s 0))] })
    | _=>none
@[simp] theorem q2r (i s):qvo i (some (.d (.str s)))=some (.ok { v:=.iter (.n i 0),wr:=[(.n i 0,some (.iter s 0))] }):=rfl
def qwh (l:Loc) (o:Option Obj):Option R:=match o with
 | some (.iter s pos)=>
   if pos < s.length then some (.ok { v:=.tup [.d (.bool true),.d (.int .i64 pos),.d (.int .i32 (dec s pos).1)],rd:=[l],wr:=[(l,some (.iter s (pos + (dec s pos).2)))] })
   else some (.ok { v:=.tup [.d (.bool false)],rd:=[l] })
 | _=>none
@[simp] theorem q7f (l s pos):qwh l (some (.iter s pos))=if pos < s.length then some (.ok { v:=.tup [.d (.bool true),.d (.int .i64 pos),.d (.int .i32 (dec s pos).1)],rd:=[l],wr:=[(l,some (.iter s (pos + (dec s pos).2)))] })
        else some (.ok { v:=.tup [.d (.bool false)],rd:=[l] }):=rfl
def q21 (h:Loc→Option Obj) (o:Option V):Option R:=match o with
    | some (.iter l)=>qwh l (h l)
    | _=>none
@[simp] theorem q7g (h l):q21 h (some (.iter l))=qwh l (h l):=rfl
def qwn (s:Bool) (z:D) (l:Loc) (key:D) (o:Option Obj):Option R:=match o with
 | some (.map es)=>if kV s key es then some (.ok { v:=((YH es (J1 key)).getD (.d z)),rd:=[l] }) else none
 | _=>none
@[simp] theorem q7s (s z l key es):qwn s z l key (some (.map es))=if kV s key es then some (.ok { v:=((YH es (J1 key)).getD (.d z)),rd:=[l] }) else none:=rfl
def q29 (h:Loc→Option Obj) (s:Bool) (z:D) (x k:Option V):Option R:=match x,k with
    | some (.map l),some (.d key)=>qwn s z l key (h l)
    | _,_=>none
@[simp] theorem q7t (h s z l key):q29 h s z (some (.map l)) (some (.d key))=qwn s z l key (h l):=rfl
def q45 (s:Bool) (l:Loc) (key:D) (v:V) (o:Option Obj):Option R:=match o with
 | some (.map es)=>if kV s key es && !qh9 v then some (.ok { v:=.tup [],rd:=[l],wr:=[(l,some (.map (Yd es key v)))] }) else none
 | _=>none
@[simp] theorem zbq (s l key v es):q45 s l key v (some (.map es))=if kV s key es && !qh9 v then some (.ok { v:=.tup [],rd:=[l],wr:=[(l,some (.map (Yd es key v)))] }) else none:=rfl
def zgh (h:Loc→Option Obj) (s:Bool) (x k v:Option V):Option R:=match x,k,v with
    | some (.map l),some (.d key),some v=>q45 s l key v (h l)
    | _,_,_=>none
@[simp] theorem zbr (h s l key v):zgh h s (some (.map l)) (some (.d key)) (some v)=q45 s l key v (h l):=rfl
section
variable (T:Tab) (cf:CF) (i:Nat) (ev:Opnd→Option V) (h:Loc→Option Obj)
@[simp] theorem exec_mv {x}:j4 T cf i (.mv x) ev h=okV (ev x):=rfl
@[simp] theorem zk5 {n}:j4 T cf i (.own n) ev h=some (.ok { v:=.ref (.n i 0) n 0 0,wr:=[(.n i 0,some (.arr [] n))] }):=rfl
@[simp] theorem zer {c a b}:j4 T cf i (.pick c a b) ev h=qvu (ev c) (ev a) (ev b):=rfl
@[simp] theorem q33 {t z}:j4 T cf i (.allocT t z []) ev h=some (.ok { v:=.ptr (.n i 0) 0 0,wr:=[(.n i 0,some (.arr [.d z] ⟨z.cells.length,t + 1000000⟩))] }):=rfl
@[simp] theorem q1a {t z o own}:j4 T cf i (.allocT t z (o :: own)) ev h=some (.ok { v:=.ptr (.n i 0) 0 0,wr:=(kB i 1 (o :: own) (.d z)).2++[(.n i 0,some (.arr [(kB i 1 (o :: own) (.d z)).1] ⟨z.cells.length,t + 1000000⟩))] }):=rfl
@[simp] theorem q9w {z}:j4 T cf i (.alloc z []) ev h=some (.ok { v:=.ptr (.n i 0) 0 0,wr:=[(.n i 0,some (.arr [.d z] ⟨z.cells.length,0⟩))] }):=rfl
@[simp] theorem q34 {z o own}:j4 T cf i (.alloc z (o :: own)) ev h=some (.ok { v:=.ptr (.n i 0) 0 0,wr:=(kB i 1 (o :: own) (.d z)).2++[(.n i 0,some (.arr [(kB i 1 (o :: own) (.d z)).1] ⟨z.cells.length,0⟩))] }):=rfl
@[simp] theorem zlc {n x}:j4 T cf i (.box n x) ev h=zmb i n (ev x):=rfl
@[simp] theorem q9v {z ps own}:j4 T cf i (.build z ps own) ev h=qx8 (kB i 0 own (.d z)) (evp ev ps):=rfl
@[simp] theorem q09 {n z len ps}:j4 T cf i (.buildSl n z len ps) ev h=zl7 i n len (zg1 n z len (evq ev ps)):=by
  show bnd (evq ev ps) _=_
  cases evq ev ps with
  | none=>rfl
  | some ps=>simp only[bnd,Option.bind,qr5]; split <;> rfl
@[simp] theorem zev {n ag x}:j4 T cf i (.load n ag x) ev h=qwr h n ag (ev x):=rfl
@[simp] theorem q9l {n x y}:j4 T cf i (.store n x y) ev h=qup h n (ev x) (ev y):=rfl
@[simp] theorem q9o {x}:j4 T cf i (.nilCk x) ev h=q7e (ev x):=rfl
@[simp] theorem zld {op x y}:j4 T cf i (.bin op x y) ev h=zmg op (ev x) (ev y):=rfl
@[simp] theorem zk9 {eq ifc x}:j4 T cf i (.isN eq ifc x) ev h=zj2 eq ifc (ev x):=rfl
@[simp] theorem zlb {eq x y}:j4 T cf i (.eqB eq x y) ev h=zln eq (ev x) (ev y):=rfl
@[simp] theorem exec_un {op x}:j4 T cf i (.un op x) ev h=unX op (ev x):=rfl
@[simp] theorem ze0 {k x}:j4 T cf i (.conv k x) ev h=qq1 h k (ev x):=rfl
@[simp] theorem zk6 {t x}:j4 T cf i (.mkI t x) ev h=zjc t (ev x):=rfl
@[simp] theorem zk7 {f cap}:j4 T cf i (.mkF f cap) ev h=zjf f (evl ev cap):=rfl
@[simp] theorem zet {n z len cap}:j4 T cf i (.mkSl n z len cap) ev h=q7o i n z (Ww (ev len)) (Ww (ev cap)):=by
  show bnd (ev len) _=_
  cases ev len with
  | none=>rfl
  | some a=>cases ev cap with
    | none=>simp only[bnd,Option.bind,Ww,q7o]; cases vQ a <;> rfl
    | some b=>rfl
@[simp] theorem q07 {s x}:j4 T cf i (.slice s x none none) ev h=qbp s (ev x) (some 0) (q74 (ev x)):=by
  show bnd (ev x) _=_
  cases ev x <;> rfl
@[simp] theorem q30 {s x hi}:j4 T cf i (.slice s x none (some hi)) ev h=qbp s (ev x) (some 0) (Ww (ev hi)):=by
  show bnd (ev x) _=_
  cases ev x <;> rfl
@[simp] theorem q3z {s x lo}:j4 T cf i (.slice s x (some lo) none) ev h=qbp s (ev x) (Ww (ev lo)) (q74 (ev x)):=by
  show bnd (ev x) _=_
  cases ev x <;> rfl
@[simp] theorem q3y {s x lo hi}:j4 T cf i (.slice s x (some lo) (some hi)) ev h=qbp s (ev x) (Ww (ev lo)) (Ww (ev hi)):=by
  show bnd (ev x) _=_
  cases ev x <;> rfl
@[simp] theorem q32 {off n ag x}:j4 T cf i (.fieldA off n ag x) ev h=qpd off n ag (ev x):=rfl
@[simp] theorem q9s {off n ag x}:j4 T cf i (.field off n ag x) ev h=q2u off n ag (ev x):=rfl
@[simp] theorem zez {n x k}:j4 T cf i (.idxA n x k) ev h=q0v n (ev x) (Ww (ev k)):=by
  show bnd (ev x) _=_
  cases ev x with
  | none=>rfl
  | some v=>cases ev k with
    | none=>rfl
    | some a=>simp only[bnd,Option.bind,Ww,q0v]; cases vQ a <;> rfl
@[simp] theorem zex {x k}:j4 T cf i (.idxS x k) ev h=qxa (ev x) (Ww (ev k)):=by
  show bnd (ev x) _=_
  cases ev x with
  | none=>rfl
  | some v=>cases ev k with
    | none=>simp only[bnd,Option.bind,Ww,qxa]
    | some a=>rfl
@[simp] theorem q08 {x k}:j4 T cf i (.extract x k) ev h=zk3 k (ev x):=rfl
@[simp] theorem zeq {t ok z x}:j4 T cf i (.tass t ok z x) ev h=q15 t ok z (ev x):=rfl
@[simp] theorem ze1 {f args}:j4 T cf i (.call f args) ev h=q4d cf f i h (evs ev args):=rfl
@[simp] theorem q9u {f args}:j4 T cf i (.callB f args) ev h=qx6 cf f h (evs ev args):=rfl
@[simp] theorem q9t {f args}:j4 T cf i (.callV f args) ev h=qx5 cf i h (ev f) (evs ev args):=by
  show bnd (ev f) _=_
  cases ev f with
  | none=>rfl
  | some g=>cases evs ev args with
    | none=>rfl
    | some vs=>
      show bnd (qep g) _=qi4 cf i h vs (qep g)
      cases qep g with
      | none=>rfl
      | some x=>exact ZK ..
@[simp] theorem zla {m x args}:j4 T cf i (.inv m x args) ev h=zj5 T cf m i h (ev x) (evs ev args):=by
  show bnd (ev x) _=_
  cases ev x with
  | none=>rfl
  | some v=>cases evs ev args with
    | none=>rfl
    | some vs=>
      show bnd (Q9 v) _=qc5 T cf m i h vs (Q9 v)
      cases Q9 v with
      | none=>rfl
      | some x=>
        obtain ⟨t,y⟩:=x;show bnd (wU m t) _=qw8 cf i h y vs (wU m t)
        cases wU m t with
        | none=>rfl
        | some z=>
          obtain ⟨f,p⟩:=z
          cases p with
          | none=>exact ZK ..
          | some p=>
            obtain ⟨off,n,ag⟩:=p;show bnd (Yh y off n ag) _=qsu cf f i h vs (Yh y off n ag)
            cases Yh y off n ag with
            | none=>rfl
            | some r=>exact ZK ..
@[simp] theorem zk8 {s x}:j4 T cf i (.len s x) ev h=zjv s (ev x):=by
  show bnd (ev x) _=_
  cases ev x with
  | none=>rfl
  | some v=>
    show sel (kF v == s) (bnd (lenOf v) _) none=sel (kF v == s) (q0k (N6 v) (lenOf v)) none
    congr 1
    cases lenOf v with
    | none=>rfl
    | some n=>
      show sel _ _ _=if _=true then _ else _
      cases N6 v <;> simp[sel]
@[simp] theorem ze2 {n y}:j4 T cf i (.app n none y) ev h=q4n h i n (ev y):=by
  show bnd (ev y) _=_
  cases ev y with
  | none=>rfl
  | some b=>exact qrc h i n none b
@[simp] theorem zle {n x y}:j4 T cf i (.app n (some x) y) ev h=zmp h i n (ev x) (ev y):=by
  show bnd (ev x) _=_
  cases ev x with
  | none=>rfl
  | some a=>cases ev y with
    | none=>rfl
    | some b=>exact qrc h i n (unN a) b
@[simp] theorem exec_mx {x y}:j4 T cf i (.mx x y) ev h=mxX (ev x) (ev y):=rfl
@[simp] theorem exec_mn {x y}:j4 T cf i (.mn x y) ev h=mnX (ev x) (ev y):=rfl
@[simp] theorem q9r {x}:j4 T cf i (.lload x) ev h=qwx h i (ev x):=rfl
@[simp] theorem q31 {x y}:j4 T cf i (.lstore x y) ev h=qh3 h (ev x) (ev y):=rfl
@[simp] theorem zew {n x y}:j4 T cf i (.lapp n x y) ev h=q3i h i n (ev x) (ev y):=rfl
@[simp] theorem q9q {x}:j4 T cf i (.loadH x) ev h=qwu h (ev x):=rfl
@[simp] theorem zey {n x k}:j4 T cf i (.idxF n x k) ev h=q3l n (ev x) (Ww (ev k)):=by
  show bnd (ev x) _=_
  cases ev x with
  | none=>rfl
  | some v=>cases ev k with
    | none=>rfl
    | some a=>rfl
@[simp] theorem q9n {x}:j4 T cf i (.panic x) ev h=zh4 (ev x):=rfl
@[simp] theorem q9m {x}:j4 T cf i (.range x) ev h=qvo i (ev x):=rfl
@[simp] theorem zes {x}:j4 T cf i (.next x) ev h=q21 h (ev x):=rfl
@[simp] theorem q9p:j4 T cf i .mkMap ev h=some (.ok { v:=.map (.n i 0),wr:=[(.n i 0,some (.map []))] }):=rfl
@[simp] theorem zeu {s z x k}:j4 T cf i (.look s z x k) ev h=q29 h s z (ev x) (ev k):=rfl
@[simp] theorem zk4 {s x k v}:j4 T cf i (.upd s x k v) ev h=zgh h s (ev x) (ev k) (ev v):=rfl
end
inductive SS where
 | go (s:RS) (rs:List Rec)
 | pan (i:Nat) (v:V) (s:RS) (rs:List Rec)
 | out (rs:List Rec)
 | bad
def SS.of (i:Nat) (rs:List Rec):Option SR→SS
 | none=>.bad
 | some (.go s r)=>.go s (r :: rs)
 | some (.pan v s r)=>.pan i v s (r :: rs)
 | some .out=>.out rs
@[simp] theorem of_go (i rs s r):SS.of i rs (some (.go s r)) = .go s (r :: rs):=rfl
@[simp] theorem of_pan (i rs v s r):SS.of i rs (some (.pan v s r)) = .pan i v s (r :: rs):=rfl
@[simp] theorem of_out (i rs):SS.of i rs (some .out) = .out rs:=rfl
def qek (T:Tab) (cf:CF) (os:List AIns):SS→Option (RR × List Rec)
 | .go s rs=>Xc T cf os s rs
 | .pan i v s rs=>some (.pan i v s,rs)
 | .out rs=>some (.out,rs)
 | .bad=>none
@[simp] theorem zhf (T cf s rs):qek T cf [] (.go s rs)=some (.nrm s,rs):=rfl
@[simp] theorem zhd (T cf os i v s rs):qek T cf os (.pan i v s rs)=some (.pan i v s,rs):=rfl
@[simp] theorem zhe (T cf os rs):qek T cf os (.out rs)=some (.out,rs):=rfl
def qfi (o:AIns) (s:RS) (x:Option R):Option SR:=bnd x fun r=>some (qj0 o s r)
@[simp] theorem zgu (i dst op g s v rd wr):qfi ⟨i,dst,op,g⟩ s (some (.ok ⟨v,rd,wr⟩))=some (.go { env:=W6 s.env dst v,h:=i9 s.h wr } { i,rd,wr:=wr.map (·.1) }):=rfl
@[simp] theorem zb2 (i dst op g s v rd wr):qfi ⟨i,dst,op,g⟩ s (some (.pan ⟨v,rd,wr⟩))=some (.pan v { env:=s.env,h:=i9 s.h wr } { i,rd,wr:=wr.map (·.1) }):=rfl
@[simp] theorem zb3 (o s):qfi o s (some .out)=some .out:=rfl
def quz (T:Tab) (cf:CF) (o:AIns) (s:RS) (b:Option Bool):Option SR:=bnd b fun b=>sel b (qfi o s (j4 T cf o.i o.op (evO s.env) s.h)) (some (.go { env:=W6 s.env o.dst (.tup []),h:=s.h } { i:=o.i,rd:=[],wr:=[] }))
@[simp] theorem q5m (T cf i dst op g s):quz T cf ⟨i,dst,op,g⟩ s (some true)=qfi ⟨i,dst,op,g⟩ s (j4 T cf i op (evO s.env) s.h):=rfl
@[simp] theorem q19 (T cf i dst op g s):quz T cf ⟨i,dst,op,g⟩ s (some false)=some (.go { env:=W6 s.env dst (.tup []),h:=s.h } { i,rd:=[],wr:=[] }):=rfl
@[simp] theorem zb7 (T cf i dst op g os s rs):qek T cf (⟨i,dst,op,some g⟩ :: os) (.go s rs)=qek T cf os (.of i rs (quz T cf ⟨i,dst,op,some g⟩ s (wanted s.env (some g)))):=by
  show Xc T cf (_ :: os) s rs=_;rw[Xc];show bnd (step T cf _ s) _=qek T cf os (.of i rs (step T cf ⟨i,dst,op,some g⟩ s))
  cases step T cf ⟨i,dst,op,some g⟩ s with
  | none=>rfl
  | some x=>cases x <;> rfl
@[simp] theorem q6d (T cf i dst op os s rs):qek T cf (⟨i,dst,op,none⟩ :: os) (.go s rs)=qek T cf os (.of i rs (qfi ⟨i,dst,op,none⟩ s (j4 T cf i op (evO s.env) s.h))):=by
  show Xc T cf (_ :: os) s rs=_;rw[Xc];show bnd (step T cf _ s) _=qek T cf os (.of i rs (step T cf ⟨i,dst,op,none⟩ s))
  cases step T cf ⟨i,dst,op,none⟩ s with
  | none=>rfl
  | some x=>cases x <;> rfl
def q0b (o:Option St):Option (Ex × St):=bnd o fun st=>some (.nrm,st)
@[simp] theorem zcr (st):q0b (some st)=some (.nrm,st):=rfl
def qzz (pin:Nat) (keep:List Nat) (o:Option (RR × List Rec)):Option (Ex × St):=bnd o fun x=>qvi pin keep x.1
@[simp] theorem zhu (pin keep s rs):qzz pin keep (some (.nrm s,rs))=q0b (vi pin keep s.env s.h):=rfl
@[simp] theorem zhs (pin keep i v s rs):qzz pin keep (some (.pan i v s,rs))=qmf pin v s.h:=rfl
@[simp] theorem zht (pin keep rs):qzz pin keep (some (.out,rs))=some (.out,{ env:=[],heap:=[] }):=rfl
def q2o (ps:List (Nat × Nat)) (pin:Nat) (keep:List Nat) (o:Option (RR × List Rec)):Option (Ex × St):=bnd o fun x=>sel (wm ps x.2) (Jw pin keep x.1) none
@[simp] theorem q6k (ps pin keep x rs):q2o ps pin keep (some (x,rs))=if wm ps rs=true then Jw pin keep x else none:=by
  show sel _ _ _=_
  cases wm ps rs <;> rfl
@[simp] theorem q2n (pin keep s):Jw pin keep (.nrm s)=q0b (vi pin keep s.env s.h):=rfl
@[simp] theorem q2l (pin keep i v s):Jw pin keep (.pan i v s)=qmf pin v (only (Loc.oldOr i) s.h):=rfl
@[simp] theorem q2m (pin keep):Jw pin keep .out=some (.out,{ env:=[],heap:=[] }):=rfl
@[simp] theorem only_ap (p h l):only p h l=if p l=true then h l else none:=by
  show sel _ _ _=_
  cases p l <;> rfl
noncomputable def onD (T:Tab) (cf:CF) (ps:List (Nat × Nat)) (es:List Nat) (os:List AIns) (i:Nat) (A:List Loc) (rs:List Rec) (x:Option SR):Option (RR × List Rec):=bnd x fun x=>
 qsi x (fun s' r=>QG T cf ps es os s' (r :: rs)) (fun v s' r=>sel (es.contains i && qac ps rs i) (some (.pan i v s',r :: rs)) none) (sel (es.contains i) (some (.out,{ i:=i,rd:=A,wr:=[] } :: rs)) none)
@[simp] theorem onD_go (T cf ps es os i A rs s r):onD T cf ps es os i A rs (some (.go s r))=QG T cf ps es os s (r :: rs):=rfl
@[simp] theorem onD_pan (T cf ps es os i A rs v s r):onD T cf ps es os i A rs (some (.pan v s r))=if (es.contains i && qac ps rs i)=true then some (.pan i v s,r :: rs) else none:=by
  show sel _ _ _=_
  cases (es.contains i && qac ps rs i) <;> rfl
@[simp] theorem onD_out (T cf ps es os i A rs):onD T cf ps es os i A rs (some .out)=if es.contains i=true then some (.out,{ i:=i,rd:=A,wr:=[] } :: rs) else none:=by
  show sel _ _ _=_
  cases es.contains i <;> rfl
@[simp] theorem zhg (T cf ps es s rs):QG T cf ps es [] s rs=some (.nrm s,rs):=rfl
noncomputable def qbm (o:AIns) (A:List Loc) (s:RS) (x:Option R):Option SR:=bnd x (qbn o A s)
noncomputable def chQ (k:Nat) (A:List Loc) (h:Loc→Option Obj) (wr:List (Loc × Option Obj)):List Loc:=sel (k == 3) (chg A h wr) (chN wr)
@[simp] theorem chQ_0 (A h wr):chQ 0 A h wr=chN wr:=rfl
@[simp] theorem chQ_1 (A h wr):chQ 1 A h wr=chN wr:=rfl
@[simp] theorem chQ_2 (A h wr):chQ 2 A h wr=chN wr:=rfl
open Classical in
@[simp] theorem chQ_all (A h wr f):(chQ 3 A h wr).all f=((wr.all fun e=>(A.contains e.1 && decide (i9 h wr e.1=h e.1)) || f e.1) && wr.all fun e=>if f (ZA e.1)=true then true else A.contains e.1 && decide (Ke (i9 h wr e.1)=Ke (h e.1))):=by
  show (List.filter _ _++(List.filter _ _).map ZA).all f=_;rw[List.all_append,List.all_filter,List.all_map,List.all_map,List.all_filter,List.all_map]
  congr 1
  ·congr 1
   funext e
   simp only[Function.comp,Bool.not_or,Bool.not_not,ne_eq,decide_not]
  ·congr 1
   funext e
   simp only[Function.comp,Bool.not_or,Bool.not_not,ne_eq,decide_not]
   cases f (ZA e.1) <;> simp
attribute [simp] chN ZA hdI
@[simp] theorem zd4 (v sz):Ke (some (.arr [v] sz))=v.cells[0]?:=rfl
@[simp] theorem zb1 (i dst op g A s v rd wr):qbm ⟨i,dst,op,g⟩ A s (some (.ok ⟨v,rd,wr⟩))=if ZV (B9 op) A i wr=true then some (.go { env:=W6 s.env dst v,h:=i9 s.h wr } { i:=i,rd:=A,wr:=wr.map (·.1),ch:=chQ (B9 op) A s.h wr }) else none:=by
  show sel _ _ _=_
  cases ZV (B9 op) A i wr <;> rfl
@[simp] theorem q5k (i dst op g A s v rd wr):qbm ⟨i,dst,op,g⟩ A s (some (.pan ⟨v,rd,wr⟩))=if (decide (2≤B9 op) && ZV (B9 op) A i wr)=true then some (.pan v { env:=s.env,h:=i9 s.h wr } { i:=i,rd:=A,wr:=wr.map (·.1) }) else none:=by
  show sel _ _ _=_
  cases (decide (2≤B9 op) && ZV (B9 op) A i wr) <;> rfl
@[simp] theorem q5l (i dst op g A s):qbm ⟨i,dst,op,g⟩ A s (some .out)=if (decide (B9 op≠0) || A.isEmpty)=true then some .out else none:=by
  show sel _ _ _=_
  cases (decide (B9 op≠0) || A.isEmpty) <;> rfl
noncomputable def qny (T:Tab) (cf:CF) (o:AIns) (s:RS) (A:List Loc):Option SR:=qbm o A s (jV T cf o.i o.op A (evO s.env) s.h)
noncomputable def qp9 (T:Tab) (cf:CF) (ps:List (Nat × Nat)) (es:List Nat) (os:List AIns) (o:AIns) (s:RS) (rs:List Rec) (A:List Loc):Option (RR × List Rec):=onD T cf ps es os o.i A rs (qny T cf o s A)
@[simp] theorem zb4 (T cf i dst op g s A):qny T cf ⟨i,dst,op,g⟩ s A=qbm ⟨i,dst,op,g⟩ A s (jV T cf i op A (evO s.env) s.h):=rfl
@[simp] theorem zhh (T cf ps es os i dst op g s rs A):qp9 T cf ps es os ⟨i,dst,op,g⟩ s rs A=onD T cf ps es os i A rs (qny T cf ⟨i,dst,op,g⟩ s A):=rfl
@[simp] theorem q6e (T cf ps es i dst op os s rs):QG T cf ps es (⟨i,dst,op,none⟩ :: os) s rs=qp9 T cf ps es os ⟨i,dst,op,none⟩ s rs (w4 op (evO s.env) s.h):=rfl
noncomputable def qvd (T:Tab) (cf:CF) (ps:List (Nat × Nat)) (es:List Nat) (os:List AIns) (o:AIns) (s:RS) (rs:List Rec) (b:Option Bool):Option (RR × List Rec):=
 bnd b fun b=>sel b (qp9 T cf ps es os o s rs (w4 o.op (evO s.env) s.h)) (QG T cf ps es os { env:=W6 s.env o.dst (.tup []),h:=s.h } ({ i:=o.i,rd:=[],wr:=[] } :: rs))
@[simp] theorem q6f (T cf ps es os i dst op g s rs):qvd T cf ps es os ⟨i,dst,op,g⟩ s rs (some true)=qp9 T cf ps es os ⟨i,dst,op,g⟩ s rs (w4 op (evO s.env) s.h):=rfl
@[simp] theorem q2g (T cf ps es os i dst op g s rs):qvd T cf ps es os ⟨i,dst,op,g⟩ s rs (some false)=QG T cf ps es os { env:=W6 s.env dst (.tup []),h:=s.h } ({ i:=i,rd:=[],wr:=[] } :: rs):=rfl
@[simp] theorem zb8 (T cf ps es i dst op g os s rs):QG T cf ps es (⟨i,dst,op,some g⟩ :: os) s rs=qvd T cf ps es os ⟨i,dst,op,some g⟩ s rs (wanted s.env (some g)):=by
  show bnd (QF T cf _ _ s) _=_;unfold QF
  cases h:wanted s.env (some g) with
  | none=>rfl
  | some b=>cases b <;> rfl
@[simp] theorem zlf (T cf i op A ev h):jV T cf i op A ev h=if (B9 op == 3)=true then j4 T cf i op ev (only A.contains h) else j4 T cf i op ev h:=by
  show sel (L7 op) _ _=_;unfold L7
  cases (B9 op == 3) <;> rfl
attribute [simp] B9 w4 L1 ZV okW qnb Loc.isOf Loc.oldOr
@[simp] theorem zcf (i):QI [] i=none:=rfl
@[simp] theorem q6l (j rd wr ch rs i):QI ({ i:=j,rd:=rd,wr:=wr,ch:=ch } :: rs) i=if (j == i)=true then some { i:=j,rd:=rd,wr:=wr,ch:=ch } else QI rs i:=by
  unfold QI;rw[List.find?_cons]
  split <;> simp_all
def qja (a b:Option Rec):Bool:=match a,b with
 | some a,some b=>qnb a b
 | _,_=>true
@[simp] theorem zfw (a b):qja (some a) (some b)=qnb a b:=rfl
@[simp] theorem zmq (b):qja none b=true:=by cases b <;> rfl
@[simp] theorem zfx (b):qja b none=true:=by cases b <;> rfl
@[simp] theorem q2v (rs):wm [] rs=true:=rfl
@[simp] theorem qz8 (i j ps rs):wm ((i,j) :: ps) rs=(qja (QI rs i) (QI rs j) && wm ps rs):=rfl
@[simp] theorem zck (rs i):qac [] rs i=true:=rfl
def qvx (i a:Nat) (o:Option Rec):Bool:=onO o true fun r=>r.wr.all (·.isOf a)
@[simp] theorem q6u (i a):qvx i a none=true:=rfl
@[simp] theorem q6t (i a r):qvx i a (some r)=r.wr.all (·.isOf a):=rfl
@[simp] theorem q6v (a b ps rs i):qac ((a,b) :: ps) rs i=(sel (b == i) (qvx i a (QI rs a)) true && qac ps rs i):=rfl
def qof (o:Option (List V × List Obj × List Loc)):List Loc:=onO o [] fun x=>x.2.2
@[simp] theorem q2q:qof none=[]:=rfl
@[simp] theorem q2p (a b c):qof (some (a,b,c))=c:=rfl
@[simp] theorem zhx (h vs):qqd h vs=qof (XK [] vs h):=rfl
def zlo (ts:List Nat) (o:Option (List V × List Obj × List Loc)):Option St:=bnd o fun x=>some { env:=ts.zip x.1,heap:=x.2.1 }
@[simp] theorem ze7 (ts vs os m):zlo ts (some (vs,os,m))=some { env:=ts.zip vs,heap:=os }:=rfl
@[simp] theorem endR_eq (pin keep env h):vi pin keep env h=zlo (zY env keep).1 (XK (Kt pin) (zY env keep).2 h):=rfl
def qwa (vs:List V) (o:Option (List Obj × List Loc)):Option (List V × List Obj × List Loc):=bnd o fun r=>some (vs,r.1,r.2)
@[simp] theorem q7b (vs os m):qwa vs (some (os,m))=some (vs,os,m):=rfl
def q20 (h:Loc→Option Obj) (x:List V × List Loc):Option (List V × List Obj × List Loc):=qwa x.1 (D1 h 64 0 x.2)
@[simp] theorem zi0 (h vs m):q20 h (vs,m)=qwa vs (D1 h 64 0 m):=rfl
@[simp] theorem norm_eq (pin vs h):XK pin vs h=q20 h (qN (fun l=>(h l).isSome) vs pin):=rfl
def qmn (o:Obj) (x:Option (List Obj × List Loc)):Option (List Obj × List Loc):=bnd x fun r=>some (o :: r.1,r.2)
@[simp] theorem zae (o os m):qmn o (some (os,m))=some (o :: os,m):=rfl
def quc (h:Loc→Option Obj) (f j:Nat) (x:Obj × List Loc):Option (List Obj × List Loc):=qmn x.1 (D1 h f (j + 1) x.2)
@[simp] theorem zge (h f j o m):quc h f j (o,m)=qmn o (D1 h f (j + 1) m):=rfl
def qjt (h:Loc→Option Obj) (f j:Nat) (m:List Loc) (o:Option Obj):Option (List Obj × List Loc):=match o with
 | none=>qmn .dead (D1 h f (j + 1) m)
 | some o=>quc h f j (o.ren (fun l=>(h l).isSome) m)
@[simp] theorem q42 (h f j m):qjt h f j m none=qmn .dead (D1 h f (j + 1) m):=rfl
@[simp] theorem q41 (h f j m o):qjt h f j m (some o)=quc h f j (o.ren (fun l=>(h l).isSome) m):=rfl
def qud (h:Loc→Option Obj) (f j:Nat) (m:List Loc) (o:Option Loc):Option (List Obj × List Loc):=match o with
 | none=>some ([],m)
 | some l=>qjt h f j m (h l)
@[simp] theorem q44 (h f j m):qud h f j m none=some ([],m):=rfl
@[simp] theorem q43 (h f j m l):qud h f j m (some l)=qjt h f j m (h l):=rfl
@[simp] theorem q14 (h f j m):D1 h (f + 1) j m=qud h f j m m[j]?:=by
  rw[D1]
  cases m[j]? with
  | none=>rfl
  | some l=>show onO (h l) _ _=qjt h f j m (h l); cases h l <;> rfl
def qkw (l:Loc) (m:List Loc) (o:Option Nat):Option Nat × List Loc:=match o with
 | none=>(some m.length,m++[l])
 | some k=>(some k,m)
@[simp] theorem q7k (l m):qkw l m none=(some m.length,m++[l]):=rfl
@[simp] theorem q7j (l m k):qkw l m (some k)=(some k,m):=rfl
def qwi (l:Loc) (m:List Loc) (b:Bool):Option Nat × List Loc:=match b with
 | true=>qkw l m (idx m l)
 | false=>(none,m)
@[simp] theorem q7l (l m):qwi l m true=qkw l m (idx m l):=rfl
@[simp] theorem q22 (l m):qwi l m false=(none,m):=rfl
@[simp] theorem zcv (al l m):U3 al l m=qwi l m (al l):=by
  unfold U3
  cases al l with
  | false=>rfl
  | true=>show onO (idx m l) _ _=qkw l m (idx m l); cases idx m l <;> rfl
@[simp] theorem q7h (k m) (f:Nat→V):named (some k,m) f=(f k,m):=rfl
@[simp] theorem q7i (m) (f:Nat→V):named (none,m) f=(.junk,m):=rfl
def qbj {α β:Type} (f:α→β) (x:α × List Loc):β × List Loc:=(f x.1,x.2)
@[simp] theorem zgd {α β:Type} (f:α→β) (a m):qbj f (a,m)=(f a,m):=rfl
section
variable (al:Loc→Bool) (m:List Loc)
@[simp] theorem ren_d (x):V.ren al (.d x) m=(.d x,m):=rfl
@[simp] theorem ren_ref (l sz o n):V.ren al (.ref l sz o n) m=named (U3 al l m) fun k=>.ref (.b k) sz o n:=rfl
@[simp] theorem ren_ptr (l e j):V.ren al (.ptr l e j) m=named (U3 al l m) fun k=>.ptr (.b k) e j:=rfl
@[simp] theorem zhm (l):V.ren al (.map l) m=named (U3 al l m) fun k=>.map (.b k):=rfl
@[simp] theorem zcc (l):V.ren al (.iter l) m=named (U3 al l m) fun k=>.iter (.b k):=rfl
@[simp] theorem ren_agg (cs):V.ren al (.agg cs) m=qbj .agg (qN al cs m):=rfl
@[simp] theorem zcd (t x):V.ren al (.iface t x) m=qbj (.iface t) (V.ren al x m):=rfl
@[simp] theorem ren_fn (f cs):V.ren al (.fn f cs) m=qbj (.fn f) (qN al cs m):=rfl
@[simp] theorem ren_tup (cs):V.ren al (.tup cs) m=qbj .tup (qN al cs m):=rfl
@[simp] theorem zhn:V.ren al .junk m=(.junk,m):=rfl
def qvg (v:V) (x:List V × List Loc):List V × List Loc:=(v :: x.1,x.2)
@[simp] theorem zhk (v vs):qvg v (vs,m)=(v :: vs,m):=rfl
def q2j (vs:List V) (x:V × List Loc):List V × List Loc:=qvg x.1 (qN al vs x.2)
@[simp] theorem zhl (vs v):q2j al vs (v,m)=qvg v (qN al vs m):=rfl
@[simp] theorem zhi:qN al [] m=([],m):=rfl
@[simp] theorem zcb (v vs):qN al (v :: vs) m=q2j al vs (V.ren al v m):=rfl
def qvh (k:D) (v:V) (x:List (D × V) × List Loc):List (D × V) × List Loc:=((k,v) :: x.1,x.2)
@[simp] theorem zhq (k v es):qvh k v (es,m)=((k,v) :: es,m):=rfl
def q2k (k:D) (es:List (D × V)) (x:V × List Loc):List (D × V) × List Loc:=qvh k x.1 (jf al es x.2)
@[simp] theorem zhr (k es v):q2k al k es (v,m)=qvh k v (jf al es m):=rfl
@[simp] theorem zce:jf al [] m=([],m):=rfl
@[simp] theorem q6j (k v es):jf al ((k,v) :: es) m=q2k al k es (V.ren al v m):=rfl
@[simp] theorem ren_arr (xs sz):Obj.ren al (.arr xs sz) m=qbj (fun xs=>.arr xs sz) (qN al xs m):=rfl
@[simp] theorem zho (s p):Obj.ren al (.iter s p) m=(.iter s p,m):=rfl
@[simp] theorem ren_map (es):Obj.ren al (.map es) m=qbj .map (jf al es m):=rfl
@[simp] theorem wQ (ds:List D):qN al (ds.map .d) m=(ds.map .d,m):=by induction ds <;> simp_all
end
noncomputable def j0 (T:Tab) (X:Exts) (pin:Nat) (a:ACode):Option (Ex × St)→Option (Ex × St)
 | some (.nrm,st)=>x9 T X pin a st
 | r=>r
def q3w (id:Nat) (o:Option St):Option (Ex × St):=bnd o fun st=>some (.exit id,st)
@[simp] theorem q9k (id st):q3w id (some st)=some (.exit id,st):=rfl
noncomputable def qvv (T:Tab) (X:Exts) (pin:Nat) (a b:ACode) (st:St) (o:Option V):Option (Ex × St):=qxx o (x9 T X pin a st) (x9 T X pin b st)
section
variable {T:Tab} {X:Exts} {pin:Nat}
@[simp] theorem q6q (a b st):qvv T X pin a b st (some (.d (.bool true)))=j0 T X pin a (some (.nrm,st)):=rfl
@[simp] theorem q2t (a b st):qvv T X pin a b st (some (.d (.bool false)))=j0 T X pin b (some (.nrm,st)):=rfl
@[simp] theorem zaj (a):j0 T X pin a none=none:=rfl
@[simp] theorem q4a (a i st):j0 T X pin a (some (.exit i,st))=some (.exit i,st):=rfl
@[simp] theorem zag (a st):j0 T X pin a (some (.ret,st))=some (.ret,st):=rfl
@[simp] theorem zah (a v st):j0 T X pin a (some (.pan v,st))=some (.pan v,st):=rfl
@[simp] theorem zai (a st):j0 T X pin a (some (.out,st))=some (.out,st):=rfl
variable [X.Mono]
@[simp] theorem zaf (x):j0 T X pin .skip x=x:=by
  cases x with
  | none=>rfl
  | some x=>obtain ⟨e,st⟩:=x; cases e <;> first | rfl | exact qpp
@[simp] theorem zfd (a b x):j0 T X pin (.seq a b) x=j0 T X pin b (j0 T X pin a x):=by
  cases x with
  | none=>rfl
  | some x=>obtain ⟨e,st⟩:=x; cases e <;> first | rfl | exact qte
@[simp] theorem q39 (a x):j0 T X pin (.scope a) x=j0 T X pin a x:=by
  cases x with
  | none=>rfl
  | some x=>obtain ⟨e,st⟩:=x; cases e <;> first | rfl | exact qmp
@[simp] theorem q1g (ops keep st):j0 T X pin (.region ops none keep) (some (.nrm,st))=qzz pin keep (qek T (d5 T X) ops (.go { env:=st.env,h:=o5 st.heap } [])):=YU
@[simp] theorem qyz (ops ps es keep st):j0 T X pin (.region ops (some (ps,es)) keep) (some (.nrm,st))=q2o ps pin keep (QG T (d5 T X) ps es ops { env:=st.env,h:=o5 st.heap } []):=YU
@[simp] theorem zal (c a b st):j0 T X pin (.cond c a b) (some (.nrm,st))=qvv T X pin a b st (evO st.env c):=qps
@[simp] theorem q4b (id a st):j0 T X pin (.block id a) (some (.nrm,st))=KP id (j0 T X pin a (some (.nrm,st))):=qmq
@[simp] theorem zak (id keep st):j0 T X pin (.exit id keep) (some (.nrm,st))=q3w id (vi pin keep st.env (o5 st.heap)):=qpr
@[simp] theorem zfe (st):j0 T X pin .ret (some (.nrm,st))=some (.ret,st):=qtf
theorem c9 {keep a l} (hl:l = .loop keep a) (st):j0 T X pin l (some (.nrm,st))=j0 T X pin l (j0 T X pin a (q0b (vi pin keep st.env (o5 st.heap)))):=by
 subst hl;show x9 T X pin _ st=_;rw[qpq]
 cases vi pin keep st.env (o5 st.heap) with
 | none=>rfl
 | some st1=>
   show q52 (x9 T X pin a st1) _=j0 T X pin _ (x9 T X pin a st1)
   cases x9 T X pin a st1 with
   | none=>rfl
   | some x=>obtain ⟨e,st⟩:=x; cases e <;> rfl
def qxp (pin:Nat) (res:List (ARes × Bool)) (o:Option (Ex × St)):Option CRes:=zlp o (qf pin res)
@[simp] theorem zlt (res st):qxp pin res (some (.nrm,st))=qf pin res st:=rfl
@[simp] theorem zlq (res st):qxp pin res (some (.ret,st))=qf pin res st:=rfl
@[simp] theorem zlr (res v st):qxp pin res (some (.pan v,st))=some (.pan v st.heap):=rfl
@[simp] theorem zls (res st):qxp pin res (some (.out,st))=some .out:=rfl
theorem a8 {f af vs heap} (hx:X.run f=none) (hf:T.funs f=some af) (hl:vs.length=af.np) :
 d5 T X f vs heap=qxp heap.length af.res (j0 T X heap.length af.code (some (.nrm,{ env:=(List.range af.np).zip vs,heap }))):=qth hx hf hl
end
def q9g (o:Option (List V × List Obj × List Loc)):Option CRes:=bnd o fun b=>some (.ret b.1 b.2.1)
@[simp] theorem zem (vs os m):q9g (some (vs,os,m))=some (.ret vs os):=rfl
def q9h (pin:Nat) (h:Loc→Option Obj) (o:Option (List V × List Loc)):Option CRes:=bnd o fun a=>
 if a.2.all (fun l=>match l with | .b k=>decide (pin≤k) | .n _ _=>false) then q9g (XK (Kt pin) a.1 (Q7 h a.2)) else none
def zib (pin:Nat):Loc→Bool
 | .b k=>decide (pin≤k)
 | .n _ _=>false
@[simp] theorem oldL_b (pin k):zib pin (.b k)=decide (pin≤k):=rfl
@[simp] theorem zen (pin h vs fm):q9h pin h (some (vs,fm))=if fm.all (zib pin) then q9g (XK (Kt pin) vs (Q7 h fm)) else none:=rfl
def zk2 (pin:Nat) (h:Loc→Option Obj) (o:Option (List (V × Bool))):Option CRes:=bnd o fun vs=>q9h pin h (A7 h vs)
@[simp] theorem zeo (pin h vs):zk2 pin h (some vs)=q9h pin h (A7 h vs):=rfl
@[simp] theorem zel (pin res env heap):qf pin res { env,heap } = zk2 pin (o5 heap) (je env (o5 heap) res):=rfl
@[simp] theorem q12 (env):wanted env none=some true:=rfl
def qa3 (w:Bool):Option V→Option Bool
 | some (.d (.bool b))=>some (b == w)
 | some (.tup [])=>some false
 | _=>none
@[simp] theorem q11 (env t w):wanted env (some (t,w))=qa3 w (B2 env t):=by
  unfold wanted qa3
  split <;> split <;> simp_all
@[simp] theorem qy1 (w b):qa3 w (some (.d (.bool b)))=some (b == w):=rfl
@[simp] theorem q13 (w):qa3 w (some (.tup []))=some false:=rfl
@[simp] theorem evO_t (env n):evO env (.t n)=B2 env n:=rfl
@[simp] theorem evO_c (env x):evO env (.c x)=some (.d x):=rfl
@[simp] theorem zcg (env t v):W6 env (some t) v=(t,v) :: env:=rfl
@[simp] theorem zch (env v):W6 env none v=env:=rfl
@[simp] theorem q4i (fm m i):JL fm m i .out = .out:=rfl
@[simp] theorem q4g (fm m i rs heap):JL fm m i (.ret rs heap) = .ok { v:=(QC rs).mapL (P4 m i),rd:=fm++m,wr:=fm.map (·,none)++N8 m i 0 heap }:=rfl
@[simp] theorem q4h (fm m i v heap):JL fm m i (.pan v heap) = .pan { v:=v.mapL (P4 m i),rd:=fm++m,wr:=fm.map (·,none)++N8 m i 0 heap }:=rfl
@[simp] theorem zbs (v):QC [v]=v:=rfl
@[simp] theorem zbt:QC [] = .tup []:=rfl
@[simp] theorem q47 (v w l):QC (v :: w :: l) = .tup (v :: w :: l):=rfl
@[simp] theorem zkt (cs):N6 (.d (.agg cs))=cs.all jQ:=rfl
@[simp] theorem fitV_sl (xs):N6 (.d (.sl xs))=decide (xs.length * wl xs≤A5):=rfl
@[simp] theorem zkn (s):N6 (.d (.str s))=decide (s.length≤long):=rfl
@[simp] theorem zkq (k n):N6 (.d (.int k n))=true:=rfl
@[simp] theorem zef (b):N6 (.d (.bool b))=true:=rfl
@[simp] theorem q9e (t x):N6 (.d (.iface t x))=true:=rfl
@[simp] theorem zks (x):N6 (.d (.box x))=true:=rfl
@[simp] theorem fitV_fn (f x):N6 (.d (.fn f x))=true:=rfl
@[simp] theorem zkr (f x):N6 (.fn f x)=true:=rfl
@[simp] theorem zed:N6 (.d .nilp)=true:=rfl
@[simp] theorem zee:N6 (.d .nili)=true:=rfl
@[simp] theorem zkp (l e j):N6 (.ptr l e j)=true:=rfl
@[simp] theorem zko (l sz o n):N6 (.ref l sz o n)=decide (n * sz.w≤A5):=rfl
@[simp] theorem zeg (cs):N6 (.agg cs)=true:=rfl
@[simp] theorem fitC_sl (xs):jQ (.sl xs)=decide (xs.length * wl xs≤A5):=rfl
@[simp] theorem zkx (s):jQ (.str s)=decide (s.length≤long):=rfl
@[simp] theorem zkz (k n):jQ (.int k n)=true:=rfl
@[simp] theorem zek (b):jQ (.bool b)=true:=rfl
@[simp] theorem q9f (t x):jQ (.iface t x)=true:=rfl
@[simp] theorem zei:jQ .nilp=true:=rfl
@[simp] theorem zej:jQ .nili=true:=rfl
@[simp] theorem zk0 (x):jQ (.box x)=true:=rfl
@[simp] theorem zct (k a):vQ (.d (.int k a))=if 0≤a then some a.toNat else none:=rfl
@[simp] theorem q73:lenOf (.d .nils)=some 0:=rfl
@[simp] theorem q8d:kF (.d .nils)=false:=rfl
@[simp] theorem zec:N6 (.d .nils)=true:=rfl
@[simp] theorem zjw (xs):lenOf (.d (.sl xs))=some xs.length:=rfl
@[simp] theorem zdh (s):lenOf (.d (.str s))=some s.length:=rfl
@[simp] theorem zdi (l sz o n):lenOf (.ref l sz o n)=some n:=rfl
@[simp] theorem zlu (h xs):K1 h (.d (.sl xs))=some (xs.map .d,[]):=rfl
@[simp] theorem ze8 (h s):K1 h (.d (.str s))=some (s.map (fun b=>.d (.int .u8 b.toNat)),[]):=rfl
def qxq (o:Option Obj) (l:Loc) (off len:Nat):Option (List V × List Loc):=
 match o with
 | some (.arr xs _)=>if off + len≤xs.length then some ((xs.drop off).take len,[l]) else none
 | _=>none
@[simp] theorem q9y (xs sz l off len):qxq (some (.arr xs sz)) l off len=if off + len≤xs.length then some ((xs.drop off).take len,[l]) else none:=rfl
@[simp] theorem ze9 (h l sz off len):K1 h (.ref l sz off len)=qxq (h l) l off len:=rfl
@[simp] theorem bin_add (k k' a b):bin .add (.d (.int k a)) (.d (.int k' b))=if k=k' then F1 .add k a b else none:=rfl
@[simp] theorem bin_sub (k k' a b):bin .sub (.d (.int k a)) (.d (.int k' b))=if k=k' then F1 .sub k a b else none:=rfl
@[simp] theorem bin_mul (k k' a b):bin .mul (.d (.int k a)) (.d (.int k' b))=if k=k' then F1 .mul k a b else none:=rfl
@[simp] theorem bin_quo (k k' a b):bin .quo (.d (.int k a)) (.d (.int k' b))=if k=k' then F1 .quo k a b else none:=rfl
@[simp] theorem bin_rem (k k' a b):bin .rem (.d (.int k a)) (.d (.int k' b))=if k=k' then F1 .rem k a b else none:=rfl
@[simp] theorem bin_and (k k' a b):bin .and (.d (.int k a)) (.d (.int k' b))=if k=k' then F1 .and k a b else none:=rfl
@[simp] theorem bin_or (k k' a b):bin .or (.d (.int k a)) (.d (.int k' b))=if k=k' then F1 .or k a b else none:=rfl
@[simp] theorem bin_xor (k k' a b):bin .xor (.d (.int k a)) (.d (.int k' b))=if k=k' then F1 .xor k a b else none:=rfl
@[simp] theorem za6 (k k' a b):bin .andNot (.d (.int k a)) (.d (.int k' b))=if k=k' then F1 .andNot k a b else none:=rfl
@[simp] theorem bin_eql (k k' a b):bin .eql (.d (.int k a)) (.d (.int k' b))=if k=k' then F1 .eql k a b else none:=rfl
@[simp] theorem bin_neq (k k' a b):bin .neq (.d (.int k a)) (.d (.int k' b))=if k=k' then F1 .neq k a b else none:=rfl
@[simp] theorem bin_lss (k k' a b):bin .lss (.d (.int k a)) (.d (.int k' b))=if k=k' then F1 .lss k a b else none:=rfl
@[simp] theorem bin_leq (k k' a b):bin .leq (.d (.int k a)) (.d (.int k' b))=if k=k' then F1 .leq k a b else none:=rfl
@[simp] theorem bin_gtr (k k' a b):bin .gtr (.d (.int k a)) (.d (.int k' b))=if k=k' then F1 .gtr k a b else none:=rfl
@[simp] theorem bin_geq (k k' a b):bin .geq (.d (.int k a)) (.d (.int k' b))=if k=k' then F1 .geq k a b else none:=rfl
@[simp] theorem bin_shl (k k' a b):bin .shl (.d (.int k a)) (.d (.int k' b))=if b < 0 then none else some (.int k (k.wrap (a * 2 ^ (min b.toNat k.bits)))):=rfl
@[simp] theorem bin_shr (k k' a b):bin .shr (.d (.int k a)) (.d (.int k' b))=if b < 0 then none else some (.int k (a.fdiv (2 ^ (min b.toNat k.bits)))):=rfl
@[simp] theorem bin_str (op a b):bin op (.d (.str a)) (.d (.str b))=Wf op a b:=rfl
@[simp] theorem q5g (a b):Wf .add a b=if a.length + b.length≤long then some (.str (a++b)) else none:=rfl
@[simp] theorem q5f (a b):Wf .eql a b=some (.bool (a == b)):=rfl
@[simp] theorem q5e (a b):Wf .neq a b=some (.bool (!(a == b))):=rfl
@[simp] theorem un_not (b):un .not (.d (.bool b))=some (.bool (!b)):=rfl
@[simp] theorem un_neg (k a):un .neg (.d (.int k a))=some (.int k (k.wrap (0 - a))):=rfl
section
variable (k:IntKind) (a b:Int)
@[simp] theorem q8v:F1 .add k a b=some (.int k (k.wrap (a + b))):=rfl
@[simp] theorem q8k:F1 .sub k a b=some (.int k (k.wrap (a - b))):=rfl
@[simp] theorem q8o:F1 .mul k a b=some (.int k (k.wrap (a * b))):=rfl
@[simp] theorem q8m:F1 .quo k a b=if b=0 then none else some (.int k (k.wrap (a.tdiv b))):=rfl
@[simp] theorem q8l:F1 .rem k a b=if b=0 then none else some (.int k (a.tmod b)):=rfl
@[simp] theorem q8u:F1 .and k a b=some (.int k (k.wrap (BitVec.ofInt k.bits a &&& BitVec.ofInt k.bits b).toNat)):=rfl
def orK (k:IntKind) (a b:Int):Int:=k.wrap (BitVec.ofInt k.bits a ||| BitVec.ofInt k.bits b).toNat
@[simp] theorem zd0:F1 .or k a b=some (.int k (orK k a b)):=rfl
@[simp] theorem q8t:F1 .eql k a b=some (.bool (a == b)):=rfl
@[simp] theorem q8n:F1 .neq k a b=some (.bool (a != b)):=rfl
@[simp] theorem q8p:F1 .lss k a b=some (.bool (decide (a < b))):=rfl
@[simp] theorem q8q:F1 .leq k a b=some (.bool (decide (a≤b))):=rfl
@[simp] theorem q8r:F1 .gtr k a b=some (.bool (decide (b < a))):=rfl
@[simp] theorem q8s:F1 .geq k a b=some (.bool (decide (b≤a))):=rfl
end
@[simp] theorem zfl (cs):V.cells (.d (.agg cs))=cs.map .d:=rfl
@[simp] theorem zas (cs):V.cells (.agg cs)=cs:=rfl
@[simp] theorem zfj (k n):V.cells (.d (.int k n))=[.d (.int k n)]:=rfl
@[simp] theorem zar (b):V.cells (.d (.bool b))=[.d (.bool b)]:=rfl
@[simp] theorem zff (b):V.cells (.d (.str b))=[.d (.str b)]:=rfl
@[simp] theorem zl2 (b):V.cells (.d (.sl b))=[.d (.sl b)]:=rfl
@[simp] theorem zfk (b):V.cells (.d (.box b))=[.d (.box b)]:=rfl
@[simp] theorem zap:V.cells (.d .nilp)=[.d .nilp]:=rfl
@[simp] theorem zaq:V.cells (.d .nili)=[.d .nili]:=rfl
@[simp] theorem q4c (t x):V.cells (.d (.iface t x))=[.d (.iface t x)]:=rfl
@[simp] theorem zfg (l sz o n):V.cells (.ref l sz o n)=[.ref l sz o n]:=rfl
@[simp] theorem zfh (l e j):V.cells (.ptr l e j)=[.ptr l e j]:=rfl
@[simp] theorem zfi (l):V.cells (.map l)=[.map l]:=rfl
@[simp] theorem zac (cs):D.cells (.agg cs)=cs:=rfl
@[simp] theorem zab (k n):D.cells (.int k n)=[.int k n]:=rfl
@[simp] theorem q38 (b):D.cells (.bool b)=[.bool b]:=rfl
@[simp] theorem zaa (b):D.cells (.str b)=[.str b]:=rfl
@[simp] theorem zfa (b):D.cells (.sl b)=[.sl b]:=rfl
@[simp] theorem q36:D.cells .nilp=[.nilp]:=rfl
@[simp] theorem q37:D.cells .nili=[.nili]:=rfl
@[simp] theorem zdc (h n cs):S7 h n true (.d (.box (.agg cs)))=if cs.length=n then val (.d (.agg cs)) else none:=rfl
@[simp] theorem zda (h n k a):S7 h n false (.d (.box (.int k a)))=val (.d (.int k a)):=rfl
@[simp] theorem q7y (h n b):S7 h n false (.d (.box (.bool b)))=val (.d (.bool b)):=rfl
@[simp] theorem zc8 (h n b):S7 h n false (.d (.box (.str b)))=val (.d (.str b)):=rfl
@[simp] theorem zjq (h n b):S7 h n false (.d (.box (.sl b)))=val (.d (.sl b)):=rfl
@[simp] theorem q3a (h n t b):S7 h n false (.d (.box (.iface t b)))=val (.d (.iface t b)):=rfl
@[simp] theorem q7x (h n):S7 h n false (.d (.box .nili))=val (.d .nili):=rfl
@[simp] theorem q7w (h n):S7 h n false (.d (.box .nilp))=val (.d .nilp):=rfl
@[simp] theorem zdb (h n x):S7 h n false (.d (.box (.box x)))=val (.d (.box x)):=rfl
def ldZ (l:Loc) (o:Option V):Option R:=o.map fun v=>.ok { v,rd:=[l] }
@[simp] theorem zjy (l v):ldZ l (some v)=some (.ok { v,rd:=[l] }):=rfl
def ldY (l:Loc) (n:Nat) (ag:Bool) (j:Nat) (o:Option V):Option R:=match o with
 | none=>none
 | some v=>ldZ l (part v j n ag)
@[simp] theorem zjz (l n ag j v):ldY l n ag j (some v)=ldZ l (part v j n ag):=rfl
def qwt (o:Option Obj) (l:Loc) (e j n:Nat) (ag:Bool):Option R:=
 match o with
 | some (.arr xs _)=>ldY l n ag j xs[e]?
 | _=>none
@[simp] theorem zdd (xs sz l e j n ag):qwt (some (.arr xs sz)) l e j n ag=ldY l n ag j xs[e]?:=rfl
@[simp] theorem zc9 (h n ag l e j):S7 h n ag (.ptr l e j)=qwt (h l) l e j n ag:=by
  simp only[S7,qwt]
  cases h l with
  | none=>rfl
  | some o=>cases o with
    | arr xs sz=>simp only; cases xs[e]? <;> rfl
    | _=>rfl
def stZ (l:Loc) (e:Nat) (sz:W) (xs:List V) (o:Option V):Option R:=o.map fun w=>.ok { v:=.tup [],rd:=[l],wr:=[(l,some (.arr (xs.set e w) sz))] }
@[simp] theorem zgv (l e sz xs w):stZ l e sz xs (some w)=some (.ok { v:=.tup [],rd:=[l],wr:=[(l,some (.arr (xs.set e w) sz))] }):=rfl
def stY (l:Loc) (e n j:Nat) (sz:W) (xs:List V) (v:V) (o:Option V):Option R:=match o with
 | none=>none
 | some w=>if v.cells.length=n then stZ l e sz xs (B6 w j v) else none
@[simp] theorem zgw (l e n j sz xs v w):stY l e n j sz xs v (some w)=if v.cells.length=n then stZ l e sz xs (B6 w j v) else none:=rfl
def qnv (o:Option Obj) (l:Loc) (e j n:Nat) (v:V):Option R:=
 match o with
 | some (.arr xs sz)=>stY l e n j sz xs v xs[e]?
 | _=>none
@[simp] theorem q5i (xs sz l e j n v):qnv (some (.arr xs sz)) l e j n v=stY l e n j sz xs v xs[e]?:=rfl
@[simp] theorem q5h (h n l e j v):Qj h n (.ptr l e j) v=qnv (h l) l e j n v:=by
  simp only[Qj,qnv]
  cases h l with
  | none=>rfl
  | some o=>cases o with
    | arr xs sz=>simp only; cases xs[e]? <;> rfl
    | _=>rfl
@[simp] theorem q5q (s lo hi):Kk none (.d (.str s)) lo hi=if lo≤hi then (if hi≤s.length then some (.d (.str ((s.drop lo).take (hi - lo)))) else none) else none:=rfl
@[simp] theorem zb5 (n s lo hi):Kk (some n) (.d (.sl s)) lo hi=if lo≤hi then (if hi≤s.length∧s.all (fun y=>y.cells.length == n.c)=true then some (.d (.sl ((s.drop lo).take (hi - lo)))) else none) else none:=rfl
@[simp] theorem q5r (n l sz off len lo hi):Kk (some n) (.ref l sz off len) lo hi=if lo≤hi then (if hi≤len∧sz=n then (if lo=hi then some (.d (.sl [])) else some (.ref l sz (off + lo) (hi - lo))) else none) else none:=rfl
@[simp] theorem zh3 (v off n):part v off n true=if off + n≤v.cells.length then some (wT ((v.cells.drop off).take n)) else none:=rfl
@[simp] theorem zh2 (v off n):part v off n false=v.cells[off]?:=rfl
@[simp] theorem isAgg_d (cs):isAgg (.d (.agg cs))=true:=rfl
@[simp] theorem isAgg_v (cs):isAgg (.agg cs)=true:=rfl
@[simp] theorem zdu (k n):isAgg (.d (.int k n))=false:=rfl
@[simp] theorem q8i (b):isAgg (.d (.bool b))=false:=rfl
@[simp] theorem zdr (b):isAgg (.d (.str b))=false:=rfl
@[simp] theorem zj3 (b):isAgg (.d (.sl b))=false:=rfl
@[simp] theorem q3k (t b):isAgg (.d (.iface t b))=false:=rfl
@[simp] theorem q8h:isAgg (.d .nili)=false:=rfl
@[simp] theorem q8g:isAgg (.d .nilp)=false:=rfl
@[simp] theorem zdv (x):isAgg (.d (.box x))=false:=rfl
@[simp] theorem zds (l sz o n):isAgg (.ref l sz o n)=false:=rfl
@[simp] theorem zdt (l e j):isAgg (.ptr l e j)=false:=rfl
@[simp] theorem qd7 (ds:List D):S9 (ds.map .d)=some ds:=by induction ds <;> simp_all [S9]
def qd9 (l:List V) (o:Option (List D)):V:=match o with
 | some ds=>.d (.agg ds)
 | none=>.agg l
@[simp] theorem zf2 (l ds):qd9 l (some ds) = .d (.agg ds):=rfl
@[simp] theorem zf3 (l):qd9 l none = .agg l:=rfl
@[simp] theorem zjg (l):wT l=qd9 l (S9 l):=rfl
@[simp] theorem zmt:S9 []=some []:=rfl
def zbb (x:D) (o:Option (List D)):Option (List D):=o.map (x :: ·)
@[simp] theorem zf0 (x ds):zbb x (some ds)=some (x :: ds):=rfl
@[simp] theorem zf1 (x):zbb x none=none:=rfl
@[simp] theorem zfz (x l):S9 (.d x :: l)=zbb x (S9 l):=rfl
@[simp] theorem zfy (v l):S9 (.map v :: l)=none:=rfl
@[simp] theorem allD_fn (f c l):S9 (.fn f c :: l)=none:=rfl
@[simp] theorem zba (f c l):S9 (.iface f c :: l)=none:=rfl
@[simp] theorem zmr (a sz o n l):S9 (.ref a sz o n :: l)=none:=rfl
@[simp] theorem zms (a e j l):S9 (.ptr a e j :: l)=none:=rfl
@[simp] theorem zd2 (t x):Q9 (.d (.iface t x))=some (t,.d x):=rfl
@[simp] theorem zd1 (t x):Q9 (.iface t x)=some (t,x):=rfl
@[simp] theorem q0t:Q9 (.d .nili)=none:=rfl
@[simp] theorem fnOf_d (f cap):qep (.d (.fn f cap))=some (f,cap.map .d):=rfl
@[simp] theorem fnOf_v (f cap):qep (.fn f cap)=some (f,cap):=rfl
@[simp] theorem zcx (t x):JA t (.d x) = .d (.iface t x):=rfl
@[simp] theorem zki (f):jP f []=some ([],[]):=rfl
@[simp] theorem frz_d (h k x):frz h k (.d x)=some (x,[]):=by cases k <;> rfl
@[simp] theorem qlw (h k) (ds:List D):jP (frz h k) (ds.map .d)=some (ds,[]):=by induction ds <;> simp_all [jP]
def q86 (l:Loc) (sz:W) (o:Option (List D × List Loc)):Option (D × List Loc):=o.bind fun (ds,m)=>if wl ds≤sz.w then some (.sl ds,l :: m) else none
@[simp] theorem zd6 (l sz ds m):q86 l sz (some (ds,m))=if wl ds≤sz.w then some (.sl ds,l :: m) else none:=rfl
def q9b (l:Loc) (o:Option (D × List Loc)):Option (D × List Loc):=o.map fun (x,m)=>(.box x,l :: m)
@[simp] theorem zeb (l x m):q9b l (some (x,m))=some (.box x,l :: m):=rfl
def q87 (h:Loc→Option Obj) (k:Nat) (l:Loc) (o:Option V):Option (D × List Loc):=match o with
 | none=>none
 | some v=>q9b l (frz h k v)
@[simp] theorem zd7 (h k l v):q87 h k l (some v)=q9b l (frz h k v):=rfl
def q3q (x:Option (D × List Loc)) (y:Option (List D × List Loc)):Option (List D × List Loc):=match x,y with
    | some (x,m),some (xs,m')=>some (x :: xs,m++m')
    | _,_=>none
@[simp] theorem q9a (x m xs m'):q3q (some (x,m)) (some (xs,m'))=some (x :: xs,m++m'):=rfl
@[simp] theorem zd8 (f v vs):jP f (v :: vs)=q3q (f v) (jP f vs):=rfl
def zkl (o:Option (List D × List Loc)):Option (D × List Loc):=o.map fun (ds,m)=>(.agg ds,m)
@[simp] theorem zea (ds m):zkl (some (ds,m))=some (.agg ds,m):=rfl
@[simp] theorem zkc (h k cs):frz h (k + 1) (.agg cs)=zkl (jP (frz h k) cs):=rfl
def zkk (t:TypeId) (o:Option (D × List Loc)):Option (D × List Loc):=o.map fun (x,m)=>(.iface t x,m)
@[simp] theorem zd9 (t x m):zkk t (some (x,m))=some (.iface t x,m):=rfl
@[simp] theorem zd5 (h k t v):frz h (k + 1) (.iface t v)=zkk t (frz h k v):=rfl
def qpa (l:Loc) (o:Option (List D)):Option (D × List Loc):=o.map fun ds=>(.sl ds,[l])
@[simp] theorem q3p (l ds):qpa l (some ds)=some (.sl ds,[l]):=rfl
def q89 (h:Loc→Option Obj) (k:Nat) (l:Loc) (s:W) (off len:Nat):Option Obj→Option (D × List Loc)
 | some (.arr xs _)=>if off + len≤xs.length then q86 l s (jP (frz h k) ((xs.drop off).take len)) else none
 | some (.lol ls)=>if off=0∧len=ls.length∧24≤s.w then qpa l (qh5 ls) else none
 | _=>none
@[simp] theorem zke (h k l s off len ls):q89 h k l s off len (some (.lol ls))=if off=0∧len=ls.length∧24≤s.w then qpa l (qh5 ls) else none:=rfl
@[simp] theorem zkf (h k l s off len xs sz):q89 h k l s off len (some (.arr xs sz))=if off + len≤xs.length then q86 l s (jP (frz h k) ((xs.drop off).take len)) else none:=rfl
@[simp] theorem frz_ref (h k l sz off len):frz h (k + 1) (.ref l sz off len)=q89 h k l sz off len (h l):=rfl
def q88 (h:Loc→Option Obj) (k:Nat) (l:Loc) (e j:Nat):Option Obj→Option (D × List Loc)
 | some (.arr xs _)=>if j=0 then q87 h k l xs[e]? else none
 | _=>none
@[simp] theorem zkd (h k l e j xs sz):q88 h k l e j (some (.arr xs sz))=if j=0 then q87 h k l xs[e]? else none:=rfl
@[simp] theorem frz_ptr (h k l e j):frz h (k + 1) (.ptr l e j)=q88 h k l e j (h l):=by
  simp only[frz,q88]
  cases h l with
  | none=>rfl
  | some o=>cases o with
    | arr xs sz=>show (if j=0 then _ else none)=(if j=0 then _ else none); split <;> first | rfl | (cases xs[e]? <;> rfl)
    | _=>rfl
def zkh (l:Loc):Option Obj→Option (D × List Loc)
 | some (.map _)=>some (.nilm,[l])
 | _=>none
@[simp] theorem zkg (l es):zkh l (some (.map es))=some (.nilm,[l]):=rfl
@[simp] theorem frz_map (h k l):frz h (k + 1) (.map l)=zkh l (h l):=rfl
@[simp] theorem q27 (t t':TypeId) (r l):wU ((t',r) :: l) t=if t'=t then some r else wU l t:=rfl
@[simp] theorem q78 (s es):kV true (.str s) es=es.all (fun e=>zZ true e.1):=rfl
@[simp] theorem q79 (n es):kV false (.int .i64 n) es=es.all (fun e=>zZ false e.1):=rfl
@[simp] theorem zdp (s):zZ true (.str s)=true:=rfl
@[simp] theorem zdq (n):zZ false (.int .i64 n)=true:=rfl
@[simp] theorem q8j (k n):qh9 (.d (.int k n))=false:=rfl
@[simp] theorem q3r (h):A7 h []=some ([],[]):=rfl
def q3s (x:Option (D × List Loc)) (y:Option (List V × List Loc)):Option (List V × List Loc):=match x,y with
    | some (x,m),some (vs,m')=>some (.d x :: vs,m++m')
    | _,_=>none
@[simp] theorem q9c (x m vs m'):q3s (some (x,m)) (some (vs,m'))=some (.d x :: vs,m++m'):=rfl
def q3t (v:V) (y:Option (List V × List Loc)):Option (List V × List Loc):=match y with
    | some (vs,m')=>some (v :: vs,m')
    | _=>none
@[simp] theorem q9d (v vs m'):q3t v (some (vs,m'))=some (v :: vs,m'):=rfl
@[simp] theorem q01 (h v l):A7 h ((v,true) :: l)=q3s (frz h 24 v) (A7 h l):=by
  simp only[A7,if_true]
  cases frz h 24 v with
  | none=>rfl
  | some x=>cases A7 h l <;> rfl
@[simp] theorem qyw (h v l):A7 h ((v,false) :: l)=q3t v (A7 h l):=by
  simp only[A7]
  cases A7 h l with
  | none=>rfl
  | some x=>rfl
@[simp] theorem q10 (h:Loc→Option Obj):Q7 h []=h:=by funext l; simp[Q7]
@[simp] theorem q67 (l):o5 [] l=none:=by cases l <;> rfl
def qkt:Option Obj→Option Obj
 | some .dead=>none
 | o=>o
@[simp] theorem zco:qkt none=none:=rfl
@[simp] theorem zcq:qkt (some .dead)=none:=rfl
@[simp] theorem zix (xs sz):qkt (some (.arr xs sz))=some (.arr xs sz):=rfl
@[simp] theorem zcp (s p):qkt (some (.iter s p))=some (.iter s p):=rfl
@[simp] theorem ziv (es):qkt (some (.map es))=some (.map es):=rfl
@[simp] theorem ziu (os n):o5 os (.b n)=qkt os[n]?:=by
  unfold o5 qkt
  split <;> split <;> simp_all
@[simp] theorem zit (os i k):o5 os (.n i k)=none:=rfl
@[simp] theorem zc1 (f) (ds:List D):Q1 f (ds.map .d)=ds.map .d:=by induction ds <;> simp_all [Q1,V.mapL]
@[simp] theorem zc4 (f xs sz):Obj.mapL f (.arr xs sz)=some (.arr (Q1 f xs) sz):=rfl
@[simp] theorem q7p (f s p):Obj.mapL f (.iter s p)=some (.iter s p):=rfl
@[simp] theorem zc3 (f es):Obj.mapL f (.map es)=some (.map (ZW f es)):=rfl
@[simp] theorem q7q (f):Obj.mapL f .dead=none:=rfl
@[simp] theorem backL_b (m i k):P4 m i (.b k)=if k < m.length then m.getD k (.n i 0) else .n i (k - m.length):=rfl
@[simp] theorem zdk (env):zY env []=([],[]):=rfl
def qw5 (t:Nat) (x:List Nat × List V) (o:Option V):List Nat × List V:=match o with
 | none=>x
 | some v=>(t :: x.1,v :: x.2)
@[simp] theorem q8c (t x):qw5 t x none=x:=rfl
@[simp] theorem q8b (t ts vs v):qw5 t (ts,vs) (some v)=(t :: ts,v :: vs):=rfl
@[simp] theorem q8a (env t ks):zY env (t :: ks)=qw5 t (zY env ks) (B2 env t):=by
  simp only[zY]
  cases B2 env t <;> rfl
@[simp] theorem zca (env h t):qby env h (.tmp t)=B2 env t:=rfl
def q6i:Option R→Option V
 | some (.ok e)=>some e.v
 | _=>none
@[simp] theorem resC_ok (e):q6i (some (.ok e))=some e.v:=rfl
@[simp] theorem q6h (env h t n ag):qby env h (.cell t n ag)=q6i (qwr h n ag (B2 env t)):=by
  simp only[qby]
  cases B2 env t with
  | none=>rfl
  | some a=>
    show (match S7 h n ag a with | some (.ok e)=>some e.v | _=>none)=q6i (S7 h n ag a)
    cases S7 h n ag a with
    | none=>rfl
    | some r=>cases r <;> rfl
@[simp] theorem q2i (env h):je env h []=some []:=rfl
def q6g (fl:Bool) (v:Option V) (o:Option (List (V × Bool))):Option (List (V × Bool)):=match v,o with
 | some v,some vs=>some ((v,fl) :: vs)
 | _,_=>none
@[simp] theorem zb9 (fl v vs):q6g fl (some v) (some vs)=some ((v,fl) :: vs):=rfl
@[simp] theorem qzy (env h r fl l):je env h ((r,fl) :: l)=q6g fl (qby env h r) (je env h l):=by
  simp only[je]
  cases qby env h r with
  | none=>rfl
  | some v=>cases je env h l <;> rfl
@[simp] theorem zh9 (i k v):kB i k [] v=(v,[]):=rfl
@[simp] theorem zje (f):qky f [] = .d (.fn f []):=rfl
@[simp] theorem isNew_n (i k):Loc.isNew (.n i k)=true:=rfl
@[simp] theorem isNew_b (k):Loc.isNew (.b k)=false:=rfl
section
variable (ev:Opnd→Option V)
@[simp] theorem evs_nil:evs ev []=some []:=rfl
@[simp] theorem zlg (x fl l):evs ev ((x,fl) :: l)=q6g fl (ev x) (evs ev l):=by
  simp only[evs]
  cases ev x with
  | none=>rfl
  | some v=>cases evs ev l <;> rfl
def zlm (v:Option V) (o:Option (List V)):Option (List V):=match v,o with
 | some v,some vs=>some (v :: vs)
 | _,_=>none
@[simp] theorem ze5 (v vs):zlm (some v) (some vs)=some (v :: vs):=rfl
@[simp] theorem evl_nil:evl ev []=some []:=rfl
@[simp] theorem zll (x l):evl ev (x :: l)=zlm (ev x) (evl ev l):=rfl
def zlk (a b:Nat) (v:Option V) (o:Option (List (Nat × Nat × V))):Option (List (Nat × Nat × V)):=match v,o with
 | some v,some vs=>some ((a,b,v) :: vs)
 | _,_=>none
@[simp] theorem ze4 (a b v vs):zlk a b (some v) (some vs)=some ((a,b,v) :: vs):=rfl
@[simp] theorem evp_nil:evp ev []=some []:=rfl
@[simp] theorem zlj (a b x l):evp ev ((a,b,x) :: l)=zlk a b (ev x) (evp ev l):=rfl
def zli (a:Nat) (v:Option V) (o:Option (List (Nat × V))):Option (List (Nat × V)):=match v,o with
 | some v,some vs=>some ((a,v) :: vs)
 | _,_=>none
@[simp] theorem ze3 (a v vs):zli a (some v) (some vs)=some ((a,v) :: vs):=rfl
@[simp] theorem evq_nil:evq ev []=some []:=rfl
@[simp] theorem zlh (a x l):evq ev ((a,x) :: l)=zli a (ev x) (evq ev l):=rfl
end
def q46 (h:Loc→Option Obj) (l:Loc) (o:Option Obj):Loc→Option Obj:=fun l'=>if l'=l then o else h l'
@[simp] theorem zml (h):i9 h []=h:=rfl
@[simp] theorem zmm (h l o ws):i9 h ((l,o) :: ws)=i9 (q46 h l o) ws:=rfl
@[simp] theorem updL_b (h l o n):q46 h l o (.b n)=if Loc.b n=l then o else h (.b n):=rfl
@[simp] theorem updL_n (h l o i k):q46 h l o (.n i k)=if Loc.n i k=l then o else h (.n i k):=rfl
@[simp] theorem ziw (ls):qkt (some (.lol ls))=some (.lol ls):=rfl
@[simp] theorem zjo (f ls):Obj.mapL f (.lol ls)=some (.lol ls):=rfl
@[simp] theorem ren_lol (al ls m):Obj.ren al (.lol ls) m=(.lol ls,m):=rfl
attribute [simp] B2 Kt V.mapL Q1 ZW N8 idx zW wR jc
end Go.Rf
