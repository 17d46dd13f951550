/- Parts of the proof: RfSimp. -/
import Derived.Test.YtjlnfdabdhkgcaaGreatDoorRb2

set_option linter.unusedSimpArgs false
set_option linter.unusedVariables false
set_option linter.unnecessarySimpa false
set_option linter.unusedSectionVars false
set_option linter.all false
set_option linter.unusedSectionVars false
namespace Go.Rf
def okV (o:Option V):Option R:=bnd o val
@[simp] theorem zhn (v):okV (some v)=some (.ok { v:=v }):=rfl
@[simp] theorem val_eq (v):val v=some (.ok { v:=v }):=rfl
def qxn (c a b:Option V):Option R:=match c with
 | some (.d (.bool true))=>okV a
 | some (.d (.bool false))=>okV b
 | _=>none
@[simp] theorem q7h (a b):qxn (some (.d (.bool true))) a b=okV a:=rfl
@[simp] theorem q35 (a b):qxn (some (.d (.bool false))) a b=okV b:=rfl
def zlc (i n:Nat) (o:Option V):Option R:=bnd o fun v=>if v.cells.length=n then some (.ok { v:=.ptr (.n i 0) 0 0,wr:=[(.n i 0,some (.arr [v] ⟨n,0⟩))] }) else none
@[simp] theorem zfh (i n v):zlc i n (some v)=if v.cells.length=n then some (.ok { v:=.ptr (.n i 0) 0 0,wr:=[(.n i 0,some (.arr [v] ⟨n,0⟩))] }) else none:=rfl
def q7q (wr:List (Loc × Option Obj)) (o:Option (List V)):Option R:=bnd o fun cs=>some (.ok { v:=vM cs,wr:=wr })
@[simp] theorem zhm (wr cs):q7q wr (some cs)=some (.ok { v:=vM cs,wr:=wr }):=rfl
def qzz (x:V × List (Loc × Option Obj)) (o:Option (List (Nat × Nat × V))):Option R:=bnd o fun ps=>q7q x.2 (vK x.1.cells ps)
@[simp] theorem q5p (v wr ps):qzz (v,wr) (some ps)=q7q wr (vK v.cells ps):=rfl
def zgi (n:W) (z:D) (len:Nat) (o:Option (List (Nat × V))):Option (List V):=bnd o fun ps=>if z.cells.length=n.c∧len * n.w≤D2 then jv n (List.replicate len (.d z)) ps else none
@[simp] theorem qts (n z len ps):zgi n z len (some ps)=if z.cells.length=n.c∧len * n.w≤D2 then jv n (List.replicate len (.d z)) ps else none:=rfl
def zk8 (i:Nat) (n:W) (len:Nat) (o:Option (List V)):Option R:=bnd o fun xs=>some (.ok { v:=.ref (.n i 0) n 0 len,wr:=[(.n i 0,some (.arr xs n))] })
@[simp] theorem zfe (i n len xs):zk8 i n len (some xs)=some (.ok { v:=.ref (.n i 0) n 0 len,wr:=[(.n i 0,some (.arr xs n))] }):=rfl
def qyp (h:Loc→Option Obj) (n:Nat) (ag:Bool) (o:Option V):Option R:=bnd o (qx h n ag)
@[simp] theorem q8m (h n ag v):qyp h n ag (some v)=qx h n ag v:=rfl
def qwh (h:Loc→Option Obj) (n:Nat) (a b:Option V):Option R:=bnd a fun a=>bnd b fun v=>QU h n a v
@[simp] theorem q3p (h n a b):qwh h n (some a) (some b)=QU h n a b:=rfl
def q75 (o:Option V):Option R:=match o with
 | some (.d (.box y))=>val (.d (.box y))
 | some (.ptr l e j)=>val (.ptr l e j)
 | _=>none
@[simp] theorem zh9 (y):q75 (some (.d (.box y)))=val (.d (.box y)):=rfl
@[simp] theorem zh8 (l e j):q75 (some (.ptr l e j))=val (.ptr l e j):=rfl
def okD (o:Option D):Option R:=bnd o fun r=>val (.d r)
@[simp] theorem zhp (x):okD (some x)=some (.ok { v:=.d x }):=rfl
def zlf (op:BinOp) (a b:Option V):Option R:=bnd a fun a=>bnd b fun b=>okD (bin op a b)
@[simp] theorem zfi (op a b):zlf op (some a) (some b)=okD (bin op a b):=rfl
def unX (op:UnOp) (a:Option V):Option R:=bnd a fun a=>okD (un op a)
@[simp] theorem zf6 (op a):unX op (some a)=okD (un op a):=rfl
def q81 (eq:Bool) (o:Option Bool):Option R:=bnd o fun b=>val (.d (.bool (b == eq)))
@[simp] theorem zdt (eq b):q81 eq (some b)=val (.d (.bool (b == eq))):=rfl
def zi9 (eq ifc:Bool) (a:Option V):Option R:=bnd a fun a=>q81 eq (XS ifc a)
@[simp] theorem zdu (eq ifc a):zi9 eq ifc (some a)=q81 eq (XS ifc a):=rfl
@[simp] theorem isNil_1:XS false (.d .nilp)=some true:=rfl
@[simp] theorem isNil_2 (x):XS false (.d (.box x))=some false:=rfl
@[simp] theorem isNil_4:XS true (.d .nili)=some true:=rfl
@[simp] theorem isNil_5 (t x):XS true (.d (.iface t x))=some false:=rfl
def zko (eq:Bool) (a b:Option V):Option R:=match a,b with
    | some (.d (.bool a)),some (.d (.bool b))=>val (.d (.bool ((a == b) == eq)))
    | _,_=>none
@[simp] theorem zez (eq a b):zko eq (some (.d (.bool a))) (some (.d (.bool b)))=val (.d (.bool ((a == b) == eq))):=rfl
def qso (h:Loc→Option Obj) (k:Cv) (o:Option V):Option R:=bnd o fun a=>match k,a with
    | .int k,.d (.int _ n)=>val (.d (.int k (k.wrap n)))
    | .rune,.d (.int _ n)=>val (.d (.str (Utf8.encode n).data.toList))
    | .b2s,a=>bnd (G5 h a) fun (xs,m)=>bnd (zO xs) fun s=>some (.ok { v:=.d (.str s),rd:=m })
    | _,_=>none
@[simp] theorem ze3 (h k j n):qso h (.int k) (some (.d (.int j n)))=val (.d (.int k (k.wrap n))):=rfl
@[simp] theorem zax (h j n):qso h .rune (some (.d (.int j n)))=val (.d (.str (Utf8.encode n).data.toList)):=rfl
def zbn (m:List Loc) (o:Option (List UInt8)):Option R:=bnd o fun s=>some (.ok { v:=.d (.str s),rd:=m })
@[simp] theorem zfj (m s):zbn m (some s)=some (.ok { v:=.d (.str s),rd:=m }):=rfl
def zlj (o:Option (List V × List Loc)):Option R:=bnd o fun x=>zbn x.2 (zO x.1)
@[simp] theorem zfk (xs m):zlj (some (xs,m))=zbn m (zO xs):=rfl
@[simp] theorem ze4 (h a):qso h .b2s (some a)=zlj (G5 h a):=by cases a <;> first | rfl | (rename_i x; cases x <;> rfl)
def zih (t:TypeId) (o:Option V):Option R:=bnd o fun v=>val (Kv t v)
@[simp] theorem zc8 (t v):zih t (some v)=val (Kv t v):=rfl
def zij (f:FuncId) (o:Option (List V)):Option R:=bnd o fun vs=>val (qud f vs)
@[simp] theorem zc9 (f vs):zij f (some vs)=val (qud f vs):=rfl
def q8f (i:Nat) (n:W) (z:D) (a b:Option Nat):Option R:=match a,b with
    | some l,some c=>if l≤c∧z.cells.length=n.c∧c * n.w≤D2 then some (.ok { v:=.ref (.n i 0) n 0 l,wr:=[(.n i 0,some (.arr (List.replicate l (.d z)) n))] }) else none
    | _,_=>none
@[simp] theorem zc6 (i n z l c):q8f i n z (some l) (some c)=if l≤c∧z.cells.length=n.c∧c * n.w≤D2 then some (.ok { v:=.ref (.n i 0) n 0 l,wr:=[(.n i 0,some (.arr (List.replicate l (.d z)) n))] }) else none:=rfl
def qap (o:Option V):Option Nat:=bnd o QC
@[simp] theorem zc4 (v):qap (some v)=QC v:=rfl
def zi3 (o:Option V):Option Nat:=bnd o lenOf
@[simp] theorem zdp (v):zi3 (some v)=lenOf v:=rfl
def qi6 (s:Option W) (v:Option V) (lo hi:Option Nat):Option R:=bnd v fun v=>match lo,hi with
    | some l,some u=>okV (Yi s v l u)
    | _,_=>none
@[simp] theorem q3r (s v l u):qi6 s (some v) (some l) (some u)=okV (Yi s v l u):=rfl
@[simp] theorem zdr (s):wk (.d (.str s))=true:=rfl
@[simp] theorem zi8 (s):wk (.d (.sl s))=false:=rfl
@[simp] theorem zds (l sz o n):wk (.ref l sz o n)=false:=rfl
def qqw (o:Option V):Option R:=bnd o fun v=>match v with
 | .d z=>val (.d (.box z))
 | _=>none
@[simp] theorem q45 (z):qqw (some (.d z))=val (.d (.box z)):=rfl
def qqx (off n:Nat) (ag:Bool) (o:Option V):Option R:=match o with
    | some (.d (.box y))=>qqw (part (.d y) off n ag)
    | some (.ptr l e j)=>val (.ptr l e (j + off))
    | _=>none
@[simp] theorem q93 (off n ag y):qqx off n ag (some (.d (.box y)))=qqw (part (.d y) off n ag):=rfl
@[simp] theorem q92 (off n ag l e j):qqx off n ag (some (.ptr l e j))=val (.ptr l e (j + off)):=rfl
def q37 (off n:Nat) (ag:Bool) (o:Option V):Option R:=bnd o fun v=>if isAgg v then okV (part v off n ag) else none
@[simp] theorem q7j (off n ag v):q37 off n ag (some v)=if isAgg v then okV (part v off n ag) else none:=rfl
def q9g (n:W) (o:Option D):Option R:=match o with
        | some y=>if y.cells.length=n.c then val (.d (.box y)) else none
        | none=>none
@[simp] theorem zdz (n y):q9g n (some y)=if y.cells.length=n.c then val (.d (.box y)) else none:=rfl
def q2j (n:W) (v:Option V) (j:Option Nat):Option R:=bnd v fun v=>match j with
    | none=>none
    | some j=>match v with
      | .d (.sl xs)=>q9g n xs[j]?
      | .ref l sz off len=>if j < len∧sz=n then val (.ptr l (off + j) 0) else none
      | _=>none
@[simp] theorem idxX_sl (n xs j):q2j n (some (.d (.sl xs))) (some j)=q9g n xs[j]?:=rfl
@[simp] theorem zjd (n l sz off len j):q2j n (some (.ref l sz off len)) (some j)=if j < len∧sz=n then val (.ptr l (off + j) 0) else none:=rfl
def qy6 (o:Option UInt8):Option R:=match o with
 | some b=>val (.d (.int .u8 b.toNat))
 | none=>none
@[simp] theorem q9h (b):qy6 (some b)=val (.d (.int .u8 b.toNat)):=rfl
def qy7 (v:Option V) (j:Option Nat):Option R:=bnd v fun v=>match v,j with
    | .d (.str s),some j=>qy6 s[j]?
    | _,_=>none
@[simp] theorem q9i (s j):qy7 (some (.d (.str s))) (some j)=qy6 s[j]?:=rfl
def zj4 (k:Nat) (o:Option V):Option R:=match o with
    | some (.tup vs)=>okV vs[k]?
    | _=>none
@[simp] theorem zei (k vs):zj4 k (some (.tup vs))=okV vs[k]?:=rfl
def qwb (t:TypeId) (ok:Bool) (z:D) (v:V) (o:Option (TypeId × V)):Option R:=match o with
    | some (t',y)=>if t'=t then val (if ok then .tup [y,.d (.bool true)] else y) else if ok then val (.tup [.d z,.d (.bool false)]) else none
    | none=>match v,ok with
      | .d .nili,true=>val (.tup [.d z,.d (.bool false)])
      | _,_=>none
@[simp] theorem q58 (t ok z v t' y):qwb t ok z v (some (t',y))=if t'=t then val (if ok then .tup [y,.d (.bool true)] else y) else if ok then val (.tup [.d z,.d (.bool false)]) else none:=rfl
def q3n (t:TypeId) (ok:Bool) (z:D) (o:Option V):Option R:=bnd o fun v=>qwb t ok z v (W6 v)
@[simp] theorem q59 (t ok z v):q3n t ok z (some v)=qwb t ok z v (W6 v):=rfl
def qst (fm m:List Loc) (i:Nat) (o:Option CRes):Option R:=bnd o fun r=>some (WO fm m i r)
@[simp] theorem zbc (fm m i r):qst fm m i (some r)=some (WO fm m i r):=rfl
def callB (cf:CF) (f:FuncId) (i:Nat) (fm:List Loc) (o:Option (List V × List Obj × List Loc)):Option R:=bnd o fun b=>if b.1.all P6 then qst fm b.2.2 i (cf f b.1 b.2.1) else none
@[simp] theorem zbd (cf f i fm vs os m):callB cf f i fm (some (vs,os,m))=if vs.all P6 then qst fm m i (cf f vs os) else none:=rfl
def qby (cf:CF) (f:FuncId) (i:Nat) (h:Loc→Option Obj) (o:Option (List V × List Loc)):Option R:=bnd o fun a=>callB cf f i a.2 (JC [] a.1 (S4 h a.2))
@[simp] theorem zbe (cf f i h vs fm):qby cf f i h (some (vs,fm))=callB cf f i fm (JC [] vs (S4 h fm)):=rfl
theorem XC (cf:CF) (f i h args):Z9 cf f i h args=qby cf f i h (G9 h args):=by
 unfold Z9 qby callB qst
 congr 1; funext a; congr 1; funext b
 cases b.1.all P6 <;> rfl
def q5j (cf:CF) (f:FuncId) (i:Nat) (h:Loc→Option Obj) (o:Option (List (V × Bool))):Option R:=bnd o fun vs=>Z9 cf f i h vs
@[simp] theorem zbb (cf f i h vs):q5j cf f i h (some vs)=qby cf f i h (G9 h vs):=XC ..
def zbh (l:Loc) (sz:W) (off len:Nat) (o:Option (List D)):Option (D × List Loc):=bnd o fun ds=>if wl ((ds.drop off).take len)≤sz.w∧ds.all (fun x=>x.cells.all qbj)=true then some (.sl ((ds.drop off).take len),[l]) else none
@[simp] theorem zfg (l sz off len ds):zbh l sz off len (some ds)=if wl ((ds.drop off).take len)≤sz.w∧ds.all (fun x=>x.cells.all qbj)=true then some (.sl ((ds.drop off).take len),[l]) else none:=rfl
def zlb (l:Loc) (sz:W) (off len:Nat):Option Obj→Option (D × List Loc)
 | some (.arr xs _)=>if off + len≤xs.length then zbh l sz off len (xj xs) else none
 | _=>none
@[simp] theorem zla (l sz off len xs s):zlb l sz off len (some (.arr xs s))=if off + len≤xs.length then zbh l sz off len (xj xs) else none:=rfl
@[simp] theorem brw_d (h x b):brw h (.d x,b)=some (x,[]):=rfl
@[simp] theorem brw_ref (h l sz off len):brw h (.ref l sz off len,true)=zlb l sz off len (h l):=by
  simp only[brw]
  cases h l with
  | none=>rfl
  | some o=>cases o <;> rfl
def q5q (a:Option (D × List Loc)) (b:Option (List D × List Loc)):Option (List D × List Loc):=bnd a fun a=>bnd b fun b=>some (a.1 :: b.1,a.2++b.2)
@[simp] theorem zbg (d m ds m'):q5q (some (d,m)) (some (ds,m'))=some (d :: ds,m++m'):=rfl
@[simp] theorem zk9 (h):qe9 h []=some ([],[]):=rfl
@[simp] theorem zff (h x l):qe9 h (x :: l)=q5q (brw h x) (qe9 h l):=rfl
def q4n (fm:List Loc) (o:Option (List D)):Option R:=bnd o fun ds=>sel (Jn ds) (some (.ok { v:=Zo (ds.map .d),rd:=fm })) none
@[simp] theorem q8q (fm ds):q4n fm (some ds)=if Jn ds=true then some (.ok { v:=Zo (ds.map .d),rd:=fm }) else none:=by
  show sel _ _ _=_
  cases Jn ds <;> rfl
def q4o (fm:List Loc) (o:Option CRes):Option R:=bnd o (qj0 fm)
@[simp] theorem zdk (fm rs):q4o fm (some (.ret rs []))=q4n fm (xj rs):=rfl
def q4p (cf:CF) (f:FuncId) (o:Option (List D × List Loc)):Option R:=bnd o fun a=>sel ((a.1.map V.d).all P6) (bnd (cf f (a.1.map .d) []) (qj0 a.2)) none
@[simp] theorem q8r (cf f ds fm):q4p cf f (some (ds,fm))=if (ds.map V.d).all P6=true then q4o fm (cf f (ds.map .d) []) else none:=by
  show sel _ _ _=_
  cases (ds.map V.d).all P6 <;> rfl
def qzx (cf:CF) (f:FuncId) (h:Loc→Option Obj) (o:Option (List (V × Bool))):Option R:=bnd o fun vs=>Ky cf f h vs
@[simp] theorem q5o (cf f h vs):qzx cf f h (some vs)=q4p cf f (qe9 h vs):=rfl
attribute [simp] qaa Jn qbj
def qk1 (cf:CF) (i:Nat) (h:Loc→Option Obj) (vs:List (V × Bool)) (o:Option (FuncId × List V)):Option R:=bnd o fun x=>qby cf (jE x.1) i h (G9 h (F7 x.1 vs (x.2.map (·,false))))
@[simp] theorem q5k (cf i h vs f cap):qk1 cf i h vs (some (f,cap))=qby cf (jE f) i h (G9 h (F7 f vs (cap.map (·,false)))):=rfl
def qzw (cf:CF) (i:Nat) (h:Loc→Option Obj) (g:Option V) (o:Option (List (V × Bool))):Option R:=bnd g fun g=>bnd o fun vs=>qk1 cf i h vs (qfz g)
@[simp] theorem q5l (cf i h g vs):qzw cf i h (some g) (some vs)=qk1 cf i h vs (qfz g):=rfl
def q83 (cf:CF) (f:FuncId) (i:Nat) (h:Loc→Option Obj) (vs:List (V × Bool)) (o:Option V):Option R:=bnd o fun r=>qby cf f i h (G9 h ((r,true) :: vs))
def zjb (cf:CF) (i:Nat) (h:Loc→Option Obj) (y:V) (vs:List (V × Bool)) (o:Option (FuncId × Option (Nat × Nat × Bool))):Option R:=bnd o fun x=>match x.2 with
    | none=>q83 cf x.1 i h vs (some y)
    | some (off,n,ag)=>q83 cf x.1 i h vs (qg3 y off n ag)
def q19 (T:Tab) (cf:CF) (m:List (TypeId × FuncId × Option (Nat × Nat × Bool))) (i:Nat) (h:Loc→Option Obj) (vs:List (V × Bool)) (o:Option (TypeId × V)):Option R:=bnd o fun x=>zjb cf i h x.2 vs (JF m x.1)
def zjc (T:Tab) (cf:CF) (m:List (TypeId × FuncId × Option (Nat × Nat × Bool))) (i:Nat) (h:Loc→Option Obj) (v:Option V) (o:Option (List (V × Bool))):Option R:=bnd v fun v=>bnd o fun vs=>q19 T cf m i h vs (W6 v)
@[simp] theorem zdw (T cf m i h v vs):zjc T cf m i h (some v) (some vs)=q19 T cf m i h vs (W6 v):=rfl
def q18 (fit:Bool) (o:Option Nat):Option R:=bnd o fun n=>if fit=true then val (.d (.int .i64 n)) else none
@[simp] theorem zdl (str n):q18 str (some n)=if str=true then val (.d (.int .i64 n)) else none:=rfl
def zi1 (s:Bool) (o:Option V):Option R:=bnd o fun v=>sel (wk v == s) (q18 (P6 v) (lenOf v)) none
@[simp] theorem zdm (s v):zi1 s (some v)=sel (wk v == s) (q18 (P6 v) (lenOf v)) none:=rfl
def qz7 (i:Nat) (n:W) (off len:Nat) (l:Loc) (sz:W) (ys:List V) (m:List Loc) (o:Option Obj):Option R:=match o with
        | some (.arr xs _)=>
          if sz=n∧off + len≤xs.length∧l ∉ m then
           if (len + ys.length) * n.w≤D2 then some (.ok { v:=.ref (.n i 0) n 0 (len + ys.length),rd:=l :: m,wr:=[(l,none),(.n i 0,some (.arr ((xs.drop off).take len++ys) n))] }) else none
          else none
        | _=>none
@[simp] theorem zlm (i n off len l sz ys m xs s):qz7 i n off len l sz ys m (some (.arr xs s))=if sz=n∧off + len≤xs.length∧l ∉ m then
 if (len + ys.length) * n.w≤D2 then some (.ok { v:=.ref (.n i 0) n 0 (len + ys.length),rd:=l :: m,wr:=[(l,none),(.n i 0,some (.arr ((xs.drop off).take len++ys) n))] }) else none
 else none:=rfl
def qox (h:Loc→Option Obj) (i:Nat) (n:W) (x:Option V) (o:Option (List V × List Loc)):Option R:=bnd o fun y=>
 if y.1.all (fun v=>v.cells.length == n.c) then
  match x with
  | none=>if y.1.length * n.w≤D2 then some (.ok { v:=.ref (.n i 0) n 0 y.1.length,rd:=y.2,wr:=[(.n i 0,some (.arr y.1 n))] }) else none
  | some (.ref l sz off len)=>qz7 i n off len l sz y.1 y.2 (h l)
  | _=>none
 else none
@[simp] theorem zfl (h i n ys m):qox h i n none (some (ys,m))=if ys.all (fun v=>v.cells.length == n.c) then (if ys.length * n.w≤D2 then some (.ok { v:=.ref (.n i 0) n 0 ys.length,rd:=m,wr:=[(.n i 0,some (.arr ys n))] }) else none) else none:=rfl
@[simp] theorem zln (h i n l sz off len ys m):qox h i n (some (.ref l sz off len)) (some (ys,m))=if ys.all (fun v=>v.cells.length == n.c) then qz7 i n off len l sz ys m (h l) else none:=rfl
def q5s (h:Loc→Option Obj) (i:Nat) (n:W) (y:Option V):Option R:=bnd y fun b=>qox h i n none (G5 h b)
@[simp] theorem zbp (h i n b):q5s h i n (some b)=qox h i n none (G5 h b):=rfl
def zlo (h:Loc→Option Obj) (i:Nat) (n:W) (x y:Option V):Option R:=bnd x fun a=>bnd y fun b=>qox h i n (unN a) (G5 h b)
@[simp] theorem unN_ref (l sz o n):unN (.ref l sz o n)=some (.ref l sz o n):=rfl
@[simp] theorem zf7:unN (.d .nils)=none:=rfl
@[simp] theorem zfm (h i n a b):zlo h i n (some a) (some b)=qox h i n (unN a) (G5 h b):=rfl
theorem qs1 (h i n x y):qgi h i n x y=qox h i n x (G5 h y):=by
 unfold qgi qox
 cases G5 h y with
 | none=>rfl
 | some e=>
   obtain ⟨ys,m⟩:=e;show (if ys.all _=true then _ else none)=(if ys.all _=true then _ else none);split
   ·cases x with
    | none=>rfl
    | some x=>cases x with
      | ref l sz off len=>show (match h l with | some (.arr xs _)=>_ | _=>none)=qz7 ..; unfold qz7; cases h l with
        | none=>rfl
        | some o=>cases o <;> rfl
      | _=>rfl
   ·rfl
def mxX (a b:Option V):Option R:=match a,b with
    | some (.d (.int k a)),some (.d (.int k' b))=>if k=k' then val (.d (.int k (if b > a then b else a))) else none
    | _,_=>none
@[simp] theorem zif (k a k' b):mxX (some (.d (.int k a))) (some (.d (.int k' b)))=if k=k' then val (.d (.int k (if b > a then b else a))) else none:=rfl
def mnX (a b:Option V):Option R:=match a,b with
    | some (.d (.int k a)),some (.d (.int k' b))=>if k=k' then val (.d (.int k (if b < a then b else a))) else none
    | _,_=>none
@[simp] theorem zig (k a k' b):mnX (some (.d (.int k a))) (some (.d (.int k' b)))=if k=k' then val (.d (.int k (if b < a then b else a))) else none:=rfl
def qea (i:Nat) (l:Loc) (e:Nat) (ls:List (Option (List D))):Option (Option (List D))→Option R
 | some (some [])=>some (.ok { v:=.d .nils,rd:=[l] })
 | some (some (x :: xs))=>some (.ok { v:=.ref (.n i (e + 1)) ⟨1,8⟩ 0 (xs.length + 1),rd:=[l],wr:=[(l,some (.lol (ls.set e none))),(.n i (e + 1),some (.arr (.d x :: xs.map .d) ⟨1,8⟩))] })
 | _=>none
@[simp] theorem q8p (i l e ls):qea i l e ls (some (some []))=some (.ok { v:=.d .nils,rd:=[l] }):=rfl
@[simp] theorem q4m (i l e ls x xs):qea i l e ls (some (some (x :: xs)))=some (.ok { v:=.ref (.n i (e + 1)) ⟨1,8⟩ 0 (xs.length + 1),rd:=[l],wr:=[(l,some (.lol (ls.set e none))),(.n i (e + 1),some (.arr (.d x :: xs.map .d) ⟨1,8⟩))] }):=rfl
def qyv (i:Nat) (l:Loc) (e:Nat):Option Obj→Option R
 | some (.lol ls)=>qea i l e ls ls[e]?
 | _=>none
@[simp] theorem q8o (i l e ls):qyv i l e (some (.lol ls))=qea i l e ls ls[e]?:=rfl
def qyu (h:Loc→Option Obj) (i:Nat) (o:Option V):Option R:=bnd o (qjz h i)
@[simp] theorem q4l (h i l e):qyu h i (some (.ptr l e 0))=qyv i l e (h l):=by
  show (match h l with | some (.lol ls)=>_ | _=>none)=_
  cases h l with
  | none=>rfl
  | some o=>cases o <;> first | rfl | (rename_i ls; show (match ls[e]? with | _=>_)=qea i l e ls ls[e]?; rcases ls[e]? with _ | (_ | (_ | _)) <;> rfl)
def qci (l l':Loc) (e:Nat) (sz sz':W) (len:Nat) (ls:List (Option (List D))):Option (List D)→Option R
 | some ds=>if JN ls e=true∧sz=⟨1,8⟩∧sz'=⟨1,8⟩∧len=ds.length∧0 < len then some (.ok { v:=.tup [],rd:=[l,l'],wr:=[(l,some (.lol (ls.set e (some ds)))),(l',none)] }) else none
 | none=>none
@[simp] theorem q13 (l l' e sz sz' len ls ds):qci l l' e sz sz' len ls (some ds)=if JN ls e=true∧sz=⟨1,8⟩∧sz'=⟨1,8⟩∧len=ds.length∧0 < len then some (.ok { v:=.tup [],rd:=[l,l'],wr:=[(l,some (.lol (ls.set e (some ds)))),(l',none)] }) else none:=rfl
def qjx (l l':Loc) (e:Nat) (sz:W) (len:Nat):Option Obj→Option Obj→Option R
 | some (.lol ls),some (.arr xs sz')=>qci l l' e sz sz' len ls (xj xs)
 | _,_=>none
@[simp] theorem q4h (l l' e sz len ls xs sz'):qjx l l' e sz len (some (.lol ls)) (some (.arr xs sz'))=qci l l' e sz sz' len ls (xj xs):=rfl
def qjw (h:Loc→Option Obj) (a b:Option V):Option R:=bnd a fun a=>bnd b fun v=>Wh h a v
@[simp] theorem q12 (h l e l' sz len):qjw h (some (.ptr l e 0)) (some (.ref l' sz 0 len))=qjx l l' e sz len (h l) (h l'):=by
  rcases ha:h l with _ | (_ | _ | _ | ls | _) <;> rcases hb:h l' with _ | (⟨xs,sz'⟩ | _ | _ | _ | _) <;> simp[qjw,Wh,qjx,ha,hb,bnd]
  cases hc:xj xs <;> simp[qci]
@[simp] theorem zdd (ls):qd8 (some (.lol ls))=some ls:=rfl
@[simp] theorem zdc (sz):qd8 (some (.arr [] sz))=some []:=rfl
@[simp] theorem q80:qaw [.d .nils]=true:=rfl
def q4r (i:Nat) (n:W) (l:Loc) (sz:W) (len:Nat):Option (List (Option (List D)))→Option (List V × List Loc)→Option R
 | some ls,some (ys,m)=>if qaw ys=true∧sz=n∧n.c=1∧n.w < 1000000∧len=ls.length∧l ∉ m∧(len + 1) * n.w≤D2 then
  some (.ok { v:=.ref (.n i 0) n 0 (len + 1),rd:=l :: m,wr:=[(l,none),(.n i 0,some (.lol (ls++[some []])))] }) else none
 | _,_=>none
@[simp] theorem q8u (i n l sz len ls ys m):q4r i n l sz len (some ls) (some (ys,m))=if qaw ys=true∧sz=n∧n.c=1∧n.w < 1000000∧len=ls.length∧l ∉ m∧(len + 1) * n.w≤D2 then
 some (.ok { v:=.ref (.n i 0) n 0 (len + 1),rd:=l :: m,wr:=[(l,none),(.n i 0,some (.lol (ls++[some []])))] }) else none:=rfl
def q4q (h:Loc→Option Obj) (i:Nat) (n:W) (a b:Option V):Option R:=bnd a fun a=>bnd b fun v=>qsa h i n a v
@[simp] theorem q8t (h i n l sz len y):q4q h i n (some (.ref l sz 0 len)) (some y)=q4r i n l sz len (qd8 (h l)) (G5 h y):=by
  show bnd (qd8 (h l)) _=_
  cases qd8 (h l) with
  | none=>rfl
  | some ls=>cases G5 h y <;> rfl
def qys (k:Nat) (o:Option V):Option R:=bnd o fun v=>some (.ok { v,rd:=[.n hdI k] })
@[simp] theorem q4k (k v):qys k (some v)=some (.ok { v,rd:=[.n hdI k] }):=rfl
def qyr (h:Loc→Option Obj) (o:Option V):Option R:=match o with
    | some (.ptr (.b k) 0 0)=>bnd (Xq h k) fun v=>some (.ok { v,rd:=[.n hdI k] })
    | _=>none
@[simp] theorem q4j (h k):qyr h (some (.ptr (.b k) 0 0))=qys k (Yc (h (.b k))):=rfl
def q4u (o:Option D):Option R:=bnd o fun y=>val (.d y)
@[simp] theorem q9k (y):q4u (some y)=val (.d y):=rfl
def q4t (n:Nat) (x:Option V) (j:Option Nat):Option R:=bnd x fun v=>bnd j fun j=>match v with
    | .d (.agg cs)=>if j < n then bnd (cs[j]?) fun y=>val (.d y) else none
    | _=>none
@[simp] theorem q9j (n cs j):q4t n (some (.d (.agg cs))) (some j)=if j < n then q4u cs[j]? else none:=rfl
def q7k (v:V) (o:Option (TypeId × V)):Option R:=match o with
    | some _=>some (.pan { v })
    | none=>none
@[simp] theorem zcu (v x):q7k v (some x)=some (.pan { v }):=rfl
def zhe (o:Option V):Option R:=bnd o fun v=>q7k v (W6 v)
@[simp] theorem zcv (v):zhe (some v)=q7k v (W6 v):=rfl
def qxh (i:Nat) (o:Option V):Option R:=match o with
    | some (.d (.str s))=>some (.ok { v:=.iter (.n i 0),wr:=[(.n i 0,some (.iter s 0))] })
    | _=>none
@[simp] theorem q34 (i s):qxh i (some (.d (.str s)))=some (.ok { v:=.iter (.n i 0),wr:=[(.n i 0,some (.iter s 0))] }):=rfl
def qx8 (l:Loc) (o:Option Obj):Option R:=match o with
 | some (.iter s pos)=>
   if pos < s.length then some (.ok { v:=.tup [.d (.bool true),.d (.int .i64 pos),.d (.int .i32 (dec s pos).1)],rd:=[l],wr:=[(l,some (.iter s (pos + (dec s pos).2)))] })
   else some (.ok { v:=.tup [.d (.bool false)],rd:=[l] })
 | _=>none
@[simp] theorem q76 (l s pos):qx8 l (some (.iter s pos))=if pos < s.length then some (.ok { v:=.tup [.d (.bool true),.d (.int .i64 pos),.d (.int .i32 (dec s pos).1)],rd:=[l],wr:=[(l,some (.iter s (pos + (dec s pos).2)))] })
        else some (.ok { v:=.tup [.d (.bool false)],rd:=[l] }):=rfl
def q4d (h:Loc→Option Obj) (o:Option V):Option R:=match o with
    | some (.iter l)=>qx8 l (h l)
    | _=>none
@[simp] theorem q77 (h l):q4d h (some (.iter l))=qx8 l (h l):=rfl
def qyl (s:Bool) (z:D) (l:Loc) (key:D) (o:Option Obj):Option R:=match o with
 | some (.map es)=>if QY s key es then some (.ok { v:=((Wz es (K3 key)).getD (.d z)),rd:=[l] }) else none
 | _=>none
@[simp] theorem q8j (s z l key es):qyl s z l key (some (.map es))=if QY s key es then some (.ok { v:=((Wz es (K3 key)).getD (.d z)),rd:=[l] }) else none:=rfl
def q4i (h:Loc→Option Obj) (s:Bool) (z:D) (x k:Option V):Option R:=match x,k with
    | some (.map l),some (.d key)=>qyl s z l key (h l)
    | _,_=>none
@[simp] theorem q8k (h s z l key):q4i h s z (some (.map l)) (some (.d key))=qyl s z l key (h l):=rfl
def q53 (s:Bool) (l:Loc) (key:D) (v:V) (o:Option Obj):Option R:=match o with
 | some (.map es)=>if QY s key es && !qj2 v then some (.ok { v:=.tup [],rd:=[l],wr:=[(l,some (.map (YW es key v)))] }) else none
 | _=>none
@[simp] theorem zb8 (s l key v es):q53 s l key v (some (.map es))=if QY s key es && !qj2 v then some (.ok { v:=.tup [],rd:=[l],wr:=[(l,some (.map (YW es key v)))] }) else none:=rfl
def zf5 (h:Loc→Option Obj) (s:Bool) (x k v:Option V):Option R:=match x,k,v with
    | some (.map l),some (.d key),some v=>q53 s l key v (h l)
    | _,_,_=>none
@[simp] theorem zb9 (h s l key v):zf5 h s (some (.map l)) (some (.d key)) (some v)=q53 s l key v (h l):=rfl
section
variable (T:Tab) (cf:CF) (i:Nat) (ev:Opnd→Option V) (h:Loc→Option Obj)
@[simp] theorem exec_mv {x}:j7 T cf i (.mv x) ev h=okV (ev x):=rfl
@[simp] theorem zj6 {n}:j7 T cf i (.own n) ev h=some (.ok { v:=.ref (.n i 0) n 0 0,wr:=[(.n i 0,some (.arr [] n))] }):=rfl
@[simp] theorem zek {c a b}:j7 T cf i (.pick c a b) ev h=qxn (ev c) (ev a) (ev b):=rfl
@[simp] theorem zag {z}:j7 T cf i (.alloc z []) ev h=some (.ok { v:=.ptr (.n i 0) 0 0,wr:=[(.n i 0,some (.arr [.d z] ⟨z.cells.length,0⟩))] }):=rfl
@[simp] theorem q5c {z o own}:j7 T cf i (.alloc z (o :: own)) ev h=some (.ok { v:=.ptr (.n i 0) 0 0,wr:=(QV i 1 (o :: own) (.d z)).2++[(.n i 0,some (.arr [(QV i 1 (o :: own) (.d z)).1] ⟨z.cells.length,0⟩))] }):=rfl
@[simp] theorem zkd {n x}:j7 T cf i (.box n x) ev h=zlc i n (ev x):=rfl
@[simp] theorem zaf {z ps own}:j7 T cf i (.build z ps own) ev h=qzz (QV i 0 own (.d z)) (evp ev ps):=rfl
@[simp] theorem q2w {n z len ps}:j7 T cf i (.buildSl n z len ps) ev h=zk8 i n len (zgi n z len (evq ev ps)):=by
  show bnd (evq ev ps) _=_
  cases evq ev ps with
  | none=>rfl
  | some ps=>simp only[bnd,Option.bind,qts]; split <;> rfl
@[simp] theorem zeo {n ag x}:j7 T cf i (.load n ag x) ev h=qyp h n ag (ev x):=rfl
@[simp] theorem q95 {n x y}:j7 T cf i (.store n x y) ev h=qwh h n (ev x) (ev y):=rfl
@[simp] theorem q98 {x}:j7 T cf i (.nilCk x) ev h=q75 (ev x):=rfl
@[simp] theorem zke {op x y}:j7 T cf i (.bin op x y) ev h=zlf op (ev x) (ev y):=rfl
@[simp] theorem zka {eq ifc x}:j7 T cf i (.isN eq ifc x) ev h=zi9 eq ifc (ev x):=rfl
@[simp] theorem zkc {eq x y}:j7 T cf i (.eqB eq x y) ev h=zko eq (ev x) (ev y):=rfl
@[simp] theorem exec_un {op x}:j7 T cf i (.un op x) ev h=unX op (ev x):=rfl
@[simp] theorem zet {k x}:j7 T cf i (.conv k x) ev h=qso h k (ev x):=rfl
@[simp] theorem zj7 {t x}:j7 T cf i (.mkI t x) ev h=zih t (ev x):=rfl
@[simp] theorem zj8 {f cap}:j7 T cf i (.mkF f cap) ev h=zij f (evl ev cap):=rfl
@[simp] theorem zem {n z len cap}:j7 T cf i (.mkSl n z len cap) ev h=q8f i n z (qap (ev len)) (qap (ev cap)):=by
  show bnd (ev len) _=_
  cases ev len with
  | none=>rfl
  | some a=>cases ev cap with
    | none=>simp only[bnd,Option.bind,qap,q8f]; cases QC a <;> rfl
    | some b=>rfl
@[simp] theorem q49 {s x hi}:j7 T cf i (.slice s x none (some hi)) ev h=qi6 s (ev x) (some 0) (qap (ev hi)):=by
  show bnd (ev x) _=_
  cases ev x <;> rfl
@[simp] theorem q48 {s x lo}:j7 T cf i (.slice s x (some lo) none) ev h=qi6 s (ev x) (qap (ev lo)) (zi3 (ev x)):=by
  show bnd (ev x) _=_
  cases ev x <;> rfl
@[simp] theorem q47 {s x lo hi}:j7 T cf i (.slice s x (some lo) (some hi)) ev h=qi6 s (ev x) (qap (ev lo)) (qap (ev hi)):=by
  show bnd (ev x) _=_
  cases ev x <;> rfl
@[simp] theorem q5b {off n ag x}:j7 T cf i (.fieldA off n ag x) ev h=qqx off n ag (ev x):=rfl
@[simp] theorem zac {off n ag x}:j7 T cf i (.field off n ag x) ev h=q37 off n ag (ev x):=rfl
@[simp] theorem zes {n x k}:j7 T cf i (.idxA n x k) ev h=q2j n (ev x) (qap (ev k)):=by
  show bnd (ev x) _=_
  cases ev x with
  | none=>rfl
  | some v=>cases ev k with
    | none=>rfl
    | some a=>simp only[bnd,Option.bind,qap,q2j]; cases QC a <;> rfl
@[simp] theorem zeq {x k}:j7 T cf i (.idxS x k) ev h=qy7 (ev x) (qap (ev k)):=by
  show bnd (ev x) _=_
  cases ev x with
  | none=>rfl
  | some v=>cases ev k with
    | none=>simp only[bnd,Option.bind,qap,qy7]
    | some a=>rfl
@[simp] theorem q2v {x k}:j7 T cf i (.extract x k) ev h=zj4 k (ev x):=rfl
@[simp] theorem zej {t ok z x}:j7 T cf i (.tass t ok z x) ev h=q3n t ok z (ev x):=rfl
@[simp] theorem zeu {f args}:j7 T cf i (.call f args) ev h=q5j cf f i h (evs ev args):=rfl
@[simp] theorem zae {f args}:j7 T cf i (.callB f args) ev h=qzx cf f h (evs ev args):=rfl
@[simp] theorem zad {f args}:j7 T cf i (.callV f args) ev h=qzw cf i h (ev f) (evs ev args):=by
  show bnd (ev f) _=_
  cases ev f with
  | none=>rfl
  | some g=>cases evs ev args with
    | none=>rfl
    | some vs=>
      show bnd (qfz g) _=qk1 cf i h vs (qfz g)
      cases qfz g with
      | none=>rfl
      | some x=>exact XC ..
@[simp] theorem zkb {m x args}:j7 T cf i (.inv m x args) ev h=zjc T cf m i h (ev x) (evs ev args):=by
  show bnd (ev x) _=_
  cases ev x with
  | none=>rfl
  | some v=>cases evs ev args with
    | none=>rfl
    | some vs=>
      show bnd (W6 v) _=q19 T cf m i h vs (W6 v)
      cases W6 v with
      | none=>rfl
      | some x=>
        obtain ⟨t,y⟩:=x;show bnd (JF m t) _=zjb cf i h y vs (JF m t)
        cases JF m t with
        | none=>rfl
        | some z=>
          obtain ⟨f,p⟩:=z
          cases p with
          | none=>exact XC ..
          | some p=>
            obtain ⟨off,n,ag⟩:=p;show bnd (qg3 y off n ag) _=q83 cf f i h vs (qg3 y off n ag)
            cases qg3 y off n ag with
            | none=>rfl
            | some r=>exact XC ..
@[simp] theorem zj9 {s x}:j7 T cf i (.len s x) ev h=zi1 s (ev x):=by
  show bnd (ev x) _=_
  cases ev x with
  | none=>rfl
  | some v=>
    show sel (wk v == s) (bnd (lenOf v) _) none=sel (wk v == s) (q18 (P6 v) (lenOf v)) none
    congr 1
    cases lenOf v with
    | none=>rfl
    | some n=>
      show sel _ _ _=if _=true then _ else _
      cases P6 v <;> simp[sel]
@[simp] theorem zev {n y}:j7 T cf i (.app n none y) ev h=q5s h i n (ev y):=by
  show bnd (ev y) _=_
  cases ev y with
  | none=>rfl
  | some b=>exact qs1 h i n none b
@[simp] theorem zkf {n x y}:j7 T cf i (.app n (some x) y) ev h=zlo h i n (ev x) (ev y):=by
  show bnd (ev x) _=_
  cases ev x with
  | none=>rfl
  | some a=>cases ev y with
    | none=>rfl
    | some b=>exact qs1 h i n (unN a) b
@[simp] theorem exec_mx {x y}:j7 T cf i (.mx x y) ev h=mxX (ev x) (ev y):=rfl
@[simp] theorem exec_mn {x y}:j7 T cf i (.mn x y) ev h=mnX (ev x) (ev y):=rfl
@[simp] theorem zab {x}:j7 T cf i (.lload x) ev h=qyu h i (ev x):=rfl
@[simp] theorem q5a {x y}:j7 T cf i (.lstore x y) ev h=qjw h (ev x) (ev y):=rfl
@[simp] theorem zep {n x y}:j7 T cf i (.lapp n x y) ev h=q4q h i n (ev x) (ev y):=rfl
@[simp] theorem zaa {x}:j7 T cf i (.loadH x) ev h=qyr h (ev x):=rfl
@[simp] theorem zer {n x k}:j7 T cf i (.idxF n x k) ev h=q4t n (ev x) (qap (ev k)):=by
  show bnd (ev x) _=_
  cases ev x with
  | none=>rfl
  | some v=>cases ev k with
    | none=>rfl
    | some a=>rfl
@[simp] theorem q97 {x}:j7 T cf i (.panic x) ev h=zhe (ev x):=rfl
@[simp] theorem q96 {x}:j7 T cf i (.range x) ev h=qxh i (ev x):=rfl
@[simp] theorem zel {x}:j7 T cf i (.next x) ev h=q4d h (ev x):=rfl
@[simp] theorem q99:j7 T cf i .mkMap ev h=some (.ok { v:=.map (.n i 0),wr:=[(.n i 0,some (.map []))] }):=rfl
@[simp] theorem zen {s z x k}:j7 T cf i (.look s z x k) ev h=q4i h s z (ev x) (ev k):=rfl
@[simp] theorem zj5 {s x k v}:j7 T cf i (.upd s x k v) ev h=zf5 h s (ev x) (ev k) (ev v):=rfl
end
inductive SS where
 | go (s:RS) (rs:List Rec)
 | pan (i:Nat) (v:V) (s:RS) (rs:List Rec)
 | out (rs:List Rec)
 | bad
def SS.of (i:Nat) (rs:List Rec):Option SR→SS
 | none=>.bad
 | some (.go s r)=>.go s (r :: rs)
 | some (.pan v s r)=>.pan i v s (r :: rs)
 | some .out=>.out rs
@[simp] theorem of_go (i rs s r):SS.of i rs (some (.go s r)) = .go s (r :: rs):=rfl
@[simp] theorem of_pan (i rs v s r):SS.of i rs (some (.pan v s r)) = .pan i v s (r :: rs):=rfl
def qi9 (T:Tab) (cf:CF) (os:List AIns):SS→Option (RR × List Rec)
 | .go s rs=>XX T cf os s rs
 | .pan i v s rs=>some (.pan i v s,rs)
 | .out rs=>some (.out,rs)
 | .bad=>none
@[simp] theorem zgv (T cf s rs):qi9 T cf [] (.go s rs)=some (.nrm s,rs):=rfl
@[simp] theorem zgu (T cf os i v s rs):qi9 T cf os (.pan i v s rs)=some (.pan i v s,rs):=rfl
def qlx (o:AIns) (s:RS) (x:Option R):Option SR:=bnd x fun r=>some (qlw o s r)
@[simp] theorem zgd (i dst op g s v rd wr):qlx ⟨i,dst,op,g⟩ s (some (.ok ⟨v,rd,wr⟩))=some (.go { env:=Y4 s.env dst v,h:=j4 s.h wr } { i,rd,wr:=wr.map (·.1) }):=rfl
@[simp] theorem zcg (i dst op g s v rd wr):qlx ⟨i,dst,op,g⟩ s (some (.pan ⟨v,rd,wr⟩))=some (.pan v { env:=s.env,h:=j4 s.h wr } { i,rd,wr:=wr.map (·.1) }):=rfl
def qwq (T:Tab) (cf:CF) (o:AIns) (s:RS) (b:Option Bool):Option SR:=bnd b fun b=>sel b (qlx o s (j7 T cf o.i o.op (evO s.env) s.h)) (some (.go { env:=Y4 s.env o.dst (.tup []),h:=s.h } { i:=o.i,rd:=[],wr:=[] }))
@[simp] theorem q6i (T cf i dst op g s):qwq T cf ⟨i,dst,op,g⟩ s (some true)=qlx ⟨i,dst,op,g⟩ s (j7 T cf i op (evO s.env) s.h):=rfl
@[simp] theorem q3q (T cf i dst op g s):qwq T cf ⟨i,dst,op,g⟩ s (some false)=some (.go { env:=Y4 s.env dst (.tup []),h:=s.h } { i,rd:=[],wr:=[] }):=rfl
@[simp] theorem zcj (T cf i dst op g os s rs):qi9 T cf (⟨i,dst,op,some g⟩ :: os) (.go s rs)=qi9 T cf os (.of i rs (qwq T cf ⟨i,dst,op,some g⟩ s (wanted s.env (some g)))):=by
  show XX T cf (_ :: os) s rs=_;rw[XX];show bnd (step T cf _ s) _=qi9 T cf os (.of i rs (step T cf ⟨i,dst,op,some g⟩ s))
  cases step T cf ⟨i,dst,op,some g⟩ s with
  | none=>rfl
  | some x=>cases x <;> rfl
@[simp] theorem q63 (T cf i dst op os s rs):qi9 T cf (⟨i,dst,op,none⟩ :: os) (.go s rs)=qi9 T cf os (.of i rs (qlx ⟨i,dst,op,none⟩ s (j7 T cf i op (evO s.env) s.h))):=by
  show XX T cf (_ :: os) s rs=_;rw[XX];show bnd (step T cf _ s) _=qi9 T cf os (.of i rs (step T cf ⟨i,dst,op,none⟩ s))
  cases step T cf ⟨i,dst,op,none⟩ s with
  | none=>rfl
  | some x=>cases x <;> rfl
def qmu (o:Option St):Option (Ex × St):=bnd o fun st=>some (.nrm,st)
@[simp] theorem zc1 (st):qmu (some st)=some (.nrm,st):=rfl
def q69 (pin:Nat) (keep:List Nat) (o:Option (RR × List Rec)):Option (Ex × St):=bnd o fun x=>qw9 pin keep x.1
@[simp] theorem zg6 (pin keep s rs):q69 pin keep (some (.nrm s,rs))=qmu (kG pin keep s.env s.h):=rfl
@[simp] theorem zg5 (pin keep i v s rs):q69 pin keep (some (.pan i v s,rs))=qn5 pin v s.h:=rfl
def q32 (ps:List (Nat × Nat)) (pin:Nat) (keep:List Nat) (o:Option (RR × List Rec)):Option (Ex × St):=bnd o fun x=>sel (ve ps x.2) (YV pin keep x.1) none
@[simp] theorem q7a (ps pin keep x rs):q32 ps pin keep (some (x,rs))=if ve ps rs=true then YV pin keep x else none:=by
  show sel _ _ _=_
  cases ve ps rs <;> rfl
@[simp] theorem q31 (pin keep s):YV pin keep (.nrm s)=qmu (kG pin keep s.env s.h):=rfl
@[simp] theorem q30 (pin keep i v s):YV pin keep (.pan i v s)=qn5 pin v (only (Loc.oldOr i) s.h):=rfl
@[simp] theorem only_ap (p h l):only p h l=if p l=true then h l else none:=by
  show sel _ _ _=_
  cases p l <;> rfl
noncomputable def onD (T:Tab) (cf:CF) (ps:List (Nat × Nat)) (es:List Nat) (os:List AIns) (i:Nat) (A:List Loc) (rs:List Rec) (x:Option SR):Option (RR × List Rec):=bnd x fun x=>
 qt8 x (fun s' r=>Zr T cf ps es os s' (r :: rs)) (fun v s' r=>sel (es.contains i && qbh ps rs i) (some (.pan i v s',r :: rs)) none) (sel (es.contains i) (some (.out,{ i:=i,rd:=A,wr:=[] } :: rs)) none)
@[simp] theorem onD_go (T cf ps es os i A rs s r):onD T cf ps es os i A rs (some (.go s r))=Zr T cf ps es os s (r :: rs):=rfl
@[simp] theorem onD_pan (T cf ps es os i A rs v s r):onD T cf ps es os i A rs (some (.pan v s r))=if (es.contains i && qbh ps rs i)=true then some (.pan i v s,r :: rs) else none:=by
  show sel _ _ _=_
  cases (es.contains i && qbh ps rs i) <;> rfl
@[simp] theorem zgw (T cf ps es s rs):Zr T cf ps es [] s rs=some (.nrm s,rs):=rfl
noncomputable def qi4 (o:AIns) (A:List Loc) (s:RS) (x:Option R):Option SR:=bnd x (qcx o A s)
noncomputable def chQ (k:Nat) (A:List Loc) (h:Loc→Option Obj) (wr:List (Loc × Option Obj)):List Loc:=sel (k == 3) (chg A h wr) (chN wr)
@[simp] theorem chQ_0 (A h wr):chQ 0 A h wr=chN wr:=rfl
@[simp] theorem chQ_1 (A h wr):chQ 1 A h wr=chN wr:=rfl
@[simp] theorem chQ_2 (A h wr):chQ 2 A h wr=chN wr:=rfl
open Classical in
@[simp] theorem chQ_all (A h wr f):(chQ 3 A h wr).all f=((wr.all fun e=>(A.contains e.1 && decide (j4 h wr e.1=h e.1)) || f e.1) && wr.all fun e=>if f (Xr e.1)=true then true else A.contains e.1 && decide (Yc (j4 h wr e.1)=Yc (h e.1))):=by
  show (List.filter _ _++(List.filter _ _).map Xr).all f=_;rw[List.all_append,List.all_filter,List.all_map,List.all_map,List.all_filter,List.all_map]
  congr 1
  ·congr 1
   funext e
   simp only[Function.comp,Bool.not_or,Bool.not_not,ne_eq,decide_not]
  ·congr 1
   funext e
   simp only[Function.comp,Bool.not_or,Bool.not_not,ne_eq,decide_not]
   cases f (Xr e.1) <;> simp
attribute [simp] chN Xr hdI
@[simp] theorem zd0 (v sz):Yc (some (.arr [v] sz))=v.cells[0]?:=rfl
@[simp] theorem zcf (i dst op g A s v rd wr):qi4 ⟨i,dst,op,g⟩ A s (some (.ok ⟨v,rd,wr⟩))=if XQ (F0 op) A i wr=true then some (.go { env:=Y4 s.env dst v,h:=j4 s.h wr } { i:=i,rd:=A,wr:=wr.map (·.1),ch:=chQ (F0 op) A s.h wr }) else none:=by
  show sel _ _ _=_
  cases XQ (F0 op) A i wr <;> rfl
@[simp] theorem q6h (i dst op g A s v rd wr):qi4 ⟨i,dst,op,g⟩ A s (some (.pan ⟨v,rd,wr⟩))=if (decide (2≤F0 op) && XQ (F0 op) A i wr)=true then some (.pan v { env:=s.env,h:=j4 s.h wr } { i:=i,rd:=A,wr:=wr.map (·.1) }) else none:=by
  show sel _ _ _=_
  cases (decide (2≤F0 op) && XQ (F0 op) A i wr) <;> rfl
noncomputable def qpf (T:Tab) (cf:CF) (o:AIns) (s:RS) (A:List Loc):Option SR:=qi4 o A s (kB T cf o.i o.op A (evO s.env) s.h)
noncomputable def qry (T:Tab) (cf:CF) (ps:List (Nat × Nat)) (es:List Nat) (os:List AIns) (o:AIns) (s:RS) (rs:List Rec) (A:List Loc):Option (RR × List Rec):=onD T cf ps es os o.i A rs (qpf T cf o s A)
@[simp] theorem zch (T cf i dst op g s A):qpf T cf ⟨i,dst,op,g⟩ s A=qi4 ⟨i,dst,op,g⟩ A s (kB T cf i op A (evO s.env) s.h):=rfl
@[simp] theorem zgx (T cf ps es os i dst op g s rs A):qry T cf ps es os ⟨i,dst,op,g⟩ s rs A=onD T cf ps es os i A rs (qpf T cf ⟨i,dst,op,g⟩ s A):=rfl
@[simp] theorem q64 (T cf ps es i dst op os s rs):Zr T cf ps es (⟨i,dst,op,none⟩ :: os) s rs=qry T cf ps es os ⟨i,dst,op,none⟩ s rs (v6 op (evO s.env) s.h):=rfl
noncomputable def qw4 (T:Tab) (cf:CF) (ps:List (Nat × Nat)) (es:List Nat) (os:List AIns) (o:AIns) (s:RS) (rs:List Rec) (b:Option Bool):Option (RR × List Rec):=
 bnd b fun b=>sel b (qry T cf ps es os o s rs (v6 o.op (evO s.env) s.h)) (Zr T cf ps es os { env:=Y4 s.env o.dst (.tup []),h:=s.h } ({ i:=o.i,rd:=[],wr:=[] } :: rs))
@[simp] theorem q65 (T cf ps es os i dst op g s rs):qw4 T cf ps es os ⟨i,dst,op,g⟩ s rs (some true)=qry T cf ps es os ⟨i,dst,op,g⟩ s rs (v6 op (evO s.env) s.h):=rfl
@[simp] theorem q3v (T cf ps es os i dst op g s rs):qw4 T cf ps es os ⟨i,dst,op,g⟩ s rs (some false)=Zr T cf ps es os { env:=Y4 s.env dst (.tup []),h:=s.h } ({ i:=i,rd:=[],wr:=[] } :: rs):=rfl
@[simp] theorem zck (T cf ps es i dst op g os s rs):Zr T cf ps es (⟨i,dst,op,some g⟩ :: os) s rs=qw4 T cf ps es os ⟨i,dst,op,some g⟩ s rs (wanted s.env (some g)):=by
  show bnd (Zq T cf _ _ s) _=_;unfold Zq
  cases h:wanted s.env (some g) with
  | none=>rfl
  | some b=>cases b <;> rfl
@[simp] theorem zkg (T cf i op A ev h):kB T cf i op A ev h=if (F0 op == 3)=true then j7 T cf i op ev (only A.contains h) else j7 T cf i op ev h:=by
  show sel (N0 op) _ _=_;unfold N0
  cases (F0 op == 3) <;> rfl
attribute [simp] F0 v6 M4 XQ okW qoy Loc.isOf Loc.oldOr
@[simp] theorem zcr (i):Zu [] i=none:=rfl
@[simp] theorem q7b (j rd wr ch rs i):Zu ({ i:=j,rd:=rd,wr:=wr,ch:=ch } :: rs) i=if (j == i)=true then some { i:=j,rd:=rd,wr:=wr,ch:=ch } else Zu rs i:=by
  unfold Zu;rw[List.find?_cons]
  split <;> simp_all
def qro (a b:Option Rec):Bool:=match a,b with
 | some a,some b=>qoy a b
 | _,_=>true
@[simp] theorem zfn (a b):qro (some a) (some b)=qoy a b:=rfl
@[simp] theorem zfo (b):qro b none=true:=by cases b <;> rfl
@[simp] theorem q39 (rs):ve [] rs=true:=rfl
@[simp] theorem q1q (i j ps rs):ve ((i,j) :: ps) rs=(qro (Zu rs i) (Zu rs j) && ve ps rs):=rfl
@[simp] theorem zcw (rs i):qbh [] rs i=true:=rfl
def q38 (i a:Nat) (o:Option Rec):Bool:=onO o true fun r=>r.wr.all (·.isOf a)
@[simp] theorem q7l (i a r):q38 i a (some r)=r.wr.all (·.isOf a):=rfl
@[simp] theorem q7m (a b ps rs i):qbh ((a,b) :: ps) rs i=(sel (b == i) (q38 i a (Zu rs a)) true && qbh ps rs i):=rfl
def qxe (o:Option (List V × List Obj × List Loc)):List Loc:=onO o [] fun x=>x.2.2
@[simp] theorem q33 (a b c):qxe (some (a,b,c))=c:=rfl
@[simp] theorem zg8 (h vs):qr2 h vs=qxe (JC [] vs h):=rfl
def zkp (ts:List Nat) (o:Option (List V × List Obj × List Loc)):Option St:=bnd o fun x=>some { env:=ts.zip x.1,heap:=x.2.1 }
@[simp] theorem ze0 (ts vs os m):zkp ts (some (vs,os,m))=some { env:=ts.zip vs,heap:=os }:=rfl
@[simp] theorem endR_eq (pin keep env h):kG pin keep env h=zkp (xy env keep).1 (JC (Yr pin) (xy env keep).2 h):=rfl
def qx1 (vs:List V) (o:Option (List Obj × List Loc)):Option (List V × List Obj × List Loc):=bnd o fun r=>some (vs,r.1,r.2)
@[simp] theorem q73 (vs os m):qx1 vs (some (os,m))=some (vs,os,m):=rfl
def q4c (h:Loc→Option Obj) (x:List V × List Loc):Option (List V × List Obj × List Loc):=qx1 x.1 (E8 h 64 0 x.2)
@[simp] theorem zh7 (h vs m):q4c h (vs,m)=qx1 vs (E8 h 64 0 m):=rfl
@[simp] theorem norm_eq (pin vs h):JC pin vs h=q4c h (ze (fun l=>(h l).isSome) vs pin):=rfl
def qod (o:Obj) (x:Option (List Obj × List Loc)):Option (List Obj × List Loc):=bnd x fun r=>some (o :: r.1,r.2)
@[simp] theorem zay (o os m):qod o (some (os,m))=some (o :: os,m):=rfl
def qv4 (h:Loc→Option Obj) (f j:Nat) (x:Obj × List Loc):Option (List Obj × List Loc):=qod x.1 (E8 h f (j + 1) x.2)
@[simp] theorem zf4 (h f j o m):qv4 h f j (o,m)=qod o (E8 h f (j + 1) m):=rfl
def qln (h:Loc→Option Obj) (f j:Nat) (m:List Loc) (o:Option Obj):Option (List Obj × List Loc):=match o with
 | none=>qod .dead (E8 h f (j + 1) m)
 | some o=>qv4 h f j (o.ren (fun l=>(h l).isSome) m)
@[simp] theorem q5z (h f j m):qln h f j m none=qod .dead (E8 h f (j + 1) m):=rfl
@[simp] theorem q5y (h f j m o):qln h f j m (some o)=qv4 h f j (o.ren (fun l=>(h l).isSome) m):=rfl
def qv5 (h:Loc→Option Obj) (f j:Nat) (m:List Loc) (o:Option Loc):Option (List Obj × List Loc):=match o with
 | none=>some ([],m)
 | some l=>qln h f j m (h l)
@[simp] theorem q51 (h f j m):qv5 h f j m none=some ([],m):=rfl
@[simp] theorem q50 (h f j m l):qv5 h f j m (some l)=qln h f j m (h l):=rfl
@[simp] theorem q3m (h f j m):E8 h (f + 1) j m=qv5 h f j m m[j]?:=by
  rw[E8]
  cases m[j]? with
  | none=>rfl
  | some l=>show onO (h l) _ _=qln h f j m (h l); cases h l <;> rfl
def qmw (l:Loc) (m:List Loc) (o:Option Nat):Option Nat × List Loc:=match o with
 | none=>(some m.length,m++[l])
 | some k=>(some k,m)
@[simp] theorem q8a (l m):qmw l m none=(some m.length,m++[l]):=rfl
@[simp] theorem q79 (l m k):qmw l m (some k)=(some k,m):=rfl
def q4e (l:Loc) (m:List Loc) (b:Bool):Option Nat × List Loc:=match b with
 | true=>qmw l m (idx m l)
 | false=>(none,m)
@[simp] theorem q8b (l m):q4e l m true=qmw l m (idx m l):=rfl
@[simp] theorem zc5 (al l m):V7 al l m=q4e l m (al l):=by
  unfold V7
  cases al l with
  | false=>rfl
  | true=>show onO (idx m l) _ _=qmw l m (idx m l); cases idx m l <;> rfl
@[simp] theorem q78 (k m) (f:Nat→V):named (some k,m) f=(f k,m):=rfl
def qcs {α β:Type} (f:α→β) (x:α × List Loc):β × List Loc:=(f x.1,x.2)
@[simp] theorem zf3 {α β:Type} (f:α→β) (a m):qcs f (a,m)=(f a,m):=rfl
section
variable (al:Loc→Bool) (m:List Loc)
@[simp] theorem ren_d (x):V.ren al (.d x) m=(.d x,m):=rfl
@[simp] theorem ren_ref (l sz o n):V.ren al (.ref l sz o n) m=named (V7 al l m) fun k=>.ref (.b k) sz o n:=rfl
@[simp] theorem ren_ptr (l e j):V.ren al (.ptr l e j) m=named (V7 al l m) fun k=>.ptr (.b k) e j:=rfl
@[simp] theorem zg2 (l):V.ren al (.map l) m=named (V7 al l m) fun k=>.map (.b k):=rfl
@[simp] theorem zco (l):V.ren al (.iter l) m=named (V7 al l m) fun k=>.iter (.b k):=rfl
@[simp] theorem ren_agg (cs):V.ren al (.agg cs) m=qcs .agg (ze al cs m):=rfl
@[simp] theorem zcp (t x):V.ren al (.iface t x) m=qcs (.iface t) (V.ren al x m):=rfl
@[simp] theorem ren_fn (f cs):V.ren al (.fn f cs) m=qcs (.fn f) (ze al cs m):=rfl
@[simp] theorem ren_tup (cs):V.ren al (.tup cs) m=qcs .tup (ze al cs m):=rfl
def qw8 (v:V) (x:List V × List Loc):List V × List Loc:=(v :: x.1,x.2)
@[simp] theorem zg0 (v vs):qw8 v (vs,m)=(v :: vs,m):=rfl
def q3z (vs:List V) (x:V × List Loc):List V × List Loc:=qw8 x.1 (ze al vs x.2)
@[simp] theorem zg1 (vs v):q3z al vs (v,m)=qw8 v (ze al vs m):=rfl
@[simp] theorem zgy:ze al [] m=([],m):=rfl
@[simp] theorem zcn (v vs):ze al (v :: vs) m=q3z al vs (V.ren al v m):=rfl
@[simp] theorem zcq:wV al [] m=([],m):=rfl
@[simp] theorem ren_arr (xs sz):Obj.ren al (.arr xs sz) m=qcs (fun xs=>.arr xs sz) (ze al xs m):=rfl
@[simp] theorem zg3 (s p):Obj.ren al (.iter s p) m=(.iter s p,m):=rfl
@[simp] theorem ren_map (es):Obj.ren al (.map es) m=qcs .map (wV al es m):=rfl
@[simp] theorem vJ (ds:List D):ze al (ds.map .d) m=(ds.map .d,m):=by induction ds <;> simp_all
end
noncomputable def i9 (T:Tab) (X:Exts) (pin:Nat) (a:ACode):Option (Ex × St)→Option (Ex × St)
 | some (.nrm,st)=>A4 T X pin a st
 | r=>r
def q46 (id:Nat) (o:Option St):Option (Ex × St):=bnd o fun st=>some (.exit id,st)
@[simp] theorem q94 (id st):q46 id (some st)=some (.exit id,st):=rfl
noncomputable def qxo (T:Tab) (X:Exts) (pin:Nat) (a b:ACode) (st:St) (o:Option V):Option (Ex × St):=qzr o (A4 T X pin a st) (A4 T X pin b st)
section
variable {T:Tab} {X:Exts} {pin:Nat}
@[simp] theorem q7i (a b st):qxo T X pin a b st (some (.d (.bool true)))=i9 T X pin a (some (.nrm,st)):=rfl
@[simp] theorem q36 (a b st):qxo T X pin a b st (some (.d (.bool false)))=i9 T X pin b (some (.nrm,st)):=rfl
@[simp] theorem q5h (a i st):i9 T X pin a (some (.exit i,st))=some (.exit i,st):=rfl
@[simp] theorem za0 (a st):i9 T X pin a (some (.ret,st))=some (.ret,st):=rfl
@[simp] theorem za1 (a v st):i9 T X pin a (some (.pan v,st))=some (.pan v,st):=rfl
variable [X.Mono]
@[simp] theorem zaz (x):i9 T X pin .skip x=x:=by
  cases x with
  | none=>rfl
  | some x=>obtain ⟨e,st⟩:=x; cases e <;> first | rfl | exact qre
@[simp] theorem ze5 (a b x):i9 T X pin (.seq a b) x=i9 T X pin b (i9 T X pin a x):=by
  cases x with
  | none=>rfl
  | some x=>obtain ⟨e,st⟩:=x; cases e <;> first | rfl | exact qu7
@[simp] theorem q5g (a x):i9 T X pin (.scope a) x=i9 T X pin a x:=by
  cases x with
  | none=>rfl
  | some x=>obtain ⟨e,st⟩:=x; cases e <;> first | rfl | exact qof
@[simp] theorem q24 (ops keep st):i9 T X pin (.region ops none keep) (some (.nrm,st))=q69 pin keep (qi9 T (d5 T X) ops (.go { env:=st.env,h:=n7 st.heap } [])):=WM
@[simp] theorem q0o (ops ps es keep st):i9 T X pin (.region ops (some (ps,es)) keep) (some (.nrm,st))=q32 ps pin keep (Zr T (d5 T X) ps es ops { env:=st.env,h:=n7 st.heap } []):=WM
@[simp] theorem za3 (c a b st):i9 T X pin (.cond c a b) (some (.nrm,st))=qxo T X pin a b st (evO st.env c):=qrh
@[simp] theorem q5i (id a st):i9 T X pin (.block id a) (some (.nrm,st))=qa4 id (i9 T X pin a (some (.nrm,st))):=qog
@[simp] theorem za2 (id keep st):i9 T X pin (.exit id keep) (some (.nrm,st))=q46 id (kG pin keep st.env (n7 st.heap)):=qrg
@[simp] theorem ze6 (st):i9 T X pin .ret (some (.nrm,st))=some (.ret,st):=qu8
theorem c9 {keep a l} (hl:l = .loop keep a) (st):i9 T X pin l (some (.nrm,st))=i9 T X pin l (i9 T X pin a (qmu (kG pin keep st.env (n7 st.heap)))):=by
 subst hl;show A4 T X pin _ st=_;rw[qrf]
 cases kG pin keep st.env (n7 st.heap) with
 | none=>rfl
 | some st1=>
   show q6s (A4 T X pin a st1) _=i9 T X pin _ (A4 T X pin a st1)
   cases A4 T X pin a st1 with
   | none=>rfl
   | some x=>obtain ⟨e,st⟩:=x; cases e <;> rfl
def q2y (pin:Nat) (res:List (ARes × Bool)) (o:Option (Ex × St)):Option CRes:=zkq o (zj pin res)
@[simp] theorem zkt (res st):q2y pin res (some (.nrm,st))=zj pin res st:=rfl
@[simp] theorem zkr (res st):q2y pin res (some (.ret,st))=zj pin res st:=rfl
@[simp] theorem zks (res v st):q2y pin res (some (.pan v,st))=some (.pan v st.heap):=rfl
theorem c8 {f af vs heap} (hx:X.run f=none) (hf:T.funs f=some af) (hl:vs.length=af.np) :
 d5 T X f vs heap=q2y heap.length af.res (i9 T X heap.length af.code (some (.nrm,{ env:=(List.range af.np).zip vs,heap }))):=qva hx hf hl
end
def q90 (o:Option (List V × List Obj × List Loc)):Option CRes:=bnd o fun b=>some (.ret b.1 b.2.1)
@[simp] theorem zef (vs os m):q90 (some (vs,os,m))=some (.ret vs os):=rfl
def q91 (pin:Nat) (h:Loc→Option Obj) (o:Option (List V × List Loc)):Option CRes:=bnd o fun a=>
 if a.2.all (fun l=>match l with | .b k=>decide (pin≤k) | .n _ _=>false) then q90 (JC (Yr pin) a.1 (S4 h a.2)) else none
def zhl (pin:Nat):Loc→Bool
 | .b k=>decide (pin≤k)
 | .n _ _=>false
@[simp] theorem oldL_b (pin k):zhl pin (.b k)=decide (pin≤k):=rfl
@[simp] theorem zeg (pin h vs fm):q91 pin h (some (vs,fm))=if fm.all (zhl pin) then q90 (JC (Yr pin) vs (S4 h fm)) else none:=rfl
def zj3 (pin:Nat) (h:Loc→Option Obj) (o:Option (List (V × Bool))):Option CRes:=bnd o fun vs=>q91 pin h (G9 h vs)
@[simp] theorem zeh (pin h vs):zj3 pin h (some vs)=q91 pin h (G9 h vs):=rfl
@[simp] theorem zee (pin res env heap):zj pin res { env,heap } = zj3 pin (n7 heap) (jx env (n7 heap) res):=rfl
def qb9 (w:Bool):Option V→Option Bool
 | some (.d (.bool b))=>some (b == w)
 | some (.tup [])=>some false
 | _=>none
@[simp] theorem q3k (env t w):wanted env (some (t,w))=qb9 w (B7 env t):=by
  unfold wanted qb9
  split <;> split <;> simp_all
@[simp] theorem q0q (w b):qb9 w (some (.d (.bool b)))=some (b == w):=rfl
@[simp] theorem q3l (w):qb9 w (some (.tup []))=some false:=rfl
@[simp] theorem evO_t (env n):evO env (.t n)=B7 env n:=rfl
@[simp] theorem evO_c (env x):evO env (.c x)=some (.d x):=rfl
@[simp] theorem zcs (env t v):Y4 env (some t) v=(t,v) :: env:=rfl
@[simp] theorem zct (env v):Y4 env none v=env:=rfl
@[simp] theorem q5m (fm m i rs heap):WO fm m i (.ret rs heap) = .ok { v:=(Zo rs).mapL (R1 m i),rd:=fm++m,wr:=fm.map (·,none)++P1 m i 0 heap }:=rfl
@[simp] theorem q5n (fm m i v heap):WO fm m i (.pan v heap) = .pan { v:=v.mapL (R1 m i),rd:=fm++m,wr:=fm.map (·,none)++P1 m i 0 heap }:=rfl
@[simp] theorem zca (v):Zo [v]=v:=rfl
@[simp] theorem zcb:Zo [] = .tup []:=rfl
@[simp] theorem q55 (v w l):Zo (v :: w :: l) = .tup (v :: w :: l):=rfl
@[simp] theorem zjw (cs):P6 (.d (.agg cs))=cs.all JS:=rfl
@[simp] theorem fitV_sl (xs):P6 (.d (.sl xs))=decide (xs.length * wl xs≤D2):=rfl
@[simp] theorem zjq (s):P6 (.d (.str s))=decide (s.length≤long):=rfl
@[simp] theorem zjt (k n):P6 (.d (.int k n))=true:=rfl
@[simp] theorem zea (b):P6 (.d (.bool b))=true:=rfl
@[simp] theorem q9z (t x):P6 (.d (.iface t x))=true:=rfl
@[simp] theorem zjv (x):P6 (.d (.box x))=true:=rfl
@[simp] theorem fitV_fn (f x):P6 (.d (.fn f x))=true:=rfl
@[simp] theorem zju (f x):P6 (.fn f x)=true:=rfl
@[simp] theorem zd9:P6 (.d .nilp)=true:=rfl
@[simp] theorem zjs (l e j):P6 (.ptr l e j)=true:=rfl
@[simp] theorem zjr (l sz o n):P6 (.ref l sz o n)=decide (n * sz.w≤D2):=rfl
@[simp] theorem fitC_sl (xs):JS (.sl xs)=decide (xs.length * wl xs≤D2):=rfl
@[simp] theorem zj0 (s):JS (.str s)=decide (s.length≤long):=rfl
@[simp] theorem zj1 (k n):JS (.int k n)=true:=rfl
@[simp] theorem zed (b):JS (.bool b)=true:=rfl
@[simp] theorem zec:JS .nili=true:=rfl
@[simp] theorem zc3 (k a):QC (.d (.int k a))=if 0≤a then some a.toNat else none:=rfl
@[simp] theorem q8s:lenOf (.d .nils)=some 0:=rfl
@[simp] theorem q8z:wk (.d .nils)=false:=rfl
@[simp] theorem zd8:P6 (.d .nils)=true:=rfl
@[simp] theorem zi2 (xs):lenOf (.d (.sl xs))=some xs.length:=rfl
@[simp] theorem zdn (s):lenOf (.d (.str s))=some s.length:=rfl
@[simp] theorem zdo (l sz o n):lenOf (.ref l sz o n)=some n:=rfl
@[simp] theorem zku (h xs):G5 h (.d (.sl xs))=some (xs.map .d,[]):=rfl
def qzl (o:Option Obj) (l:Loc) (off len:Nat):Option (List V × List Loc):=
 match o with
 | some (.arr xs _)=>if off + len≤xs.length then some ((xs.drop off).take len,[l]) else none
 | _=>none
@[simp] theorem zah (xs sz l off len):qzl (some (.arr xs sz)) l off len=if off + len≤xs.length then some ((xs.drop off).take len,[l]) else none:=rfl
@[simp] theorem ze1 (h l sz off len):G5 h (.ref l sz off len)=qzl (h l) l off len:=rfl
@[simp] theorem bin_add (k k' a b):bin .add (.d (.int k a)) (.d (.int k' b))=if k=k' then I7 .add k a b else none:=rfl
@[simp] theorem bin_sub (k k' a b):bin .sub (.d (.int k a)) (.d (.int k' b))=if k=k' then I7 .sub k a b else none:=rfl
@[simp] theorem bin_mul (k k' a b):bin .mul (.d (.int k a)) (.d (.int k' b))=if k=k' then I7 .mul k a b else none:=rfl
@[simp] theorem bin_quo (k k' a b):bin .quo (.d (.int k a)) (.d (.int k' b))=if k=k' then I7 .quo k a b else none:=rfl
@[simp] theorem bin_rem (k k' a b):bin .rem (.d (.int k a)) (.d (.int k' b))=if k=k' then I7 .rem k a b else none:=rfl
@[simp] theorem bin_and (k k' a b):bin .and (.d (.int k a)) (.d (.int k' b))=if k=k' then I7 .and k a b else none:=rfl
@[simp] theorem bin_or (k k' a b):bin .or (.d (.int k a)) (.d (.int k' b))=if k=k' then I7 .or k a b else none:=rfl
@[simp] theorem bin_eql (k k' a b):bin .eql (.d (.int k a)) (.d (.int k' b))=if k=k' then I7 .eql k a b else none:=rfl
@[simp] theorem bin_neq (k k' a b):bin .neq (.d (.int k a)) (.d (.int k' b))=if k=k' then I7 .neq k a b else none:=rfl
@[simp] theorem bin_lss (k k' a b):bin .lss (.d (.int k a)) (.d (.int k' b))=if k=k' then I7 .lss k a b else none:=rfl
@[simp] theorem bin_leq (k k' a b):bin .leq (.d (.int k a)) (.d (.int k' b))=if k=k' then I7 .leq k a b else none:=rfl
@[simp] theorem bin_gtr (k k' a b):bin .gtr (.d (.int k a)) (.d (.int k' b))=if k=k' then I7 .gtr k a b else none:=rfl
@[simp] theorem bin_geq (k k' a b):bin .geq (.d (.int k a)) (.d (.int k' b))=if k=k' then I7 .geq k a b else none:=rfl
@[simp] theorem bin_shl (k k' a b):bin .shl (.d (.int k a)) (.d (.int k' b))=if b < 0 then none else some (.int k (k.wrap (a * 2 ^ (min b.toNat k.bits)))):=rfl
@[simp] theorem bin_shr (k k' a b):bin .shr (.d (.int k a)) (.d (.int k' b))=if b < 0 then none else some (.int k (a.fdiv (2 ^ (min b.toNat k.bits)))):=rfl
@[simp] theorem bin_str (op a b):bin op (.d (.str a)) (.d (.str b))=WY op a b:=rfl
@[simp] theorem q6d (a b):WY .add a b=if a.length + b.length≤long then some (.str (a++b)) else none:=rfl
@[simp] theorem q6c (a b):WY .eql a b=some (.bool (a == b)):=rfl
@[simp] theorem q6b (a b):WY .neq a b=some (.bool (!(a == b))):=rfl
@[simp] theorem un_not (b):un .not (.d (.bool b))=some (.bool (!b)):=rfl
@[simp] theorem un_neg (k a):un .neg (.d (.int k a))=some (.int k (k.wrap (0 - a))):=rfl
section
variable (k:IntKind) (a b:Int)
@[simp] theorem q9e:I7 .add k a b=some (.int k (k.wrap (a + b))):=rfl
@[simp] theorem q84:I7 .sub k a b=some (.int k (k.wrap (a - b))):=rfl
@[simp] theorem q88:I7 .mul k a b=some (.int k (k.wrap (a * b))):=rfl
@[simp] theorem q86:I7 .quo k a b=if b=0 then none else some (.int k (k.wrap (a.tdiv b))):=rfl
@[simp] theorem q85:I7 .rem k a b=if b=0 then none else some (.int k (a.tmod b)):=rfl
def orK (k:IntKind) (a b:Int):Int:=k.wrap (BitVec.ofInt k.bits a ||| BitVec.ofInt k.bits b).toNat
@[simp] theorem zdx:I7 .or k a b=some (.int k (orK k a b)):=rfl
@[simp] theorem q9d:I7 .eql k a b=some (.bool (a == b)):=rfl
@[simp] theorem q87:I7 .neq k a b=some (.bool (a != b)):=rfl
@[simp] theorem q89:I7 .lss k a b=some (.bool (decide (a < b))):=rfl
@[simp] theorem q9a:I7 .leq k a b=some (.bool (decide (a≤b))):=rfl
@[simp] theorem q9b:I7 .gtr k a b=some (.bool (decide (b < a))):=rfl
@[simp] theorem q9c:I7 .geq k a b=some (.bool (decide (b≤a))):=rfl
end
@[simp] theorem zfc (cs):V.cells (.d (.agg cs))=cs.map .d:=rfl
@[simp] theorem za9 (cs):V.cells (.agg cs)=cs:=rfl
@[simp] theorem zfb (k n):V.cells (.d (.int k n))=[.d (.int k n)]:=rfl
@[simp] theorem za8 (b):V.cells (.d (.bool b))=[.d (.bool b)]:=rfl
@[simp] theorem ze7 (b):V.cells (.d (.str b))=[.d (.str b)]:=rfl
@[simp] theorem zk2 (b):V.cells (.d (.sl b))=[.d (.sl b)]:=rfl
@[simp] theorem za7:V.cells (.d .nili)=[.d .nili]:=rfl
@[simp] theorem ze8 (l sz o n):V.cells (.ref l sz o n)=[.ref l sz o n]:=rfl
@[simp] theorem ze9 (l e j):V.cells (.ptr l e j)=[.ptr l e j]:=rfl
@[simp] theorem zfa (l):V.cells (.map l)=[.map l]:=rfl
@[simp] theorem zaw (cs):D.cells (.agg cs)=cs:=rfl
@[simp] theorem zav (k n):D.cells (.int k n)=[.int k n]:=rfl
@[simp] theorem zau (b):D.cells (.str b)=[.str b]:=rfl
@[simp] theorem ze2 (b):D.cells (.sl b)=[.sl b]:=rfl
@[simp] theorem q5e:D.cells .nilp=[.nilp]:=rfl
@[simp] theorem q5f:D.cells .nili=[.nili]:=rfl
@[simp] theorem zdi (h n cs):qx h n true (.d (.box (.agg cs)))=if cs.length=n then val (.d (.agg cs)) else none:=rfl
@[simp] theorem zdh (h n k a):qx h n false (.d (.box (.int k a)))=val (.d (.int k a)):=rfl
@[simp] theorem q8n (h n b):qx h n false (.d (.box (.bool b)))=val (.d (.bool b)):=rfl
@[simp] theorem zdf (h n b):qx h n false (.d (.box (.str b)))=val (.d (.str b)):=rfl
@[simp] theorem zix (h n b):qx h n false (.d (.box (.sl b)))=val (.d (.sl b)):=rfl
def ldZ (l:Loc) (o:Option V):Option R:=o.map fun v=>.ok { v,rd:=[l] }
@[simp] theorem zi5 (l v):ldZ l (some v)=some (.ok { v,rd:=[l] }):=rfl
def ldY (l:Loc) (n:Nat) (ag:Bool) (j:Nat) (o:Option V):Option R:=match o with
 | none=>none
 | some v=>ldZ l (part v j n ag)
@[simp] theorem zi6 (l n ag j v):ldY l n ag j (some v)=ldZ l (part v j n ag):=rfl
def qyq (o:Option Obj) (l:Loc) (e j n:Nat) (ag:Bool):Option R:=
 match o with
 | some (.arr xs _)=>ldY l n ag j xs[e]?
 | _=>none
@[simp] theorem zdj (xs sz l e j n ag):qyq (some (.arr xs sz)) l e j n ag=ldY l n ag j xs[e]?:=rfl
@[simp] theorem zdg (h n ag l e j):qx h n ag (.ptr l e j)=qyq (h l) l e j n ag:=by
  simp only[qx,qyq]
  cases h l with
  | none=>rfl
  | some o=>cases o with
    | arr xs sz=>simp only; cases xs[e]? <;> rfl
    | _=>rfl
def stZ (l:Loc) (e:Nat) (sz:W) (xs:List V) (o:Option V):Option R:=o.map fun w=>.ok { v:=.tup [],rd:=[l],wr:=[(l,some (.arr (xs.set e w) sz))] }
@[simp] theorem zge (l e sz xs w):stZ l e sz xs (some w)=some (.ok { v:=.tup [],rd:=[l],wr:=[(l,some (.arr (xs.set e w) sz))] }):=rfl
def stY (l:Loc) (e n j:Nat) (sz:W) (xs:List V) (v:V) (o:Option V):Option R:=match o with
 | none=>none
 | some w=>if v.cells.length=n then stZ l e sz xs (S5 w j v) else none
@[simp] theorem zgf (l e n j sz xs v w):stY l e n j sz xs v (some w)=if v.cells.length=n then stZ l e sz xs (S5 w j v) else none:=rfl
def qpd (o:Option Obj) (l:Loc) (e j n:Nat) (v:V):Option R:=
 match o with
 | some (.arr xs sz)=>stY l e n j sz xs v xs[e]?
 | _=>none
@[simp] theorem q6f (xs sz l e j n v):qpd (some (.arr xs sz)) l e j n v=stY l e n j sz xs v xs[e]?:=rfl
@[simp] theorem q6e (h n l e j v):QU h n (.ptr l e j) v=qpd (h l) l e j n v:=by
  simp only[QU,qpd]
  cases h l with
  | none=>rfl
  | some o=>cases o with
    | arr xs sz=>simp only; cases xs[e]? <;> rfl
    | _=>rfl
@[simp] theorem q6n (s lo hi):Yi none (.d (.str s)) lo hi=if lo≤hi then (if hi≤s.length then some (.d (.str ((s.drop lo).take (hi - lo)))) else none) else none:=rfl
@[simp] theorem zci (n s lo hi):Yi (some n) (.d (.sl s)) lo hi=if lo≤hi then (if hi≤s.length∧s.all (fun y=>y.cells.length == n.c)=true then some (.d (.sl ((s.drop lo).take (hi - lo)))) else none) else none:=rfl
@[simp] theorem q6o (n l sz off len lo hi):Yi (some n) (.ref l sz off len) lo hi=if lo≤hi then (if hi≤len∧sz=n then (if lo=hi then some (.d (.sl [])) else some (.ref l sz (off + lo) (hi - lo))) else none) else none:=rfl
@[simp] theorem zhd (v off n):part v off n true=if off + n≤v.cells.length then some (vM ((v.cells.drop off).take n)) else none:=rfl
@[simp] theorem zhc (v off n):part v off n false=v.cells[off]?:=rfl
@[simp] theorem isAgg_d (cs):isAgg (.d (.agg cs))=true:=rfl
@[simp] theorem q0a (ds:List D):xj (ds.map .d)=some ds:=by induction ds <;> simp_all [xj]
def qrq (l:List V) (o:Option (List D)):V:=match o with
 | some ds=>.d (.agg ds)
 | none=>.agg l
@[simp] theorem zft (l ds):qrq l (some ds) = .d (.agg ds):=rfl
@[simp] theorem zfu (l):qrq l none = .agg l:=rfl
@[simp] theorem zik (l):vM l=qrq l (xj l):=rfl
@[simp] theorem zls:xj []=some []:=rfl
def zbs (x:D) (o:Option (List D)):Option (List D):=o.map (x :: ·)
@[simp] theorem zfr (x ds):zbs x (some ds)=some (x :: ds):=rfl
@[simp] theorem zfs (x):zbs x none=none:=rfl
@[simp] theorem zfq (x l):xj (.d x :: l)=zbs x (xj l):=rfl
@[simp] theorem zfp (v l):xj (.map v :: l)=none:=rfl
@[simp] theorem zlq (a sz o n l):xj (.ref a sz o n :: l)=none:=rfl
@[simp] theorem zlr (a e j l):xj (.ptr a e j :: l)=none:=rfl
@[simp] theorem zdy (t x):W6 (.d (.iface t x))=some (t,.d x):=rfl
@[simp] theorem fnOf_d (f cap):qfz (.d (.fn f cap))=some (f,cap.map .d):=rfl
@[simp] theorem fnOf_v (f cap):qfz (.fn f cap)=some (f,cap):=rfl
@[simp] theorem zc7 (t x):Kv t (.d x) = .d (.iface t x):=rfl
@[simp] theorem zjl (f):kv f []=some ([],[]):=rfl
@[simp] theorem frz_d (h k x):frz h k (.d x)=some (x,[]):=by cases k <;> rfl
@[simp] theorem qnn (h k) (ds:List D):kv (frz h k) (ds.map .d)=some (ds,[]):=by induction ds <;> simp_all [kv]
def q9p (l:Loc) (sz:W) (o:Option (List D × List Loc)):Option (D × List Loc):=o.bind fun (ds,m)=>if wl ds≤sz.w then some (.sl ds,l :: m) else none
@[simp] theorem zd2 (l sz ds m):q9p l sz (some (ds,m))=if wl ds≤sz.w then some (.sl ds,l :: m) else none:=rfl
def q9u (l:Loc) (o:Option (D × List Loc)):Option (D × List Loc):=o.map fun (x,m)=>(.box x,l :: m)
@[simp] theorem zd7 (l x m):q9u l (some (x,m))=some (.box x,l :: m):=rfl
def q9q (h:Loc→Option Obj) (k:Nat) (l:Loc) (o:Option V):Option (D × List Loc):=match o with
 | none=>none
 | some v=>q9u l (frz h k v)
@[simp] theorem zd3 (h k l v):q9q h k l (some v)=q9u l (frz h k v):=rfl
def q40 (x:Option (D × List Loc)) (y:Option (List D × List Loc)):Option (List D × List Loc):=match x,y with
    | some (x,m),some (xs,m')=>some (x :: xs,m++m')
    | _,_=>none
@[simp] theorem q9t (x m xs m'):q40 (some (x,m)) (some (xs,m'))=some (x :: xs,m++m'):=rfl
@[simp] theorem zd4 (f v vs):kv f (v :: vs)=q40 (f v) (kv f vs):=rfl
def zjo (o:Option (List D × List Loc)):Option (D × List Loc):=o.map fun (ds,m)=>(.agg ds,m)
@[simp] theorem zd6 (ds m):zjo (some (ds,m))=some (.agg ds,m):=rfl
@[simp] theorem zjf (h k cs):frz h (k + 1) (.agg cs)=zjo (kv (frz h k) cs):=rfl
def zjn (t:TypeId) (o:Option (D × List Loc)):Option (D × List Loc):=o.map fun (x,m)=>(.iface t x,m)
@[simp] theorem zd5 (t x m):zjn t (some (x,m))=some (.iface t x,m):=rfl
@[simp] theorem zd1 (h k t v):frz h (k + 1) (.iface t v)=zjn t (frz h k v):=rfl
def qqu (l:Loc) (o:Option (List D)):Option (D × List Loc):=o.map fun ds=>(.sl ds,[l])
@[simp] theorem q4z (l ds):qqu l (some ds)=some (.sl ds,[l]):=rfl
def q9s (h:Loc→Option Obj) (k:Nat) (l:Loc) (s:W) (off len:Nat):Option Obj→Option (D × List Loc)
 | some (.arr xs _)=>if off + len≤xs.length then q9p l s (kv (frz h k) ((xs.drop off).take len)) else none
 | some (.lol ls)=>if off=0∧len=ls.length∧24≤s.w then qqu l (qjy ls) else none
 | _=>none
@[simp] theorem zjh (h k l s off len ls):q9s h k l s off len (some (.lol ls))=if off=0∧len=ls.length∧24≤s.w then qqu l (qjy ls) else none:=rfl
@[simp] theorem zji (h k l s off len xs sz):q9s h k l s off len (some (.arr xs sz))=if off + len≤xs.length then q9p l s (kv (frz h k) ((xs.drop off).take len)) else none:=rfl
@[simp] theorem frz_ref (h k l sz off len):frz h (k + 1) (.ref l sz off len)=q9s h k l sz off len (h l):=rfl
def q9r (h:Loc→Option Obj) (k:Nat) (l:Loc) (e j:Nat):Option Obj→Option (D × List Loc)
 | some (.arr xs _)=>if j=0 then q9q h k l xs[e]? else none
 | _=>none
@[simp] theorem zjg (h k l e j xs sz):q9r h k l e j (some (.arr xs sz))=if j=0 then q9q h k l xs[e]? else none:=rfl
@[simp] theorem frz_ptr (h k l e j):frz h (k + 1) (.ptr l e j)=q9r h k l e j (h l):=by
  simp only[frz,q9r]
  cases h l with
  | none=>rfl
  | some o=>cases o with
    | arr xs sz=>show (if j=0 then _ else none)=(if j=0 then _ else none); split <;> first | rfl | (cases xs[e]? <;> rfl)
    | _=>rfl
def zjk (l:Loc):Option Obj→Option (D × List Loc)
 | some (.map _)=>some (.nilm,[l])
 | _=>none
@[simp] theorem zjj (l es):zjk l (some (.map es))=some (.nilm,[l]):=rfl
@[simp] theorem frz_map (h k l):frz h (k + 1) (.map l)=zjk l (h l):=rfl
@[simp] theorem q8v (s es):QY true (.str s) es=es.all (fun e=>kz true e.1):=rfl
@[simp] theorem q8w (n es):QY false (.int .i64 n) es=es.all (fun e=>kz false e.1):=rfl
@[simp] theorem q82 (k n):qj2 (.d (.int k n))=false:=rfl
@[simp] theorem q41 (h):G9 h []=some ([],[]):=rfl
def q42 (x:Option (D × List Loc)) (y:Option (List V × List Loc)):Option (List V × List Loc):=match x,y with
    | some (x,m),some (vs,m')=>some (.d x :: vs,m++m')
    | _,_=>none
@[simp] theorem q9v (x m vs m'):q42 (some (x,m)) (some (vs,m'))=some (.d x :: vs,m++m'):=rfl
def q43 (v:V) (y:Option (List V × List Loc)):Option (List V × List Loc):=match y with
    | some (vs,m')=>some (v :: vs,m')
    | _=>none
@[simp] theorem q9w (v vs m'):q43 v (some (vs,m'))=some (v :: vs,m'):=rfl
@[simp] theorem q2q (h v l):G9 h ((v,true) :: l)=q42 (frz h 24 v) (G9 h l):=by
  simp only[G9,if_true]
  cases frz h 24 v with
  | none=>rfl
  | some x=>cases G9 h l <;> rfl
@[simp] theorem q0l (h v l):G9 h ((v,false) :: l)=q43 v (G9 h l):=by
  simp only[G9]
  cases G9 h l with
  | none=>rfl
  | some x=>rfl
@[simp] theorem q3j (h:Loc→Option Obj):S4 h []=h:=by funext l; simp[S4]
@[simp] theorem q70 (l):n7 [] l=none:=by cases l <;> rfl
def qqa:Option Obj→Option Obj
 | some .dead=>none
 | o=>o
@[simp] theorem zc0:qqa (some .dead)=none:=rfl
@[simp] theorem zh5 (xs sz):qqa (some (.arr xs sz))=some (.arr xs sz):=rfl
@[simp] theorem zcz (s p):qqa (some (.iter s p))=some (.iter s p):=rfl
@[simp] theorem zh3 (es):qqa (some (.map es))=some (.map es):=rfl
@[simp] theorem zh2 (os n):n7 os (.b n)=qqa os[n]?:=by
  unfold n7 qqa
  split <;> split <;> simp_all
@[simp] theorem zh1 (os i k):n7 os (.n i k)=none:=rfl
@[simp] theorem zdb (f xs sz):Obj.mapL f (.arr xs sz)=some (.arr (zi f xs) sz):=rfl
@[simp] theorem zda (f es):Obj.mapL f (.map es)=some (.map (XR f es)):=rfl
@[simp] theorem q8g (f):Obj.mapL f .dead=none:=rfl
@[simp] theorem backL_b (m i k):R1 m i (.b k)=if k < m.length then m.getD k (.n i 0) else .n i (k - m.length):=rfl
@[simp] theorem zdq (env):xy env []=([],[]):=rfl
def q4s (t:Nat) (x:List Nat × List V) (o:Option V):List Nat × List V:=match o with
 | none=>x
 | some v=>(t :: x.1,v :: x.2)
@[simp] theorem q8y (t ts vs v):q4s t (ts,vs) (some v)=(t :: ts,v :: vs):=rfl
@[simp] theorem q8x (env t ks):xy env (t :: ks)=q4s t (xy env ks) (B7 env t):=by
  simp only[xy]
  cases B7 env t <;> rfl
@[simp] theorem zcm (env h t):qc9 env h (.tmp t)=B7 env t:=rfl
def q68:Option R→Option V
 | some (.ok e)=>some e.v
 | _=>none
@[simp] theorem resC_ok (e):q68 (some (.ok e))=some e.v:=rfl
@[simp] theorem q67 (env h t n ag):qc9 env h (.cell t n ag)=q68 (qyp h n ag (B7 env t)):=by
  simp only[qc9]
  cases B7 env t with
  | none=>rfl
  | some a=>
    show (match qx h n ag a with | some (.ok e)=>some e.v | _=>none)=q68 (qx h n ag a)
    cases qx h n ag a with
    | none=>rfl
    | some r=>cases r <;> rfl
@[simp] theorem q3y (env h):jx env h []=some []:=rfl
def q66 (fl:Bool) (v:Option V) (o:Option (List (V × Bool))):Option (List (V × Bool)):=match v,o with
 | some v,some vs=>some ((v,fl) :: vs)
 | _,_=>none
@[simp] theorem zcl (fl v vs):q66 fl (some v) (some vs)=some ((v,fl) :: vs):=rfl
@[simp] theorem q1i (env h r fl l):jx env h ((r,fl) :: l)=q66 fl (qc9 env h r) (jx env h l):=by
  simp only[jx]
  cases qc9 env h r with
  | none=>rfl
  | some v=>cases jx env h l <;> rfl
@[simp] theorem zhj (i k v):QV i k [] v=(v,[]):=rfl
section
variable (ev:Opnd→Option V)
@[simp] theorem evs_nil:evs ev []=some []:=rfl
@[simp] theorem zkh (x fl l):evs ev ((x,fl) :: l)=q66 fl (ev x) (evs ev l):=by
  simp only[evs]
  cases ev x with
  | none=>rfl
  | some v=>cases evs ev l <;> rfl
def zkn (v:Option V) (o:Option (List V)):Option (List V):=match v,o with
 | some v,some vs=>some (v :: vs)
 | _,_=>none
@[simp] theorem zey (v vs):zkn (some v) (some vs)=some (v :: vs):=rfl
@[simp] theorem evl_nil:evl ev []=some []:=rfl
@[simp] theorem zkm (x l):evl ev (x :: l)=zkn (ev x) (evl ev l):=rfl
def zkl (a b:Nat) (v:Option V) (o:Option (List (Nat × Nat × V))):Option (List (Nat × Nat × V)):=match v,o with
 | some v,some vs=>some ((a,b,v) :: vs)
 | _,_=>none
@[simp] theorem zex (a b v vs):zkl a b (some v) (some vs)=some ((a,b,v) :: vs):=rfl
@[simp] theorem evp_nil:evp ev []=some []:=rfl
@[simp] theorem zkk (a b x l):evp ev ((a,b,x) :: l)=zkl a b (ev x) (evp ev l):=rfl
def zkj (a:Nat) (v:Option V) (o:Option (List (Nat × V))):Option (List (Nat × V)):=match v,o with
 | some v,some vs=>some ((a,v) :: vs)
 | _,_=>none
@[simp] theorem zew (a v vs):zkj a (some v) (some vs)=some ((a,v) :: vs):=rfl
@[simp] theorem evq_nil:evq ev []=some []:=rfl
@[simp] theorem zki (a x l):evq ev ((a,x) :: l)=zkj a (ev x) (evq ev l):=rfl
end
def q54 (h:Loc→Option Obj) (l:Loc) (o:Option Obj):Loc→Option Obj:=fun l'=>if l'=l then o else h l'
@[simp] theorem zlk (h):j4 h []=h:=rfl
@[simp] theorem zll (h l o ws):j4 h ((l,o) :: ws)=j4 (q54 h l o) ws:=rfl
@[simp] theorem updL_b (h l o n):q54 h l o (.b n)=if Loc.b n=l then o else h (.b n):=rfl
@[simp] theorem updL_n (h l o i k):q54 h l o (.n i k)=if Loc.n i k=l then o else h (.n i k):=rfl
@[simp] theorem zh4 (ls):qqa (some (.lol ls))=some (.lol ls):=rfl
@[simp] theorem zir (f ls):Obj.mapL f (.lol ls)=some (.lol ls):=rfl
@[simp] theorem ren_lol (al ls m):Obj.ren al (.lol ls) m=(.lol ls,m):=rfl
attribute [simp] B7 Yr V.mapL zi XR P1 idx wb vK jv
end Go.Rf
