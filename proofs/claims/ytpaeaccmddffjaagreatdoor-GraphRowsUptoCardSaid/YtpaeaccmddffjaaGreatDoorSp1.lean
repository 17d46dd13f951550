/- Parts of the proof. -/
import Derived.Test.YtpaeaccmddffjaaGreatDoorRb2
set_option linter.all false
set_option linter.unusedSectionVars false
namespace Go.Rf
def okV (o:Option V):Option R:=bnd o val
@[simp] theorem zhj (v):okV (some v)=some (.ok { v:=v }):=rfl
@[simp] theorem val_eq (v):val v=some (.ok { v:=v }):=rfl
def qxr (c a b:Option V):Option R:=match c with
 | some (.d (.bool true))=>okV a
 | some (.d (.bool false))=>okV b
 | _=>none
@[simp] theorem q7s (a b):qxr (some (.d (.bool true))) a b=okV a:=rfl
@[simp] theorem q4h (a b):qxr (some (.d (.bool false))) a b=okV b:=rfl
def zk2 (i n:Nat) (o:Option V):Option R:=bnd o fun v=>if qgj v=false∧v.cells.length=n then some (.ok { v:=.ptr (.n i 0) 0 0,wr:=[(.n i 0,some (.arr [v] ⟨n,0⟩))] }) else none
@[simp] theorem isTup_d (x):(qgj (.d x)=false)=True:=eq_self _
@[simp] theorem zdd (c):(qgj (.agg c)=false)=True:=eq_self _
@[simp] theorem ze6 (i n v):zk2 i n (some v)=if qgj v=false∧v.cells.length=n then some (.ok { v:=.ptr (.n i 0) 0 0,wr:=[(.n i 0,some (.arr [v] ⟨n,0⟩))] }) else none:=rfl
def q70 (wr:List (Loc × Option Obj)) (o:Option (List V)):Option R:=bnd o fun cs=>some (.ok { v:=wJ cs,wr:=wr })
@[simp] theorem zhi (wr cs):q70 wr (some cs)=some (.ok { v:=wJ cs,wr:=wr }):=rfl
def qzy (x:V × List (Loc × Option Obj)) (o:Option (List (Nat × Nat × V))):Option R:=bnd o fun ps=>q70 x.2 (wH x.1.cells ps)
@[simp] theorem q50 (v wr ps):qzy (v,wr) (some ps)=q70 wr (wH v.cells ps):=rfl
def zgb (n:W) (z:D) (len:Nat) (o:Option (List (Nat × V))):Option (List V):=bnd o fun ps=>if z.cells.length=n.c∧len * n.w≤w8 then xF n (List.replicate len (.d z)) ps else none
@[simp] theorem qtp (n z len ps):zgb n z len (some ps)=if z.cells.length=n.c∧len * n.w≤w8 then xF n (List.replicate len (.d z)) ps else none:=rfl
def zk1 (i:Nat) (n:W) (len:Nat) (o:Option (List V)):Option R:=bnd o fun xs=>some (.ok { v:=.ref (.n i 0) n 0 len,wr:=[(.n i 0,some (.arr xs n))] })
@[simp] theorem ze5 (i n len xs):zk1 i n len (some xs)=some (.ok { v:=.ref (.n i 0) n 0 len,wr:=[(.n i 0,some (.arr xs n))] }):=rfl
def qyo (h:Loc→Option Obj) (n:Nat) (ag:Bool) (o:Option V):Option R:=bnd o (qw h n ag)
@[simp] theorem q8n (h n ag v):qyo h n ag (some v)=qw h n ag v:=rfl
def qwh (h:Loc→Option Obj) (n:Nat) (a b:Option V):Option R:=bnd a fun a=>bnd b fun v=>QZ h n a v
@[simp] theorem q32 (h n a b):qwh h n (some a) (some b)=QZ h n a b:=rfl
def q78 (o:Option V):Option R:=match o with
 | some (.d (.box y))=>val (.d (.box y))
 | some (.ptr l e j)=>val (.ptr l e j)
 | _=>none
@[simp] theorem zh6 (y):q78 (some (.d (.box y)))=val (.d (.box y)):=rfl
@[simp] theorem zh5 (l e j):q78 (some (.ptr l e j))=val (.ptr l e j):=rfl
def okD (o:Option D):Option R:=bnd o fun r=>val (.d r)
@[simp] theorem zhn (x):okD (some x)=some (.ok { v:=.d x }):=rfl
def zk5 (op:BinOp) (a b:Option V):Option R:=bnd a fun a=>bnd b fun b=>okD (bin op a b)
@[simp] theorem ze7 (op a b):zk5 op (some a) (some b)=okD (bin op a b):=rfl
def unX (op:UnOp) (a:Option V):Option R:=bnd a fun a=>okD (un op a)
@[simp] theorem zfw (op a):unX op (some a)=okD (un op a):=rfl
def q8y (eq:Bool) (o:Option Bool):Option R:=bnd o fun b=>val (.d (.bool (b == eq)))
@[simp] theorem zdg (eq b):q8y eq (some b)=val (.d (.bool (b == eq))):=rfl
def zi2 (eq ifc:Bool) (a:Option V):Option R:=bnd a fun a=>q8y eq (JS ifc a)
@[simp] theorem zdh (eq ifc a):zi2 eq ifc (some a)=q8y eq (JS ifc a):=rfl
@[simp] theorem isNil_1:JS false (.d .nilp)=some true:=rfl
@[simp] theorem isNil_2 (x):JS false (.d (.box x))=some false:=rfl
@[simp] theorem isNil_4:JS true (.d .nili)=some true:=rfl
@[simp] theorem isNil_5 (t x):JS true (.d (.iface t x))=some false:=rfl
def zkj (eq:Bool) (a b:Option V):Option R:=match a,b with
    | some (.d (.bool a)),some (.d (.bool b))=>val (.d (.bool ((a == b) == eq)))
    | _,_=>none
@[simp] theorem zep (eq a b):zkj eq (some (.d (.bool a))) (some (.d (.bool b)))=val (.d (.bool ((a == b) == eq))):=rfl
def qsf (h:Loc→Option Obj) (k:Cv) (o:Option V):Option R:=bnd o fun a=>match k,a with
    | .int k,.d (.int _ n)=>val (.d (.int k (k.wrap n)))
    | .rune,.d (.int _ n)=>val (.d (.str (Utf8.encode n).data.toList))
    | .b2s,a=>bnd (F7 h a) fun (xs,m)=>bnd (qZ xs) fun s=>some (.ok { v:=.d (.str s),rd:=m })
    | _,_=>none
@[simp] theorem zeu (h k j n):qsf h (.int k) (some (.d (.int j n)))=val (.d (.int k (k.wrap n))):=rfl
@[simp] theorem zau (h j n):qsf h .rune (some (.d (.int j n)))=val (.d (.str (Utf8.encode n).data.toList)):=rfl
def zbh (m:List Loc) (o:Option (List UInt8)):Option R:=bnd o fun s=>some (.ok { v:=.d (.str s),rd:=m })
@[simp] theorem ze8 (m s):zbh m (some s)=some (.ok { v:=.d (.str s),rd:=m }):=rfl
def zk8 (o:Option (List V × List Loc)):Option R:=bnd o fun x=>zbh x.2 (qZ x.1)
@[simp] theorem ze9 (xs m):zk8 (some (xs,m))=zbh m (qZ xs):=rfl
@[simp] theorem zev (h a):qsf h .b2s (some a)=zk8 (F7 h a):=by cases a <;> first | rfl | (rename_i x; cases x <;> rfl)
def zid (t:TypeId) (o:Option V):Option R:=bnd o fun v=>val (Ju t v)
@[simp] theorem zcw (t v):zid t (some v)=val (Ju t v):=rfl
def zif (f:FuncId) (o:Option (List V)):Option R:=bnd o fun vs=>val (qt8 f vs)
@[simp] theorem zcx (f vs):zif f (some vs)=val (qt8 f vs):=rfl
def q8h (i:Nat) (n:W) (z:D) (a b:Option Nat):Option R:=match a,b with
    | some l,some c=>if l≤c∧z.cells.length=n.c∧c * n.w≤w8 then some (.ok { v:=.ref (.n i 0) n 0 l,wr:=[(.n i 0,some (.arr (List.replicate l (.d z)) n))] }) else none
    | _,_=>none
@[simp] theorem zcu (i n z l c):q8h i n z (some l) (some c)=if l≤c∧z.cells.length=n.c∧c * n.w≤w8 then some (.ok { v:=.ref (.n i 0) n 0 l,wr:=[(.n i 0,some (.arr (List.replicate l (.d z)) n))] }) else none:=rfl
def qan (o:Option V):Option Nat:=bnd o kS
@[simp] theorem zcs (v):qan (some v)=kS v:=rfl
def ziw (o:Option V):Option Nat:=bnd o lenOf
@[simp] theorem zdb (v):ziw (some v)=lenOf v:=rfl
def qhy (s:Option W) (v:Option V) (lo hi:Option Nat):Option R:=bnd v fun v=>match lo,hi with
    | some l,some u=>okV (Kb s v l u)
    | _,_=>none
@[simp] theorem q34 (s v l u):qhy s (some v) (some l) (some u)=okV (Kb s v l u):=rfl
@[simp] theorem zde (s):kg (.d (.str s))=true:=rfl
@[simp] theorem zi1 (s):kg (.d (.sl s))=false:=rfl
@[simp] theorem zdf (l sz o n):kg (.ref l sz o n)=false:=rfl
def qp4 (o:Option V):Option R:=bnd o fun v=>match v with
 | .d z=>val (.d (.box z))
 | _=>none
@[simp] theorem q5e (z):qp4 (some (.d z))=val (.d (.box z)):=rfl
def qp5 (off n:Nat) (ag:Bool) (o:Option V):Option R:=match o with
    | some (.d (.box y))=>qp4 (part (.d y) off n ag)
    | some (.ptr l e j)=>val (.ptr l e (j + off))
    | _=>none
@[simp] theorem q90 (off n ag y):qp5 off n ag (some (.d (.box y)))=qp4 (part (.d y) off n ag):=rfl
@[simp] theorem q9z (off n ag l e j):qp5 off n ag (some (.ptr l e j))=val (.ptr l e (j + off)):=rfl
def q4j (off n:Nat) (ag:Bool) (o:Option V):Option R:=bnd o fun v=>if isAgg v then okV (part v off n ag) else none
@[simp] theorem q7u (off n ag v):q4j off n ag (some v)=if isAgg v then okV (part v off n ag) else none:=rfl
def q9d (n:W) (o:Option D):Option R:=match o with
        | some y=>if y.cells.length=n.c then val (.d (.box y)) else none
        | none=>none
@[simp] theorem zdm (n y):q9d n (some y)=if y.cells.length=n.c then val (.d (.box y)) else none:=rfl
def q2g (n:W) (v:Option V) (j:Option Nat):Option R:=bnd v fun v=>match j with
    | none=>none
    | some j=>match v with
      | .d (.sl xs)=>q9d n xs[j]?
      | .ref l sz off len=>if j < len∧sz=n then val (.ptr l (off + j) 0) else none
      | _=>none
@[simp] theorem idxX_sl (n xs j):q2g n (some (.d (.sl xs))) (some j)=q9d n xs[j]?:=rfl
@[simp] theorem zi6 (n l sz off len j):q2g n (some (.ref l sz off len)) (some j)=if j < len∧sz=n then val (.ptr l (off + j) 0) else none:=rfl
def qy3 (o:Option UInt8):Option R:=match o with
 | some b=>val (.d (.int .u8 b.toNat))
 | none=>none
@[simp] theorem q9e (b):qy3 (some b)=val (.d (.int .u8 b.toNat)):=rfl
def qy4 (v:Option V) (j:Option Nat):Option R:=bnd v fun v=>match v,j with
    | .d (.str s),some j=>qy3 s[j]?
    | _,_=>none
@[simp] theorem q9f (s j):qy4 (some (.d (.str s))) (some j)=qy3 s[j]?:=rfl
def zjz (k:Nat) (o:Option V):Option R:=match o with
    | some (.tup vs)=>okV vs[k]?
    | _=>none
@[simp] theorem zd8 (k vs):zjz k (some (.tup vs))=okV vs[k]?:=rfl
def qwb (t:TypeId) (ok:Bool) (z:D) (v:V) (o:Option (TypeId × V)):Option R:=match o with
    | some (t',y)=>if t'=t then val (if ok then .tup [y,.d (.bool true)] else y) else if ok then val (.tup [.d z,.d (.bool false)]) else none
    | none=>match v,ok with
      | .d .nili,true=>val (.tup [.d z,.d (.bool false)])
      | _,_=>none
@[simp] theorem q6j (t ok z v t' y):qwb t ok z v (some (t',y))=if t'=t then val (if ok then .tup [y,.d (.bool true)] else y) else if ok then val (.tup [.d z,.d (.bool false)]) else none:=rfl
def q3y (t:TypeId) (ok:Bool) (z:D) (o:Option V):Option R:=bnd o fun v=>qwb t ok z v (S8 v)
@[simp] theorem q6k (t ok z v):q3y t ok z (some v)=qwb t ok z v (S8 v):=rfl
def qsm (fm m:List Loc) (i:Nat) (o:Option CRes):Option R:=bnd o fun r=>some (YB fm m i r)
@[simp] theorem za9 (fm m i r):qsm fm m i (some r)=some (YB fm m i r):=rfl
def callB (cf:CF) (f:FuncId) (i:Nat) (fm:List Loc) (o:Option (List V × List Obj × List Loc)):Option R:=bnd o fun b=>if b.1.all S1 then qsm fm b.2.2 i (cf f b.1 b.2.1) else none
@[simp] theorem zba (cf f i fm vs os m):callB cf f i fm (some (vs,os,m))=if vs.all S1 then qsm fm m i (cf f vs os) else none:=rfl
def qae (cf:CF) (f:FuncId) (i:Nat) (h:Loc→Option Obj) (o:Option (List V × List Loc)):Option R:=bnd o fun a=>callB cf f i a.2 (XD [] a.1 (O9 h a.2))
@[simp] theorem zbb (cf f i h vs fm):qae cf f i h (some (vs,fm))=callB cf f i fm (XD [] vs (O9 h fm)):=rfl
theorem ZJ (cf:CF) (f i h args):W1 cf f i h args=qae cf f i h (F2 h args):=by
 unfold W1 qae callB qsm
 congr 1; funext a; congr 1; funext b
 cases b.1.all S1 <;> rfl
def q5v (cf:CF) (f:FuncId) (i:Nat) (h:Loc→Option Obj) (o:Option (List (V × Bool))):Option R:=bnd o fun vs=>W1 cf f i h vs
@[simp] theorem za8 (cf f i h vs):q5v cf f i h (some vs)=qae cf f i h (F2 h vs):=ZJ ..
def brwD (l:Loc) (sz:W) (off len:Nat) (o:Option (List D)):Option (D × List Loc):=bnd o fun ds=>if wl ((ds.drop off).take len)≤sz.w∧ds.all (fun x=>x.cells.all qf9)=true then some (.sl ((ds.drop off).take len),[l]) else none
def brwO (l:Loc) (sz:W) (off len:Nat):Option Obj→Option (D × List Loc)
 | some (.arr xs _)=>if off + len≤xs.length then brwD l sz off len (qE xs) else none
 | _=>none
attribute [simp] qh0 WC qf9
def qjs (cf:CF) (i:Nat) (h:Loc→Option Obj) (vs:List (V × Bool)) (o:Option (FuncId × List V)):Option R:=bnd o fun x=>qae cf (vo x.1) i h (F2 h (M6 x.1 vs (x.2.map (·,false))))
@[simp] theorem q5w (cf i h vs f cap):qjs cf i h vs (some (f,cap))=qae cf (vo f) i h (F2 h (M6 f vs (cap.map (·,false)))):=rfl
def qzx (cf:CF) (i:Nat) (h:Loc→Option Obj) (g:Option V) (o:Option (List (V × Bool))):Option R:=bnd g fun g=>bnd o fun vs=>qjs cf i h vs (qew g)
@[simp] theorem q5x (cf i h g vs):qzx cf i h (some g) (some vs)=qjs cf i h vs (qew g):=rfl
def q80 (cf:CF) (f:FuncId) (i:Nat) (h:Loc→Option Obj) (vs:List (V × Bool)) (o:Option V):Option R:=bnd o fun r=>qae cf f i h (F2 h ((r,true) :: vs))
def zi4 (cf:CF) (i:Nat) (h:Loc→Option Obj) (y:V) (vs:List (V × Bool)) (o:Option (FuncId × Option (Nat × Nat × Bool))):Option R:=bnd o fun x=>match x.2 with
    | none=>q80 cf x.1 i h vs (some y)
    | some (off,n,ag)=>q80 cf x.1 i h vs (qf3 y off n ag)
def q16 (T:Tab) (cf:CF) (m:List (TypeId × FuncId × Option (Nat × Nat × Bool))) (i:Nat) (h:Loc→Option Obj) (vs:List (V × Bool)) (o:Option (TypeId × V)):Option R:=bnd o fun x=>zi4 cf i h x.2 vs (XF m x.1)
def zi5 (T:Tab) (cf:CF) (m:List (TypeId × FuncId × Option (Nat × Nat × Bool))) (i:Nat) (h:Loc→Option Obj) (v:Option V) (o:Option (List (V × Bool))):Option R:=bnd v fun v=>bnd o fun vs=>q16 T cf m i h vs (S8 v)
@[simp] theorem zdj (T cf m i h v vs):zi5 T cf m i h (some v) (some vs)=q16 T cf m i h vs (S8 v):=rfl
def q15 (fit:Bool) (o:Option Nat):Option R:=bnd o fun n=>if fit=true then val (.d (.int .i64 n)) else none
@[simp] theorem zc7 (str n):q15 str (some n)=if str=true then val (.d (.int .i64 n)) else none:=rfl
def ziu (s:Bool) (o:Option V):Option R:=bnd o fun v=>sel (kg v == s) (q15 (S1 v) (lenOf v)) none
@[simp] theorem zc8 (s v):ziu s (some v)=sel (kg v == s) (q15 (S1 v) (lenOf v)) none:=rfl
def qz5 (i:Nat) (n:W) (off len:Nat) (l:Loc) (sz:W) (ys:List V) (m:List Loc) (o:Option Obj):Option R:=match o with
        | some (.arr xs _)=>
          if sz=n∧off + len≤xs.length∧l ∉ m then
           if (len + ys.length) * n.w≤w8 then some (.ok { v:=.ref (.n i 0) n 0 (len + ys.length),rd:=l :: m,wr:=[(l,none),(.n i 0,some (.arr ((xs.drop off).take len++ys) n))] }) else none
          else none
        | _=>none
@[simp] theorem zlb (i n off len l sz ys m xs s):qz5 i n off len l sz ys m (some (.arr xs s))=if sz=n∧off + len≤xs.length∧l ∉ m then
 if (len + ys.length) * n.w≤w8 then some (.ok { v:=.ref (.n i 0) n 0 (len + ys.length),rd:=l :: m,wr:=[(l,none),(.n i 0,some (.arr ((xs.drop off).take len++ys) n))] }) else none
 else none:=rfl
def qnr (h:Loc→Option Obj) (i:Nat) (n:W) (x:Option V) (o:Option (List V × List Loc)):Option R:=bnd o fun y=>
 if y.1.all (fun v=>v.cells.length == n.c) then
  match x with
  | none=>if y.1.length * n.w≤w8 then some (.ok { v:=.ref (.n i 0) n 0 y.1.length,rd:=y.2,wr:=[(.n i 0,some (.arr y.1 n))] }) else none
  | some (.ref l sz off len)=>qz5 i n off len l sz y.1 y.2 (h l)
  | _=>none
 else none
@[simp] theorem zfa (h i n ys m):qnr h i n none (some (ys,m))=if ys.all (fun v=>v.cells.length == n.c) then (if ys.length * n.w≤w8 then some (.ok { v:=.ref (.n i 0) n 0 ys.length,rd:=m,wr:=[(.n i 0,some (.arr ys n))] }) else none) else none:=rfl
@[simp] theorem zlc (h i n l sz off len ys m):qnr h i n (some (.ref l sz off len)) (some (ys,m))=if ys.all (fun v=>v.cells.length == n.c) then qz5 i n off len l sz ys m (h l) else none:=rfl
def q52 (h:Loc→Option Obj) (i:Nat) (n:W) (y:Option V):Option R:=bnd y fun b=>qnr h i n none (F7 h b)
@[simp] theorem zbj (h i n b):q52 h i n (some b)=qnr h i n none (F7 h b):=rfl
def zld (h:Loc→Option Obj) (i:Nat) (n:W) (x y:Option V):Option R:=bnd x fun a=>bnd y fun b=>qnr h i n (unN a) (F7 h b)
@[simp] theorem unN_ref (l sz o n):unN (.ref l sz o n)=some (.ref l sz o n):=rfl
@[simp] theorem zfx:unN (.d .nils)=none:=rfl
@[simp] theorem zfb (h i n a b):zld h i n (some a) (some b)=qnr h i n (unN a) (F7 h b):=rfl
theorem qsv (h i n x y):qec h i n x y=qnr h i n x (F7 h y):=by
 unfold qec qnr
 cases F7 h y with
 | none=>rfl
 | some e=>
   obtain ⟨ys,m⟩:=e;show (if ys.all _=true then _ else none)=(if ys.all _=true then _ else none);split
   ·cases x with
    | none=>rfl
    | some x=>cases x with
      | ref l sz off len=>show (match h l with | some (.arr xs _)=>_ | _=>none)=qz5 ..; unfold qz5; cases h l with
        | none=>rfl
        | some o=>cases o <;> rfl
      | _=>rfl
   ·rfl
@[simp] theorem q8o (i l k cs sz n):Wc i l k cs sz n (some (.d .nils))=some (.ok { v:=.d .nils,rd:=[l] }):=rfl
@[simp] theorem zit (i l k cs sz n xs):Wc i l k cs sz n (some (.g xs))=if xs.all (fun x=>x.cells.length == n.c)=true∧xs.length * n.w≤w8∧n.w < 1000000∧wl xs≤n.w then
 some (.ok { v:=.ref (.n i 0) n 0 xs.length,rd:=[l],wr:=[(l,some (.gl (cs.set k (.d (.sl xs))) sz)),(.n i 0,some (.grw xs n))] }) else none:=rfl
def qyu (i:Nat) (l:Loc) (e j:Nat) (n:W):Option Obj→Option R
 | some (.gl cs sz)=>Wc i l (e * sz.c + j) cs sz n cs[e * sz.c + j]?
 | _=>none
@[simp] theorem zc6 (i l e j n cs sz):qyu i l e j n (some (.gl cs sz))=Wc i l (e * sz.c + j) cs sz n cs[e * sz.c + j]?:=rfl
def qyt (h:Loc→Option Obj) (i:Nat) (n:W) (o:Option V):Option R:=bnd o (qit h i n)
@[simp] theorem q42 (h i n l e j):qyt h i n (some (.ptr l e j))=qyu i l e j n (h l):=by
  show (match h l with | some (.gl cs sz)=>_ | _=>none)=_
  rcases h l with _ | (_ | _ | _ | _ | _ | _) <;> rfl
@[simp] theorem q4v (l l' k cs sz n len xs n'):Yc l l' k cs sz n len (some (.grw xs n'))=if n=n'∧len=xs.length∧0 < len then some (.ok { v:=.tup [],rd:=[l,l'],wr:=[(l,some (.gl (cs.set k (.g xs)) sz)),(l',none)] }) else none:=rfl
def qis (l:Loc) (k:Nat) (cs:List GC) (sz:W) (h:Loc→Option Obj):V→Option R
 | .d x=>if isAgg (.d x)=false then some (.ok { v:=.tup [],rd:=[l],wr:=[(l,some (.gl (cs.set k (.d x)) sz))] }) else none
 | .ref l' n 0 len=>Yc l l' k cs sz n len (h l')
 | _=>none
@[simp] theorem q4w (l k cs sz h l' n len):qis l k cs sz h (.ref l' n 0 len)=Yc l l' k cs sz n len (h l'):=rfl
def qrn (l:Loc) (e j:Nat) (h:Loc→Option Obj) (v:V):Option Obj→Option R
 | some (.gl cs sz)=>if e * sz.c + j < cs.length then qis l (e * sz.c + j) cs sz h v else none
 | _=>none
@[simp] theorem q8j (l e j h v cs sz):qrn l e j h v (some (.gl cs sz))=if e * sz.c + j < cs.length then qis l (e * sz.c + j) cs sz h v else none:=rfl
def qrm (h:Loc→Option Obj) (a b:Option V):Option R:=bnd a fun a=>bnd b fun v=>Yb h a v
@[simp] theorem q11 (h l e j v):qrm h (some (.ptr l e j)) (some v)=qrn l e j h v (h l):=by
  show (match h l with | some (.gl cs sz)=>_ | _=>none)=_
  rcases h l with _ | (_ | _ | _ | _ | _ | _) <;> first | rfl | (show (if _ then _ else _)=(if _ then _ else _); congr 1; cases v <;> first | rfl | (rename_i o _; cases o <;> rfl))
@[simp] theorem zdo (i n ds m l sz len xs n'):qmd i n ds m l sz len (some (.grw xs n'))=if sz=n∧n'=n∧len=xs.length∧0 < ds.length∧l ∉ m∧(len + ds.length) * n.w≤w8 then
 some (.ok { v:=.ref (.n i 0) n 0 (len + ds.length),rd:=l :: m,wr:=[(l,none),(.n i 0,some (.grw (xs++ds) n))] }) else none:=rfl
def qr3 (h:Loc→Option Obj) (i:Nat) (n:W) (ds:List D) (m:List Loc):V→Option R
 | .d .nils=>if ds.length * n.w≤w8∧0 < ds.length then some (.ok { v:=.ref (.n i 0) n 0 ds.length,rd:=m,wr:=[(.n i 0,some (.grw ds n))] }) else none
 | .ref l sz 0 len=>qmd i n ds m l sz len (h l)
 | _=>none
@[simp] theorem zdq (h i n ds m):qr3 h i n ds m (.d .nils)=if ds.length * n.w≤w8∧0 < ds.length then some (.ok { v:=.ref (.n i 0) n 0 ds.length,rd:=m,wr:=[(.n i 0,some (.grw ds n))] }) else none:=rfl
@[simp] theorem zdp (h i n ds m l sz len):qr3 h i n ds m (.ref l sz 0 len)=qmd i n ds m l sz len (h l):=rfl
def qr4 (h:Loc→Option Obj) (i:Nat) (n:W) (x:V) (m:List Loc):Option (List D)→Option R
 | some ds=>if ds.all (fun d=>d.cells.length == n.c)=true∧n.w < 1000000∧wl ds≤n.w then qr3 h i n ds m x else none
 | none=>none
@[simp] theorem q9n (h i n x m ds):qr4 h i n x m (some ds)=if ds.all (fun d=>d.cells.length == n.c)=true∧n.w < 1000000∧wl ds≤n.w then qr3 h i n ds m x else none:=rfl
def q47 (h:Loc→Option Obj) (i:Nat) (n:W) (x:V):Option (List V × List Loc)→Option R
 | some (ys,m)=>qr4 h i n x m (qE ys)
 | none=>none
@[simp] theorem q9l (h i n x ys m):q47 h i n x (some (ys,m))=qr4 h i n x m (qE ys):=rfl
def q48 (h:Loc→Option Obj) (i:Nat) (n:W) (a b:Option V):Option R:=bnd a fun a=>bnd b fun v=>qgo h i n a v
@[simp] theorem q9m (h i n x y):q48 h i n (some x) (some y)=q47 h i n x (F7 h y):=by
  show bnd (F7 h y) _=_
  cases F7 h y with
  | none=>rfl
  | some q=>
    show bnd (qE q.1) _=qr4 h i n x q.2 (qE q.1)
    cases qE q.1 with
    | none=>rfl
    | some ds=>
      show (if _ then _ else _)=(if _ then _ else _)
      congr 1
@[simp] theorem glOf_gl (cs n):qp1 (some (.gl cs n))=some cs:=rfl
@[simp] theorem zja (sz):qp1 (some (.arr [] sz))=some []:=rfl
@[simp] theorem q5u:cellsOf []=[]:=rfl
@[simp] theorem q3c (d ds):cellsOf (d :: ds)=d.cells.map .d++cellsOf ds:=by simp[cellsOf]
def qrr (i:Nat) (n:W) (l:Loc) (sz:W) (len:Nat) (cs:List GC) (m:List Loc):Option (List D)→Option R
 | some ds=>if ds.all (fun d=>d.cells.length == n.c)=true∧sz=n∧n.w < 1000000∧len * n.c=cs.length∧0 < ds.length∧l ∉ m∧(len + ds.length) * n.w≤w8 then
  some (.ok { v:=.ref (.n i 0) n 0 (len + ds.length),rd:=l :: m,wr:=[(l,none),(.n i 0,some (.gl (cs++cellsOf ds) n))] }) else none
 | none=>none
@[simp] theorem q8s (i n l sz len cs m ds):qrr i n l sz len cs m (some ds)=if ds.all (fun d=>d.cells.length == n.c)=true∧sz=n∧n.w < 1000000∧len * n.c=cs.length∧0 < ds.length∧l ∉ m∧(len + ds.length) * n.w≤w8 then
 some (.ok { v:=.ref (.n i 0) n 0 (len + ds.length),rd:=l :: m,wr:=[(l,none),(.n i 0,some (.gl (cs++cellsOf ds) n))] }) else none:=rfl
def q44 (i:Nat) (n:W) (l:Loc) (sz:W) (len:Nat):Option (List GC)→Option (List V × List Loc)→Option R
 | some cs,some (ys,m)=>qrr i n l sz len cs m (qE ys)
 | _,_=>none
@[simp] theorem q8r (i n l sz len cs ys m):q44 i n l sz len (some cs) (some (ys,m))=qrr i n l sz len cs m (qE ys):=rfl
def q43 (h:Loc→Option Obj) (i:Nat) (n:W) (a b:Option V):Option R:=bnd a fun a=>bnd b fun v=>qrq h i n a v
@[simp] theorem q8q (h i n l sz len y):q43 h i n (some (.ref l sz 0 len)) (some y)=q44 i n l sz len (qp1 (h l)) (F7 h y):=by
  show bnd (qp1 (h l)) _=_
  cases qp1 (h l) with
  | none=>rfl
  | some cs=>cases F7 h y with
    | none=>rfl
    | some q=>show bnd (qE q.1) _=qrr i n l sz len cs q.2 (qE q.1); cases qE q.1 <;> rfl
def qyr (k:Nat) (o:Option V):Option R:=bnd o fun v=>some (.ok { v,rd:=[.n hdI k] })
@[simp] theorem q41 (k v):qyr k (some v)=some (.ok { v,rd:=[.n hdI k] }):=rfl
def qyq (h:Loc→Option Obj) (o:Option V):Option R:=match o with
    | some (.ptr (.b k) 0 0)=>bnd (Zu h k) fun v=>some (.ok { v,rd:=[.n hdI k] })
    | _=>none
@[simp] theorem q40 (h k):qyq h (some (.ptr (.b k) 0 0))=qyr k (JT (h (.b k))):=rfl
def q7v (v:V) (o:Option (TypeId × V)):Option R:=match o with
    | some _=>some (.pan { v })
    | none=>none
@[simp] theorem zci (v x):q7v v (some x)=some (.pan { v }):=rfl
def zha (o:Option V):Option R:=bnd o fun v=>q7v v (S8 v)
@[simp] theorem zcj (v):zha (some v)=q7v v (S8 v):=rfl
def qxk (i:Nat) (o:Option V):Option R:=match o with
    | some (.d (.str s))=>some (.ok { v:=.iter (.n i 0),wr:=[(.n i 0,some (.iter s 0))] })
    | _=>none
@[simp] theorem q4f (i s):qxk i (some (.d (.str s)))=some (.ok { v:=.iter (.n i 0),wr:=[(.n i 0,some (.iter s 0))] }):=rfl
def qyb (l:Loc) (o:Option Obj):Option R:=match o with
 | some (.iter s pos)=>
   if pos < s.length then some (.ok { v:=.tup [.d (.bool true),.d (.int .i64 pos),.d (.int .i32 (dec s pos).1)],rd:=[l],wr:=[(l,some (.iter s (pos + (dec s pos).2)))] })
   else some (.ok { v:=.tup [.d (.bool false)],rd:=[l] })
 | _=>none
@[simp] theorem q79 (l s pos):qyb l (some (.iter s pos))=if pos < s.length then some (.ok { v:=.tup [.d (.bool true),.d (.int .i64 pos),.d (.int .i32 (dec s pos).1)],rd:=[l],wr:=[(l,some (.iter s (pos + (dec s pos).2)))] })
        else some (.ok { v:=.tup [.d (.bool false)],rd:=[l] }):=rfl
def q4q (h:Loc→Option Obj) (o:Option V):Option R:=match o with
    | some (.iter l)=>qyb l (h l)
    | _=>none
@[simp] theorem q8a (h l):q4q h (some (.iter l))=qyb l (h l):=rfl
def qyl (s:Bool) (z:D) (l:Loc) (key:D) (o:Option Obj):Option R:=match o with
 | some (.map es)=>if Qb s key es then some (.ok { v:=((Yq es (I5 key)).getD (.d z)),rd:=[l] }) else none
 | _=>none
@[simp] theorem q8l (s z l key es):qyl s z l key (some (.map es))=if Qb s key es then some (.ok { v:=((Yq es (I5 key)).getD (.d z)),rd:=[l] }) else none:=rfl
def q4y (h:Loc→Option Obj) (s:Bool) (z:D) (x k:Option V):Option R:=match x,k with
    | some (.map l),some (.d key)=>qyl s z l key (h l)
    | _,_=>none
@[simp] theorem q8m (h s z l key):q4y h s z (some (.map l)) (some (.d key))=qyl s z l key (h l):=rfl
def q6d (s:Bool) (l:Loc) (key:D) (v:V) (o:Option Obj):Option R:=match o with
 | some (.map es)=>if Qb s key es && !qix v then some (.ok { v:=.tup [],rd:=[l],wr:=[(l,some (.map (KQ es key v)))] }) else none
 | _=>none
@[simp] theorem zbw (s l key v es):q6d s l key v (some (.map es))=if Qb s key es && !qix v then some (.ok { v:=.tup [],rd:=[l],wr:=[(l,some (.map (KQ es key v)))] }) else none:=rfl
def zfu (h:Loc→Option Obj) (s:Bool) (x k v:Option V):Option R:=match x,k,v with
    | some (.map l),some (.d key),some v=>q6d s l key v (h l)
    | _,_,_=>none
@[simp] theorem zbx (h s l key v):zfu h s (some (.map l)) (some (.d key)) (some v)=q6d s l key v (h l):=rfl
section
variable (T:Tab) (cf:CF) (i:Nat) (ev:Opnd→Option V) (h:Loc→Option Obj)
@[simp] theorem exec_mv {x}:exec T cf i (.mv x) ev h=okV (ev x):=rfl
@[simp] theorem zj1 {n}:exec T cf i (.own n) ev h=some (.ok { v:=.ref (.n i 0) n 0 0,wr:=[(.n i 0,some (.arr [] n))] }):=rfl
@[simp] theorem zea {c a b}:exec T cf i (.pick c a b) ev h=qxr (ev c) (ev a) (ev b):=rfl
@[simp] theorem q21 {t z o own}:exec T cf i (.allocT t z (o :: own)) ev h=some (.ok { v:=.ptr (.n i 0) 0 0,wr:=(kZ i 1 (o :: own) (.d z)).2++[(.n i 0,some (.arr [(kZ i 1 (o :: own) (.d z)).1] ⟨z.cells.length,t + 1000000⟩))] }):=rfl
@[simp] theorem zac {z}:exec T cf i (.alloc z []) ev h=some (.ok { v:=.ptr (.n i 0) 0 0,wr:=[(.n i 0,some (.arr [.d z] ⟨z.cells.length,0⟩))] }):=rfl
@[simp] theorem q5l {z o own}:exec T cf i (.alloc z (o :: own)) ev h=some (.ok { v:=.ptr (.n i 0) 0 0,wr:=(kZ i 1 (o :: own) (.d z)).2++[(.n i 0,some (.arr [(kZ i 1 (o :: own) (.d z)).1] ⟨z.cells.length,0⟩))] }):=rfl
@[simp] theorem zj8 {n x}:exec T cf i (.box n x) ev h=zk2 i n (ev x):=rfl
@[simp] theorem zab {z ps own}:exec T cf i (.build z ps own) ev h=qzy (kZ i 0 own (.d z)) (evp ev ps):=rfl
@[simp] theorem q20 {n z len ps}:exec T cf i (.buildSl n z len ps) ev h=zk1 i n len (zgb n z len (evq ev ps)):=by
  show bnd (evq ev ps) _=_
  cases evq ev ps with
  | none=>rfl
  | some ps=>simp only[bnd,Option.bind,qtp]; split <;> rfl
@[simp] theorem zee {n ag x}:exec T cf i (.load n ag x) ev h=qyo h n ag (ev x):=rfl
@[simp] theorem q92 {n x y}:exec T cf i (.store n x y) ev h=qwh h n (ev x) (ev y):=rfl
@[simp] theorem q95 {x}:exec T cf i (.nilCk x) ev h=q78 (ev x):=rfl
@[simp] theorem zj9 {op x y}:exec T cf i (.bin op x y) ev h=zk5 op (ev x) (ev y):=rfl
@[simp] theorem zj5 {eq ifc x}:exec T cf i (.isN eq ifc x) ev h=zi2 eq ifc (ev x):=rfl
@[simp] theorem zj7 {eq x y}:exec T cf i (.eqB eq x y) ev h=zkj eq (ev x) (ev y):=rfl
@[simp] theorem exec_un {op x}:exec T cf i (.un op x) ev h=unX op (ev x):=rfl
@[simp] theorem zej {k x}:exec T cf i (.conv k x) ev h=qsf h k (ev x):=rfl
@[simp] theorem zj2 {t x}:exec T cf i (.mkI t x) ev h=zid t (ev x):=rfl
@[simp] theorem zj3 {f cap}:exec T cf i (.mkF f cap) ev h=zif f (evl ev cap):=rfl
@[simp] theorem zec {n z len cap}:exec T cf i (.mkSl n z len cap) ev h=q8h i n z (qan (ev len)) (qan (ev cap)):=by
  show bnd (ev len) _=_
  cases ev len with
  | none=>rfl
  | some a=>cases ev cap with
    | none=>simp only[bnd,Option.bind,qan,q8h]; cases kS a <;> rfl
    | some b=>rfl
@[simp] theorem q5i {s x hi}:exec T cf i (.slice s x none (some hi)) ev h=qhy s (ev x) (some 0) (qan (ev hi)):=by
  show bnd (ev x) _=_
  cases ev x <;> rfl
@[simp] theorem q5h {s x lo}:exec T cf i (.slice s x (some lo) none) ev h=qhy s (ev x) (qan (ev lo)) (ziw (ev x)):=by
  show bnd (ev x) _=_
  cases ev x <;> rfl
@[simp] theorem q5g {s x lo hi}:exec T cf i (.slice s x (some lo) (some hi)) ev h=qhy s (ev x) (qan (ev lo)) (qan (ev hi)):=by
  show bnd (ev x) _=_
  cases ev x <;> rfl
@[simp] theorem q5k {off n ag x}:exec T cf i (.fieldA off n ag x) ev h=qp5 off n ag (ev x):=rfl
@[simp] theorem q99 {off n ag x}:exec T cf i (.field off n ag x) ev h=q4j off n ag (ev x):=rfl
@[simp] theorem zeh {n x k}:exec T cf i (.idxA n x k) ev h=q2g n (ev x) (qan (ev k)):=by
  show bnd (ev x) _=_
  cases ev x with
  | none=>rfl
  | some v=>cases ev k with
    | none=>rfl
    | some a=>simp only[bnd,Option.bind,qan,q2g]; cases kS a <;> rfl
@[simp] theorem zeg {x k}:exec T cf i (.idxS x k) ev h=qy4 (ev x) (qan (ev k)):=by
  show bnd (ev x) _=_
  cases ev x with
  | none=>rfl
  | some v=>cases ev k with
    | none=>simp only[bnd,Option.bind,qan,qy4]
    | some a=>rfl
@[simp] theorem q2z {x k}:exec T cf i (.extract x k) ev h=zjz k (ev x):=rfl
@[simp] theorem zd9 {t ok z x}:exec T cf i (.tass t ok z x) ev h=q3y t ok z (ev x):=rfl
@[simp] theorem zek {f args}:exec T cf i (.call f args) ev h=q5v cf f i h (evs ev args):=rfl
@[simp] theorem zaa {f args}:exec T cf i (.callV f args) ev h=qzx cf i h (ev f) (evs ev args):=by
  show bnd (ev f) _=_
  cases ev f with
  | none=>rfl
  | some g=>cases evs ev args with
    | none=>rfl
    | some vs=>
      show bnd (qew g) _=qjs cf i h vs (qew g)
      cases qew g with
      | none=>rfl
      | some x=>exact ZJ ..
@[simp] theorem zj6 {m x args}:exec T cf i (.inv m x args) ev h=zi5 T cf m i h (ev x) (evs ev args):=by
  show bnd (ev x) _=_
  cases ev x with
  | none=>rfl
  | some v=>cases evs ev args with
    | none=>rfl
    | some vs=>
      show bnd (S8 v) _=q16 T cf m i h vs (S8 v)
      cases S8 v with
      | none=>rfl
      | some x=>
        obtain ⟨t,y⟩:=x;show bnd (XF m t) _=zi4 cf i h y vs (XF m t)
        cases XF m t with
        | none=>rfl
        | some z=>
          obtain ⟨f,p⟩:=z
          cases p with
          | none=>exact ZJ ..
          | some p=>
            obtain ⟨off,n,ag⟩:=p;show bnd (qf3 y off n ag) _=q80 cf f i h vs (qf3 y off n ag)
            cases qf3 y off n ag with
            | none=>rfl
            | some r=>exact ZJ ..
@[simp] theorem zj4 {s x}:exec T cf i (.len s x) ev h=ziu s (ev x):=by
  show bnd (ev x) _=_
  cases ev x with
  | none=>rfl
  | some v=>
    show sel (kg v == s) (bnd (lenOf v) _) none=sel (kg v == s) (q15 (S1 v) (lenOf v)) none
    congr 1
    cases lenOf v with
    | none=>rfl
    | some n=>
      show sel _ _ _=if _=true then _ else _
      cases S1 v <;> simp[sel]
@[simp] theorem zel {n y}:exec T cf i (.app n none y) ev h=q52 h i n (ev y):=by
  show bnd (ev y) _=_
  cases ev y with
  | none=>rfl
  | some b=>exact qsv h i n none b
@[simp] theorem zka {n x y}:exec T cf i (.app n (some x) y) ev h=zld h i n (ev x) (ev y):=by
  show bnd (ev x) _=_
  cases ev x with
  | none=>rfl
  | some a=>cases ev y with
    | none=>rfl
    | some b=>exact qsv h i n (unN a) b
@[simp] theorem q98 {n x}:exec T cf i (.lload n x) ev h=qyt h i n (ev x):=rfl
@[simp] theorem zei {n x y}:exec T cf i (.gapp n x y) ev h=q48 h i n (ev x) (ev y):=rfl
@[simp] theorem q5j {x y}:exec T cf i (.lstore x y) ev h=qrm h (ev x) (ev y):=rfl
@[simp] theorem zef {n x y}:exec T cf i (.lapp n x y) ev h=q43 h i n (ev x) (ev y):=rfl
@[simp] theorem q97 {x}:exec T cf i (.loadH x) ev h=qyq h (ev x):=rfl
@[simp] theorem q94 {x}:exec T cf i (.panic x) ev h=zha (ev x):=rfl
@[simp] theorem q93 {x}:exec T cf i (.range x) ev h=qxk i (ev x):=rfl
@[simp] theorem zeb {x}:exec T cf i (.next x) ev h=q4q h (ev x):=rfl
@[simp] theorem q96:exec T cf i .mkMap ev h=some (.ok { v:=.map (.n i 0),wr:=[(.n i 0,some (.map []))] }):=rfl
@[simp] theorem zed {s z x k}:exec T cf i (.look s z x k) ev h=q4y h s z (ev x) (ev k):=rfl
@[simp] theorem zj0 {s x k v}:exec T cf i (.upd s x k v) ev h=zfu h s (ev x) (ev k) (ev v):=rfl
end
inductive SS where
 | go (s:RS) (rs:List Rec)
 | pan (i:Nat) (v:V) (s:RS) (rs:List Rec)
 | out (rs:List Rec)
 | bad
def SS.of (i:Nat) (rs:List Rec):Option SR→SS
 | none=>.bad
 | some (.go s r)=>.go s (r :: rs)
 | some (.pan v s r)=>.pan i v s (r :: rs)
 | some .out=>.out rs
@[simp] theorem of_go (i rs s r):SS.of i rs (some (.go s r)) = .go s (r :: rs):=rfl
@[simp] theorem of_pan (i rs v s r):SS.of i rs (some (.pan v s r)) = .pan i v s (r :: rs):=rfl
noncomputable def qh4 (T:Tab) (cf:CF) (os:List AIns):SS→Option (RR × List Rec)
 | .go s rs=>ZZ T cf os s rs
 | .pan i v s rs=>some (.pan i v s,rs)
 | .out rs=>some (.out,rs)
 | .bad=>none
@[simp] theorem zgp (T cf s rs):qh4 T cf [] (.go s rs)=some (.nrm s,rs):=rfl
@[simp] theorem zgo (T cf os i v s rs):qh4 T cf os (.pan i v s rs)=some (.pan i v s,rs):=rfl
def qkl (o:AIns) (s:RS) (x:Option R):Option SR:=bnd x fun r=>some (qkk o s r)
@[simp] theorem zf7 (i dst op g s v rd wr):qkl ⟨i,dst,op,g⟩ s (some (.ok ⟨v,rd,wr⟩))=some (.go { env:=U7 s.env dst v,h:=j8 s.h wr } { i,rd,wr:=wr.map (·.1) }):=rfl
@[simp] theorem zb4 (i dst op g s v rd wr):qkl ⟨i,dst,op,g⟩ s (some (.pan ⟨v,rd,wr⟩))=some (.pan v { env:=s.env,h:=j8 s.h wr } { i,rd,wr:=wr.map (·.1) }):=rfl
noncomputable def stepG (T:Tab) (cf:CF) (o:AIns) (s:RS) (b:Option Bool):Option SR:=bnd b fun b=>sel b (qkl o s (exec T cf o.i o.op (evO s.env) s.h)) (some (.go { env:=U7 s.env o.dst (.tup []),h:=s.h } { i:=o.i,rd:=[],wr:=[] }))
@[simp] theorem q6u (T cf i dst op g s):stepG T cf ⟨i,dst,op,g⟩ s (some true)=qkl ⟨i,dst,op,g⟩ s (exec T cf i op (evO s.env) s.h):=rfl
@[simp] theorem q33 (T cf i dst op g s):stepG T cf ⟨i,dst,op,g⟩ s (some false)=some (.go { env:=U7 s.env dst (.tup []),h:=s.h } { i,rd:=[],wr:=[] }):=rfl
@[simp] theorem zb7 (T cf i dst op g os s rs):qh4 T cf (⟨i,dst,op,some g⟩ :: os) (.go s rs)=qh4 T cf os (.of i rs (stepG T cf ⟨i,dst,op,some g⟩ s (wanted s.env (some g)))):=by
  show ZZ T cf (_ :: os) s rs=_;rw[ZZ];show bnd (step T cf _ s) _=qh4 T cf os (.of i rs (step T cf ⟨i,dst,op,some g⟩ s))
  cases step T cf ⟨i,dst,op,some g⟩ s with
  | none=>rfl
  | some x=>cases x <;> rfl
@[simp] theorem q7f (T cf i dst op os s rs):qh4 T cf (⟨i,dst,op,none⟩ :: os) (.go s rs)=qh4 T cf os (.of i rs (qkl ⟨i,dst,op,none⟩ s (exec T cf i op (evO s.env) s.h))):=by
  show ZZ T cf (_ :: os) s rs=_;rw[ZZ];show bnd (step T cf _ s) _=qh4 T cf os (.of i rs (step T cf ⟨i,dst,op,none⟩ s))
  cases step T cf ⟨i,dst,op,none⟩ s with
  | none=>rfl
  | some x=>cases x <;> rfl
def q1w (o:Option St):Option (Ex × St):=bnd o fun st=>some (.nrm,st)
@[simp] theorem zcp (st):q1w (some st)=some (.nrm,st):=rfl
def q7l (pin:Nat) (keep:List Nat) (o:Option (RR × List Rec)):Option (Ex × St):=bnd o fun x=>qxd pin keep x.1
@[simp] theorem zg0 (pin keep s rs):q7l pin keep (some (.nrm s,rs))=q1w (wb pin keep s.env s.h):=rfl
@[simp] theorem zgz (pin keep i v s rs):q7l pin keep (some (.pan i v s,rs))=qmw pin v s.h:=rfl
def q4c (ps:List (Nat × Nat)) (pin:Nat) (keep:List Nat) (o:Option (RR × List Rec)):Option (Ex × St):=bnd o fun x=>sel (kY ps x.2) (KP pin keep x.1) none
@[simp] theorem q7m (ps pin keep x rs):q4c ps pin keep (some (x,rs))=if kY ps rs=true then KP pin keep x else none:=by
  show sel _ _ _=_
  cases kY ps rs <;> rfl
@[simp] theorem q4b (pin keep s):KP pin keep (.nrm s)=q1w (wb pin keep s.env s.h):=rfl
@[simp] theorem q4a (pin keep i v s):KP pin keep (.pan i v s)=qmw pin v (only (Loc.oldOr i) s.h):=rfl
@[simp] theorem only_ap (p h l):only p h l=if p l=true then h l else none:=by
  show sel _ _ _=_
  cases p l <;> rfl
noncomputable def onD (T:Tab) (cf:CF) (ps:List (Nat × Nat)) (es:List Nat) (os:List AIns) (i:Nat) (A:List Loc) (rs:List Rec) (x:Option SR):Option (RR × List Rec):=bnd x fun x=>
 qt4 x (fun s' r=>Qx T cf ps es os s' (r :: rs)) (fun v s' r=>sel (es.contains i && WH ps rs i) (some (.pan i v s',r :: rs)) none) (sel (es.contains i) (some (.out,{ i:=i,rd:=A,wr:=[] } :: rs)) none)
@[simp] theorem onD_go (T cf ps es os i A rs s r):onD T cf ps es os i A rs (some (.go s r))=Qx T cf ps es os s (r :: rs):=rfl
@[simp] theorem onD_pan (T cf ps es os i A rs v s r):onD T cf ps es os i A rs (some (.pan v s r))=if (es.contains i && WH ps rs i)=true then some (.pan i v s,r :: rs) else none:=by
  show sel _ _ _=_
  cases (es.contains i && WH ps rs i) <;> rfl
@[simp] theorem zgq (T cf ps es s rs):Qx T cf ps es [] s rs=some (.nrm s,rs):=rfl
noncomputable def qhv (o:AIns) (A:List Loc) (s:RS) (x:Option R):Option SR:=bnd x (qbg o A s)
noncomputable def chQ (k:Nat) (A:List Loc) (h:Loc→Option Obj) (wr:List (Loc × Option Obj)):List Loc:=sel (k == 3) (chg A h wr) (chN wr)
@[simp] theorem chQ_0 (A h wr):chQ 0 A h wr=chN wr:=rfl
@[simp] theorem chQ_1 (A h wr):chQ 1 A h wr=chN wr:=rfl
@[simp] theorem chQ_2 (A h wr):chQ 2 A h wr=chN wr:=rfl
open Classical in
@[simp] theorem chQ_all (A h wr f):(chQ 3 A h wr).all f=((wr.all fun e=>(A.contains e.1 && decide (j8 h wr e.1=h e.1)) || f e.1) && wr.all fun e=>if f (Zv e.1)=true then true else A.contains e.1 && decide (JT (j8 h wr e.1)=JT (h e.1))):=by
  show (List.filter _ _++(List.filter _ _).map Zv).all f=_;rw[List.all_append,List.all_filter,List.all_map,List.all_map,List.all_filter,List.all_map]
  congr 1
  ·congr 1
   funext e
   simp only[Function.comp,Bool.not_or,Bool.not_not,ne_eq,decide_not]
  ·congr 1
   funext e
   simp only[Function.comp,Bool.not_or,Bool.not_not,ne_eq,decide_not]
   cases f (Zv e.1) <;> simp
attribute [simp] chN Zv hdI
@[simp] theorem zdn (v sz):JT (some (.arr [v] sz))=v.cells[0]?:=rfl
@[simp] theorem zb3 (i dst op g A s v rd wr):qhv ⟨i,dst,op,g⟩ A s (some (.ok ⟨v,rd,wr⟩))=if ZV (D1 op) A i wr=true then some (.go { env:=U7 s.env dst v,h:=j8 s.h wr } { i:=i,rd:=A,wr:=wr.map (·.1),ch:=chQ (D1 op) A s.h wr }) else none:=by
  show sel _ _ _=_
  cases ZV (D1 op) A i wr <;> rfl
@[simp] theorem q6t (i dst op g A s v rd wr):qhv ⟨i,dst,op,g⟩ A s (some (.pan ⟨v,rd,wr⟩))=if (decide (2≤D1 op) && ZV (D1 op) A i wr)=true then some (.pan v { env:=s.env,h:=j8 s.h wr } { i:=i,rd:=A,wr:=wr.map (·.1) }) else none:=by
  show sel _ _ _=_
  cases (decide (2≤D1 op) && ZV (D1 op) A i wr) <;> rfl
noncomputable def qol (T:Tab) (cf:CF) (o:AIns) (s:RS) (A:List Loc):Option SR:=qhv o A s (jy T cf o.i o.op A (evO s.env) s.h)
noncomputable def qq2 (T:Tab) (cf:CF) (ps:List (Nat × Nat)) (es:List Nat) (os:List AIns) (o:AIns) (s:RS) (rs:List Rec) (A:List Loc):Option (RR × List Rec):=onD T cf ps es os o.i A rs (qol T cf o s A)
@[simp] theorem zb5 (T cf i dst op g s A):qol T cf ⟨i,dst,op,g⟩ s A=qhv ⟨i,dst,op,g⟩ A s (jy T cf i op A (evO s.env) s.h):=rfl
@[simp] theorem zgr (T cf ps es os i dst op g s rs A):qq2 T cf ps es os ⟨i,dst,op,g⟩ s rs A=onD T cf ps es os i A rs (qol T cf ⟨i,dst,op,g⟩ s A):=rfl
@[simp] theorem q7g (T cf ps es i dst op os s rs):Qx T cf ps es (⟨i,dst,op,none⟩ :: os) s rs=qq2 T cf ps es os ⟨i,dst,op,none⟩ s rs (o8 op (evO s.env) s.h):=rfl
noncomputable def qw4 (T:Tab) (cf:CF) (ps:List (Nat × Nat)) (es:List Nat) (os:List AIns) (o:AIns) (s:RS) (rs:List Rec) (b:Option Bool):Option (RR × List Rec):=
 bnd b fun b=>sel b (qq2 T cf ps es os o s rs (o8 o.op (evO s.env) s.h)) (Qx T cf ps es os { env:=U7 s.env o.dst (.tup []),h:=s.h } ({ i:=o.i,rd:=[],wr:=[] } :: rs))
@[simp] theorem q7h (T cf ps es os i dst op g s rs):qw4 T cf ps es os ⟨i,dst,op,g⟩ s rs (some true)=qq2 T cf ps es os ⟨i,dst,op,g⟩ s rs (o8 op (evO s.env) s.h):=rfl
@[simp] theorem q37 (T cf ps es os i dst op g s rs):qw4 T cf ps es os ⟨i,dst,op,g⟩ s rs (some false)=Qx T cf ps es os { env:=U7 s.env dst (.tup []),h:=s.h } ({ i:=i,rd:=[],wr:=[] } :: rs):=rfl
@[simp] theorem zb8 (T cf ps es i dst op g os s rs):Qx T cf ps es (⟨i,dst,op,some g⟩ :: os) s rs=qw4 T cf ps es os ⟨i,dst,op,some g⟩ s rs (wanted s.env (some g)):=by
  show bnd (Qu T cf _ _ s) _=_;unfold Qu
  cases h:wanted s.env (some g) with
  | none=>rfl
  | some b=>cases b <;> rfl
@[simp] theorem zkb (T cf i op A ev h):jy T cf i op A ev h=if (D1 op == 3)=true then exec T cf i op ev (only A.contains h) else exec T cf i op ev h:=by
  show sel (K4 op) _ _=_;unfold K4
  cases (D1 op == 3) <;> rfl
attribute [simp] D1 o8 D0 ZV okW qns Loc.isOf Loc.oldOr
@[simp] theorem zcf (i):Qy [] i=none:=rfl
@[simp] theorem q7n (j rd wr ch rs i):Qy ({ i:=j,rd:=rd,wr:=wr,ch:=ch } :: rs) i=if (j == i)=true then some { i:=j,rd:=rd,wr:=wr,ch:=ch } else Qy rs i:=by
  unfold Qy;rw[List.find?_cons]
  split <;> simp_all
def qqu (a b:Option Rec):Bool:=match a,b with
 | some a,some b=>qns a b
 | _,_=>true
@[simp] theorem zfc (a b):qqu (some a) (some b)=qns a b:=rfl
@[simp] theorem zfd (b):qqu b none=true:=by cases b <;> rfl
@[simp] theorem q4l (rs):kY [] rs=true:=rfl
@[simp] theorem q1r (i j ps rs):kY ((i,j) :: ps) rs=(qqu (Qy rs i) (Qy rs j) && kY ps rs):=rfl
@[simp] theorem zck (rs i):WH [] rs i=true:=rfl
def q4k (i a:Nat) (o:Option Rec):Bool:=onO o true fun r=>r.wr.all (·.isOf a)
@[simp] theorem q7w (i a r):q4k i a (some r)=r.wr.all (·.isOf a):=rfl
@[simp] theorem q7x (a b ps rs i):WH ((a,b) :: ps) rs i=(sel (b == i) (q4k i a (Qy rs a)) true && WH ps rs i):=rfl
def qxh (o:Option (List V × List Obj × List Loc)):List Loc:=onO o [] fun x=>x.2.2
@[simp] theorem q4d (a b c):qxh (some (a,b,c))=c:=rfl
@[simp] theorem zg3 (h vs):qq7 h vs=qxh (XD [] vs h):=rfl
def zkk (ts:List Nat) (o:Option (List V × List Obj × List Loc)):Option St:=bnd o fun x=>some { env:=ts.zip x.1,heap:=x.2.1 }
@[simp] theorem zeq (ts vs os m):zkk ts (some (vs,os,m))=some { env:=ts.zip vs,heap:=os }:=rfl
@[simp] theorem endR_eq (pin keep env h):wb pin keep env h=zkk (zK env keep).1 (XD (Kj pin) (zK env keep).2 h):=rfl
def qx5 (vs:List V) (o:Option (List Obj × List Loc)):Option (List V × List Obj × List Loc):=bnd o fun r=>some (vs,r.1,r.2)
@[simp] theorem q75 (vs os m):qx5 vs (some (os,m))=some (vs,os,m):=rfl
def q4p (h:Loc→Option Obj) (x:List V × List Loc):Option (List V × List Obj × List Loc):=qx5 x.1 (C8 h 64 0 x.2)
@[simp] theorem zh3 (h vs m):q4p h (vs,m)=qx5 vs (C8 h 64 0 m):=rfl
@[simp] theorem norm_eq (pin vs h):XD pin vs h=q4p h (qo (fun l=>(h l).isSome) vs pin):=rfl
def qm4 (o:Obj) (x:Option (List Obj × List Loc)):Option (List Obj × List Loc):=bnd x fun r=>some (o :: r.1,r.2)
@[simp] theorem zav (o os m):qm4 o (some (os,m))=some (o :: os,m):=rfl
def qv1 (h:Loc→Option Obj) (f j:Nat) (x:Obj × List Loc):Option (List Obj × List Loc):=qm4 x.1 (C8 h f (j + 1) x.2)
@[simp] theorem zft (h f j o m):qv1 h f j (o,m)=qm4 o (C8 h f (j + 1) m):=rfl
def qke (h:Loc→Option Obj) (f j:Nat) (m:List Loc) (o:Option Obj):Option (List Obj × List Loc):=match o with
 | none=>qm4 .dead (C8 h f (j + 1) m)
 | some o=>qv1 h f j (o.ren (fun l=>(h l).isSome) m)
@[simp] theorem q59 (h f j m):qke h f j m none=qm4 .dead (C8 h f (j + 1) m):=rfl
@[simp] theorem q58 (h f j m o):qke h f j m (some o)=qv1 h f j (o.ren (fun l=>(h l).isSome) m):=rfl
def qv2 (h:Loc→Option Obj) (f j:Nat) (m:List Loc) (o:Option Loc):Option (List Obj × List Loc):=match o with
 | none=>some ([],m)
 | some l=>qke h f j m (h l)
@[simp] theorem q6b (h f j m):qv2 h f j m none=some ([],m):=rfl
@[simp] theorem q6a (h f j m l):qv2 h f j m (some l)=qke h f j m (h l):=rfl
@[simp] theorem q3w (h f j m):C8 h (f + 1) j m=qv2 h f j m m[j]?:=by
  rw[C8]
  cases m[j]? with
  | none=>rfl
  | some l=>show onO (h l) _ _=qke h f j m (h l); cases h l <;> rfl
def qlq (l:Loc) (m:List Loc) (o:Option Nat):Option Nat × List Loc:=match o with
 | none=>(some m.length,m++[l])
 | some k=>(some k,m)
@[simp] theorem q8d (l m):qlq l m none=(some m.length,m++[l]):=rfl
@[simp] theorem q8c (l m k):qlq l m (some k)=(some k,m):=rfl
def q4r (l:Loc) (m:List Loc) (b:Bool):Option Nat × List Loc:=match b with
 | true=>qlq l m (idx m l)
 | false=>(none,m)
@[simp] theorem q8e (l m):q4r l m true=qlq l m (idx m l):=rfl
@[simp] theorem zct (al l m):R9 al l m=q4r l m (al l):=by
  unfold R9
  cases al l with
  | false=>rfl
  | true=>show onO (idx m l) _ _=qlq l m (idx m l); cases idx m l <;> rfl
@[simp] theorem q8b (k m) (f:Nat→V):named (some k,m) f=(f k,m):=rfl
def qbc {α β:Type} (f:α→β) (x:α × List Loc):β × List Loc:=(f x.1,x.2)
@[simp] theorem zfs {α β:Type} (f:α→β) (a m):qbc f (a,m)=(f a,m):=rfl
section
variable (al:Loc→Bool) (m:List Loc)
@[simp] theorem ren_d (x):V.ren al (.d x) m=(.d x,m):=rfl
@[simp] theorem ren_ref (l sz o n):V.ren al (.ref l sz o n) m=named (R9 al l m) fun k=>.ref (.b k) sz o n:=rfl
@[simp] theorem ren_ptr (l e j):V.ren al (.ptr l e j) m=named (R9 al l m) fun k=>.ptr (.b k) e j:=rfl
@[simp] theorem zgw (l):V.ren al (.map l) m=named (R9 al l m) fun k=>.map (.b k):=rfl
@[simp] theorem zcc (l):V.ren al (.iter l) m=named (R9 al l m) fun k=>.iter (.b k):=rfl
@[simp] theorem ren_agg (cs):V.ren al (.agg cs) m=qbc .agg (qo al cs m):=rfl
@[simp] theorem zcd (t x):V.ren al (.iface t x) m=qbc (.iface t) (V.ren al x m):=rfl
@[simp] theorem ren_fn (f cs):V.ren al (.fn f cs) m=qbc (.fn f) (qo al cs m):=rfl
@[simp] theorem ren_tup (cs):V.ren al (.tup cs) m=qbc .tup (qo al cs m):=rfl
def qxa (v:V) (x:List V × List Loc):List V × List Loc:=(v :: x.1,x.2)
@[simp] theorem zgu (v vs):qxa v (vs,m)=(v :: vs,m):=rfl
def q39 (vs:List V) (x:V × List Loc):List V × List Loc:=qxa x.1 (qo al vs x.2)
@[simp] theorem zgv (vs v):q39 al vs (v,m)=qxa v (qo al vs m):=rfl
@[simp] theorem zgs:qo al [] m=([],m):=rfl
@[simp] theorem zcb (v vs):qo al (v :: vs) m=q39 al vs (V.ren al v m):=rfl
@[simp] theorem zce:kR al [] m=([],m):=rfl
@[simp] theorem ren_arr (xs sz):Obj.ren al (.arr xs sz) m=qbc (fun xs=>.arr xs sz) (qo al xs m):=rfl
@[simp] theorem zgx (s p):Obj.ren al (.iter s p) m=(.iter s p,m):=rfl
@[simp] theorem ren_map (es):Obj.ren al (.map es) m=qbc .map (kR al es m):=rfl
@[simp] theorem wF (ds:List D):qo al (ds.map .d) m=(ds.map .d,m):=by induction ds <;> simp_all
end
noncomputable def j6 (T:Tab) (X:Exts) (pin:Nat) (a:ACode):Option (Ex × St)→Option (Ex × St)
 | some (.nrm,st)=>x5 T X pin a st
 | r=>r
def q5f (id:Nat) (o:Option St):Option (Ex × St):=bnd o fun st=>some (.exit id,st)
@[simp] theorem q91 (id st):q5f id (some st)=some (.exit id,st):=rfl
noncomputable def qxs (T:Tab) (X:Exts) (pin:Nat) (a b:ACode) (st:St) (o:Option V):Option (Ex × St):=qzr o (x5 T X pin a st) (x5 T X pin b st)
section
variable {T:Tab} {X:Exts} {pin:Nat}
@[simp] theorem q7t (a b st):qxs T X pin a b st (some (.d (.bool true)))=j6 T X pin a (some (.nrm,st)):=rfl
@[simp] theorem q4i (a b st):qxs T X pin a b st (some (.d (.bool false)))=j6 T X pin b (some (.nrm,st)):=rfl
@[simp] theorem q5s (a i st):j6 T X pin a (some (.exit i,st))=some (.exit i,st):=rfl
@[simp] theorem zax (a st):j6 T X pin a (some (.ret,st))=some (.ret,st):=rfl
@[simp] theorem zay (a v st):j6 T X pin a (some (.pan v,st))=some (.pan v,st):=rfl
variable [X.Mono]
@[simp] theorem zaw (x):j6 T X pin .skip x=x:=by
  cases x with
  | none=>rfl
  | some x=>obtain ⟨e,st⟩:=x; cases e <;> first | rfl | exact qqj
@[simp] theorem zew (a b x):j6 T X pin (.seq a b) x=j6 T X pin b (j6 T X pin a x):=by
  cases x with
  | none=>rfl
  | some x=>obtain ⟨e,st⟩:=x; cases e <;> first | rfl | exact qu0
@[simp] theorem q5r (a x):j6 T X pin (.scope a) x=j6 T X pin a x:=by
  cases x with
  | none=>rfl
  | some x=>obtain ⟨e,st⟩:=x; cases e <;> first | rfl | exact qm6
@[simp] theorem q28 (ops keep st):j6 T X pin (.region ops none keep) (some (.nrm,st))=q7l pin keep (qh4 T (d6 T X) ops (.go { env:=st.env,h:=j5 st.heap } [])):=YA
@[simp] theorem q0j (ops ps es keep st):j6 T X pin (.region ops (some (ps,es)) keep) (some (.nrm,st))=q4c ps pin keep (Qx T (d6 T X) ps es ops { env:=st.env,h:=j5 st.heap } []):=YA
@[simp] theorem za0 (c a b st):j6 T X pin (.cond c a b) (some (.nrm,st))=qxs T X pin a b st (evO st.env c):=qqm
@[simp] theorem q5t (id a st):j6 T X pin (.block id a) (some (.nrm,st))=Wr id (j6 T X pin a (some (.nrm,st))):=qm7
@[simp] theorem zaz (id keep st):j6 T X pin (.exit id keep) (some (.nrm,st))=q5f id (wb pin keep st.env (j5 st.heap)):=qql
@[simp] theorem zex (st):j6 T X pin .ret (some (.nrm,st))=some (.ret,st):=qu1
theorem d5 {keep a l} (hl:l = .loop keep a) (st):j6 T X pin l (some (.nrm,st))=j6 T X pin l (j6 T X pin a (q1w (wb pin keep st.env (j5 st.heap)))):=by
 subst hl;show x5 T X pin _ st=_;rw[qqk]
 cases wb pin keep st.env (j5 st.heap) with
 | none=>rfl
 | some st1=>
   show q64 (x5 T X pin a st1) _=j6 T X pin _ (x5 T X pin a st1)
   cases x5 T X pin a st1 with
   | none=>rfl
   | some x=>obtain ⟨e,st⟩:=x; cases e <;> rfl
def q22 (pin:Nat) (res:List (ARes × Bool)) (o:Option (Ex × St)):Option CRes:=zkl o (qz pin res)
@[simp] theorem zko (res st):q22 pin res (some (.nrm,st))=qz pin res st:=rfl
@[simp] theorem zkm (res st):q22 pin res (some (.ret,st))=qz pin res st:=rfl
@[simp] theorem zkn (res v st):q22 pin res (some (.pan v,st))=some (.pan v st.heap):=rfl
theorem c9 {f af vs heap} (hx:X.run f=none) (hf:T.funs f=some af) (hl:vs.length=af.np) :
 d6 T X f vs heap=q22 heap.length af.res (j6 T X heap.length af.code (some (.nrm,{ env:=(List.range af.np).zip vs,heap }))):=qu3 hx hf hl
end
def q9x (o:Option (List V × List Obj × List Loc)):Option CRes:=bnd o fun b=>some (.ret b.1 b.2.1)
@[simp] theorem zd5 (vs os m):q9x (some (vs,os,m))=some (.ret vs os):=rfl
def q9y (pin:Nat) (h:Loc→Option Obj) (o:Option (List V × List Loc)):Option CRes:=bnd o fun a=>
 if a.2.all (fun l=>match l with | .b k=>decide (pin≤k) | .n _ _=>false) then q9x (XD (Kj pin) a.1 (O9 h a.2)) else none
def zhh (pin:Nat):Loc→Bool
 | .b k=>decide (pin≤k)
 | .n _ _=>false
@[simp] theorem oldL_b (pin k):zhh pin (.b k)=decide (pin≤k):=rfl
@[simp] theorem zd6 (pin h vs fm):q9y pin h (some (vs,fm))=if fm.all (zhh pin) then q9x (XD (Kj pin) vs (O9 h fm)) else none:=rfl
def zjy (pin:Nat) (h:Loc→Option Obj) (o:Option (List (V × Bool))):Option CRes:=bnd o fun vs=>q9y pin h (F2 h vs)
@[simp] theorem zd7 (pin h vs):zjy pin h (some vs)=q9y pin h (F2 h vs):=rfl
@[simp] theorem zd4 (pin res env heap):qz pin res { env,heap } = zjy pin (j5 heap) (xG env (j5 heap) res):=rfl
def qar (w:Bool):Option V→Option Bool
 | some (.d (.bool b))=>some (b == w)
 | some (.tup [])=>some false
 | _=>none
@[simp] theorem q3u (env t w):wanted env (some (t,w))=qar w (A5 env t):=by
  unfold wanted qar
  split <;> split <;> simp_all
@[simp] theorem q0l (w b):qar w (some (.d (.bool b)))=some (b == w):=rfl
@[simp] theorem q3v (w):qar w (some (.tup []))=some false:=rfl
@[simp] theorem evO_t (env n):evO env (.t n)=A5 env n:=rfl
@[simp] theorem evO_c (env x):evO env (.c x)=some (.d x):=rfl
@[simp] theorem zcg (env t v):U7 env (some t) v=(t,v) :: env:=rfl
@[simp] theorem zch (env v):U7 env none v=env:=rfl
@[simp] theorem q5y (fm m i rs heap):YB fm m i (.ret rs heap) = .ok { v:=(Xg rs).mapL (N6 m i),rd:=fm++m,wr:=fm.map (·,none)++M1 m i 0 heap }:=rfl
@[simp] theorem q5z (fm m i v heap):YB fm m i (.pan v heap) = .pan { v:=v.mapL (N6 m i),rd:=fm++m,wr:=fm.map (·,none)++M1 m i 0 heap }:=rfl
@[simp] theorem zby (v):Xg [v]=v:=rfl
@[simp] theorem zbz:Xg [] = .tup []:=rfl
@[simp] theorem q6f (v w l):Xg (v :: w :: l) = .tup (v :: w :: l):=rfl
@[simp] theorem zjs (cs):S1 (.d (.agg cs))=cs.all XS:=rfl
@[simp] theorem fitV_sl (xs):S1 (.d (.sl xs))=decide (xs.length * wl xs≤w8):=rfl
@[simp] theorem zjm (s):S1 (.d (.str s))=decide (s.length≤long):=rfl
@[simp] theorem zjp (k n):S1 (.d (.int k n))=true:=rfl
@[simp] theorem zd0 (b):S1 (.d (.bool b))=true:=rfl
@[simp] theorem q9w (t x):S1 (.d (.iface t x))=true:=rfl
@[simp] theorem zjr (x):S1 (.d (.box x))=true:=rfl
@[simp] theorem fitV_fn (f x):S1 (.d (.fn f x))=true:=rfl
@[simp] theorem zjq (f x):S1 (.fn f x)=true:=rfl
@[simp] theorem zdz:S1 (.d .nilp)=true:=rfl
@[simp] theorem zjo (l e j):S1 (.ptr l e j)=true:=rfl
@[simp] theorem zjn (l sz o n):S1 (.ref l sz o n)=decide (n * sz.w≤w8):=rfl
@[simp] theorem fitC_sl (xs):XS (.sl xs)=decide (xs.length * wl xs≤w8):=rfl
@[simp] theorem zjw (k n):XS (.int k n)=true:=rfl
@[simp] theorem zd3 (b):XS (.bool b)=true:=rfl
@[simp] theorem zd2:XS .nili=true:=rfl
@[simp] theorem zcr (k a):kS (.d (.int k a))=if 0≤a then some a.toNat else none:=rfl
@[simp] theorem q8p:lenOf (.d .nils)=some 0:=rfl
@[simp] theorem q8x:kg (.d .nils)=false:=rfl
@[simp] theorem zdy:S1 (.d .nils)=true:=rfl
@[simp] theorem ziv (xs):lenOf (.d (.sl xs))=some xs.length:=rfl
@[simp] theorem zc9 (s):lenOf (.d (.str s))=some s.length:=rfl
@[simp] theorem zda (l sz o n):lenOf (.ref l sz o n)=some n:=rfl
@[simp] theorem zkp (h xs):F7 h (.d (.sl xs))=some (xs.map .d,[]):=rfl
@[simp] theorem zer (h s):F7 h (.d (.str s))=some (s.map (fun b=>.d (.int .u8 b.toNat)),[]):=rfl
def qzk (o:Option Obj) (l:Loc) (off len:Nat):Option (List V × List Loc):=
 match o with
 | some (.arr xs _)=>if off + len≤xs.length then some ((xs.drop off).take len,[l]) else none
 | _=>none
@[simp] theorem zaf (xs sz l off len):qzk (some (.arr xs sz)) l off len=if off + len≤xs.length then some ((xs.drop off).take len,[l]) else none:=rfl
@[simp] theorem zes (h l sz off len):F7 h (.ref l sz off len)=qzk (h l) l off len:=rfl
@[simp] theorem bin_add (k k' a b):bin .add (.d (.int k a)) (.d (.int k' b))=if k=k' then J8 .add k a b else none:=rfl
@[simp] theorem bin_sub (k k' a b):bin .sub (.d (.int k a)) (.d (.int k' b))=if k=k' then J8 .sub k a b else none:=rfl
@[simp] theorem bin_mul (k k' a b):bin .mul (.d (.int k a)) (.d (.int k' b))=if k=k' then J8 .mul k a b else none:=rfl
@[simp] theorem bin_quo (k k' a b):bin .quo (.d (.int k a)) (.d (.int k' b))=if k=k' then J8 .quo k a b else none:=rfl
@[simp] theorem bin_rem (k k' a b):bin .rem (.d (.int k a)) (.d (.int k' b))=if k=k' then J8 .rem k a b else none:=rfl
@[simp] theorem bin_or (k k' a b):bin .or (.d (.int k a)) (.d (.int k' b))=if k=k' then J8 .or k a b else none:=rfl
@[simp] theorem bin_eql (k k' a b):bin .eql (.d (.int k a)) (.d (.int k' b))=if k=k' then J8 .eql k a b else none:=rfl
@[simp] theorem bin_neq (k k' a b):bin .neq (.d (.int k a)) (.d (.int k' b))=if k=k' then J8 .neq k a b else none:=rfl
@[simp] theorem bin_lss (k k' a b):bin .lss (.d (.int k a)) (.d (.int k' b))=if k=k' then J8 .lss k a b else none:=rfl
@[simp] theorem bin_leq (k k' a b):bin .leq (.d (.int k a)) (.d (.int k' b))=if k=k' then J8 .leq k a b else none:=rfl
@[simp] theorem bin_gtr (k k' a b):bin .gtr (.d (.int k a)) (.d (.int k' b))=if k=k' then J8 .gtr k a b else none:=rfl
@[simp] theorem bin_geq (k k' a b):bin .geq (.d (.int k a)) (.d (.int k' b))=if k=k' then J8 .geq k a b else none:=rfl
@[simp] theorem bin_shl (k k' a b):bin .shl (.d (.int k a)) (.d (.int k' b))=if b < 0 then none else some (.int k (k.wrap (a * 2 ^ (min b.toNat k.bits)))):=rfl
@[simp] theorem bin_shr (k k' a b):bin .shr (.d (.int k a)) (.d (.int k' b))=if b < 0 then none else some (.int k (a.fdiv (2 ^ (min b.toNat k.bits)))):=rfl
@[simp] theorem bin_str (op a b):bin op (.d (.str a)) (.d (.str b))=YJ op a b:=rfl
@[simp] theorem q6p (a b):YJ .add a b=if a.length + b.length≤long then some (.str (a++b)) else none:=rfl
@[simp] theorem q6o (a b):YJ .eql a b=some (.bool (a == b)):=rfl
@[simp] theorem q6n (a b):YJ .neq a b=some (.bool (!(a == b))):=rfl
@[simp] theorem un_not (b):un .not (.d (.bool b))=some (.bool (!b)):=rfl
@[simp] theorem un_neg (k a):un .neg (.d (.int k a))=some (.int k (k.wrap (0 - a))):=rfl
section
variable (k:IntKind) (a b:Int)
@[simp] theorem q9b:J8 .add k a b=some (.int k (k.wrap (a + b))):=rfl
@[simp] theorem q81:J8 .sub k a b=some (.int k (k.wrap (a - b))):=rfl
@[simp] theorem q85:J8 .mul k a b=some (.int k (k.wrap (a * b))):=rfl
@[simp] theorem q83:J8 .quo k a b=if b=0 then none else some (.int k (k.wrap (a.tdiv b))):=rfl
@[simp] theorem q82:J8 .rem k a b=if b=0 then none else some (.int k (a.tmod b)):=rfl
def orK (k:IntKind) (a b:Int):Int:=k.wrap (BitVec.ofInt k.bits a ||| BitVec.ofInt k.bits b).toNat
@[simp] theorem zdk:J8 .or k a b=some (.int k (orK k a b)):=rfl
@[simp] theorem q9a:J8 .eql k a b=some (.bool (a == b)):=rfl
@[simp] theorem q84:J8 .neq k a b=some (.bool (a != b)):=rfl
@[simp] theorem q86:J8 .lss k a b=some (.bool (decide (a < b))):=rfl
@[simp] theorem q87:J8 .leq k a b=some (.bool (decide (a≤b))):=rfl
@[simp] theorem q88:J8 .gtr k a b=some (.bool (decide (b < a))):=rfl
@[simp] theorem q89:J8 .geq k a b=some (.bool (decide (b≤a))):=rfl
end
@[simp] theorem ze3 (cs):V.cells (.d (.agg cs))=cs.map .d:=rfl
@[simp] theorem za6 (cs):V.cells (.agg cs)=cs:=rfl
@[simp] theorem ze2 (k n):V.cells (.d (.int k n))=[.d (.int k n)]:=rfl
@[simp] theorem za5 (b):V.cells (.d (.bool b))=[.d (.bool b)]:=rfl
@[simp] theorem zey (b):V.cells (.d (.str b))=[.d (.str b)]:=rfl
@[simp] theorem zkx (b):V.cells (.d (.sl b))=[.d (.sl b)]:=rfl
@[simp] theorem za4:V.cells (.d .nili)=[.d .nili]:=rfl
@[simp] theorem zez (l sz o n):V.cells (.ref l sz o n)=[.ref l sz o n]:=rfl
@[simp] theorem ze0 (l e j):V.cells (.ptr l e j)=[.ptr l e j]:=rfl
@[simp] theorem ze1 (l):V.cells (.map l)=[.map l]:=rfl
@[simp] theorem zat (cs):D.cells (.agg cs)=cs:=rfl
@[simp] theorem zas (k n):D.cells (.int k n)=[.int k n]:=rfl
@[simp] theorem zar (b):D.cells (.str b)=[.str b]:=rfl
@[simp] theorem zet (b):D.cells (.sl b)=[.sl b]:=rfl
@[simp] theorem q5p:D.cells .nilp=[.nilp]:=rfl
@[simp] theorem q5q:D.cells .nili=[.nili]:=rfl
@[simp] theorem zc4 (h n cs):qw h n true (.d (.box (.agg cs)))=if cs.length=n then val (.d (.agg cs)) else none:=rfl
@[simp] theorem zc3 (h n k a):qw h n false (.d (.box (.int k a)))=val (.d (.int k a)):=rfl
@[simp] theorem zc1 (h n b):qw h n false (.d (.box (.str b)))=val (.d (.str b)):=rfl
@[simp] theorem ziq (h n b):qw h n false (.d (.box (.sl b)))=val (.d (.sl b)):=rfl
@[simp] theorem q4z (h n t b):qw h n false (.d (.box (.iface t b)))=val (.d (.iface t b)):=rfl
def ldZ (l:Loc) (o:Option V):Option R:=o.map fun v=>.ok { v,rd:=[l] }
@[simp] theorem ziy (l v):ldZ l (some v)=some (.ok { v,rd:=[l] }):=rfl
def ldY (l:Loc) (n:Nat) (ag:Bool) (j:Nat) (o:Option V):Option R:=match o with
 | none=>none
 | some v=>ldZ l (part v j n ag)
@[simp] theorem ziz (l n ag j v):ldY l n ag j (some v)=ldZ l (part v j n ag):=rfl
def qyp (o:Option Obj) (l:Loc) (e j n:Nat) (ag:Bool):Option R:=
 match o with
 | some (.arr xs _)=>ldY l n ag j xs[e]?
 | _=>none
@[simp] theorem zc5 (xs sz l e j n ag):qyp (some (.arr xs sz)) l e j n ag=ldY l n ag j xs[e]?:=rfl
@[simp] theorem zc2 (h n ag l e j):qw h n ag (.ptr l e j)=qyp (h l) l e j n ag:=by
  simp only[qw,qyp]
  cases h l with
  | none=>rfl
  | some o=>cases o with
    | arr xs sz=>simp only; cases xs[e]? <;> rfl
    | _=>rfl
def stZ (l:Loc) (e:Nat) (sz:W) (xs:List V) (o:Option V):Option R:=o.map fun w=>.ok { v:=.tup [],rd:=[l],wr:=[(l,some (.arr (xs.set e w) sz))] }
@[simp] theorem zf9 (l e sz xs w):stZ l e sz xs (some w)=some (.ok { v:=.tup [],rd:=[l],wr:=[(l,some (.arr (xs.set e w) sz))] }):=rfl
def stY (l:Loc) (e n j:Nat) (sz:W) (xs:List V) (v:V) (o:Option V):Option R:=match o with
 | none=>none
 | some w=>if v.cells.length=n then stZ l e sz xs (zO w j v) else none
@[simp] theorem zga (l e n j sz xs v w):stY l e n j sz xs v (some w)=if v.cells.length=n then stZ l e sz xs (zO w j v) else none:=rfl
def qoi (o:Option Obj) (l:Loc) (e j n:Nat) (v:V):Option R:=
 match o with
 | some (.arr xs sz)=>stY l e n j sz xs v xs[e]?
 | _=>none
@[simp] theorem q6r (xs sz l e j n v):qoi (some (.arr xs sz)) l e j n v=stY l e n j sz xs v xs[e]?:=rfl
@[simp] theorem q6q (h n l e j v):QZ h n (.ptr l e j) v=qoi (h l) l e j n v:=by
  simp only[QZ,qoi]
  cases h l with
  | none=>rfl
  | some o=>cases o with
    | arr xs sz=>simp only; cases xs[e]? <;> rfl
    | _=>rfl
@[simp] theorem q60 (s lo hi):Kb none (.d (.str s)) lo hi=if lo≤hi then (if hi≤s.length then some (.d (.str ((s.drop lo).take (hi - lo)))) else none) else none:=rfl
@[simp] theorem zb6 (n s lo hi):Kb (some n) (.d (.sl s)) lo hi=if lo≤hi then (if hi≤s.length∧s.all (fun y=>y.cells.length == n.c)=true then some (.d (.sl ((s.drop lo).take (hi - lo)))) else none) else none:=rfl
@[simp] theorem q61 (n l sz off len lo hi):Kb (some n) (.ref l sz off len) lo hi=if lo≤hi then (if hi≤len∧sz=n then (if lo=hi then some (.d (.sl [])) else some (.ref l sz (off + lo) (hi - lo))) else none) else none:=rfl
@[simp] theorem zg9 (v off n):part v off n true=if off + n≤v.cells.length then some (wJ ((v.cells.drop off).take n)) else none:=rfl
@[simp] theorem zg8 (v off n):part v off n false=v.cells[off]?:=rfl
@[simp] theorem isAgg_d (cs):isAgg (.d (.agg cs))=true:=rfl
def qvf (l:List V) (o:Option (List D)):V:=match o with
 | some ds=>.d (.agg ds)
 | none=>.agg l
@[simp] theorem zfi (l ds):qvf l (some ds) = .d (.agg ds):=rfl
@[simp] theorem zfj (l):qvf l none = .agg l:=rfl
@[simp] theorem zig (l):wJ l=qvf l (qE l):=rfl
@[simp] theorem zlg:qE []=some []:=rfl
def zbk (x:D) (o:Option (List D)):Option (List D):=o.map (x :: ·)
@[simp] theorem zfg (x ds):zbk x (some ds)=some (x :: ds):=rfl
@[simp] theorem zfh (x):zbk x none=none:=rfl
@[simp] theorem zff (x l):qE (.d x :: l)=zbk x (qE l):=rfl
@[simp] theorem zfe (v l):qE (.map v :: l)=none:=rfl
@[simp] theorem zle (a sz o n l):qE (.ref a sz o n :: l)=none:=rfl
@[simp] theorem zlf (a e j l):qE (.ptr a e j :: l)=none:=rfl
@[simp] theorem zdl (t x):S8 (.d (.iface t x))=some (t,.d x):=rfl
@[simp] theorem fnOf_d (f cap):qew (.d (.fn f cap))=some (f,cap.map .d):=rfl
@[simp] theorem fnOf_v (f cap):qew (.fn f cap)=some (f,cap):=rfl
@[simp] theorem zcv (t x):Ju t (.d x) = .d (.iface t x):=rfl
@[simp] theorem zjh (f):ju f []=some ([],[]):=rfl
@[simp] theorem frz_d (h k x):frz h k (.d x)=some (x,[]):=by cases k <;> rfl
@[simp] theorem qme (h k) (ds:List D):ju (frz h k) (ds.map .d)=some (ds,[]):=by induction ds <;> simp_all [ju]
def q9o (l:Loc) (sz:W) (o:Option (List D × List Loc)):Option (D × List Loc):=o.bind fun (ds,m)=>if wl ds≤sz.w then some (.sl ds,l :: m) else none
@[simp] theorem zds (l sz ds m):q9o l sz (some (ds,m))=if wl ds≤sz.w then some (.sl ds,l :: m) else none:=rfl
def q9t (l:Loc) (o:Option (D × List Loc)):Option (D × List Loc):=o.map fun (x,m)=>(.box x,l :: m)
@[simp] theorem zdx (l x m):q9t l (some (x,m))=some (.box x,l :: m):=rfl
def q9p (h:Loc→Option Obj) (k:Nat) (l:Loc) (o:Option V):Option (D × List Loc):=match o with
 | none=>none
 | some v=>q9t l (frz h k v)
@[simp] theorem zdt (h k l v):q9p h k l (some v)=q9t l (frz h k v):=rfl
def q49 (x:Option (D × List Loc)) (y:Option (List D × List Loc)):Option (List D × List Loc):=match x,y with
    | some (x,m),some (xs,m')=>some (x :: xs,m++m')
    | _,_=>none
@[simp] theorem q9s (x m xs m'):q49 (some (x,m)) (some (xs,m'))=some (x :: xs,m++m'):=rfl
@[simp] theorem zdu (f v vs):ju f (v :: vs)=q49 (f v) (ju f vs):=rfl
def zjk (o:Option (List D × List Loc)):Option (D × List Loc):=o.map fun (ds,m)=>(.agg ds,m)
@[simp] theorem zdw (ds m):zjk (some (ds,m))=some (.agg ds,m):=rfl
@[simp] theorem zjc (h k cs):frz h (k + 1) (.agg cs)=zjk (ju (frz h k) cs):=rfl
def zjj (t:TypeId) (o:Option (D × List Loc)):Option (D × List Loc):=o.map fun (x,m)=>(.iface t x,m)
@[simp] theorem zdv (t x m):zjj t (some (x,m))=some (.iface t x,m):=rfl
@[simp] theorem zdr (h k t v):frz h (k + 1) (.iface t v)=zjj t (frz h k v):=rfl
def q9r (h:Loc→Option Obj) (k:Nat) (l:Loc) (s:W) (off len:Nat):Option Obj→Option (D × List Loc)
 | some (.arr xs _)=>if off + len≤xs.length then q9o l s (ju (frz h k) ((xs.drop off).take len)) else none
 | some (.gl cs n)=>if off=0∧len=cs.length∧n.c=1∧wl (cs.map GC.look)≤s.w then some (.sl (cs.map GC.look),[l]) else none
 | some (.grw xs _)=>if off=0∧len=xs.length∧wl xs≤s.w then some (.sl xs,[l]) else none
 | _=>none
@[simp] theorem frzO_gl (h k l s off len cs n):q9r h k l s off len (some (.gl cs n))=if off=0∧len=cs.length∧n.c=1∧wl (cs.map GC.look)≤s.w then some (.sl (cs.map GC.look),[l]) else none:=rfl
@[simp] theorem zje (h k l s off len xs sz):q9r h k l s off len (some (.arr xs sz))=if off + len≤xs.length then q9o l s (ju (frz h k) ((xs.drop off).take len)) else none:=rfl
@[simp] theorem frz_ref (h k l sz off len):frz h (k + 1) (.ref l sz off len)=q9r h k l sz off len (h l):=rfl
def q9q (h:Loc→Option Obj) (k:Nat) (l:Loc) (e j:Nat):Option Obj→Option (D × List Loc)
 | some (.arr xs _)=>if j=0 then q9p h k l xs[e]? else none
 | _=>none
@[simp] theorem zjd (h k l e j xs sz):q9q h k l e j (some (.arr xs sz))=if j=0 then q9p h k l xs[e]? else none:=rfl
@[simp] theorem frz_ptr (h k l e j):frz h (k + 1) (.ptr l e j)=q9q h k l e j (h l):=by
  simp only[frz,q9q]
  cases h l with
  | none=>rfl
  | some o=>cases o with
    | arr xs sz=>show (if j=0 then _ else none)=(if j=0 then _ else none); split <;> first | rfl | (cases xs[e]? <;> rfl)
    | _=>rfl
def zjg (l:Loc):Option Obj→Option (D × List Loc)
 | some (.map _)=>some (.nilm,[l])
 | _=>none
@[simp] theorem zjf (l es):zjg l (some (.map es))=some (.nilm,[l]):=rfl
@[simp] theorem frz_map (h k l):frz h (k + 1) (.map l)=zjg l (h l):=rfl
@[simp] theorem q8t (s es):Qb true (.str s) es=es.all (fun e=>jw true e.1):=rfl
@[simp] theorem q8u (n es):Qb false (.int .i64 n) es=es.all (fun e=>jw false e.1):=rfl
@[simp] theorem q8z (k n):qix (.d (.int k n))=false:=rfl
@[simp] theorem q5a (h):F2 h []=some ([],[]):=rfl
def q5b (x:Option (D × List Loc)) (y:Option (List V × List Loc)):Option (List V × List Loc):=match x,y with
    | some (x,m),some (vs,m')=>some (.d x :: vs,m++m')
    | _,_=>none
@[simp] theorem q9u (x m vs m'):q5b (some (x,m)) (some (vs,m'))=some (.d x :: vs,m++m'):=rfl
def q5c (v:V) (y:Option (List V × List Loc)):Option (List V × List Loc):=match y with
    | some (vs,m')=>some (v :: vs,m')
    | _=>none
@[simp] theorem q9v (v vs m'):q5c v (some (vs,m'))=some (v :: vs,m'):=rfl
@[simp] theorem q2t (h v l):F2 h ((v,true) :: l)=q5b (frz h 24 v) (F2 h l):=by
  simp only[F2,if_true]
  cases frz h 24 v with
  | none=>rfl
  | some x=>cases F2 h l <;> rfl
@[simp] theorem q0g (h v l):F2 h ((v,false) :: l)=q5c v (F2 h l):=by
  simp only[F2]
  cases F2 h l with
  | none=>rfl
  | some x=>rfl
@[simp] theorem q3t (h:Loc→Option Obj):O9 h []=h:=by funext l; simp[O9]
@[simp] theorem q72 (l):j5 [] l=none:=by cases l <;> rfl
def qpl:Option Obj→Option Obj
 | some .dead=>none
 | o=>o
@[simp] theorem zco:qpl (some .dead)=none:=rfl
@[simp] theorem zh1 (xs sz):qpl (some (.arr xs sz))=some (.arr xs sz):=rfl
@[simp] theorem zcn (s p):qpl (some (.iter s p))=some (.iter s p):=rfl
@[simp] theorem zh0 (es):qpl (some (.map es))=some (.map es):=rfl
@[simp] theorem zhz (os n):j5 os (.b n)=qpl os[n]?:=by
  unfold j5 qpl
  split <;> split <;> simp_all
@[simp] theorem zhy (os i k):j5 os (.n i k)=none:=rfl
@[simp] theorem zcz (f xs sz):Obj.mapL f (.arr xs sz)=some (.arr (X5 f xs) sz):=rfl
@[simp] theorem zcy (f es):Obj.mapL f (.map es)=some (.map (ZW f es)):=rfl
@[simp] theorem q8i (f):Obj.mapL f .dead=none:=rfl
@[simp] theorem backL_b (m i k):N6 m i (.b k)=if k < m.length then m.getD k (.n i 0) else .n i (k - m.length):=rfl
@[simp] theorem zdc (env):zK env []=([],[]):=rfl
def q45 (t:Nat) (x:List Nat × List V) (o:Option V):List Nat × List V:=match o with
 | none=>x
 | some v=>(t :: x.1,v :: x.2)
@[simp] theorem q8w (t ts vs v):q45 t (ts,vs) (some v)=(t :: ts,v :: vs):=rfl
@[simp] theorem q8v (env t ks):zK env (t :: ks)=q45 t (zK env ks) (A5 env t):=by
  simp only[zK]
  cases A5 env t <;> rfl
@[simp] theorem zca (env h t):qbu env h (.tmp t)=A5 env t:=rfl
def q7k:Option R→Option V
 | some (.ok e)=>some e.v
 | _=>none
@[simp] theorem resC_ok (e):q7k (some (.ok e))=some e.v:=rfl
@[simp] theorem q7j (env h t n ag):qbu env h (.cell t n ag)=q7k (qyo h n ag (A5 env t)):=by
  simp only[qbu]
  cases A5 env t with
  | none=>rfl
  | some a=>
    show (match qw h n ag a with | some (.ok e)=>some e.v | _=>none)=q7k (qw h n ag a)
    cases qw h n ag a with
    | none=>rfl
    | some r=>cases r <;> rfl
@[simp] theorem q38 (env h):xG env h []=some []:=rfl
def q7i (fl:Bool) (v:Option V) (o:Option (List (V × Bool))):Option (List (V × Bool)):=match v,o with
 | some v,some vs=>some ((v,fl) :: vs)
 | _,_=>none
@[simp] theorem zb9 (fl v vs):q7i fl (some v) (some vs)=some ((v,fl) :: vs):=rfl
@[simp] theorem q1h (env h r fl l):xG env h ((r,fl) :: l)=q7i fl (qbu env h r) (xG env h l):=by
  simp only[xG]
  cases qbu env h r with
  | none=>rfl
  | some v=>cases xG env h l <;> rfl
@[simp] theorem zhf (i k v):kZ i k [] v=(v,[]):=rfl
section
variable (ev:Opnd→Option V)
@[simp] theorem evs_nil:evs ev []=some []:=rfl
@[simp] theorem zkc (x fl l):evs ev ((x,fl) :: l)=q7i fl (ev x) (evs ev l):=by
  simp only[evs]
  cases ev x with
  | none=>rfl
  | some v=>cases evs ev l <;> rfl
def zki (v:Option V) (o:Option (List V)):Option (List V):=match v,o with
 | some v,some vs=>some (v :: vs)
 | _,_=>none
@[simp] theorem zeo (v vs):zki (some v) (some vs)=some (v :: vs):=rfl
@[simp] theorem evl_nil:evl ev []=some []:=rfl
@[simp] theorem zkh (x l):evl ev (x :: l)=zki (ev x) (evl ev l):=rfl
def zkg (a b:Nat) (v:Option V) (o:Option (List (Nat × Nat × V))):Option (List (Nat × Nat × V)):=match v,o with
 | some v,some vs=>some ((a,b,v) :: vs)
 | _,_=>none
@[simp] theorem zen (a b v vs):zkg a b (some v) (some vs)=some ((a,b,v) :: vs):=rfl
@[simp] theorem evp_nil:evp ev []=some []:=rfl
@[simp] theorem zkf (a b x l):evp ev ((a,b,x) :: l)=zkg a b (ev x) (evp ev l):=rfl
def zke (a:Nat) (v:Option V) (o:Option (List (Nat × V))):Option (List (Nat × V)):=match v,o with
 | some v,some vs=>some ((a,v) :: vs)
 | _,_=>none
@[simp] theorem zem (a v vs):zke a (some v) (some vs)=some ((a,v) :: vs):=rfl
@[simp] theorem evq_nil:evq ev []=some []:=rfl
@[simp] theorem zkd (a x l):evq ev ((a,x) :: l)=zke a (ev x) (evq ev l):=rfl
end
def q6e (h:Loc→Option Obj) (l:Loc) (o:Option Obj):Loc→Option Obj:=fun l'=>if l'=l then o else h l'
@[simp] theorem zk9 (h):j8 h []=h:=rfl
@[simp] theorem zla (h l o ws):j8 h ((l,o) :: ws)=j8 (q6e h l o) ws:=rfl
@[simp] theorem updL_b (h l o n):q6e h l o (.b n)=if Loc.b n=l then o else h (.b n):=rfl
@[simp] theorem updL_n (h l o i k):q6e h l o (.n i k)=if Loc.n i k=l then o else h (.n i k):=rfl
@[simp] theorem objO_gl (cs n):qpl (some (.gl cs n))=some (.gl cs n):=rfl
@[simp] theorem mapL_gl (f cs n):Obj.mapL f (.gl cs n)=some (.gl cs n):=rfl
@[simp] theorem ren_gl (al cs n m):Obj.ren al (.gl cs n) m=(.gl cs n,m):=rfl
attribute [simp] A5 Kj V.mapL X5 ZW M1 idx jZ wH xF
section
variable {T:Tab} {X:Exts} {cf:CF} {i pin:Nat} {ev:Opnd→Option V} {h:Loc→Option Obj} [X.Mono]
end
end Go.Rf
