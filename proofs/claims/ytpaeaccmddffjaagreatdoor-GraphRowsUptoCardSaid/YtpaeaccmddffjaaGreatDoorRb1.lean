/- Parts of the proof. -/
import Derived.Orders
import Derived.Recover
import Derived.RowKit3
set_option linter.all false
namespace Go.Rf
inductive Loc where
 | b (n:Nat)
 | n (i k:Nat)
 deriving DecidableEq,Repr,Inhabited
structure W where
 c:Nat
 w:Nat
 deriving DecidableEq,Repr,Inhabited
inductive D where
 | bool (b:Bool)
 | int (k:IntKind) (n:Int)
 | str (s:List UInt8)
 | agg (cs:List D)
 | iface (t:TypeId) (x:D)
 | sl (xs:List D)
 | box (x:D)
 | fn (f:FuncId) (cap:List D)
 | nilp
 | nili
 | nilf
 | nilm
 | nils
 deriving Inhabited
inductive V where
 | d (x:D)
 | ref (l:Loc) (sz:W) (off len:Nat)
 | ptr (l:Loc) (e j:Nat)
 | agg (cs:List V)
 | iface (t:TypeId) (x:V)
 | fn (f:FuncId) (cap:List V)
 | tup (vs:List V)
 | map (l:Loc)
 | iter (l:Loc)
 | junk
 deriving Inhabited
inductive GC where
 | g (xs:List D)
 | d (x:D)
 deriving Inhabited
inductive Obj where
 | arr (xs:List V) (sz:W)
 | map (es:List (D × V))
 | iter (s:List UInt8) (pos:Nat)
 | gl (cs:List GC) (sz:W)
 | grw (xs:List D) (sz:W)
 | tr (rem:List (List D × Bool))
 | dead
 deriving Inhabited
def GC.data:GC→D
 | .g xs=>.sl xs
 | .d x=>x
def GC.look:GC→D
 | .g xs=>.sl xs
 | .d .nils=>.sl []
 | .d x=>x
inductive Opnd where
 | t (n:Nat)
 | c (x:D)
 deriving Inhabited
inductive Cv where
 | int (k:IntKind)
 | rune
 | b2s
 deriving Inhabited
inductive AOp where
 | mv (x:Opnd)
 | own (n:W)
 | pick (c a b:Opnd)
 | alloc (z:D) (own:List (Nat × W))
 | allocT (t:TypeId) (z:D) (own:List (Nat × W))
 | box (n:Nat) (x:Opnd)
 | build (z:D) (parts:List (Nat × Nat × Opnd)) (own:List (Nat × W))
 | buildSl (n:W) (z:D) (len:Nat) (parts:List (Nat × Opnd))
 | load (n:Nat) (ag:Bool) (x:Opnd)
 | store (n:Nat) (x y:Opnd)
 | nilCk (x:Opnd)
 | bin (op:BinOp) (x y:Opnd)
 | un (op:UnOp) (x:Opnd)
 | isN (eq iface:Bool) (x:Opnd)
 | eqB (eq:Bool) (x y:Opnd)
 | conv (k:Cv) (x:Opnd)
 | mkI (t:TypeId) (x:Opnd)
 | mkF (f:FuncId) (cap:List Opnd)
 | mkSl (n:W) (z:D) (len cap:Opnd)
 | slice (n:Option W) (x:Opnd) (lo hi:Option Opnd)
 | fieldA (off n:Nat) (ag:Bool) (x:Opnd)
 | field (off n:Nat) (ag:Bool) (x:Opnd)
 | idxA (n:W) (x i:Opnd)
 | idxS (x i:Opnd)
 | extract (x:Opnd) (i:Nat)
 | tass (t:TypeId) (ok:Bool) (z:D) (x:Opnd)
 | call (f:FuncId) (args:List (Opnd × Bool))
 | callB (f:FuncId) (args:List (Opnd × Bool))
 | callV (f:Opnd) (args:List (Opnd × Bool))
 | inv (m:List (TypeId × FuncId × Option (Nat × Nat × Bool))) (x:Opnd) (args:List (Opnd × Bool))
 | len (str:Bool) (x:Opnd)
 | app (n:W) (x:Option Opnd) (y:Opnd)
 | mx (x y:Opnd)
 | mn (x y:Opnd)
 | lload (n:W) (x:Opnd)
 | gload (x:Opnd)
 | lstore (x y:Opnd)
 | gapp (n:W) (x y:Opnd)
 | lapp (n:W) (x y:Opnd)
 | mkG (n:W) (z:D) (len cap:Opnd)
 | yield (x:Opnd) (args:List Opnd)
 | idxF (n:Nat) (x k:Opnd)
 | loadH (x:Opnd)
 | panic (x:Opnd)
 | range (x:Opnd)
 | next (x:Opnd)
 | mkMap
 | look (s:Bool) (z:D) (x k:Opnd)
 | upd (s:Bool) (x k v:Opnd)
 deriving Inhabited
structure AIns where
 i:Nat
 dst:Option Nat
 op:AOp
 guard:Option (Nat × Bool):=none
 deriving Inhabited
inductive ACode where
 | skip
 | region (ops:List AIns) (draw:Option (List (Nat × Nat) × List Nat)) (keep:List Nat)
 | seq (a b:ACode)
 | cond (c:Opnd) (a b:ACode)
 | block (id:Nat) (c:ACode)
 | loop (keep:List Nat) (c:ACode)
 | exit (id:Nat) (keep:List Nat)
 | scope (c:ACode)
 | ret
 | rangeF (g:Opnd) (ps:List Nat) (a b:ACode) (keep:List Nat)
 | refuse
 deriving Inhabited
inductive ARes where
 | tmp (t:Nat)
 | cell (t n:Nat) (ag:Bool)
 deriving Inhabited
structure AFun where
 np:Nat
 code:ACode
 res:List (ARes × Bool)
 deriving Inhabited
inductive CRes where
 | ret (vs:List V) (heap:List Obj)
 | pan (v:V) (heap:List Obj)
 | out
 deriving Inhabited
abbrev CF:=FuncId→List V→List Obj→Option CRes
def bnd {α β:Type} (x:Option α) (k:α→Option β):Option β:=x.bind k
theorem l8 {α β:Type} (a:α) (k:α→Option β):bnd (some a) k=k a:=rfl
theorem qd5 {α β:Type} (k:α→Option β):bnd none k=none:=rfl
def sel {α:Type} (b:Bool) (x y:α):α:=match b with | true=>x | false=>y
theorem j3 {α:Type} (x y:α):sel true x y=x:=rfl
theorem j7 {α:Type} (x y:α):sel false x y=y:=rfl
def V4 {α β γ:Type} (x:α × β) (k:α→β→γ):γ:=k x.1 x.2
theorem q0m {α β γ:Type} (a:α) (b:β) (k:α→β→γ):V4 (a,b) k=k a b:=rfl
def onO {α β:Type} (x:Option α) (a:β) (f:α→β):β:=match x with | none=>a | some x=>f x
theorem kb {α β:Type} (a:β) (f:α→β):onO none a f=a:=rfl
theorem qr {α β:Type} (x:α) (a:β) (f:α→β):onO (some x) a f=f x:=rfl
def D.cells:D→List D
 | .agg cs=>cs
 | x=>[x]
def V.cells:V→List V
 | .d (.agg cs)=>cs.map .d
 | .agg cs=>cs
 | .tup _=>[]
 | v=>[v]
mutual
def wt:D→Nat
 | .bool _=>1
 | .int k _=>k.bits / 8
 | .str _=>16
 | .agg cs=>wts cs
 | .iface _ _=>16
 | .sl _=>24
 | .box _=>8
 | .fn _ _=>8
 | .nilp=>8
 | .nili=>16
 | .nilf=>8
 | .nilm=>8
 | .nils=>24
def wts:List D→Nat
 | []=>0
 | x :: l=>wt x + wts l
end
def wl:List D→Nat
 | []=>1
 | x :: l=>max (wt x) (wl l)
def qgj:V→Bool
 | .tup _=>true
 | _=>false
def qE:List V→Option (List D)
 | []=>some []
 | .d x :: l=>(qE l).map (x :: ·)
 | _ :: _=>none
def wJ (l:List V):V:=
 match qE l with
 | some ds=>.d (.agg ds)
 | none=>.agg l
def part (v:V) (off n:Nat) (ag:Bool):Option V:=
 if ag then (if off + n≤v.cells.length then some (wJ ((v.cells.drop off).take n)) else none)
 else v.cells[off]?
def jZ:List V→Nat→List V→List V
 | cs,_,[]=>cs
 | cs,off,x :: xs=>jZ (cs.set off x) (off + 1) xs
def isAgg:V→Bool
 | .d (.agg _) | .agg _=>true
 | _=>false
def zO (v:V) (off:Nat) (x:V):Option V:=
 if off + x.cells.length≤v.cells.length then
  if isAgg v then some (wJ (jZ v.cells off x.cells))
  else if isAgg x then none else some x
 else none
def idx (m:List Loc) (l:Loc):Option Nat:=
 match m with
 | []=>none
 | x :: m=>if x=l then some 0 else (idx m l).map (· + 1)
def R9 (al:Loc→Bool) (l:Loc) (m:List Loc):Option Nat × List Loc:=
 sel (al l) (onO (idx m l) (some m.length,m++[l]) fun k=>(some k,m)) (none,m)
def named (r:Option Nat × List Loc) (f:Nat→V):V × List Loc:=V4 r fun k m=>(onO k .junk f,m)
mutual
def V.ren (al:Loc→Bool):V→List Loc→V × List Loc
 | .d x,m=>(.d x,m)
 | .ref l sz o n,m=>named (R9 al l m) fun k=>.ref (.b k) sz o n
 | .ptr l e j,m=>named (R9 al l m) fun k=>.ptr (.b k) e j
 | .map l,m=>named (R9 al l m) fun k=>.map (.b k)
 | .iter l,m=>named (R9 al l m) fun k=>.iter (.b k)
 | .agg cs,m=>V4 (qo al cs m) fun cs m=>(.agg cs,m)
 | .iface t x,m=>V4 (V.ren al x m) fun x m=>(.iface t x,m)
 | .fn f cs,m=>V4 (qo al cs m) fun cs m=>(.fn f cs,m)
 | .tup cs,m=>V4 (qo al cs m) fun cs m=>(.tup cs,m)
 | .junk,m=>(.junk,m)
def qo (al:Loc→Bool):List V→List Loc→List V × List Loc
 | [],m=>([],m)
 | v :: vs,m=>V4 (V.ren al v m) fun v m=>V4 (qo al vs m) fun vs m=>(v :: vs,m)
end
def kR (al:Loc→Bool):List (D × V)→List Loc→List (D × V) × List Loc
 | [],m=>([],m)
 | (k,v) :: es,m=>V4 (V.ren al v m) fun v m=>V4 (kR al es m) fun es m=>((k,v) :: es,m)
def Obj.ren (al:Loc→Bool):Obj→List Loc→Obj × List Loc
 | .arr xs sz,m=>V4 (qo al xs m) fun xs m=>(.arr xs sz,m)
 | .map es,m=>V4 (kR al es m) fun es m=>(.map es,m)
 | o,m=>(o,m)
def C8 (h:Loc→Option Obj):Nat→Nat→List Loc→Option (List Obj × List Loc)
 | 0,_,_=>none
 | f + 1,j,m=>onO m[j]? (some ([],m)) fun l=>
   onO (h l) (bnd (C8 h f (j + 1) m) fun r=>some (.dead :: r.1,r.2)) fun o=>
    V4 (o.ren (fun l=>(h l).isSome) m) fun o m=>bnd (C8 h f (j + 1) m) fun r=>some (o :: r.1,r.2)
def XD (pin:List Loc) (vs:List V) (h:Loc→Option Obj):Option (List V × List Obj × List Loc):=
 V4 (qo (fun l=>(h l).isSome) vs pin) fun vs m=>bnd (C8 h 64 0 m) fun r=>some (vs,r.1,r.2)
def j5 (heap:List Obj):Loc→Option Obj
 | .b n=>match heap[n]? with
   | some .dead=>none
   | o=>o
 | .n _ _=>none
def Kj (n:Nat):List Loc:=(List.range n).map .b
def ju (f:V→Option (D × List Loc)):List V→Option (List D × List Loc)
 | []=>some ([],[])
 | v :: vs=>
   match f v,ju f vs with
   | some (x,m),some (xs,m')=>some (x :: xs,m++m')
   | _,_=>none
def frz (h:Loc→Option Obj):Nat→V→Option (D × List Loc)
 | 0,.d x=>some (x,[])
 | 0,_=>none
 | k + 1,v=>
   match v with
   | .d x=>some (x,[])
   | .ref l sz off len=>
     match h l with
     | some (.arr xs _)=>if off + len≤xs.length then (ju (frz h k) ((xs.drop off).take len)).bind fun (ds,m)=>if wl ds≤sz.w then some (.sl ds,l :: m) else none else none
     | some (.gl cs n)=>if off=0∧len=cs.length∧n.c=1∧wl (cs.map GC.look)≤sz.w then some (.sl (cs.map GC.look),[l]) else none
     | some (.grw xs _)=>if off=0∧len=xs.length∧wl xs≤sz.w then some (.sl xs,[l]) else none
     | _=>none
   | .ptr l e j=>
     match h l with
     | some (.arr xs _)=>if j=0 then match xs[e]? with
       | some v=>(frz h k v).map fun (x,m)=>(.box x,l :: m)
       | none=>none else none
     | _=>none
   | .agg cs=>(ju (frz h k) cs).map fun (ds,m)=>(.agg ds,m)
   | .iface t v=>(frz h k v).map fun (x,m)=>(.iface t x,m)
   | .fn f cs=>(ju (frz h k) cs).map fun (ds,m)=>(.fn f ds,m)
   | .map l=>
     match h l with
     | some (.map _)=>some (.nilm,[l])
     | _=>none
   | _=>none
structure ARec where
 np:Nat
 pre:ACode
 t:Nat
 hf:FuncId
 caps:List Nat
 body:ACode
 res:List (ARes × Bool)
 hv:Nat
 hcode:ACode
 deriving Inhabited
structure Tab where
 funs:FuncId→Option AFun
 recs:FuncId→Option ARec:=fun _=>none
 its:FuncId→Option {g:CF→List D→Option (List (List D)) // ∀ cs:Nat→CF,(∀ n m,n≤m→∀ f vs h r,cs n f vs h=some r→cs m f vs h=some r)→∀ c:CF,(∀ f vs h r,c f vs h=some r→∃ n,cs n f vs h=some r)→∀ d r,g c d=some r→∃ n,g (cs n) d=some r}:=fun _=>none
structure Eff where
 v:V
 rd:List Loc:=[]
 wr:List (Loc × Option Obj):=[]
inductive R where
 | ok (e:Eff)
 | pan (e:Eff)
 | out
def val (v:V):Option R:=some (.ok { v })
mutual
def V.mapL (f:Loc→Loc):V→V
 | .d x=>.d x
 | .ref l sz o n=>.ref (f l) sz o n
 | .ptr l e j=>.ptr (f l) e j
 | .map l=>.map (f l)
 | .iter l=>.iter (f l)
 | .agg cs=>.agg (X5 f cs)
 | .iface t x=>.iface t (V.mapL f x)
 | .fn g cs=>.fn g (X5 f cs)
 | .tup cs=>.tup (X5 f cs)
 | .junk=>.junk
def X5 (f:Loc→Loc):List V→List V
 | []=>[]
 | v :: vs=>V.mapL f v :: X5 f vs
end
def ZW (f:Loc→Loc):List (D × V)→List (D × V)
 | []=>[]
 | (k,v) :: es=>(k,V.mapL f v) :: ZW f es
def Obj.mapL (f:Loc→Loc):Obj→Option Obj
 | .arr xs sz=>some (.arr (X5 f xs) sz)
 | .map es=>some (.map (ZW f es))
 | .iter s p=>some (.iter s p)
 | .gl cs n=>some (.gl cs n)
 | .grw xs n=>some (.grw xs n)
 | .tr r=>some (.tr r)
 | .dead=>none
def N6 (m:List Loc) (i:Nat):Loc→Loc
 | .b k=>if k < m.length then m.getD k (.n i 0) else .n i (k - m.length)
 | .n _ b=>.n i b
def M1 (m:List Loc) (i:Nat):Nat→List Obj→List (Loc × Option Obj)
 | _,[]=>[]
 | k,o :: os=>(N6 m i (.b k),o.mapL (N6 m i)) :: M1 m i (k + 1) os
def Xg:List V→V
 | [v]=>v
 | vs=>.tup vs
def F2 (h:Loc→Option Obj):List (V × Bool)→Option (List V × List Loc)
 | []=>some ([],[])
 | (v,fl) :: l=>
   match (if fl then (frz h 24 v).map (fun (x,m)=>(V.d x,m)) else some (v,[])),F2 h l with
   | some (v,m),some (vs,m')=>some (v :: vs,m++m')
   | _,_=>none
def O9 (h:Loc→Option Obj) (m:List Loc):Loc→Option Obj:=fun l=>if l∈m then none else h l
def w8:Nat:=140737488355328
def long:Nat:=4611686018427387904
def XS:D→Bool
 | .sl xs=>decide (xs.length * wl xs≤w8)
 | .str s=>decide (s.length≤long)
 | _=>true
def S1:V→Bool
 | .d (.agg cs)=>cs.all XS
 | .d x=>XS x
 | .ref _ sz _ len=>decide (len * sz.w≤w8)
 | _=>true
def YB (fm m:List Loc) (i:Nat):CRes→R
 | .out=>.out
 | .ret rs heap=>.ok { v:=(Xg rs).mapL (N6 m i),rd:=fm++m,wr:=fm.map (·,none)++M1 m i 0 heap }
 | .pan v heap=>.pan { v:=v.mapL (N6 m i),rd:=fm++m,wr:=fm.map (·,none)++M1 m i 0 heap }
def W1 (cf:CF) (f:FuncId) (i:Nat) (h:Loc→Option Obj) (args:List (V × Bool)):Option R:=
 bnd (F2 h args) fun a=>bnd (XD [] a.1 (O9 h a.2)) fun b=>sel (b.1.all S1) (bnd (cf f b.1 b.2.1) fun r=>some (YB a.2 b.2.2 i r)) none
mutual
def qh0:D→Bool
 | .bool _ | .int _ _ | .str _ | .nilp | .nili | .nilf | .nils=>true
 | .agg cs=>WC cs
 | .sl xs=>xs.all fun x=>match x with | .int _ _=>true | _=>false
 | _=>false
def WC:List D→Bool
 | []=>true
 | x :: l=>qh0 x && WC l
end
def qf9:D→Bool
 | .int _ _=>false
 | _=>true
def brw (h:Loc→Option Obj):V × Bool→Option (D × List Loc)
 | (.d x,_)=>some (x,[])
 | (.ref l sz off len,true)=>match h l with
   | some (.arr xs _)=>if off + len≤xs.length then bnd (qE xs) fun ds=>if wl ((ds.drop off).take len)≤sz.w∧ds.all (fun x=>x.cells.all qf9)=true then some (.sl ((ds.drop off).take len),[l]) else none else none
   | _=>none
 | _=>none
def qqq (h:Loc→Option Obj):List (V × Bool)→Option (List D × List Loc)
 | []=>some ([],[])
 | x :: l=>bnd (brw h x) fun a=>bnd (qqq h l) fun b=>some (a.1 :: b.1,a.2++b.2)
def dec (s:List UInt8) (i:Nat):Nat × Nat:=Utf8.decode ⟨s.toArray⟩ i
def q14 (fm:List Loc):CRes→Option R
 | .ret rs []=>bnd (qE rs) fun ds=>sel (WC ds) (some (.ok { v:=Xg (ds.map .d),rd:=fm })) none
 | .out=>some .out
 | _=>none
def Yf (cf:CF) (f:FuncId) (h:Loc→Option Obj) (args:List (V × Bool)):Option R:=
 bnd (qqq h args) fun a=>sel ((a.1.map V.d).all S1) (bnd (cf f (a.1.map .d) []) (q14 a.2)) none
def J8 (op:BinOp) (k:IntKind) (a b:Int):Option D:=
 match op with
 | .add=>some (.int k (k.wrap (a + b)))
 | .sub=>some (.int k (k.wrap (a - b)))
 | .mul=>some (.int k (k.wrap (a * b)))
 | .quo=>if b=0 then none else some (.int k (k.wrap (a.tdiv b)))
 | .rem=>if b=0 then none else some (.int k (a.tmod b))
 | .and=>some (.int k (k.wrap (BitVec.ofInt k.bits a &&& BitVec.ofInt k.bits b).toNat))
 | .or=>some (.int k (k.wrap (BitVec.ofInt k.bits a ||| BitVec.ofInt k.bits b).toNat))
 | .xor=>some (.int k (k.wrap (BitVec.ofInt k.bits a ^^^ BitVec.ofInt k.bits b).toNat))
 | .andNot=>some (.int k (k.wrap (BitVec.ofInt k.bits a &&& ~~~BitVec.ofInt k.bits b).toNat))
 | .eql=>some (.bool (a == b))
 | .neq=>some (.bool (a != b))
 | .lss=>some (.bool (a < b))
 | .leq=>some (.bool (a≤b))
 | .gtr=>some (.bool (a > b))
 | .geq=>some (.bool (a ≥ b))
 | _=>none
def KK (op:BinOp) (k:IntKind) (a b:Int):Option D:=
 if b < 0 then none else
 match op with
 | .shl=>some (.int k (k.wrap (a * 2 ^ (min b.toNat k.bits))))
 | .shr=>some (.int k (a.fdiv (2 ^ (min b.toNat k.bits))))
 | _=>none
def YJ (op:BinOp) (a b:List UInt8):Option D:=
 match op with
 | .add=>if a.length + b.length≤long then some (.str (a++b)) else none
 | .eql=>some (.bool (a == b))
 | .neq=>some (.bool (!(a == b)))
 | _=>none
def JS:Bool→V→Option Bool
 | false,.d .nilp=>some true
 | false,.d (.box _)=>some false
 | false,.ptr ..=>some false
 | true,.d .nili=>some true
 | true,.d (.iface ..)=>some false
 | true,.iface ..=>some false
 | _,_=>none
def bin (op:BinOp) (x y:V):Option D:=
 match x,y with
 | .d (.int k a),.d (.int k' b)=>
   match op with
   | .shl | .shr=>KK op k a b
   | _=>if k=k' then J8 op k a b else none
 | .d (.str a),.d (.str b)=>YJ op a b
 | _,_=>none
def un (op:UnOp) (x:V):Option D:=
 match op,x with
 | .not,.d (.bool b)=>some (.bool (!b))
 | .neg,.d (.int k a)=>some (.int k (k.wrap (0 - a)))
 | _,_=>none
def qZ:List V→Option (List UInt8)
 | []=>some []
 | .d (.int .u8 n) :: l=>(qZ l).map (UInt8.ofNat n.toNat :: ·)
 | _ :: _=>none
def F7 (h:Loc→Option Obj):V→Option (List V × List Loc)
 | .d (.sl xs)=>some (xs.map .d,[])
 | .d (.str s)=>some (s.map (fun b=>.d (.int .u8 b.toNat)),[])
 | .ref l _ off len=>
   match h l with
   | some (.arr xs _)=>if off + len≤xs.length then some ((xs.drop off).take len,[l]) else none
   | _=>none
 | _=>none
def lenOf:V→Option Nat
 | .d .nils=>some 0
 | .d (.sl xs)=>some xs.length
 | .d (.str s)=>some s.length
 | .ref _ _ _ len=>some len
 | _=>none
def kg:V→Bool
 | .d (.str _)=>true
 | _=>false
def kS:V→Option Nat
 | .d (.int _ a)=>if 0≤a then some a.toNat else none
 | _=>none
def Kb (n:Option W) (x:V) (lo hi:Nat):Option V:=
 if lo≤hi then
  match n,x with
  | none,.d (.str s)=>if hi≤s.length then some (.d (.str ((s.drop lo).take (hi - lo)))) else none
  | some n,.d (.sl xs)=>if hi≤xs.length∧xs.all (fun y=>y.cells.length == n.c)=true then some (.d (.sl ((xs.drop lo).take (hi - lo)))) else none
  | some n,.ref l sz off len=>if hi≤len∧sz=n then (if lo=hi then some (.d (.sl [])) else some (.ref l sz (off + lo) (hi - lo))) else none
  | _,_=>none
 else none
def O2 (i:Nat):Nat→List (Nat × W)→List V→List V × List (Loc × Option Obj)
 | _,[],cs=>(cs,[])
 | k,(c,sz) :: l,cs=>
   match O2 i (k + 1) l (cs.set c (.ref (.n i k) sz 0 0)) with
   | (cs,wr)=>(cs,(.n i k,some (.arr [] sz)) :: wr)
def kZ (i:Nat) (k:Nat) (own:List (Nat × W)) (v:V):V × List (Loc × Option Obj):=
 match own with
 | []=>(v,[])
 | _=>match O2 i k own v.cells with
   | (cs,wr)=>(if isAgg v then wJ cs else cs.headD .junk,wr)
def wH:List V→List (Nat × Nat × V)→Option (List V)
 | cs,[]=>some cs
 | cs,(off,n,v) :: l=>if v.cells.length=n∧off + n≤cs.length then wH (jZ cs off v.cells) l else none
def xF (n:W):List V→List (Nat × V)→Option (List V)
 | xs,[]=>some xs
 | xs,(k,v) :: l=>if v.cells.length=n.c∧k < xs.length then xF n (xs.set k v) l else none
def evs (ev:Opnd→Option V):List (Opnd × Bool)→Option (List (V × Bool))
 | []=>some []
 | (x,fl) :: l=>match ev x,evs ev l with
   | some v,some vs=>some ((v,fl) :: vs)
   | _,_=>none
def evl (ev:Opnd→Option V):List Opnd→Option (List V)
 | []=>some []
 | x :: l=>match ev x,evl ev l with
   | some v,some vs=>some (v :: vs)
   | _,_=>none
def evp (ev:Opnd→Option V):List (Nat × Nat × Opnd)→Option (List (Nat × Nat × V))
 | []=>some []
 | (a,b,x) :: l=>match ev x,evp ev l with
   | some v,some vs=>some ((a,b,v) :: vs)
   | _,_=>none
def evq (ev:Opnd→Option V):List (Nat × Opnd)→Option (List (Nat × V))
 | []=>some []
 | (a,x) :: l=>match ev x,evq ev l with
   | some v,some vs=>some ((a,v) :: vs)
   | _,_=>none
def qw (h:Loc→Option Obj) (n:Nat) (ag:Bool):V→Option R
 | .d (.box y)=>
   match y,ag with
   | .agg cs,true=>if cs.length=n then val (.d (.agg cs)) else none
   | .agg _,false=>none
   | _,true=>none
   | y,false=>val (.d y)
 | .ptr l e j=>
   match h l with
   | some (.arr xs _)=>match xs[e]? with
     | some v=>(part v j n ag).map fun v=>.ok { v,rd:=[l] }
     | none=>none
   | _=>none
 | _=>none
def QZ (h:Loc→Option Obj) (n:Nat) (a v:V):Option R:=
 match a with
 | .ptr l e j=>
   match h l with
   | some (.arr xs sz)=>match xs[e]? with
     | some w=>if v.cells.length=n then (zO w j v).map fun w=>.ok { v:=.tup [],rd:=[l],wr:=[(l,some (.arr (xs.set e w) sz))] } else none
     | none=>none
   | _=>none
 | _=>none
def qec (h:Loc→Option Obj) (i:Nat) (n:W) (x:Option V) (y:V):Option R:=
 match F7 h y with
 | none=>none
 | some (ys,m)=>
   if ys.all (fun v=>v.cells.length == n.c) then
    match x with
    | none=>if ys.length * n.w≤w8 then some (.ok { v:=.ref (.n i 0) n 0 ys.length,rd:=m,wr:=[(.n i 0,some (.arr ys n))] }) else none
    | some (.ref l sz off len)=>
      match h l with
      | some (.arr xs _)=>
        if sz=n∧off + len≤xs.length∧l ∉ m then
         if (len + ys.length) * n.w≤w8 then some (.ok { v:=.ref (.n i 0) n 0 (len + ys.length),rd:=l :: m,wr:=[(l,none),(.n i 0,some (.arr ((xs.drop off).take len++ys) n))] }) else none
        else none
      | _=>none
    | _=>none
   else none
def Wc (i:Nat) (l:Loc) (k:Nat) (cs:List GC) (sz n:W):Option GC→Option R
 | some (.d .nils)=>some (.ok { v:=.d .nils,rd:=[l] })
 | some (.g xs)=>if xs.all (fun x=>x.cells.length == n.c)=true∧xs.length * n.w≤w8∧n.w < 1000000∧wl xs≤n.w then
  some (.ok { v:=.ref (.n i 0) n 0 xs.length,rd:=[l],wr:=[(l,some (.gl (cs.set k (.d (.sl xs))) sz)),(.n i 0,some (.grw xs n))] }) else none
 | _=>none
def qit (h:Loc→Option Obj) (i:Nat) (n:W):V→Option R
 | .ptr l e j=>match h l with
   | some (.gl cs sz)=>Wc i l (e * sz.c + j) cs sz n cs[e * sz.c + j]?
   | _=>none
 | _=>none
def qp0 (h:Loc→Option Obj):V→Option R
 | .ptr l e j=>match h l with
   | some (.gl cs sz)=>bnd cs[e * sz.c + j]? fun c=>some (.ok { v:=.d c.look,rd:=[l] })
   | _=>none
 | _=>none
def Yc (l l':Loc) (k:Nat) (cs:List GC) (sz n:W) (len:Nat):Option Obj→Option R
 | some (.grw xs n')=>if n=n'∧len=xs.length∧0 < len then some (.ok { v:=.tup [],rd:=[l,l'],wr:=[(l,some (.gl (cs.set k (.g xs)) sz)),(l',none)] }) else none
 | some (.arr ys n')=>bnd (qE ys) fun xs=>if n=n'∧n.w < 1000000∧len=xs.length∧0 < len∧wl xs≤n.w then some (.ok { v:=.tup [],rd:=[l,l'],wr:=[(l,some (.gl (cs.set k (.g xs)) sz)),(l',none)] }) else none
 | _=>none
def Yb (h:Loc→Option Obj):V→V→Option R
 | .ptr l e j,v=>match h l with
   | some (.gl cs sz)=>if e * sz.c + j < cs.length then match v with
     | .d x=>if isAgg (.d x)=false then some (.ok { v:=.tup [],rd:=[l],wr:=[(l,some (.gl (cs.set (e * sz.c + j) (.d x)) sz))] }) else none
     | .ref l' n 0 len=>Yc l l' (e * sz.c + j) cs sz n len (h l')
     | _=>none
     else none
   | _=>none
 | _,_=>none
def qmd (i:Nat) (n:W) (ds:List D) (m:List Loc) (l:Loc) (sz:W) (len:Nat):Option Obj→Option R
 | some (.grw xs n')=>if sz=n∧n'=n∧len=xs.length∧0 < ds.length∧l ∉ m∧(len + ds.length) * n.w≤w8 then
  some (.ok { v:=.ref (.n i 0) n 0 (len + ds.length),rd:=l :: m,wr:=[(l,none),(.n i 0,some (.grw (xs++ds) n))] }) else none
 | _=>none
def qgo (h:Loc→Option Obj) (i:Nat) (n:W) (x y:V):Option R:=
 bnd (F7 h y) fun (ys,m)=>bnd (qE ys) fun ds=>if ds.all (fun d=>d.cells.length == n.c)=true∧n.w < 1000000∧wl ds≤n.w then
  match x with
  | .d .nils=>if ds.length * n.w≤w8∧0 < ds.length then some (.ok { v:=.ref (.n i 0) n 0 ds.length,rd:=m,wr:=[(.n i 0,some (.grw ds n))] }) else none
  | .ref l sz 0 len=>qmd i n ds m l sz len (h l)
  | _=>none
 else none
def qp1:Option Obj→Option (List GC)
 | some (.gl cs _)=>some cs
 | some (.arr [] _)=>some []
 | _=>none
def cellsOf (ds:List D):List GC:=(ds.flatMap D.cells).map .d
def qrq (h:Loc→Option Obj) (i:Nat) (n:W):V→V→Option R
 | .ref l sz 0 len,y=>bnd (qp1 (h l)) fun cs=>bnd (F7 h y) fun (ys,m)=>bnd (qE ys) fun ds=>
   if ds.all (fun d=>d.cells.length == n.c)=true∧sz=n∧n.w < 1000000∧len * n.c=cs.length∧0 < ds.length∧l ∉ m∧(len + ds.length) * n.w≤w8 then
    some (.ok { v:=.ref (.n i 0) n 0 (len + ds.length),rd:=l :: m,wr:=[(l,none),(.n i 0,some (.gl (cs++cellsOf ds) n))] }) else none
 | _,_=>none
def hdI:Nat:=1000000
def Zv:Loc→Loc
 | .b k=>.n hdI k
 | l=>l
def JT:Option Obj→Option V
 | some (.arr [v] _)=>v.cells[0]?
 | _=>none
def Zu (h:Loc→Option Obj) (k:Nat):Option V:=JT (h (.b k))
def unN:V→Option V
 | .d .nils=>none
 | v=>some v
def S8:V→Option (TypeId × V)
 | .d (.iface t x)=>some (t,.d x)
 | .iface t x=>some (t,x)
 | _=>none
def qt8 (f:FuncId) (cap:List V):V:=
 match qE cap with
 | some ds=>.d (.fn f ds)
 | none=>.fn f cap
def fB:Nat:=1000000
def vo (f:FuncId):FuncId:=if f < fB then f else f - fB
def M6 {α:Type} (f:FuncId) (vs cs:List α):List α:=if f < fB then vs++cs else cs++vs
def qew:V→Option (FuncId × List V)
 | .d (.fn f cap)=>some (f,cap.map .d)
 | .fn f cap=>some (f,cap)
 | _=>none
def Ju (t:TypeId):V→V
 | .d x=>.d (.iface t x)
 | x=>.iface t x
def Yq:List (D × V)→(D→Bool)→Option V
 | [],_=>none
 | (k,v) :: es,p=>if p k then some v else Yq es p
def I5:D→D→Bool
 | .int j a,.int k b=>j=k && a == b
 | .str a,.str b=>a == b
 | _,_=>false
def jw:Bool→D→Bool
 | true,.str _=>true
 | false,.int .i64 _=>true
 | _,_=>false
def Qb (s:Bool) (key:D) (es:List (D × V)):Bool:=jw s key && es.all (fun e=>jw s e.1)
def qix:V→Bool
 | .d (.agg _) | .agg _ | .tup _=>true
 | _=>false
def KQ:List (D × V)→D→V→List (D × V)
 | [],k,v=>[(k,v)]
 | (k',v') :: es,k,v=>if I5 k k' then (k',v) :: es else (k',v') :: KQ es k v
def qf3 (y:V) (off n:Nat) (ag:Bool):Option V:=if isAgg y then part y off n ag else none
def XF:List (TypeId × FuncId × Option (Nat × Nat × Bool))→TypeId→Option (FuncId × Option (Nat × Nat × Bool))
 | [],_=>none
 | (t',r) :: l,t=>if t'=t then some r else XF l t
open Classical in
noncomputable def qvo (l:Loc) (d:List D) (b:Bool) (rest:List (List D × Bool)) (ds:List D):Option R:=
 if ds=d then some (.ok { v:=.d (.bool b),rd:=[l],wr:=[(l,some (.tr rest))] }) else none
noncomputable def qvp (l:Loc) (o:Option Obj) (vs:Option (List V)):Option R:=match o with
 | some (.tr ((d,b) :: rest))=>bnd vs fun vs=>bnd (qE vs) (qvo l d b rest)
 | _=>none
noncomputable def exec (T:Tab) (cf:CF) (i:Nat) (op:AOp) (ev:Opnd→Option V) (h:Loc→Option Obj):Option R:=
 match op with
 | .mv x=>bnd (ev x) val
 | .own n=>some (.ok { v:=.ref (.n i 0) n 0 0,wr:=[(.n i 0,some (.arr [] n))] })
 | .pick c a b=>match ev c with
   | some (.d (.bool true))=>bnd (ev a) val
   | some (.d (.bool false))=>bnd (ev b) val
   | _=>none
 | .alloc z own=>match kZ i 1 own (.d z) with
   | (v,wr)=>some (.ok { v:=.ptr (.n i 0) 0 0,wr:=wr++[(.n i 0,some (.arr [v] ⟨z.cells.length,0⟩))] })
 | .allocT t z own=>match kZ i 1 own (.d z) with
   | (v,wr)=>some (.ok { v:=.ptr (.n i 0) 0 0,wr:=wr++[(.n i 0,some (.arr [v] ⟨z.cells.length,t + 1000000⟩))] })
 | .box n x=>bnd (ev x) fun v=>if qgj v=false∧v.cells.length=n then some (.ok { v:=.ptr (.n i 0) 0 0,wr:=[(.n i 0,some (.arr [v] ⟨n,0⟩))] }) else none
 | .build z parts own=>bnd (evp ev parts) fun ps=>
   match kZ i 0 own (.d z) with
   | (v,wr)=>bnd (wH v.cells ps) fun cs=>some (.ok { v:=wJ cs,wr })
 | .buildSl n z len parts=>bnd (evq ev parts) fun ps=>if z.cells.length=n.c∧len * n.w≤w8 then bnd (xF n (List.replicate len (.d z)) ps) fun xs=>
   some (.ok { v:=.ref (.n i 0) n 0 len,wr:=[(.n i 0,some (.arr xs n))] }) else none
 | .load n ag x=>bnd (ev x) (qw h n ag)
 | .store n x y=>bnd (ev x) fun a=>bnd (ev y) fun v=>QZ h n a v
 | .nilCk x=>match ev x with
   | some (.d (.box y))=>val (.d (.box y))
   | some (.ptr l e j)=>val (.ptr l e j)
   | _=>none
 | .bin op x y=>bnd (ev x) fun a=>bnd (ev y) fun b=>bnd (bin op a b) fun r=>val (.d r)
 | .un op x=>bnd (ev x) fun a=>bnd (un op a) fun r=>val (.d r)
 | .isN eq ifc x=>bnd (ev x) fun a=>bnd (JS ifc a) fun b=>val (.d (.bool (b == eq)))
 | .eqB eq x y=>match ev x,ev y with
   | some (.d (.bool a)),some (.d (.bool b))=>val (.d (.bool ((a == b) == eq)))
   | _,_=>none
 | .conv k x=>bnd (ev x) fun a=>match k,a with
   | .int k,.d (.int _ n)=>val (.d (.int k (k.wrap n)))
   | .rune,.d (.int _ n)=>val (.d (.str (Utf8.encode n).data.toList))
   | .b2s,a=>bnd (F7 h a) fun (xs,m)=>bnd (qZ xs) fun s=>some (.ok { v:=.d (.str s),rd:=m })
   | _,_=>none
 | .mkI t x=>bnd (ev x) fun v=>val (Ju t v)
 | .mkF f cap=>bnd (evl ev cap) fun vs=>val (qt8 f vs)
 | .mkSl n z len cap=>bnd (ev len) fun a=>bnd (ev cap) fun b=>match kS a,kS b with
   | some l,some c=>if l≤c∧z.cells.length=n.c∧c * n.w≤w8 then some (.ok { v:=.ref (.n i 0) n 0 l,wr:=[(.n i 0,some (.arr (List.replicate l (.d z)) n))] }) else none
   | _,_=>none
 | .slice s x lo hi=>bnd (ev x) fun v=>
   match (match lo with | none=>some 0 | some o=>bnd (ev o) kS),(match hi with | none=>lenOf v | some o=>bnd (ev o) kS) with
   | some l,some u=>bnd (Kb s v l u) val
   | _,_=>none
 | .fieldA off n ag x=>match ev x with
   | some (.d (.box y))=>bnd (part (.d y) off n ag) fun v=>match v with
     | .d z=>val (.d (.box z))
     | _=>none
   | some (.ptr l e j)=>val (.ptr l e (j + off))
   | _=>none
 | .field off n ag x=>bnd (ev x) fun v=>if isAgg v then bnd (part v off n ag) val else none
 | .idxA n x k=>bnd (ev x) fun v=>bnd (ev k) fun a=>match kS a with
   | none=>none
   | some j=>match v with
     | .d (.sl xs)=>match xs[j]? with
       | some y=>if y.cells.length=n.c then val (.d (.box y)) else none
       | none=>none
     | .ref l sz off len=>if j < len∧sz=n then val (.ptr l (off + j) 0) else none
     | _=>none
 | .idxS x k=>bnd (ev x) fun v=>bnd (ev k) fun a=>match v,kS a with
   | .d (.str s),some j=>match s[j]? with
     | some b=>val (.d (.int .u8 b.toNat))
     | none=>none
   | _,_=>none
 | .extract x k=>match ev x with
   | some (.tup vs)=>bnd (vs[k]?) val
   | _=>none
 | .tass t ok z x=>bnd (ev x) fun v=>match S8 v with
   | some (t',y)=>if t'=t then val (if ok then .tup [y,.d (.bool true)] else y) else if ok then val (.tup [.d z,.d (.bool false)]) else none
   | none=>match v,ok with
     | .d .nili,true=>val (.tup [.d z,.d (.bool false)])
     | _,_=>none
 | .call f args=>bnd (evs ev args) fun vs=>W1 cf f i h vs
 | .callB f args=>bnd (evs ev args) fun vs=>Yf cf f h vs
 | .callV f args=>bnd (ev f) fun g=>bnd (evs ev args) fun vs=>bnd (qew g) fun (f,cap)=>W1 cf (vo f) i h (M6 f vs (cap.map (·,false)))
 | .inv m x args=>bnd (ev x) fun v=>bnd (evs ev args) fun vs=>bnd (S8 v) fun (t,y)=>bnd (XF m t) fun (f,path)=>
   match path with
   | none=>W1 cf f i h ((y,true) :: vs)
   | some (off,n,ag)=>bnd (qf3 y off n ag) fun r=>W1 cf f i h ((r,true) :: vs)
 | .len s x=>bnd (ev x) fun v=>sel (kg v == s) (bnd (lenOf v) fun n=>sel (S1 v) (val (.d (.int .i64 n))) none) none
 | .app n x y=>match x with
   | none=>bnd (ev y) fun b=>qec h i n none b
   | some x=>bnd (ev x) fun a=>bnd (ev y) fun b=>qec h i n (unN a) b
 | .mx x y=>match ev x,ev y with
   | some (.d (.int k a)),some (.d (.int k' b))=>if k=k' then val (.d (.int k (if b > a then b else a))) else none
   | _,_=>none
 | .mn x y=>match ev x,ev y with
   | some (.d (.int k a)),some (.d (.int k' b))=>if k=k' then val (.d (.int k (if b < a then b else a))) else none
   | _,_=>none
 | .lload n x=>bnd (ev x) (qit h i n)
 | .gload x=>bnd (ev x) (qp0 h)
 | .lstore x y=>bnd (ev x) fun a=>bnd (ev y) fun v=>Yb h a v
 | .gapp n x y=>bnd (ev x) fun a=>bnd (ev y) fun v=>qgo h i n a v
 | .lapp n x y=>bnd (ev x) fun a=>bnd (ev y) fun v=>qrq h i n a v
 | .mkG n z len cap=>bnd (ev len) fun a=>bnd (ev cap) fun b=>match kS a,kS b with
   | some l,some c=>if l≤c∧0 < l∧z.cells.length=n.c∧c * n.w≤w8 then some (.ok { v:=.ref (.n i 0) n 0 l,wr:=[(.n i 0,some (.gl (cellsOf (List.replicate l z)) n))] }) else none
   | _,_=>none
 | .yield x args=>match ev x with
   | some (.iter l)=>qvp l (h l) (evl ev args)
   | _=>none
 | .loadH x=>match ev x with
   | some (.ptr (.b k) 0 0)=>bnd (Zu h k) fun v=>some (.ok { v,rd:=[.n hdI k] })
   | _=>none
 | .idxF n x k=>bnd (ev x) fun v=>bnd (ev k) fun a=>bnd (kS a) fun j=>match v with
   | .d (.agg cs)=>if j < n then bnd (cs[j]?) fun y=>val (.d y) else none
   | _=>none
 | .panic x=>bnd (ev x) fun v=>match S8 v with
   | some _=>some (.pan { v })
   | none=>none
 | .range x=>match ev x with
   | some (.d (.str s))=>some (.ok { v:=.iter (.n i 0),wr:=[(.n i 0,some (.iter s 0))] })
   | _=>none
 | .next x=>match ev x with
   | some (.iter l)=>match h l with
     | some (.iter s pos)=>
       if pos < s.length then some (.ok { v:=.tup [.d (.bool true),.d (.int .i64 pos),.d (.int .i32 (dec s pos).1)],rd:=[l],wr:=[(l,some (.iter s (pos + (dec s pos).2)))] })
       else some (.ok { v:=.tup [.d (.bool false)],rd:=[l] })
     | _=>none
   | _=>none
 | .mkMap=>some (.ok { v:=.map (.n i 0),wr:=[(.n i 0,some (.map []))] })
 | .look s z x k=>match ev x,ev k with
   | some (.map l),some (.d key)=>match h l with
     | some (.map es)=>if Qb s key es then some (.ok { v:=((Yq es (I5 key)).getD (.d z)),rd:=[l] }) else none
     | _=>none
   | _,_=>none
 | .upd s x k v=>match ev x,ev k,ev v with
   | some (.map l),some (.d key),some v=>match h l with
     | some (.map es)=>if Qb s key es && !qix v then some (.ok { v:=.tup [],rd:=[l],wr:=[(l,some (.map (KQ es key v)))] }) else none
     | _=>none
   | _,_,_=>none
structure RS where
 env:List (Nat × V)
 h:Loc→Option Obj
structure Rec where
 i:Nat
 rd:List Loc
 wr:List Loc
 ch:List Loc:=wr
def A5:List (Nat × V)→Nat→Option V
 | [],_=>none
 | (t,v) :: l,n=>if t=n then some v else A5 l n
def evO (env:List (Nat × V)):Opnd→Option V
 | .t n=>A5 env n
 | .c x=>some (.d x)
def U7 (env:List (Nat × V)) (dst:Option Nat) (v:V):List (Nat × V):=
 match dst with
 | some t=>(t,v) :: env
 | none=>env
def j8 (h:Loc→Option Obj):List (Loc × Option Obj)→Loc→Option Obj
 | []=>h
 | (l,o) :: ws=>j8 (fun l'=>if l'=l then o else h l') ws
def wanted (env:List (Nat × V)):Option (Nat × Bool)→Option Bool
 | none=>some true
 | some (t,w)=>match A5 env t with
   | some (.d (.bool b))=>some (b == w)
   | some (.tup [])=>some false
   | _=>none
inductive SR where
 | go (s:RS) (r:Rec)
 | pan (v:V) (s:RS) (r:Rec)
 | out
def qkk (o:AIns) (s:RS):R→SR
 | .ok e=>.go { env:=U7 s.env o.dst e.v,h:=j8 s.h e.wr } { i:=o.i,rd:=e.rd,wr:=e.wr.map (·.1) }
 | .pan e=>.pan e.v { env:=s.env,h:=j8 s.h e.wr } { i:=o.i,rd:=e.rd,wr:=e.wr.map (·.1) }
 | .out=>.out
noncomputable def step (T:Tab) (cf:CF) (o:AIns) (s:RS):Option SR:=
 bnd (wanted s.env o.guard) fun b=>
  sel b (bnd (exec T cf o.i o.op (evO s.env) s.h) fun r=>some (qkk o s r))
   (some (.go { env:=U7 s.env o.dst (.tup []),h:=s.h } { i:=o.i,rd:=[],wr:=[] }))
inductive RR where
 | nrm (s:RS)
 | pan (i:Nat) (v:V) (s:RS)
 | out
def qt4 {α:Type} (x:SR) (k:RS→Rec→α) (p:V→RS→Rec→α) (o:α):α:=
 match x with
 | .go s r=>k s r
 | .pan v s r=>p v s r
 | .out=>o
noncomputable def ZZ (T:Tab) (cf:CF):List AIns→RS→List Rec→Option (RR × List Rec)
 | [],s,rs=>some (.nrm s,rs)
 | o :: os,s,rs=>bnd (step T cf o s) fun x=>qt4 x (fun s' r=>ZZ T cf os s' (r :: rs)) (fun v s' r=>some (.pan o.i v s',r :: rs)) (some (.out,rs))
def qns (a b:Rec):Bool:=
 (a.wr.all (fun l=>!b.wr.contains l && !b.rd.contains l && !b.rd.contains (Zv l) && !b.wr.contains (Zv l)) && b.wr.all (fun l=>!a.rd.contains l && !a.rd.contains (Zv l) && !a.wr.contains (Zv l))) || (a.ch.all (fun l=>!b.ch.contains l && !b.rd.contains l) && b.ch.all (fun l=>!a.rd.contains l))
def Qy (rs:List Rec) (i:Nat):Option Rec:=rs.find? (·.i == i)
def kY (pairs:List (Nat × Nat)) (rs:List Rec):Bool:=
 pairs.all fun (i,j)=>match Qy rs i,Qy rs j with
  | some a,some b=>qns a b
  | _,_=>true
def Loc.isNew:Loc→Bool
 | .n _ _=>true
 | .b _=>false
structure St where
 env:List (Nat × V)
 heap:List Obj
inductive Ex where
 | nrm
 | exit (id:Nat)
 | ret
 | pan (v:V)
 | out
def zK (env:List (Nat × V)):List Nat→List Nat × List V
 | []=>([],[])
 | t :: ks=>match A5 env t,zK env ks with
   | some v,(ts,vs)=>(t :: ts,v :: vs)
   | none,r=>r
def wb (pin:Nat) (keep:List Nat) (env:List (Nat × V)) (h:Loc→Option Obj):Option St:=
 bnd (XD (Kj pin) (zK env keep).2 h) fun x=>some { env:=(zK env keep).1.zip x.1,heap:=x.2.1 }
def qmw (pin:Nat) (v:V) (h:Loc→Option Obj):Option (Ex × St):=
 bnd (frz h 24 v) fun a=>
  if a.2.all (fun l=>match l with | .b k=>decide (pin≤k) | .n _ _=>true) then
   bnd (XD (Kj pin) [] (O9 h a.2)) fun b=>some (.pan (.d a.1),{ env:=[],heap:=b.2.1 })
  else none
def qxd (pin:Nat) (keep:List Nat):RR→Option (Ex × St)
 | .nrm s=>bnd (wb pin keep s.env s.h) fun st=>some (.nrm,st)
 | .pan _ v s=>qmw pin v s.h
 | .out=>some (.out,{ env:=[],heap:=[] })
def Loc.isOf (i:Nat):Loc→Bool
 | .n j _=>j == i
 | .b _=>false
def Loc.oldOr (i:Nat):Loc→Bool
 | .n j _=>j == i
 | .b _=>true
def only (p:Loc→Bool) (h:Loc→Option Obj):Loc→Option Obj:=fun l=>sel (p l) (h l) none
def D1:AOp→Nat
 | .mv _ | .pick _ _ _ | .nilCk _ | .bin _ _ _ | .un _ _ | .isN _ _ _ | .eqB _ _ _ | .mkI _ _ | .mkF _ _ | .slice _ _ _ _ | .fieldA _ _ _ _ | .field _ _ _ _ | .idxA _ _ _ | .idxS _ _ | .extract _ _ | .tass _ _ _ _
 | .len _ _ | .mx _ _ | .mn _ _ | .idxF _ _ _ | .conv (.int _) _ | .conv .rune _ | .build _ _ []=>0
 | .load _ _ _ | .gload _ | .callB _ _ | .loadH _ | .conv .b2s _ | .look _ _ _ _=>1
 | .call _ _ | .callV _ _ | .inv _ _ _=>3
 | _=>2
def K4 (op:AOp):Bool:=D1 op == 3
def D0:Option V→List Loc
 | some (.ref l _ _ _)=>[l]
 | some (.ptr l _ _)=>[l]
 | some (.map l)=>[l]
 | some (.iter l)=>[l]
 | _=>[]
def qq7 (h:Loc→Option Obj) (vs:List V):List Loc:=onO (XD [] vs h) [] fun x=>x.2.2
def o8 (op:AOp) (ev:Opnd→Option V) (h:Loc→Option Obj):List Loc:=
 match op with
 | .load _ _ x=>D0 (ev x)
 | .store _ x _=>D0 (ev x)
 | .conv k x=>(match k with | .b2s=>D0 (ev x) | _=>[])
 | .app _ x y=>onO x [] (fun x=>D0 (ev x))++D0 (ev y)
 | .next x=>D0 (ev x)
 | .lload _ x=>D0 (ev x)
 | .gload x=>D0 (ev x)
 | .loadH x=>(D0 (ev x)).map Zv
 | .lstore x y=>D0 (ev x)++D0 (ev y)
 | .yield x _=>D0 (ev x)
 | .gapp _ x y=>D0 (ev x)++D0 (ev y)
 | .lapp _ x y=>D0 (ev x)++D0 (ev y)
 | .look _ _ x _=>D0 (ev x)
 | .upd _ x _ _=>D0 (ev x)
 | .callB _ args=>onO (evs ev args) [] fun vs=>vs.flatMap fun x=>D0 (some x.1)
 | .call _ args=>onO (evs ev args) [] fun vs=>qq7 h (vs.map (·.1))
 | .callV f args=>onO (ev f) [] fun g=>onO (evs ev args) [] fun vs=>onO (qew g) [] fun c=>qq7 h (M6 c.1 (vs.map (·.1)) c.2)
 | .inv _ x args=>onO (ev x) [] fun v=>onO (evs ev args) [] fun vs=>qq7 h (v :: vs.map (·.1))
 | _=>[]
noncomputable def jy (T:Tab) (cf:CF) (i:Nat) (op:AOp) (A:List Loc) (ev:Opnd→Option V) (h:Loc→Option Obj):Option R:=
 sel (K4 op) (exec T cf i op ev (only A.contains h)) (exec T cf i op ev h)
def okW (A:List Loc) (i:Nat) (wr:List (Loc × Option Obj)):Bool:=
 A.all (fun l=>(wr.map (·.1)).contains l) && (wr.map (·.1)).all (fun l=>A.contains l || l.isOf i)
def ZV (k:Nat) (A:List Loc) (i:Nat) (wr:List (Loc × Option Obj)):Bool:=
 match k with
 | 0=>A.isEmpty && wr.isEmpty
 | 1=>wr.isEmpty
 | 2=>true
 | _=>okW A i wr
def chN (wr:List (Loc × Option Obj)):List Loc:=wr.map (·.1)++(wr.map (·.1)).map Zv
noncomputable section
open Classical in
def chg (A:List Loc) (h:Loc→Option Obj) (wr:List (Loc × Option Obj)):List Loc:=((wr.map (·.1)).filter fun l=>!A.contains l || decide (j8 h wr l≠h l))++((wr.map (·.1)).filter fun l=>!A.contains l || decide (JT (j8 h wr l)≠JT (h l))).map Zv
def qbg (o:AIns) (A:List Loc) (s:RS):R→Option SR
 | .ok e=>sel (ZV (D1 o.op) A o.i e.wr) (some (.go { env:=U7 s.env o.dst e.v,h:=j8 s.h e.wr } { i:=o.i,rd:=A,wr:=e.wr.map (·.1),ch:=sel (K4 o.op) (chg A s.h e.wr) (chN e.wr) })) none
 | .pan e=>sel (decide (2≤D1 o.op) && ZV (D1 o.op) A o.i e.wr) (some (.pan e.v { env:=s.env,h:=j8 s.h e.wr } { i:=o.i,rd:=A,wr:=e.wr.map (·.1) })) none
 | .out=>sel (decide (D1 o.op≠0) || A.isEmpty) (some .out) none
def Qu (T:Tab) (cf:CF) (o:AIns) (A:List Loc) (s:RS):Option SR:=
 bnd (wanted s.env o.guard) fun b=>
  sel b (bnd (jy T cf o.i o.op A (evO s.env) s.h) (qbg o A s))
   (some (.go { env:=U7 s.env o.dst (.tup []),h:=s.h } { i:=o.i,rd:=[],wr:=[] }))
def WH (pairs:List (Nat × Nat)) (rs:List Rec) (i:Nat):Bool:=
 pairs.all fun (a,b)=>sel (b == i) (onO (Qy rs a) true fun r=>r.wr.all (·.isOf a)) true
def Qx (T:Tab) (cf:CF) (pairs:List (Nat × Nat)) (ends:List Nat):List AIns→RS→List Rec→Option (RR × List Rec)
 | [],s,rs=>some (.nrm s,rs)
 | o :: os,s,rs=>bnd (Qu T cf o (o8 o.op (evO s.env) s.h) s) fun x=>
   qt4 x (fun s' r=>Qx T cf pairs ends os s' (r :: rs))
    (fun v s' r=>sel (ends.contains o.i && WH pairs rs o.i) (some (.pan o.i v s',r :: rs)) none)
    (sel (ends.contains o.i) (some (.out,{ i:=o.i,rd:=o8 o.op (evO s.env) s.h,wr:=[] } :: rs)) none)
def KP (pin:Nat) (keep:List Nat):RR→Option (Ex × St)
 | .nrm s=>bnd (wb pin keep s.env s.h) fun st=>some (.nrm,st)
 | .pan i v s=>qmw pin v (only (Loc.oldOr i) s.h)
 | .out=>some (.out,{ env:=[],heap:=[] })
def region (T:Tab) (cf:CF) (pin:Nat) (ops:List AIns) (draw:Option (List (Nat × Nat) × List Nat)) (keep:List Nat) (st:St):Option (Ex × St):=
 onO draw (bnd (ZZ T cf ops { env:=st.env,h:=j5 st.heap } []) fun x=>qxd pin keep x.1) fun d=>
  bnd (Qx T cf d.1 d.2 ops { env:=st.env,h:=j5 st.heap } []) fun x=>sel (kY d.1 x.2) (KP pin keep x.1) none
def XM:Nat→(St→Option (Ex × St))→St→Option (Ex × St)
 | 0,_,_=>none
 | n + 1,f,st=>match f st with
   | some (.nrm,st')=>XM n f st'
   | r=>r
def Z5 (f:List D→List Obj→Option (Ex × List Obj)):List (List D)→List Obj→Option (List (List D × Bool) × Ex × List Obj)
 | [],hp=>some ([],.nrm,hp)
 | d :: ds,hp=>bnd (f d hp) fun r=>match r.1 with
   | .nrm=>bnd (Z5 f ds r.2) fun x=>some ((d,true) :: x.1,x.2)
   | .ret=>some ([(d,false)],.ret,r.2)
   | _=>none
def qxl (pin:Nat) (keep:List Nat) (env:List (Nat × V)) (x:Ex × List Obj):Option CRes→Option (Ex × St)
 | some (.ret _ [.tr []])=>match x.1 with
   | .nrm=>bnd (wb pin keep env (j5 x.2)) fun st=>some (.nrm,st)
   | .ret=>some (.ret,{ env,heap:=x.2 })
   | _=>none
 | _=>none
def vX (ps:List Nat) (ca cb:Nat→St→Option (Ex × St)) (env:List (Nat × V)) (d:List D) (hp:List Obj):Option (Ex × List Obj):=
 if ps.length=d.length then
  match ca hp.length { env:=ps.zip (d.map .d)++env,heap:=hp } with
  | some (.nrm,st1)=>bnd (cb hp.length st1) fun r=>some (r.1,r.2.heap)
  | _=>none
 else none
def YT (T:Tab) (cf:CF) (env:List (Nat × V)) (keep:List Nat) (pin:Nat) (heap:List Obj) (body:List D→List Obj→Option (Ex × List Obj)):V→Option (Ex × St)
 | .d (.fn f caps)=>if f < fB then bnd (T.its f) fun it=>bnd (it.1 cf caps) fun ys=>bnd (Z5 body ys heap) fun x=>qxl pin keep env x.2 (cf f (.iter (.b 0) :: caps.map .d) [.tr x.1]) else none
 | _=>none
def code (T:Tab) (cf:CF) (pin n:Nat):ACode→St→Option (Ex × St)
 | .skip,st=>some (.nrm,st)
 | .region ops draw keep,st=>region T cf pin ops draw keep st
 | .seq a b,st=>match code T cf pin n a st with
   | some (.nrm,st')=>code T cf pin n b st'
   | r=>r
 | .cond c a b,st=>match evO st.env c with
   | some (.d (.bool true))=>code T cf pin n a st
   | some (.d (.bool false))=>code T cf pin n b st
   | _=>none
 | .block id c,st=>match code T cf pin n c st with
   | some (.exit id',st')=>if id'=id then some (.nrm,st') else some (.exit id',st')
   | r=>r
 | .loop keep c,st=>XM n (fun st=>match wb pin keep st.env (j5 st.heap) with
   | some st=>code T cf pin n c st
   | none=>none) st
 | .exit id keep,st=>bnd (wb pin keep st.env (j5 st.heap)) fun st=>some (.exit id,st)
 | .scope c,st=>code T cf pin n c st
 | .ret,st=>some (.ret,st)
 | .rangeF g ps a b keep,st=>bnd (evO st.env g) (YT T cf st.env keep pin st.heap (vX ps (fun pin st=>code T cf pin n a st) (fun pin st=>code T cf pin n b st) st.env))
 | .refuse,_=>none
def qbu (env:List (Nat × V)) (h:Loc→Option Obj):ARes→Option V
 | .tmp t=>A5 env t
 | .cell t n ag=>match A5 env t with
   | some a=>match qw h n ag a with
     | some (.ok e)=>some e.v
     | _=>none
   | none=>none
def xG (env:List (Nat × V)) (h:Loc→Option Obj):List (ARes × Bool)→Option (List (V × Bool))
 | []=>some []
 | (r,fl) :: l=>match qbu env h r,xG env h l with
   | some v,some vs=>some ((v,fl) :: vs)
   | _,_=>none
def qz (pin:Nat) (res:List (ARes × Bool)) (st:St):Option CRes:=
 bnd (xG st.env (j5 st.heap) res) fun vs=>bnd (F2 (j5 st.heap) vs) fun a=>
  if a.2.all (fun l=>match l with | .b k=>decide (pin≤k) | .n _ _=>false) then
   bnd (XD (Kj pin) a.1 (O9 (j5 st.heap) a.2)) fun b=>some (.ret b.1 b.2.1)
  else none
structure Exts where
 run:FuncId→Option (CF→List V→List Obj→Option CRes)
def ARes.slot:ARes→Nat
 | .tmp t=>t
 | .cell t _ _=>t
def Zb (env:List (Nat × V)):List Nat→Option (List V)
 | []=>some []
 | t :: ts=>bnd (A5 env t) fun v=>bnd (Zb env ts) fun vs=>some (v :: vs)
def jB (r:ARec) (env:List (Nat × V)):List (Nat × V):=(zK env (r.res.map (·.1.slot))).1.zip (zK env (r.res.map (·.1.slot))).2
def qpx (p:Nat) (res:List (ARes × Bool)) (env:List (Nat × V)):Option (Ex × St)→Option CRes
 | some (.nrm,st)=>qz p res { env,heap:=st.heap }
 | some (.ret,st)=>qz p res { env,heap:=st.heap }
 | some (.out,_)=>some .out
 | _=>none
def zbg (k:V→List Obj→Option CRes):Option (Ex × St)→Option CRes
 | some (.nrm,st)=>k (.d .nili) st.heap
 | some (.ret,st)=>k (.d .nili) st.heap
 | some (.pan (.d (.iface t x)),st)=>k (.d (.iface t x)) st.heap
 | some (.out,_)=>some .out
 | _=>none
def qid (p:Nat) (res:List (ARes × Bool)) (k:St→Option CRes):Option (Ex × St)→Option CRes
 | some (.nrm,st)=>k st
 | some (.ret,st)=>qz p res st
 | some (.pan v,st)=>some (.pan v st.heap)
 | some (.out,_)=>some .out
 | _=>none
def qal (cd:Nat→ACode→St→Option (Ex × St)) (r:ARec) (vs:List V) (heap:List Obj):Option CRes:=
 if vs.length=r.np then
  qid heap.length r.res (fun st=>bnd (Zb st.env r.caps) fun cs=>
   zbg (fun v h=>qpx heap.length r.res (jB r st.env) (cd h.length r.hcode { env:=(r.hv,v) :: (List.range cs.length).zip cs,heap:=h })) (cd st.heap.length r.body { env:=(r.t,.junk) :: st.env,heap:=st.heap }))
   (cd heap.length r.pre { env:=(List.range r.np).zip vs,heap })
 else none
def call (T:Tab) (X:Exts):Nat→CF
 | 0=>fun _ _ _=>none
 | n + 1=>fun f vs heap=>
   match X.run f with
   | some e=>e (call T X n) vs heap
   | none=>
     match T.funs f with
     | none=>match T.recs f with
       | some r=>qal (fun p a st=>code T (call T X n) p n a st) r vs heap
       | none=>none
     | some af=>
       if vs.length=af.np then
        match code T (call T X n) heap.length n af.code { env:=(List.range af.np).zip vs,heap } with
        | some (.nrm,st)=>qz heap.length af.res st
        | some (.ret,st)=>qz heap.length af.res st
        | some (.pan v,st)=>some (.pan v st.heap)
        | some (.out,_)=>some .out
        | _=>none
       else none
end
def wU (s:List UInt8):Nat × Nat:=if s.length=0 then (65533,0) else dec s 0
def zaq:CF→List V→List Obj→Option CRes:=fun _ vs heap=>match vs with
 | [.d (.str s)]=>some (.ret [.d (.int .i32 (wU s).1),.d (.int .i64 (wU s).2)] heap)
 | _=>none
end Go.Rf
