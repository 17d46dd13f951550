/- Parts of the proof: RfSem. -/
import Derived.Orders
import Derived.Recover
import Derived.RowKit3

set_option linter.unusedSimpArgs false
set_option linter.unusedVariables false
set_option linter.unnecessarySimpa false
set_option linter.unusedSectionVars false
set_option linter.all false
namespace Go.Rf
inductive Loc where
 | b (n:Nat)
 | n (i k:Nat)
 deriving DecidableEq,Repr,Inhabited
structure W where
 c:Nat
 w:Nat
 deriving DecidableEq,Repr,Inhabited
inductive D where
 | bool (b:Bool)
 | int (k:IntKind) (n:Int)
 | str (s:List UInt8)
 | agg (cs:List D)
 | iface (t:TypeId) (x:D)
 | sl (xs:List D)
 | box (x:D)
 | fn (f:FuncId) (cap:List D)
 | nilp
 | nili
 | nilf
 | nilm
 | nils
 deriving Inhabited
inductive V where
 | d (x:D)
 | ref (l:Loc) (sz:W) (off len:Nat)
 | ptr (l:Loc) (e j:Nat)
 | agg (cs:List V)
 | iface (t:TypeId) (x:V)
 | fn (f:FuncId) (cap:List V)
 | tup (vs:List V)
 | map (l:Loc)
 | iter (l:Loc)
 | junk
 deriving Inhabited
inductive Obj where
 | arr (xs:List V) (sz:W)
 | map (es:List (D × V))
 | iter (s:List UInt8) (pos:Nat)
 | lol (ls:List (Option (List D)))
 | dead
 deriving Inhabited
inductive Opnd where
 | t (n:Nat)
 | c (x:D)
 deriving Inhabited
inductive Cv where
 | int (k:IntKind)
 | rune
 | b2s
 deriving Inhabited
inductive AOp where
 | mv (x:Opnd)
 | own (n:W)
 | pick (c a b:Opnd)
 | alloc (z:D) (own:List (Nat × W))
 | allocT (t:TypeId) (z:D) (own:List (Nat × W))
 | box (n:Nat) (x:Opnd)
 | build (z:D) (parts:List (Nat × Nat × Opnd)) (own:List (Nat × W))
 | buildSl (n:W) (z:D) (len:Nat) (parts:List (Nat × Opnd))
 | load (n:Nat) (ag:Bool) (x:Opnd)
 | store (n:Nat) (x y:Opnd)
 | nilCk (x:Opnd)
 | bin (op:BinOp) (x y:Opnd)
 | un (op:UnOp) (x:Opnd)
 | isN (eq iface:Bool) (x:Opnd)
 | eqB (eq:Bool) (x y:Opnd)
 | conv (k:Cv) (x:Opnd)
 | mkI (t:TypeId) (x:Opnd)
 | mkF (f:FuncId) (cap:List Opnd)
 | mkSl (n:W) (z:D) (len cap:Opnd)
 | slice (n:Option W) (x:Opnd) (lo hi:Option Opnd)
 | fieldA (off n:Nat) (ag:Bool) (x:Opnd)
 | field (off n:Nat) (ag:Bool) (x:Opnd)
 | idxA (n:W) (x i:Opnd)
 | idxS (x i:Opnd)
 | extract (x:Opnd) (i:Nat)
 | tass (t:TypeId) (ok:Bool) (z:D) (x:Opnd)
 | call (f:FuncId) (args:List (Opnd × Bool))
 | callB (f:FuncId) (args:List (Opnd × Bool))
 | callV (f:Opnd) (args:List (Opnd × Bool))
 | inv (m:List (TypeId × FuncId × Option (Nat × Nat × Bool))) (x:Opnd) (args:List (Opnd × Bool))
 | len (str:Bool) (x:Opnd)
 | app (n:W) (x:Option Opnd) (y:Opnd)
 | mx (x y:Opnd)
 | mn (x y:Opnd)
 | lload (x:Opnd)
 | lstore (x y:Opnd)
 | lapp (n:W) (x y:Opnd)
 | idxF (n:Nat) (x k:Opnd)
 | loadH (x:Opnd)
 | panic (x:Opnd)
 | range (x:Opnd)
 | next (x:Opnd)
 | mkMap
 | look (s:Bool) (z:D) (x k:Opnd)
 | upd (s:Bool) (x k v:Opnd)
 deriving Inhabited
structure AIns where
 i:Nat
 dst:Option Nat
 op:AOp
 guard:Option (Nat × Bool):=none
 deriving Inhabited
inductive ACode where
 | skip
 | region (ops:List AIns) (draw:Option (List (Nat × Nat) × List Nat)) (keep:List Nat)
 | seq (a b:ACode)
 | cond (c:Opnd) (a b:ACode)
 | block (id:Nat) (c:ACode)
 | loop (keep:List Nat) (c:ACode)
 | exit (id:Nat) (keep:List Nat)
 | scope (c:ACode)
 | ret
 | refuse
 deriving Inhabited
inductive ARes where
 | tmp (t:Nat)
 | cell (t n:Nat) (ag:Bool)
 deriving Inhabited
structure AFun where
 np:Nat
 code:ACode
 res:List (ARes × Bool)
 deriving Inhabited
inductive CRes where
 | ret (vs:List V) (heap:List Obj)
 | pan (v:V) (heap:List Obj)
 | out
 deriving Inhabited
abbrev CF:=FuncId→List V→List Obj→Option CRes
def bnd {α β:Type} (x:Option α) (k:α→Option β):Option β:=x.bind k
theorem o8 {α β:Type} (a:α) (k:α→Option β):bnd (some a) k=k a:=rfl
theorem qdy {α β:Type} (k:α→Option β):bnd none k=none:=rfl
def sel {α:Type} (b:Bool) (x y:α):α:=match b with | true=>x | false=>y
theorem j6 {α:Type} (x y:α):sel true x y=x:=rfl
theorem k8 {α:Type} (x y:α):sel false x y=y:=rfl
def X6 {α β γ:Type} (x:α × β) (k:α→β→γ):γ:=k x.1 x.2
theorem qy2 {α β γ:Type} (a:α) (b:β) (k:α→β→γ):X6 (a,b) k=k a b:=rfl
def onO {α β:Type} (x:Option α) (a:β) (f:α→β):β:=match x with | none=>a | some x=>f x
theorem kD {α β:Type} (a:β) (f:α→β):onO none a f=a:=rfl
theorem qP {α β:Type} (x:α) (a:β) (f:α→β):onO (some x) a f=f x:=rfl
def D.cells:D→List D
 | .agg cs=>cs
 | x=>[x]
def V.cells:V→List V
 | .d (.agg cs)=>cs.map .d
 | .agg cs=>cs
 | .tup _=>[]
 | v=>[v]
mutual
def wt:D→Nat
 | .bool _=>1
 | .int k _=>k.bits / 8
 | .str _=>16
 | .agg cs=>wts cs
 | .iface _ _=>16
 | .sl _=>24
 | .box _=>8
 | .fn _ _=>8
 | .nilp=>8
 | .nili=>16
 | .nilf=>8
 | .nilm=>8
 | .nils=>24
def wts:List D→Nat
 | []=>0
 | x :: l=>wt x + wts l
end
def wl:List D→Nat
 | []=>1
 | x :: l=>max (wt x) (wl l)
def S9:List V→Option (List D)
 | []=>some []
 | .d x :: l=>(S9 l).map (x :: ·)
 | _ :: _=>none
def wT (l:List V):V:=
 match S9 l with
 | some ds=>.d (.agg ds)
 | none=>.agg l
def part (v:V) (off n:Nat) (ag:Bool):Option V:=
 if ag then (if off + n≤v.cells.length then some (wT ((v.cells.drop off).take n)) else none)
 else v.cells[off]?
def zW:List V→Nat→List V→List V
 | cs,_,[]=>cs
 | cs,off,x :: xs=>zW (cs.set off x) (off + 1) xs
def isAgg:V→Bool
 | .d (.agg _) | .agg _=>true
 | _=>false
def B6 (v:V) (off:Nat) (x:V):Option V:=
 if off + x.cells.length≤v.cells.length then
  if isAgg v then some (wT (zW v.cells off x.cells))
  else if isAgg x then none else some x
 else none
def idx (m:List Loc) (l:Loc):Option Nat:=
 match m with
 | []=>none
 | x :: m=>if x=l then some 0 else (idx m l).map (· + 1)
def U3 (al:Loc→Bool) (l:Loc) (m:List Loc):Option Nat × List Loc:=
 sel (al l) (onO (idx m l) (some m.length,m++[l]) fun k=>(some k,m)) (none,m)
def named (r:Option Nat × List Loc) (f:Nat→V):V × List Loc:=X6 r fun k m=>(onO k .junk f,m)
mutual
def V.ren (al:Loc→Bool):V→List Loc→V × List Loc
 | .d x,m=>(.d x,m)
 | .ref l sz o n,m=>named (U3 al l m) fun k=>.ref (.b k) sz o n
 | .ptr l e j,m=>named (U3 al l m) fun k=>.ptr (.b k) e j
 | .map l,m=>named (U3 al l m) fun k=>.map (.b k)
 | .iter l,m=>named (U3 al l m) fun k=>.iter (.b k)
 | .agg cs,m=>X6 (qN al cs m) fun cs m=>(.agg cs,m)
 | .iface t x,m=>X6 (V.ren al x m) fun x m=>(.iface t x,m)
 | .fn f cs,m=>X6 (qN al cs m) fun cs m=>(.fn f cs,m)
 | .tup cs,m=>X6 (qN al cs m) fun cs m=>(.tup cs,m)
 | .junk,m=>(.junk,m)
def qN (al:Loc→Bool):List V→List Loc→List V × List Loc
 | [],m=>([],m)
 | v :: vs,m=>X6 (V.ren al v m) fun v m=>X6 (qN al vs m) fun vs m=>(v :: vs,m)
end
def jf (al:Loc→Bool):List (D × V)→List Loc→List (D × V) × List Loc
 | [],m=>([],m)
 | (k,v) :: es,m=>X6 (V.ren al v m) fun v m=>X6 (jf al es m) fun es m=>((k,v) :: es,m)
def Obj.ren (al:Loc→Bool):Obj→List Loc→Obj × List Loc
 | .arr xs sz,m=>X6 (qN al xs m) fun xs m=>(.arr xs sz,m)
 | .map es,m=>X6 (jf al es m) fun es m=>(.map es,m)
 | o,m=>(o,m)
def D1 (h:Loc→Option Obj):Nat→Nat→List Loc→Option (List Obj × List Loc)
 | 0,_,_=>none
 | f + 1,j,m=>onO m[j]? (some ([],m)) fun l=>
   onO (h l) (bnd (D1 h f (j + 1) m) fun r=>some (.dead :: r.1,r.2)) fun o=>
    X6 (o.ren (fun l=>(h l).isSome) m) fun o m=>bnd (D1 h f (j + 1) m) fun r=>some (o :: r.1,r.2)
def XK (pin:List Loc) (vs:List V) (h:Loc→Option Obj):Option (List V × List Obj × List Loc):=
 X6 (qN (fun l=>(h l).isSome) vs pin) fun vs m=>bnd (D1 h 64 0 m) fun r=>some (vs,r.1,r.2)
def o5 (heap:List Obj):Loc→Option Obj
 | .b n=>match heap[n]? with
   | some .dead=>none
   | o=>o
 | .n _ _=>none
def Kt (n:Nat):List Loc:=(List.range n).map .b
def jP (f:V→Option (D × List Loc)):List V→Option (List D × List Loc)
 | []=>some ([],[])
 | v :: vs=>
   match f v,jP f vs with
   | some (x,m),some (xs,m')=>some (x :: xs,m++m')
   | _,_=>none
def qh5:List (Option (List D))→Option (List D)
 | []=>some []
 | some xs :: l=>if wl xs≤8 then (qh5 l).map (.sl xs :: ·) else none
 | none :: _=>none
def frz (h:Loc→Option Obj):Nat→V→Option (D × List Loc)
 | 0,.d x=>some (x,[])
 | 0,_=>none
 | k + 1,v=>
   match v with
   | .d x=>some (x,[])
   | .ref l sz off len=>
     match h l with
     | some (.arr xs _)=>if off + len≤xs.length then (jP (frz h k) ((xs.drop off).take len)).bind fun (ds,m)=>if wl ds≤sz.w then some (.sl ds,l :: m) else none else none
     | some (.lol ls)=>if off=0∧len=ls.length∧24≤sz.w then (qh5 ls).map fun ds=>(.sl ds,[l]) else none
     | _=>none
   | .ptr l e j=>
     match h l with
     | some (.arr xs _)=>if j=0 then match xs[e]? with
       | some v=>(frz h k v).map fun (x,m)=>(.box x,l :: m)
       | none=>none else none
     | _=>none
   | .agg cs=>(jP (frz h k) cs).map fun (ds,m)=>(.agg ds,m)
   | .iface t v=>(frz h k v).map fun (x,m)=>(.iface t x,m)
   | .fn f cs=>(jP (frz h k) cs).map fun (ds,m)=>(.fn f ds,m)
   | .map l=>
     match h l with
     | some (.map _)=>some (.nilm,[l])
     | _=>none
   | _=>none
structure ARec where
 np:Nat
 pre:ACode
 t:Nat
 hf:FuncId
 caps:List Nat
 body:ACode
 res:List (ARes × Bool)
 hv:Nat
 hcode:ACode
 deriving Inhabited
structure Tab where
 funs:FuncId→Option AFun
 recs:FuncId→Option ARec:=fun _=>none
structure Eff where
 v:V
 rd:List Loc:=[]
 wr:List (Loc × Option Obj):=[]
inductive R where
 | ok (e:Eff)
 | pan (e:Eff)
 | out
def val (v:V):Option R:=some (.ok { v })
mutual
def V.mapL (f:Loc→Loc):V→V
 | .d x=>.d x
 | .ref l sz o n=>.ref (f l) sz o n
 | .ptr l e j=>.ptr (f l) e j
 | .map l=>.map (f l)
 | .iter l=>.iter (f l)
 | .agg cs=>.agg (Q1 f cs)
 | .iface t x=>.iface t (V.mapL f x)
 | .fn g cs=>.fn g (Q1 f cs)
 | .tup cs=>.tup (Q1 f cs)
 | .junk=>.junk
def Q1 (f:Loc→Loc):List V→List V
 | []=>[]
 | v :: vs=>V.mapL f v :: Q1 f vs
end
def ZW (f:Loc→Loc):List (D × V)→List (D × V)
 | []=>[]
 | (k,v) :: es=>(k,V.mapL f v) :: ZW f es
def Obj.mapL (f:Loc→Loc):Obj→Option Obj
 | .arr xs sz=>some (.arr (Q1 f xs) sz)
 | .map es=>some (.map (ZW f es))
 | .iter s p=>some (.iter s p)
 | .lol ls=>some (.lol ls)
 | .dead=>none
def P4 (m:List Loc) (i:Nat):Loc→Loc
 | .b k=>if k < m.length then m.getD k (.n i 0) else .n i (k - m.length)
 | .n _ b=>.n i b
def N8 (m:List Loc) (i:Nat):Nat→List Obj→List (Loc × Option Obj)
 | _,[]=>[]
 | k,o :: os=>(P4 m i (.b k),o.mapL (P4 m i)) :: N8 m i (k + 1) os
def QC:List V→V
 | [v]=>v
 | vs=>.tup vs
def A7 (h:Loc→Option Obj):List (V × Bool)→Option (List V × List Loc)
 | []=>some ([],[])
 | (v,fl) :: l=>
   match (if fl then (frz h 24 v).map (fun (x,m)=>(V.d x,m)) else some (v,[])),A7 h l with
   | some (v,m),some (vs,m')=>some (v :: vs,m++m')
   | _,_=>none
def Q7 (h:Loc→Option Obj) (m:List Loc):Loc→Option Obj:=fun l=>if l∈m then none else h l
def A5:Nat:=140737488355328
def long:Nat:=4611686018427387904
def jQ:D→Bool
 | .sl xs=>decide (xs.length * wl xs≤A5)
 | .str s=>decide (s.length≤long)
 | _=>true
def N6:V→Bool
 | .d (.agg cs)=>cs.all jQ
 | .d x=>jQ x
 | .ref _ sz _ len=>decide (len * sz.w≤A5)
 | _=>true
def JL (fm m:List Loc) (i:Nat):CRes→R
 | .out=>.out
 | .ret rs heap=>.ok { v:=(QC rs).mapL (P4 m i),rd:=fm++m,wr:=fm.map (·,none)++N8 m i 0 heap }
 | .pan v heap=>.pan { v:=v.mapL (P4 m i),rd:=fm++m,wr:=fm.map (·,none)++N8 m i 0 heap }
def Y8 (cf:CF) (f:FuncId) (i:Nat) (h:Loc→Option Obj) (args:List (V × Bool)):Option R:=
 bnd (A7 h args) fun a=>bnd (XK [] a.1 (Q7 h a.2)) fun b=>sel (b.1.all N6) (bnd (cf f b.1 b.2.1) fun r=>some (JL a.2 b.2.2 i r)) none
mutual
def Wh:D→Bool
 | .bool _ | .int _ _ | .str _ | .nilp | .nili | .nilf | .nils=>true
 | .agg cs=>Xv cs
 | .sl xs=>xs.all fun x=>match x with | .int _ _=>true | _=>false
 | _=>false
def Xv:List D→Bool
 | []=>true
 | x :: l=>Wh x && Xv l
end
def qae:D→Bool
 | .int _ _=>false
 | _=>true
def brw (h:Loc→Option Obj):V × Bool→Option (D × List Loc)
 | (.d x,_)=>some (x,[])
 | (.ref l sz off len,true)=>match h l with
   | some (.arr xs _)=>if off + len≤xs.length then bnd (S9 xs) fun ds=>if wl ((ds.drop off).take len)≤sz.w∧ds.all (fun x=>x.cells.all qae)=true then some (.sl ((ds.drop off).take len),[l]) else none else none
   | _=>none
 | _=>none
def qdx (h:Loc→Option Obj):List (V × Bool)→Option (List D × List Loc)
 | []=>some ([],[])
 | x :: l=>bnd (brw h x) fun a=>bnd (qdx h l) fun b=>some (a.1 :: b.1,a.2++b.2)
def dec (s:List UInt8) (i:Nat):Nat × Nat:=Utf8.decode ⟨s.toArray⟩ i
def qh7 (fm:List Loc):CRes→Option R
 | .ret rs []=>bnd (S9 rs) fun ds=>sel (Xv ds) (some (.ok { v:=QC (ds.map .d),rd:=fm })) none
 | .out=>some .out
 | _=>none
def JC (cf:CF) (f:FuncId) (h:Loc→Option Obj) (args:List (V × Bool)):Option R:=
 bnd (qdx h args) fun a=>sel ((a.1.map V.d).all N6) (bnd (cf f (a.1.map .d) []) (qh7 a.2)) none
def F1 (op:BinOp) (k:IntKind) (a b:Int):Option D:=
 match op with
 | .add=>some (.int k (k.wrap (a + b)))
 | .sub=>some (.int k (k.wrap (a - b)))
 | .mul=>some (.int k (k.wrap (a * b)))
 | .quo=>if b=0 then none else some (.int k (k.wrap (a.tdiv b)))
 | .rem=>if b=0 then none else some (.int k (a.tmod b))
 | .and=>some (.int k (k.wrap (BitVec.ofInt k.bits a &&& BitVec.ofInt k.bits b).toNat))
 | .or=>some (.int k (k.wrap (BitVec.ofInt k.bits a ||| BitVec.ofInt k.bits b).toNat))
 | .xor=>some (.int k (k.wrap (BitVec.ofInt k.bits a ^^^ BitVec.ofInt k.bits b).toNat))
 | .andNot=>some (.int k (k.wrap (BitVec.ofInt k.bits a &&& ~~~BitVec.ofInt k.bits b).toNat))
 | .eql=>some (.bool (a == b))
 | .neq=>some (.bool (a != b))
 | .lss=>some (.bool (a < b))
 | .leq=>some (.bool (a≤b))
 | .gtr=>some (.bool (a > b))
 | .geq=>some (.bool (a ≥ b))
 | _=>none
def Ya (op:BinOp) (k:IntKind) (a b:Int):Option D:=
 if b < 0 then none else
 match op with
 | .shl=>some (.int k (k.wrap (a * 2 ^ (min b.toNat k.bits))))
 | .shr=>some (.int k (a.fdiv (2 ^ (min b.toNat k.bits))))
 | _=>none
def Wf (op:BinOp) (a b:List UInt8):Option D:=
 match op with
 | .add=>if a.length + b.length≤long then some (.str (a++b)) else none
 | .eql=>some (.bool (a == b))
 | .neq=>some (.bool (!(a == b)))
 | _=>none
def ZX:Bool→V→Option Bool
 | false,.d .nilp=>some true
 | false,.d (.box _)=>some false
 | false,.ptr ..=>some false
 | true,.d .nili=>some true
 | true,.d (.iface ..)=>some false
 | true,.iface ..=>some false
 | _,_=>none
def bin (op:BinOp) (x y:V):Option D:=
 match x,y with
 | .d (.int k a),.d (.int k' b)=>
   match op with
   | .shl | .shr=>Ya op k a b
   | _=>if k=k' then F1 op k a b else none
 | .d (.str a),.d (.str b)=>Wf op a b
 | _,_=>none
def un (op:UnOp) (x:V):Option D:=
 match op,x with
 | .not,.d (.bool b)=>some (.bool (!b))
 | .neg,.d (.int k a)=>some (.int k (k.wrap (0 - a)))
 | _,_=>none
def zr:List V→Option (List UInt8)
 | []=>some []
 | .d (.int .u8 n) :: l=>(zr l).map (UInt8.ofNat n.toNat :: ·)
 | _ :: _=>none
def K1 (h:Loc→Option Obj):V→Option (List V × List Loc)
 | .d (.sl xs)=>some (xs.map .d,[])
 | .d (.str s)=>some (s.map (fun b=>.d (.int .u8 b.toNat)),[])
 | .ref l _ off len=>
   match h l with
   | some (.arr xs _)=>if off + len≤xs.length then some ((xs.drop off).take len,[l]) else none
   | _=>none
 | _=>none
def lenOf:V→Option Nat
 | .d .nils=>some 0
 | .d (.sl xs)=>some xs.length
 | .d (.str s)=>some s.length
 | .ref _ _ _ len=>some len
 | _=>none
def kF:V→Bool
 | .d (.str _)=>true
 | _=>false
def vQ:V→Option Nat
 | .d (.int _ a)=>if 0≤a then some a.toNat else none
 | _=>none
def Kk (n:Option W) (x:V) (lo hi:Nat):Option V:=
 if lo≤hi then
  match n,x with
  | none,.d (.str s)=>if hi≤s.length then some (.d (.str ((s.drop lo).take (hi - lo)))) else none
  | some n,.d (.sl xs)=>if hi≤xs.length∧xs.all (fun y=>y.cells.length == n.c)=true then some (.d (.sl ((xs.drop lo).take (hi - lo)))) else none
  | some n,.ref l sz off len=>if hi≤len∧sz=n then (if lo=hi then some (.d (.sl [])) else some (.ref l sz (off + lo) (hi - lo))) else none
  | _,_=>none
 else none
def L6 (i:Nat):Nat→List (Nat × W)→List V→List V × List (Loc × Option Obj)
 | _,[],cs=>(cs,[])
 | k,(c,sz) :: l,cs=>
   match L6 i (k + 1) l (cs.set c (.ref (.n i k) sz 0 0)) with
   | (cs,wr)=>(cs,(.n i k,some (.arr [] sz)) :: wr)
def kB (i:Nat) (k:Nat) (own:List (Nat × W)) (v:V):V × List (Loc × Option Obj):=
 match own with
 | []=>(v,[])
 | _=>match L6 i k own v.cells with
   | (cs,wr)=>(if isAgg v then wT cs else cs.headD .junk,wr)
def wR:List V→List (Nat × Nat × V)→Option (List V)
 | cs,[]=>some cs
 | cs,(off,n,v) :: l=>if v.cells.length=n∧off + n≤cs.length then wR (zW cs off v.cells) l else none
def jc (n:W):List V→List (Nat × V)→Option (List V)
 | xs,[]=>some xs
 | xs,(k,v) :: l=>if v.cells.length=n.c∧k < xs.length then jc n (xs.set k v) l else none
def evs (ev:Opnd→Option V):List (Opnd × Bool)→Option (List (V × Bool))
 | []=>some []
 | (x,fl) :: l=>match ev x,evs ev l with
   | some v,some vs=>some ((v,fl) :: vs)
   | _,_=>none
def evl (ev:Opnd→Option V):List Opnd→Option (List V)
 | []=>some []
 | x :: l=>match ev x,evl ev l with
   | some v,some vs=>some (v :: vs)
   | _,_=>none
def evp (ev:Opnd→Option V):List (Nat × Nat × Opnd)→Option (List (Nat × Nat × V))
 | []=>some []
 | (a,b,x) :: l=>match ev x,evp ev l with
   | some v,some vs=>some ((a,b,v) :: vs)
   | _,_=>none
def evq (ev:Opnd→Option V):List (Nat × Opnd)→Option (List (Nat × V))
 | []=>some []
 | (a,x) :: l=>match ev x,evq ev l with
   | some v,some vs=>some ((a,v) :: vs)
   | _,_=>none
def S7 (h:Loc→Option Obj) (n:Nat) (ag:Bool):V→Option R
 | .d (.box y)=>
   match y,ag with
   | .agg cs,true=>if cs.length=n then val (.d (.agg cs)) else none
   | .agg _,false=>none
   | _,true=>none
   | y,false=>val (.d y)
 | .ptr l e j=>
   match h l with
   | some (.arr xs _)=>match xs[e]? with
     | some v=>(part v j n ag).map fun v=>.ok { v,rd:=[l] }
     | none=>none
   | _=>none
 | _=>none
def Qj (h:Loc→Option Obj) (n:Nat) (a v:V):Option R:=
 match a with
 | .ptr l e j=>
   match h l with
   | some (.arr xs sz)=>match xs[e]? with
     | some w=>if v.cells.length=n then (B6 w j v).map fun w=>.ok { v:=.tup [],rd:=[l],wr:=[(l,some (.arr (xs.set e w) sz))] } else none
     | none=>none
   | _=>none
 | _=>none
def qe8 (h:Loc→Option Obj) (i:Nat) (n:W) (x:Option V) (y:V):Option R:=
 match K1 h y with
 | none=>none
 | some (ys,m)=>
   if ys.all (fun v=>v.cells.length == n.c) then
    match x with
    | none=>if ys.length * n.w≤A5 then some (.ok { v:=.ref (.n i 0) n 0 ys.length,rd:=m,wr:=[(.n i 0,some (.arr ys n))] }) else none
    | some (.ref l sz off len)=>
      match h l with
      | some (.arr xs _)=>
        if sz=n∧off + len≤xs.length∧l ∉ m then
         if (len + ys.length) * n.w≤A5 then some (.ok { v:=.ref (.n i 0) n 0 (len + ys.length),rd:=l :: m,wr:=[(l,none),(.n i 0,some (.arr ((xs.drop off).take len++ys) n))] }) else none
        else none
      | _=>none
    | _=>none
   else none
def qh6 (h:Loc→Option Obj) (i:Nat):V→Option R
 | .ptr l e 0=>match h l with
   | some (.lol ls)=>match ls[e]? with
     | some (some [])=>some (.ok { v:=.d .nils,rd:=[l] })
     | some (some (x :: xs))=>some (.ok { v:=.ref (.n i (e + 1)) ⟨1,8⟩ 0 (xs.length + 1),rd:=[l],wr:=[(l,some (.lol (ls.set e none))),(.n i (e + 1),some (.arr (.d x :: xs.map .d) ⟨1,8⟩))] })
     | _=>none
   | _=>none
 | _=>none
def XV (ls:List (Option (List D))) (e:Nat):Bool:=match ls[e]? with
 | some none | some (some [])=>true
 | _=>false
def Yr (h:Loc→Option Obj):V→V→Option R
 | .ptr l e 0,.ref l' sz 0 len=>match h l,h l' with
   | some (.lol ls),some (.arr xs sz')=>bnd (S9 xs) fun ds=>
     if XV ls e=true∧sz=⟨1,8⟩∧sz'=⟨1,8⟩∧len=ds.length∧0 < len then some (.ok { v:=.tup [],rd:=[l,l'],wr:=[(l,some (.lol (ls.set e (some ds)))),(l',none)] }) else none
   | _,_=>none
 | _,_=>none
def qcv:Option Obj→Option (List (Option (List D)))
 | some (.lol ls)=>some ls
 | some (.arr [] _)=>some []
 | _=>none
def WE:List V→Bool
 | [.d .nils]=>true
 | _=>false
def qqn (h:Loc→Option Obj) (i:Nat) (n:W):V→V→Option R
 | .ref l sz 0 len,y=>bnd (qcv (h l)) fun ls=>bnd (K1 h y) fun (ys,m)=>
   if WE ys=true∧sz=n∧n.c=1∧n.w < 1000000∧len=ls.length∧l ∉ m∧(len + 1) * n.w≤A5 then
    some (.ok { v:=.ref (.n i 0) n 0 (len + 1),rd:=l :: m,wr:=[(l,none),(.n i 0,some (.lol (ls++[some []])))] }) else none
 | _,_=>none
def hdI:Nat:=1000000
def ZA:Loc→Loc
 | .b k=>.n hdI k
 | l=>l
def Ke:Option Obj→Option V
 | some (.arr [v] _)=>v.cells[0]?
 | _=>none
def Zz (h:Loc→Option Obj) (k:Nat):Option V:=Ke (h (.b k))
def unN:V→Option V
 | .d .nils=>none
 | v=>some v
def Q9:V→Option (TypeId × V)
 | .d (.iface t x)=>some (t,.d x)
 | .iface t x=>some (t,x)
 | _=>none
def qky (f:FuncId) (cap:List V):V:=
 match S9 cap with
 | some ds=>.d (.fn f ds)
 | none=>.fn f cap
def fB:Nat:=1000000
def wZ (f:FuncId):FuncId:=if f < fB then f else f - fB
def N2 {α:Type} (f:FuncId) (vs cs:List α):List α:=if f < fB then vs++cs else cs++vs
def qep:V→Option (FuncId × List V)
 | .d (.fn f cap)=>some (f,cap.map .d)
 | .fn f cap=>some (f,cap)
 | _=>none
def JA (t:TypeId):V→V
 | .d x=>.d (.iface t x)
 | x=>.iface t x
def YH:List (D × V)→(D→Bool)→Option V
 | [],_=>none
 | (k,v) :: es,p=>if p k then some v else YH es p
def J1:D→D→Bool
 | .int j a,.int k b=>j=k && a == b
 | .str a,.str b=>a == b
 | _,_=>false
def zZ:Bool→D→Bool
 | true,.str _=>true
 | false,.int .i64 _=>true
 | _,_=>false
def kV (s:Bool) (key:D) (es:List (D × V)):Bool:=zZ s key && es.all (fun e=>zZ s e.1)
def qh9:V→Bool
 | .d (.agg _) | .agg _ | .tup _=>true
 | _=>false
def Yd:List (D × V)→D→V→List (D × V)
 | [],k,v=>[(k,v)]
 | (k',v') :: es,k,v=>if J1 k k' then (k',v) :: es else (k',v') :: Yd es k v
def Yh (y:V) (off n:Nat) (ag:Bool):Option V:=if isAgg y then part y off n ag else none
def wU:List (TypeId × FuncId × Option (Nat × Nat × Bool))→TypeId→Option (FuncId × Option (Nat × Nat × Bool))
 | [],_=>none
 | (t',r) :: l,t=>if t'=t then some r else wU l t
def j4 (T:Tab) (cf:CF) (i:Nat) (op:AOp) (ev:Opnd→Option V) (h:Loc→Option Obj):Option R:=
 match op with
 | .mv x=>bnd (ev x) val
 | .own n=>some (.ok { v:=.ref (.n i 0) n 0 0,wr:=[(.n i 0,some (.arr [] n))] })
 | .pick c a b=>match ev c with
   | some (.d (.bool true))=>bnd (ev a) val
   | some (.d (.bool false))=>bnd (ev b) val
   | _=>none
 | .alloc z own=>match kB i 1 own (.d z) with
   | (v,wr)=>some (.ok { v:=.ptr (.n i 0) 0 0,wr:=wr++[(.n i 0,some (.arr [v] ⟨z.cells.length,0⟩))] })
 | .allocT t z own=>match kB i 1 own (.d z) with
   | (v,wr)=>some (.ok { v:=.ptr (.n i 0) 0 0,wr:=wr++[(.n i 0,some (.arr [v] ⟨z.cells.length,t + 1000000⟩))] })
 | .box n x=>bnd (ev x) fun v=>if v.cells.length=n then some (.ok { v:=.ptr (.n i 0) 0 0,wr:=[(.n i 0,some (.arr [v] ⟨n,0⟩))] }) else none
 | .build z parts own=>bnd (evp ev parts) fun ps=>
   match kB i 0 own (.d z) with
   | (v,wr)=>bnd (wR v.cells ps) fun cs=>some (.ok { v:=wT cs,wr })
 | .buildSl n z len parts=>bnd (evq ev parts) fun ps=>if z.cells.length=n.c∧len * n.w≤A5 then bnd (jc n (List.replicate len (.d z)) ps) fun xs=>
   some (.ok { v:=.ref (.n i 0) n 0 len,wr:=[(.n i 0,some (.arr xs n))] }) else none
 | .load n ag x=>bnd (ev x) (S7 h n ag)
 | .store n x y=>bnd (ev x) fun a=>bnd (ev y) fun v=>Qj h n a v
 | .nilCk x=>match ev x with
   | some (.d (.box y))=>val (.d (.box y))
   | some (.ptr l e j)=>val (.ptr l e j)
   | _=>none
 | .bin op x y=>bnd (ev x) fun a=>bnd (ev y) fun b=>bnd (bin op a b) fun r=>val (.d r)
 | .un op x=>bnd (ev x) fun a=>bnd (un op a) fun r=>val (.d r)
 | .isN eq ifc x=>bnd (ev x) fun a=>bnd (ZX ifc a) fun b=>val (.d (.bool (b == eq)))
 | .eqB eq x y=>match ev x,ev y with
   | some (.d (.bool a)),some (.d (.bool b))=>val (.d (.bool ((a == b) == eq)))
   | _,_=>none
 | .conv k x=>bnd (ev x) fun a=>match k,a with
   | .int k,.d (.int _ n)=>val (.d (.int k (k.wrap n)))
   | .rune,.d (.int _ n)=>val (.d (.str (Utf8.encode n).data.toList))
   | .b2s,a=>bnd (K1 h a) fun (xs,m)=>bnd (zr xs) fun s=>some (.ok { v:=.d (.str s),rd:=m })
   | _,_=>none
 | .mkI t x=>bnd (ev x) fun v=>val (JA t v)
 | .mkF f cap=>bnd (evl ev cap) fun vs=>val (qky f vs)
 | .mkSl n z len cap=>bnd (ev len) fun a=>bnd (ev cap) fun b=>match vQ a,vQ b with
   | some l,some c=>if l≤c∧z.cells.length=n.c∧c * n.w≤A5 then some (.ok { v:=.ref (.n i 0) n 0 l,wr:=[(.n i 0,some (.arr (List.replicate l (.d z)) n))] }) else none
   | _,_=>none
 | .slice s x lo hi=>bnd (ev x) fun v=>
   match (match lo with | none=>some 0 | some o=>bnd (ev o) vQ),(match hi with | none=>lenOf v | some o=>bnd (ev o) vQ) with
   | some l,some u=>bnd (Kk s v l u) val
   | _,_=>none
 | .fieldA off n ag x=>match ev x with
   | some (.d (.box y))=>bnd (part (.d y) off n ag) fun v=>match v with
     | .d z=>val (.d (.box z))
     | _=>none
   | some (.ptr l e j)=>val (.ptr l e (j + off))
   | _=>none
 | .field off n ag x=>bnd (ev x) fun v=>if isAgg v then bnd (part v off n ag) val else none
 | .idxA n x k=>bnd (ev x) fun v=>bnd (ev k) fun a=>match vQ a with
   | none=>none
   | some j=>match v with
     | .d (.sl xs)=>match xs[j]? with
       | some y=>if y.cells.length=n.c then val (.d (.box y)) else none
       | none=>none
     | .ref l sz off len=>if j < len∧sz=n then val (.ptr l (off + j) 0) else none
     | _=>none
 | .idxS x k=>bnd (ev x) fun v=>bnd (ev k) fun a=>match v,vQ a with
   | .d (.str s),some j=>match s[j]? with
     | some b=>val (.d (.int .u8 b.toNat))
     | none=>none
   | _,_=>none
 | .extract x k=>match ev x with
   | some (.tup vs)=>bnd (vs[k]?) val
   | _=>none
 | .tass t ok z x=>bnd (ev x) fun v=>match Q9 v with
   | some (t',y)=>if t'=t then val (if ok then .tup [y,.d (.bool true)] else y) else if ok then val (.tup [.d z,.d (.bool false)]) else none
   | none=>match v,ok with
     | .d .nili,true=>val (.tup [.d z,.d (.bool false)])
     | _,_=>none
 | .call f args=>bnd (evs ev args) fun vs=>Y8 cf f i h vs
 | .callB f args=>bnd (evs ev args) fun vs=>JC cf f h vs
 | .callV f args=>bnd (ev f) fun g=>bnd (evs ev args) fun vs=>bnd (qep g) fun (f,cap)=>Y8 cf (wZ f) i h (N2 f vs (cap.map (·,false)))
 | .inv m x args=>bnd (ev x) fun v=>bnd (evs ev args) fun vs=>bnd (Q9 v) fun (t,y)=>bnd (wU m t) fun (f,path)=>
   match path with
   | none=>Y8 cf f i h ((y,true) :: vs)
   | some (off,n,ag)=>bnd (Yh y off n ag) fun r=>Y8 cf f i h ((r,true) :: vs)
 | .len s x=>bnd (ev x) fun v=>sel (kF v == s) (bnd (lenOf v) fun n=>sel (N6 v) (val (.d (.int .i64 n))) none) none
 | .app n x y=>match x with
   | none=>bnd (ev y) fun b=>qe8 h i n none b
   | some x=>bnd (ev x) fun a=>bnd (ev y) fun b=>qe8 h i n (unN a) b
 | .mx x y=>match ev x,ev y with
   | some (.d (.int k a)),some (.d (.int k' b))=>if k=k' then val (.d (.int k (if b > a then b else a))) else none
   | _,_=>none
 | .mn x y=>match ev x,ev y with
   | some (.d (.int k a)),some (.d (.int k' b))=>if k=k' then val (.d (.int k (if b < a then b else a))) else none
   | _,_=>none
 | .lload x=>bnd (ev x) (qh6 h i)
 | .lstore x y=>bnd (ev x) fun a=>bnd (ev y) fun v=>Yr h a v
 | .lapp n x y=>bnd (ev x) fun a=>bnd (ev y) fun v=>qqn h i n a v
 | .loadH x=>match ev x with
   | some (.ptr (.b k) 0 0)=>bnd (Zz h k) fun v=>some (.ok { v,rd:=[.n hdI k] })
   | _=>none
 | .idxF n x k=>bnd (ev x) fun v=>bnd (ev k) fun a=>bnd (vQ a) fun j=>match v with
   | .d (.agg cs)=>if j < n then bnd (cs[j]?) fun y=>val (.d y) else none
   | _=>none
 | .panic x=>bnd (ev x) fun v=>match Q9 v with
   | some _=>some (.pan { v })
   | none=>none
 | .range x=>match ev x with
   | some (.d (.str s))=>some (.ok { v:=.iter (.n i 0),wr:=[(.n i 0,some (.iter s 0))] })
   | _=>none
 | .next x=>match ev x with
   | some (.iter l)=>match h l with
     | some (.iter s pos)=>
       if pos < s.length then some (.ok { v:=.tup [.d (.bool true),.d (.int .i64 pos),.d (.int .i32 (dec s pos).1)],rd:=[l],wr:=[(l,some (.iter s (pos + (dec s pos).2)))] })
       else some (.ok { v:=.tup [.d (.bool false)],rd:=[l] })
     | _=>none
   | _=>none
 | .mkMap=>some (.ok { v:=.map (.n i 0),wr:=[(.n i 0,some (.map []))] })
 | .look s z x k=>match ev x,ev k with
   | some (.map l),some (.d key)=>match h l with
     | some (.map es)=>if kV s key es then some (.ok { v:=((YH es (J1 key)).getD (.d z)),rd:=[l] }) else none
     | _=>none
   | _,_=>none
 | .upd s x k v=>match ev x,ev k,ev v with
   | some (.map l),some (.d key),some v=>match h l with
     | some (.map es)=>if kV s key es && !qh9 v then some (.ok { v:=.tup [],rd:=[l],wr:=[(l,some (.map (Yd es key v)))] }) else none
     | _=>none
   | _,_,_=>none
structure RS where
 env:List (Nat × V)
 h:Loc→Option Obj
structure Rec where
 i:Nat
 rd:List Loc
 wr:List Loc
 ch:List Loc:=wr
def B2:List (Nat × V)→Nat→Option V
 | [],_=>none
 | (t,v) :: l,n=>if t=n then some v else B2 l n
def evO (env:List (Nat × V)):Opnd→Option V
 | .t n=>B2 env n
 | .c x=>some (.d x)
def W6 (env:List (Nat × V)) (dst:Option Nat) (v:V):List (Nat × V):=
 match dst with
 | some t=>(t,v) :: env
 | none=>env
def i9 (h:Loc→Option Obj):List (Loc × Option Obj)→Loc→Option Obj
 | []=>h
 | (l,o) :: ws=>i9 (fun l'=>if l'=l then o else h l') ws
def wanted (env:List (Nat × V)):Option (Nat × Bool)→Option Bool
 | none=>some true
 | some (t,w)=>match B2 env t with
   | some (.d (.bool b))=>some (b == w)
   | some (.tup [])=>some false
   | _=>none
inductive SR where
 | go (s:RS) (r:Rec)
 | pan (v:V) (s:RS) (r:Rec)
 | out
def qj0 (o:AIns) (s:RS):R→SR
 | .ok e=>.go { env:=W6 s.env o.dst e.v,h:=i9 s.h e.wr } { i:=o.i,rd:=e.rd,wr:=e.wr.map (·.1) }
 | .pan e=>.pan e.v { env:=s.env,h:=i9 s.h e.wr } { i:=o.i,rd:=e.rd,wr:=e.wr.map (·.1) }
 | .out=>.out
def step (T:Tab) (cf:CF) (o:AIns) (s:RS):Option SR:=
 bnd (wanted s.env o.guard) fun b=>
  sel b (bnd (j4 T cf o.i o.op (evO s.env) s.h) fun r=>some (qj0 o s r))
   (some (.go { env:=W6 s.env o.dst (.tup []),h:=s.h } { i:=o.i,rd:=[],wr:=[] }))
inductive RR where
 | nrm (s:RS)
 | pan (i:Nat) (v:V) (s:RS)
 | out
def qsi {α:Type} (x:SR) (k:RS→Rec→α) (p:V→RS→Rec→α) (o:α):α:=
 match x with
 | .go s r=>k s r
 | .pan v s r=>p v s r
 | .out=>o
def Xc (T:Tab) (cf:CF):List AIns→RS→List Rec→Option (RR × List Rec)
 | [],s,rs=>some (.nrm s,rs)
 | o :: os,s,rs=>bnd (step T cf o s) fun x=>qsi x (fun s' r=>Xc T cf os s' (r :: rs)) (fun v s' r=>some (.pan o.i v s',r :: rs)) (some (.out,rs))
def qnb (a b:Rec):Bool:=
 (a.wr.all (fun l=>!b.wr.contains l && !b.rd.contains l && !b.rd.contains (ZA l) && !b.wr.contains (ZA l)) && b.wr.all (fun l=>!a.rd.contains l && !a.rd.contains (ZA l) && !a.wr.contains (ZA l))) || (a.ch.all (fun l=>!b.ch.contains l && !b.rd.contains l) && b.ch.all (fun l=>!a.rd.contains l))
def QI (rs:List Rec) (i:Nat):Option Rec:=rs.find? (·.i == i)
def wm (pairs:List (Nat × Nat)) (rs:List Rec):Bool:=
 pairs.all fun (i,j)=>match QI rs i,QI rs j with
  | some a,some b=>qnb a b
  | _,_=>true
def Loc.isNew:Loc→Bool
 | .n _ _=>true
 | .b _=>false
structure St where
 env:List (Nat × V)
 heap:List Obj
inductive Ex where
 | nrm
 | exit (id:Nat)
 | ret
 | pan (v:V)
 | out
def zY (env:List (Nat × V)):List Nat→List Nat × List V
 | []=>([],[])
 | t :: ks=>match B2 env t,zY env ks with
   | some v,(ts,vs)=>(t :: ts,v :: vs)
   | none,r=>r
def vi (pin:Nat) (keep:List Nat) (env:List (Nat × V)) (h:Loc→Option Obj):Option St:=
 bnd (XK (Kt pin) (zY env keep).2 h) fun x=>some { env:=(zY env keep).1.zip x.1,heap:=x.2.1 }
def qmf (pin:Nat) (v:V) (h:Loc→Option Obj):Option (Ex × St):=
 bnd (frz h 24 v) fun a=>
  if a.2.all (fun l=>match l with | .b k=>decide (pin≤k) | .n _ _=>true) then
   bnd (XK (Kt pin) [] (Q7 h a.2)) fun b=>some (.pan (.d a.1),{ env:=[],heap:=b.2.1 })
  else none
def qvi (pin:Nat) (keep:List Nat):RR→Option (Ex × St)
 | .nrm s=>bnd (vi pin keep s.env s.h) fun st=>some (.nrm,st)
 | .pan _ v s=>qmf pin v s.h
 | .out=>some (.out,{ env:=[],heap:=[] })
def Loc.isOf (i:Nat):Loc→Bool
 | .n j _=>j == i
 | .b _=>false
def Loc.oldOr (i:Nat):Loc→Bool
 | .n j _=>j == i
 | .b _=>true
def only (p:Loc→Bool) (h:Loc→Option Obj):Loc→Option Obj:=fun l=>sel (p l) (h l) none
def B9:AOp→Nat
 | .mv _ | .pick _ _ _ | .nilCk _ | .bin _ _ _ | .un _ _ | .isN _ _ _ | .eqB _ _ _ | .mkI _ _ | .mkF _ _ | .slice _ _ _ _ | .fieldA _ _ _ _ | .field _ _ _ _ | .idxA _ _ _ | .idxS _ _ | .extract _ _ | .tass _ _ _ _
 | .len _ _ | .mx _ _ | .mn _ _ | .idxF _ _ _ | .conv (.int _) _ | .conv .rune _ | .build _ _ []=>0
 | .load _ _ _ | .callB _ _ | .loadH _ | .conv .b2s _ | .look _ _ _ _=>1
 | .call _ _ | .callV _ _ | .inv _ _ _=>3
 | _=>2
def L7 (op:AOp):Bool:=B9 op == 3
def L1:Option V→List Loc
 | some (.ref l _ _ _)=>[l]
 | some (.ptr l _ _)=>[l]
 | some (.map l)=>[l]
 | some (.iter l)=>[l]
 | _=>[]
def qqd (h:Loc→Option Obj) (vs:List V):List Loc:=onO (XK [] vs h) [] fun x=>x.2.2
def w4 (op:AOp) (ev:Opnd→Option V) (h:Loc→Option Obj):List Loc:=
 match op with
 | .load _ _ x=>L1 (ev x)
 | .store _ x _=>L1 (ev x)
 | .conv k x=>(match k with | .b2s=>L1 (ev x) | _=>[])
 | .app _ x y=>onO x [] (fun x=>L1 (ev x))++L1 (ev y)
 | .next x=>L1 (ev x)
 | .lload x=>L1 (ev x)
 | .loadH x=>(L1 (ev x)).map ZA
 | .lstore x y=>L1 (ev x)++L1 (ev y)
 | .lapp _ x y=>L1 (ev x)++L1 (ev y)
 | .look _ _ x _=>L1 (ev x)
 | .upd _ x _ _=>L1 (ev x)
 | .callB _ args=>onO (evs ev args) [] fun vs=>vs.flatMap fun x=>L1 (some x.1)
 | .call _ args=>onO (evs ev args) [] fun vs=>qqd h (vs.map (·.1))
 | .callV f args=>onO (ev f) [] fun g=>onO (evs ev args) [] fun vs=>onO (qep g) [] fun c=>qqd h (N2 c.1 (vs.map (·.1)) c.2)
 | .inv _ x args=>onO (ev x) [] fun v=>onO (evs ev args) [] fun vs=>qqd h (v :: vs.map (·.1))
 | _=>[]
def jV (T:Tab) (cf:CF) (i:Nat) (op:AOp) (A:List Loc) (ev:Opnd→Option V) (h:Loc→Option Obj):Option R:=
 sel (L7 op) (j4 T cf i op ev (only A.contains h)) (j4 T cf i op ev h)
def okW (A:List Loc) (i:Nat) (wr:List (Loc × Option Obj)):Bool:=
 A.all (fun l=>(wr.map (·.1)).contains l) && (wr.map (·.1)).all (fun l=>A.contains l || l.isOf i)
def ZV (k:Nat) (A:List Loc) (i:Nat) (wr:List (Loc × Option Obj)):Bool:=
 match k with
 | 0=>A.isEmpty && wr.isEmpty
 | 1=>wr.isEmpty
 | 2=>true
 | _=>okW A i wr
def chN (wr:List (Loc × Option Obj)):List Loc:=wr.map (·.1)++(wr.map (·.1)).map ZA
noncomputable section
open Classical in
def chg (A:List Loc) (h:Loc→Option Obj) (wr:List (Loc × Option Obj)):List Loc:=((wr.map (·.1)).filter fun l=>!A.contains l || decide (i9 h wr l≠h l))++((wr.map (·.1)).filter fun l=>!A.contains l || decide (Ke (i9 h wr l)≠Ke (h l))).map ZA
def qbn (o:AIns) (A:List Loc) (s:RS):R→Option SR
 | .ok e=>sel (ZV (B9 o.op) A o.i e.wr) (some (.go { env:=W6 s.env o.dst e.v,h:=i9 s.h e.wr } { i:=o.i,rd:=A,wr:=e.wr.map (·.1),ch:=sel (L7 o.op) (chg A s.h e.wr) (chN e.wr) })) none
 | .pan e=>sel (decide (2≤B9 o.op) && ZV (B9 o.op) A o.i e.wr) (some (.pan e.v { env:=s.env,h:=i9 s.h e.wr } { i:=o.i,rd:=A,wr:=e.wr.map (·.1) })) none
 | .out=>sel (decide (B9 o.op≠0) || A.isEmpty) (some .out) none
def QF (T:Tab) (cf:CF) (o:AIns) (A:List Loc) (s:RS):Option SR:=
 bnd (wanted s.env o.guard) fun b=>
  sel b (bnd (jV T cf o.i o.op A (evO s.env) s.h) (qbn o A s))
   (some (.go { env:=W6 s.env o.dst (.tup []),h:=s.h } { i:=o.i,rd:=[],wr:=[] }))
def qac (pairs:List (Nat × Nat)) (rs:List Rec) (i:Nat):Bool:=
 pairs.all fun (a,b)=>sel (b == i) (onO (QI rs a) true fun r=>r.wr.all (·.isOf a)) true
def QG (T:Tab) (cf:CF) (pairs:List (Nat × Nat)) (ends:List Nat):List AIns→RS→List Rec→Option (RR × List Rec)
 | [],s,rs=>some (.nrm s,rs)
 | o :: os,s,rs=>bnd (QF T cf o (w4 o.op (evO s.env) s.h) s) fun x=>
   qsi x (fun s' r=>QG T cf pairs ends os s' (r :: rs))
    (fun v s' r=>sel (ends.contains o.i && qac pairs rs o.i) (some (.pan o.i v s',r :: rs)) none)
    (sel (ends.contains o.i) (some (.out,{ i:=o.i,rd:=w4 o.op (evO s.env) s.h,wr:=[] } :: rs)) none)
def Jw (pin:Nat) (keep:List Nat):RR→Option (Ex × St)
 | .nrm s=>bnd (vi pin keep s.env s.h) fun st=>some (.nrm,st)
 | .pan i v s=>qmf pin v (only (Loc.oldOr i) s.h)
 | .out=>some (.out,{ env:=[],heap:=[] })
def region (T:Tab) (cf:CF) (pin:Nat) (ops:List AIns) (draw:Option (List (Nat × Nat) × List Nat)) (keep:List Nat) (st:St):Option (Ex × St):=
 onO draw (bnd (Xc T cf ops { env:=st.env,h:=o5 st.heap } []) fun x=>qvi pin keep x.1) fun d=>
  bnd (QG T cf d.1 d.2 ops { env:=st.env,h:=o5 st.heap } []) fun x=>sel (wm d.1 x.2) (Jw pin keep x.1) none
def XT:Nat→(St→Option (Ex × St))→St→Option (Ex × St)
 | 0,_,_=>none
 | n + 1,f,st=>match f st with
   | some (.nrm,st')=>XT n f st'
   | r=>r
def code (T:Tab) (cf:CF) (pin n:Nat):ACode→St→Option (Ex × St)
 | .skip,st=>some (.nrm,st)
 | .region ops draw keep,st=>region T cf pin ops draw keep st
 | .seq a b,st=>match code T cf pin n a st with
   | some (.nrm,st')=>code T cf pin n b st'
   | r=>r
 | .cond c a b,st=>match evO st.env c with
   | some (.d (.bool true))=>code T cf pin n a st
   | some (.d (.bool false))=>code T cf pin n b st
   | _=>none
 | .block id c,st=>match code T cf pin n c st with
   | some (.exit id',st')=>if id'=id then some (.nrm,st') else some (.exit id',st')
   | r=>r
 | .loop keep c,st=>XT n (fun st=>match vi pin keep st.env (o5 st.heap) with
   | some st=>code T cf pin n c st
   | none=>none) st
 | .exit id keep,st=>bnd (vi pin keep st.env (o5 st.heap)) fun st=>some (.exit id,st)
 | .scope c,st=>code T cf pin n c st
 | .ret,st=>some (.ret,st)
 | .refuse,_=>none
def qby (env:List (Nat × V)) (h:Loc→Option Obj):ARes→Option V
 | .tmp t=>B2 env t
 | .cell t n ag=>match B2 env t with
   | some a=>match S7 h n ag a with
     | some (.ok e)=>some e.v
     | _=>none
   | none=>none
def je (env:List (Nat × V)) (h:Loc→Option Obj):List (ARes × Bool)→Option (List (V × Bool))
 | []=>some []
 | (r,fl) :: l=>match qby env h r,je env h l with
   | some v,some vs=>some ((v,fl) :: vs)
   | _,_=>none
def qf (pin:Nat) (res:List (ARes × Bool)) (st:St):Option CRes:=
 bnd (je st.env (o5 st.heap) res) fun vs=>bnd (A7 (o5 st.heap) vs) fun a=>
  if a.2.all (fun l=>match l with | .b k=>decide (pin≤k) | .n _ _=>false) then
   bnd (XK (Kt pin) a.1 (Q7 (o5 st.heap) a.2)) fun b=>some (.ret b.1 b.2.1)
  else none
structure Exts where
 run:FuncId→Option (CF→List V→List Obj→Option CRes)
def ARes.slot:ARes→Nat
 | .tmp t=>t
 | .cell t _ _=>t
def Zj (env:List (Nat × V)):List Nat→Option (List V)
 | []=>some []
 | t :: ts=>bnd (B2 env t) fun v=>bnd (Zj env ts) fun vs=>some (v :: vs)
def jX (r:ARec) (env:List (Nat × V)):List (Nat × V):=(zY env (r.res.map (·.1.slot))).1.zip (zY env (r.res.map (·.1.slot))).2
def qln (p:Nat) (res:List (ARes × Bool)) (env:List (Nat × V)):Option (Ex × St)→Option CRes
 | some (.nrm,st)=>qf p res { env,heap:=st.heap }
 | some (.ret,st)=>qf p res { env,heap:=st.heap }
 | some (.out,_)=>some .out
 | _=>none
def q1p (k:V→List Obj→Option CRes):Option (Ex × St)→Option CRes
 | some (.nrm,st)=>k (.d .nili) st.heap
 | some (.ret,st)=>k (.d .nili) st.heap
 | some (.pan (.d (.iface t x)),st)=>k (.d (.iface t x)) st.heap
 | some (.out,_)=>some .out
 | _=>none
def qho (p:Nat) (res:List (ARes × Bool)) (k:St→Option CRes):Option (Ex × St)→Option CRes
 | some (.nrm,st)=>k st
 | some (.ret,st)=>qf p res st
 | some (.pan v,st)=>some (.pan v st.heap)
 | some (.out,_)=>some .out
 | _=>none
def qa0 (cd:Nat→ACode→St→Option (Ex × St)) (r:ARec) (vs:List V) (heap:List Obj):Option CRes:=
 if vs.length=r.np then
  qho heap.length r.res (fun st=>bnd (Zj st.env r.caps) fun cs=>
   q1p (fun v h=>qln heap.length r.res (jX r st.env) (cd h.length r.hcode { env:=(r.hv,v) :: (List.range cs.length).zip cs,heap:=h })) (cd st.heap.length r.body { env:=(r.t,.junk) :: st.env,heap:=st.heap }))
   (cd heap.length r.pre { env:=(List.range r.np).zip vs,heap })
 else none
def call (T:Tab) (X:Exts):Nat→CF
 | 0=>fun _ _ _=>none
 | n + 1=>fun f vs heap=>
   match X.run f with
   | some e=>e (call T X n) vs heap
   | none=>
     match T.funs f with
     | none=>match T.recs f with
       | some r=>qa0 (fun p a st=>code T (call T X n) p n a st) r vs heap
       | none=>none
     | some af=>
       if vs.length=af.np then
        match code T (call T X n) heap.length n af.code { env:=(List.range af.np).zip vs,heap } with
        | some (.nrm,st)=>qf heap.length af.res st
        | some (.ret,st)=>qf heap.length af.res st
        | some (.pan v,st)=>some (.pan v st.heap)
        | some (.out,_)=>some .out
        | _=>none
       else none
end
def vj (s:List UInt8):Nat × Nat:=if s.length=0 then (65533,0) else dec s 0
def q99:CF→List V→List Obj→Option CRes:=fun _ vs heap=>match vs with
 | [.d (.str s)]=>some (.ret [.d (.int .i32 (vj s).1),.d (.int .i64 (vj s).2)] heap)
 | _=>none
end Go.Rf
