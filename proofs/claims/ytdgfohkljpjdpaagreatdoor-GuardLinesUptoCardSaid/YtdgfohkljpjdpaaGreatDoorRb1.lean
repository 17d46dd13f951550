/- Parts of the proof: RfSem, RfMono, RfExt. -/
import Derived.Orders
import Derived.Recover
import Derived.RowKit3

set_option linter.unusedSimpArgs false
set_option linter.unusedVariables false
set_option linter.unnecessarySimpa false
namespace Go.Rf
inductive Loc where
  | b (n : Nat)
  | n (i k : Nat)
  deriving DecidableEq, Repr, Inhabited
structure W where
  c : Nat
  w : Nat
  deriving DecidableEq, Repr, Inhabited
inductive D where
  | bool (b : Bool)
  | int (k : IntKind) (n : Int)
  | str (s : List UInt8)
  | agg (cs : List D)
  | iface (t : TypeId) (x : D)
  | sl (xs : List D)
  | box (x : D)
  | fn (f : FuncId) (cap : List D)
  | nilp
  | nili
  | nilf
  | nilm
  | nils
  deriving Inhabited
inductive V where
  | d (x : D)
  | ref (l : Loc) (sz : W) (off len : Nat)
  | ptr (l : Loc) (e j : Nat)
  | agg (cs : List V)
  | iface (t : TypeId) (x : V)
  | fn (f : FuncId) (cap : List V)
  | tup (vs : List V)
  | map (l : Loc)
  | iter (l : Loc)
  | junk
  deriving Inhabited
inductive Obj where
  | arr (xs : List V) (sz : W)
  | map (es : List (D × V))
  | iter (s : List UInt8) (pos : Nat)
  | dead
  deriving Inhabited
inductive Opnd where
  | t (n : Nat)
  | c (x : D)
  deriving Inhabited
inductive Cv where
  | int (k : IntKind)
  | rune
  | b2s
  deriving Inhabited
inductive AOp where
  | mv (x : Opnd)
  | own (n : W)
  | pick (c a b : Opnd)
  | alloc (z : D) (own : List (Nat × W))
  | allocT (t : TypeId) (z : D) (own : List (Nat × W))
  | box (n : Nat) (x : Opnd)
  | build (z : D) (parts : List (Nat × Nat × Opnd)) (own : List (Nat × W))
  | buildSl (n : W) (z : D) (len : Nat) (parts : List (Nat × Opnd))
  | load (n : Nat) (ag : Bool) (x : Opnd)
  | store (n : Nat) (x y : Opnd)
  | nilCk (x : Opnd)
  | bin (op : BinOp) (x y : Opnd)
  | un (op : UnOp) (x : Opnd)
  | isN (eq iface : Bool) (x : Opnd)
  | eqB (eq : Bool) (x y : Opnd)
  | conv (k : Cv) (x : Opnd)
  | mkI (t : TypeId) (x : Opnd)
  | mkF (f : FuncId) (cap : List Opnd)
  | mkSl (n : W) (z : D) (len cap : Opnd)
  | slice (n : Option W) (x : Opnd) (lo hi : Option Opnd)
  | fieldA (off n : Nat) (ag : Bool) (x : Opnd)
  | field (off n : Nat) (ag : Bool) (x : Opnd)
  | idxA (n : W) (x i : Opnd)
  | idxS (x i : Opnd)
  | extract (x : Opnd) (i : Nat)
  | tass (t : TypeId) (ok : Bool) (z : D) (x : Opnd)
  | call (f : FuncId) (args : List (Opnd × Bool))
  | callV (f : Opnd) (args : List (Opnd × Bool))
  | inv (m : List (TypeId × FuncId × Option (Nat × Nat × Bool))) (x : Opnd) (args : List (Opnd × Bool))
  | len (str : Bool) (x : Opnd)
  | app (n : W) (x : Option Opnd) (y : Opnd)
  | mx (x y : Opnd)
  | panic (x : Opnd)
  | range (x : Opnd)
  | next (x : Opnd)
  | mkMap
  | look (s : Bool) (z : D) (x k : Opnd)
  | upd (s : Bool) (x k v : Opnd)
  deriving Inhabited
structure AIns where
  i : Nat
  dst : Option Nat
  op : AOp
  guard : Option (Nat × Bool) := none
  deriving Inhabited
inductive ACode where
  | skip
  | region (ops : List AIns) (draw : Option (List (Nat × Nat) × List Nat)) (keep : List Nat)
  | seq (a b : ACode)
  | cond (c : Opnd) (a b : ACode)
  | block (id : Nat) (c : ACode)
  | loop (keep : List Nat) (c : ACode)
  | exit (id : Nat) (keep : List Nat)
  | scope (c : ACode)
  | ret
  | refuse
  deriving Inhabited
inductive ARes where
  | tmp (t : Nat)
  | cell (t n : Nat) (ag : Bool)
  deriving Inhabited
structure AFun where
  np : Nat
  code : ACode
  res : List (ARes × Bool)
  deriving Inhabited
inductive CRes where
  | ret (vs : List V) (heap : List Obj)
  | pan (v : V) (heap : List Obj)
  | out
  deriving Inhabited
abbrev CF := FuncId → List V → List Obj → Option CRes
def bnd {α β : Type} (x : Option α) (k : α → Option β) : Option β := x.bind k
theorem qbj {α β : Type} (a : α) (k : α → Option β) : bnd (some a) k = k a := rfl
theorem q0h {α β : Type} (k : α → Option β) : bnd none k = none := rfl
def sel {α : Type} (b : Bool) (x y : α) : α := match b with | true => x | false => y
theorem qet {α : Type} (x y : α) : sel true x y = x := rfl
theorem qlo {α : Type} (x y : α) : sel false x y = y := rfl
def viaP {α β γ : Type} (x : α × β) (k : α → β → γ) : γ := k x.1 x.2
def onO {α β : Type} (x : Option α) (a : β) (f : α → β) : β := match x with | none => a | some x => f x
theorem qmg {α β : Type} (a : β) (f : α → β) : onO none a f = a := rfl
theorem qjx {α β : Type} (x : α) (a : β) (f : α → β) : onO (some x) a f = f x := rfl
def D.cells : D → List D
  | .agg cs => cs
  | x => [x]
def V.cells : V → List V
  | .d (.agg cs) => cs.map .d
  | .agg cs => cs
  | .tup _ => []
  | v => [v]
mutual
def wt : D → Nat
  | .bool _ => 1
  | .int k _ => k.bits / 8
  | .str _ => 16
  | .agg cs => wts cs
  | .iface _ _ => 16
  | .sl _ => 24
  | .box _ => 8
  | .fn _ _ => 8
  | .nilp => 8
  | .nili => 16
  | .nilf => 8
  | .nilm => 8
  | .nils => 24
def wts : List D → Nat
  | [] => 0
  | x :: l => wt x + wts l
end
def wl : List D → Nat
  | [] => 1
  | x :: l => max (wt x) (wl l)
def allD : List V → Option (List D)
  | [] => some []
  | .d x :: l => (allD l).map (x :: ·)
  | _ :: _ => none
def mkAgg (l : List V) : V :=
  match allD l with
  | some ds => .d (.agg ds)
  | none => .agg l
def part (v : V) (off n : Nat) (ag : Bool) : Option V :=
  if ag then (if off + n ≤ v.cells.length then some (mkAgg ((v.cells.drop off).take n)) else none)
  else v.cells[off]?
def qmf : List V → Nat → List V → List V
  | cs, _, [] => cs
  | cs, off, x :: xs => qmf (cs.set off x) (off + 1) xs
def isAgg : V → Bool
  | .d (.agg _) | .agg _ => true
  | _ => false
def qd8 (v : V) (off : Nat) (x : V) : Option V :=
  if off + x.cells.length ≤ v.cells.length then
    if isAgg v then some (mkAgg (qmf v.cells off x.cells))
    else if isAgg x then none else some x
  else none
def idx (m : List Loc) (l : Loc) : Option Nat :=
  match m with
  | [] => none
  | x :: m => if x = l then some 0 else (idx m l).map (· + 1)
def qhl (al : Loc → Bool) (l : Loc) (m : List Loc) : Option Nat × List Loc :=
  sel (al l) (onO (idx m l) (some m.length, m ++ [l]) fun k => (some k, m)) (none, m)
def named (r : Option Nat × List Loc) (f : Nat → V) : V × List Loc := viaP r fun k m => (onO k .junk f, m)
mutual
def V.ren (al : Loc → Bool) : V → List Loc → V × List Loc
  | .d x, m => (.d x, m)
  | .ref l sz o n, m => named (qhl al l m) fun k => .ref (.b k) sz o n
  | .ptr l e j, m => named (qhl al l m) fun k => .ptr (.b k) e j
  | .map l, m => named (qhl al l m) fun k => .map (.b k)
  | .iter l, m => named (qhl al l m) fun k => .iter (.b k)
  | .agg cs, m => viaP (rens al cs m) fun cs m => (.agg cs, m)
  | .iface t x, m => viaP (V.ren al x m) fun x m => (.iface t x, m)
  | .fn f cs, m => viaP (rens al cs m) fun cs m => (.fn f cs, m)
  | .tup cs, m => viaP (rens al cs m) fun cs m => (.tup cs, m)
  | .junk, m => (.junk, m)
def rens (al : Loc → Bool) : List V → List Loc → List V × List Loc
  | [], m => ([], m)
  | v :: vs, m => viaP (V.ren al v m) fun v m => viaP (rens al vs m) fun vs m => (v :: vs, m)
end
def renEs (al : Loc → Bool) : List (D × V) → List Loc → List (D × V) × List Loc
  | [], m => ([], m)
  | (k, v) :: es, m => viaP (V.ren al v m) fun v m => viaP (renEs al es m) fun es m => ((k, v) :: es, m)
def Obj.ren (al : Loc → Bool) : Obj → List Loc → Obj × List Loc
  | .arr xs sz, m => viaP (rens al xs m) fun xs m => (.arr xs sz, m)
  | .map es, m => viaP (renEs al es m) fun es m => (.map es, m)
  | o, m => (o, m)
def qdd (h : Loc → Option Obj) : Nat → Nat → List Loc → Option (List Obj × List Loc)
  | 0, _, _ => none
  | f + 1, j, m => onO m[j]? (some ([], m)) fun l =>
    onO (h l) (bnd (qdd h f (j + 1) m) fun r => some (.dead :: r.1, r.2)) fun o =>
      viaP (o.ren (fun l => (h l).isSome) m) fun o m => bnd (qdd h f (j + 1) m) fun r => some (o :: r.1, r.2)
def norm (pin : List Loc) (vs : List V) (h : Loc → Option Obj) : Option (List V × List Obj × List Loc) :=
  viaP (rens (fun l => (h l).isSome) vs pin) fun vs m => bnd (qdd h 64 0 m) fun r => some (vs, r.1, r.2)
def qa6 (heap : List Obj) : Loc → Option Obj
  | .b n => match heap[n]? with
    | some .dead => none
    | o => o
  | .n _ _ => none
def pins (n : Nat) : List Loc := (List.range n).map .b
def frzL (f : V → Option (D × List Loc)) : List V → Option (List D × List Loc)
  | [] => some ([], [])
  | v :: vs =>
    match f v, frzL f vs with
    | some (x, m), some (xs, m') => some (x :: xs, m ++ m')
    | _, _ => none
def frz (h : Loc → Option Obj) : Nat → V → Option (D × List Loc)
  | 0, .d x => some (x, [])
  | 0, _ => none
  | k + 1, v =>
    match v with
    | .d x => some (x, [])
    | .ref l sz off len =>
      match h l with
      | some (.arr xs _) => if off + len ≤ xs.length then (frzL (frz h k) ((xs.drop off).take len)).bind fun (ds, m) => if wl ds ≤ sz.w then some (.sl ds, l :: m) else none else none
      | _ => none
    | .ptr l e j =>
      match h l with
      | some (.arr xs _) => if j = 0 then match xs[e]? with
        | some v => (frz h k v).map fun (x, m) => (.box x, l :: m)
        | none => none else none
      | _ => none
    | .agg cs => (frzL (frz h k) cs).map fun (ds, m) => (.agg ds, m)
    | .iface t v => (frz h k v).map fun (x, m) => (.iface t x, m)
    | .fn f cs => (frzL (frz h k) cs).map fun (ds, m) => (.fn f ds, m)
    | .map l =>
      match h l with
      | some (.map _) => some (.nilm, [l])
      | _ => none
    | _ => none
structure ARec where
  np : Nat
  pre : ACode
  t : Nat
  hf : FuncId
  caps : List Nat
  body : ACode
  res : List (ARes × Bool)
  hv : Nat
  hcode : ACode
  deriving Inhabited
structure Tab where
  funs : FuncId → Option AFun
  recs : FuncId → Option ARec := fun _ => none
structure Eff where
  v : V
  rd : List Loc := []
  wr : List (Loc × Option Obj) := []
inductive R where
  | ok (e : Eff)
  | pan (e : Eff)
  | out
def val (v : V) : Option R := some (.ok { v })
mutual
def V.mapL (f : Loc → Loc) : V → V
  | .d x => .d x
  | .ref l sz o n => .ref (f l) sz o n
  | .ptr l e j => .ptr (f l) e j
  | .map l => .map (f l)
  | .iter l => .iter (f l)
  | .agg cs => .agg (mapLs f cs)
  | .iface t x => .iface t (V.mapL f x)
  | .fn g cs => .fn g (mapLs f cs)
  | .tup cs => .tup (mapLs f cs)
  | .junk => .junk
def mapLs (f : Loc → Loc) : List V → List V
  | [] => []
  | v :: vs => V.mapL f v :: mapLs f vs
end
def mapLe (f : Loc → Loc) : List (D × V) → List (D × V)
  | [] => []
  | (k, v) :: es => (k, V.mapL f v) :: mapLe f es
def Obj.mapL (f : Loc → Loc) : Obj → Option Obj
  | .arr xs sz => some (.arr (mapLs f xs) sz)
  | .map es => some (.map (mapLe f es))
  | .iter s p => some (.iter s p)
  | .dead => none
def backL (m : List Loc) (i : Nat) : Loc → Loc
  | .b k => if k < m.length then m.getD k (.n i 0) else .n i (k - m.length)
  | .n _ b => .n i b
def qfc (m : List Loc) (i : Nat) : Nat → List Obj → List (Loc × Option Obj)
  | _, [] => []
  | k, o :: os => (backL m i (.b k), o.mapL (backL m i)) :: qfc m i (k + 1) os
def untup : List V → V
  | [v] => v
  | vs => .tup vs
def qcc (h : Loc → Option Obj) : List (V × Bool) → Option (List V × List Loc)
  | [] => some ([], [])
  | (v, fl) :: l =>
    match (if fl then (frz h 24 v).map (fun (x, m) => (V.d x, m)) else some (v, [])), qcc h l with
    | some (v, m), some (vs, m') => some (v :: vs, m ++ m')
    | _, _ => none
def qgh (h : Loc → Option Obj) (m : List Loc) : Loc → Option Obj := fun l => if l ∈ m then none else h l
def lots : Nat := 140737488355328
def long : Nat := 4611686018427387904
def fitC : D → Bool
  | .sl xs => decide (xs.length * wl xs ≤ lots)
  | .str s => decide (s.length ≤ long)
  | _ => true
def fitV : V → Bool
  | .d (.agg cs) => cs.all fitC
  | .d x => fitC x
  | .ref _ sz _ len => decide (len * sz.w ≤ lots)
  | _ => true
def qti (fm m : List Loc) (i : Nat) : CRes → R
  | .out => .out
  | .ret rs heap => .ok { v := (untup rs).mapL (backL m i), rd := fm ++ m, wr := fm.map (·, none) ++ qfc m i 0 heap }
  | .pan v heap => .pan { v := v.mapL (backL m i), rd := fm ++ m, wr := fm.map (·, none) ++ qfc m i 0 heap }
def qh7 (cf : CF) (f : FuncId) (i : Nat) (h : Loc → Option Obj) (args : List (V × Bool)) : Option R :=
  bnd (qcc h args) fun a => bnd (norm [] a.1 (qgh h a.2)) fun b => sel (b.1.all fitV) (bnd (cf f b.1 b.2.1) fun r => some (qti a.2 b.2.2 i r)) none
def dec (s : List UInt8) (i : Nat) : Nat × Nat := Utf8.decode ⟨s.toArray⟩ i
def qej (op : BinOp) (k : IntKind) (a b : Int) : Option D :=
  match op with
  | .add => some (.int k (k.wrap (a + b)))
  | .sub => some (.int k (k.wrap (a - b)))
  | .mul => some (.int k (k.wrap (a * b)))
  | .quo => if b = 0 then none else some (.int k (k.wrap (a.tdiv b)))
  | .rem => if b = 0 then none else some (.int k (a.tmod b))
  | .and => some (.int k (k.wrap (BitVec.ofInt k.bits a &&& BitVec.ofInt k.bits b).toNat))
  | .or => some (.int k (k.wrap (BitVec.ofInt k.bits a ||| BitVec.ofInt k.bits b).toNat))
  | .xor => some (.int k (k.wrap (BitVec.ofInt k.bits a ^^^ BitVec.ofInt k.bits b).toNat))
  | .andNot => some (.int k (k.wrap (BitVec.ofInt k.bits a &&& ~~~BitVec.ofInt k.bits b).toNat))
  | .eql => some (.bool (a == b))
  | .neq => some (.bool (a != b))
  | .lss => some (.bool (a < b))
  | .leq => some (.bool (a ≤ b))
  | .gtr => some (.bool (a > b))
  | .geq => some (.bool (a ≥ b))
  | _ => none
def quf (op : BinOp) (k : IntKind) (a b : Int) : Option D :=
  if b < 0 then none else
  match op with
  | .shl => some (.int k (k.wrap (a * 2 ^ (min b.toNat k.bits))))
  | .shr => some (.int k (a.fdiv (2 ^ (min b.toNat k.bits))))
  | _ => none
def qxc (op : BinOp) (a b : List UInt8) : Option D :=
  match op with
  | .add => if a.length + b.length ≤ long then some (.str (a ++ b)) else none
  | .eql => some (.bool (a == b))
  | .neq => some (.bool (!(a == b)))
  | _ => none
def isNil : Bool → V → Option Bool
  | false, .d .nilp => some true
  | false, .d (.box _) => some false
  | false, .ptr .. => some false
  | true, .d .nili => some true
  | true, .d (.iface ..) => some false
  | true, .iface .. => some false
  | _, _ => none
def bin (op : BinOp) (x y : V) : Option D :=
  match x, y with
  | .d (.int k a), .d (.int k' b) =>
    match op with
    | .shl | .shr => quf op k a b
    | _ => if k = k' then qej op k a b else none
  | .d (.str a), .d (.str b) => qxc op a b
  | _, _ => none
def un (op : UnOp) (x : V) : Option D :=
  match op, x with
  | .not, .d (.bool b) => some (.bool (!b))
  | .neg, .d (.int k a) => some (.int k (k.wrap (0 - a)))
  | _, _ => none
def qjr : List V → Option (List UInt8)
  | [] => some []
  | .d (.int .u8 n) :: l => (qjr l).map (UInt8.ofNat n.toNat :: ·)
  | _ :: _ => none
def elems (h : Loc → Option Obj) : V → Option (List V × List Loc)
  | .d (.sl xs) => some (xs.map .d, [])
  | .d (.str s) => some (s.map (fun b => .d (.int .u8 b.toNat)), [])
  | .ref l _ off len =>
    match h l with
    | some (.arr xs _) => if off + len ≤ xs.length then some ((xs.drop off).take len, [l]) else none
    | _ => none
  | _ => none
def lenOf : V → Option Nat
  | .d .nils => some 0
  | .d (.sl xs) => some xs.length
  | .d (.str s) => some s.length
  | .ref _ _ _ len => some len
  | _ => none
def isStr : V → Bool
  | .d (.str _) => true
  | _ => false
def natOf : V → Option Nat
  | .d (.int _ a) => if 0 ≤ a then some a.toNat else none
  | _ => none
def quz (n : Option W) (x : V) (lo hi : Nat) : Option V :=
  if lo ≤ hi then
    match n, x with
    | none, .d (.str s) => if hi ≤ s.length then some (.d (.str ((s.drop lo).take (hi - lo)))) else none
    | some n, .d (.sl xs) => if hi ≤ xs.length ∧ xs.all (fun y => y.cells.length == n.c) = true then some (.d (.sl ((xs.drop lo).take (hi - lo)))) else none
    | some n, .ref l sz off len => if hi ≤ len ∧ sz = n then (if lo = hi then some (.d (.sl [])) else some (.ref l sz (off + lo) (hi - lo))) else none
    | _, _ => none
  else none
def qfw (i : Nat) : Nat → List (Nat × W) → List V → List V × List (Loc × Option Obj)
  | _, [], cs => (cs, [])
  | k, (c, sz) :: l, cs =>
    match qfw i (k + 1) l (cs.set c (.ref (.n i k) sz 0 0)) with
    | (cs, wr) => (cs, (.n i k, some (.arr [] sz)) :: wr)
def ownD (i : Nat) (k : Nat) (own : List (Nat × W)) (v : V) : V × List (Loc × Option Obj) :=
  match own with
  | [] => (v, [])
  | _ => match qfw i k own v.cells with
    | (cs, wr) => (if isAgg v then mkAgg cs else cs.headD .junk, wr)
def qnr : List V → List (Nat × Nat × V) → Option (List V)
  | cs, [] => some cs
  | cs, (off, n, v) :: l => if v.cells.length = n ∧ off + n ≤ cs.length then qnr (qmf cs off v.cells) l else none
def qk5 (n : W) : List V → List (Nat × V) → Option (List V)
  | xs, [] => some xs
  | xs, (k, v) :: l => if v.cells.length = n.c ∧ k < xs.length then qk5 n (xs.set k v) l else none
def evs (ev : Opnd → Option V) : List (Opnd × Bool) → Option (List (V × Bool))
  | [] => some []
  | (x, fl) :: l => match ev x, evs ev l with
    | some v, some vs => some ((v, fl) :: vs)
    | _, _ => none
def evl (ev : Opnd → Option V) : List Opnd → Option (List V)
  | [] => some []
  | x :: l => match ev x, evl ev l with
    | some v, some vs => some (v :: vs)
    | _, _ => none
def evp (ev : Opnd → Option V) : List (Nat × Nat × Opnd) → Option (List (Nat × Nat × V))
  | [] => some []
  | (a, b, x) :: l => match ev x, evp ev l with
    | some v, some vs => some ((a, b, v) :: vs)
    | _, _ => none
def evq (ev : Opnd → Option V) : List (Nat × Opnd) → Option (List (Nat × V))
  | [] => some []
  | (a, x) :: l => match ev x, evq ev l with
    | some v, some vs => some ((a, v) :: vs)
    | _, _ => none
def loadV (h : Loc → Option Obj) (n : Nat) (ag : Bool) : V → Option R
  | .d (.box y) =>
    match y, ag with
    | .agg cs, true => if cs.length = n then val (.d (.agg cs)) else none
    | .agg _, false => none
    | _, true => none
    | y, false => val (.d y)
  | .ptr l e j =>
    match h l with
    | some (.arr xs _) => match xs[e]? with
      | some v => (part v j n ag).map fun v => .ok { v, rd := [l] }
      | none => none
    | _ => none
  | _ => none
def qrj (h : Loc → Option Obj) (n : Nat) (a v : V) : Option R :=
  match a with
  | .ptr l e j =>
    match h l with
    | some (.arr xs sz) => match xs[e]? with
      | some w => if v.cells.length = n then (qd8 w j v).map fun w => .ok { v := .tup [], rd := [l], wr := [(l, some (.arr (xs.set e w) sz))] } else none
      | none => none
    | _ => none
  | _ => none
def appV (h : Loc → Option Obj) (i : Nat) (n : W) (x : Option V) (y : V) : Option R :=
  match elems h y with
  | none => none
  | some (ys, m) =>
    if ys.all (fun v => v.cells.length == n.c) then
      match x with
      | none => if ys.length * n.w ≤ lots then some (.ok { v := .ref (.n i 0) n 0 ys.length, rd := m, wr := [(.n i 0, some (.arr ys n))] }) else none
      | some (.ref l sz off len) =>
        match h l with
        | some (.arr xs _) =>
          if sz = n ∧ off + len ≤ xs.length ∧ l ∉ m then
            if (len + ys.length) * n.w ≤ lots then some (.ok { v := .ref (.n i 0) n 0 (len + ys.length), rd := l :: m, wr := [(l, none), (.n i 0, some (.arr ((xs.drop off).take len ++ ys) n))] }) else none
          else none
        | _ => none
      | _ => none
    else none
def unN : V → Option V
  | .d .nils => none
  | v => some v
def qgi : V → Option (TypeId × V)
  | .d (.iface t x) => some (t, .d x)
  | .iface t x => some (t, x)
  | _ => none
def mkFn (f : FuncId) (cap : List V) : V :=
  match allD cap with
  | some ds => .d (.fn f ds)
  | none => .fn f cap
def fnOf : V → Option (FuncId × List V)
  | .d (.fn f cap) => some (f, cap.map .d)
  | .fn f cap => some (f, cap)
  | _ => none
def qs7 (t : TypeId) : V → V
  | .d x => .d (.iface t x)
  | x => .iface t x
def findE : List (D × V) → (D → Bool) → Option V
  | [], _ => none
  | (k, v) :: es, p => if p k then some v else findE es p
def qfv : D → D → Bool
  | .int j a, .int k b => j = k && a == b
  | .str a, .str b => a == b
  | _, _ => false
def isKey : Bool → D → Bool
  | true, .str _ => true
  | false, .int .i64 _ => true
  | _, _ => false
def qp7 (s : Bool) (key : D) (es : List (D × V)) : Bool := isKey s key && es.all (fun e => isKey s e.1)
def q5u : V → Bool
  | .d (.agg _) | .agg _ | .tup _ => true
  | _ => false
def putE : List (D × V) → D → V → List (D × V)
  | [], k, v => [(k, v)]
  | (k', v') :: es, k, v => if qfv k k' then (k', v) :: es else (k', v') :: putE es k v
def partA (y : V) (off n : Nat) (ag : Bool) : Option V := if isAgg y then part y off n ag else none
def qo8 : List (TypeId × FuncId × Option (Nat × Nat × Bool)) → TypeId → Option (FuncId × Option (Nat × Nat × Bool))
  | [], _ => none
  | (t', r) :: l, t => if t' = t then some r else qo8 l t
def exec (T : Tab) (cf : CF) (i : Nat) (op : AOp) (ev : Opnd → Option V) (h : Loc → Option Obj) : Option R :=
  match op with
  | .mv x => bnd (ev x) val
  | .own n => some (.ok { v := .ref (.n i 0) n 0 0, wr := [(.n i 0, some (.arr [] n))] })
  | .pick c a b => match ev c with
    | some (.d (.bool true)) => bnd (ev a) val
    | some (.d (.bool false)) => bnd (ev b) val
    | _ => none
  | .alloc z own => match ownD i 1 own (.d z) with
    | (v, wr) => some (.ok { v := .ptr (.n i 0) 0 0, wr := wr ++ [(.n i 0, some (.arr [v] ⟨z.cells.length, 0⟩))] })
  | .allocT t z own => match ownD i 1 own (.d z) with
    | (v, wr) => some (.ok { v := .ptr (.n i 0) 0 0, wr := wr ++ [(.n i 0, some (.arr [v] ⟨z.cells.length, t + 1000000⟩))] })
  | .box n x => bnd (ev x) fun v => if v.cells.length = n then some (.ok { v := .ptr (.n i 0) 0 0, wr := [(.n i 0, some (.arr [v] ⟨n, 0⟩))] }) else none
  | .build z parts own => bnd (evp ev parts) fun ps =>
    match ownD i 0 own (.d z) with
    | (v, wr) => bnd (qnr v.cells ps) fun cs => some (.ok { v := mkAgg cs, wr })
  | .buildSl n z len parts => bnd (evq ev parts) fun ps => if z.cells.length = n.c ∧ len * n.w ≤ lots then bnd (qk5 n (List.replicate len (.d z)) ps) fun xs =>
    some (.ok { v := .ref (.n i 0) n 0 len, wr := [(.n i 0, some (.arr xs n))] }) else none
  | .load n ag x => bnd (ev x) (loadV h n ag)
  | .store n x y => bnd (ev x) fun a => bnd (ev y) fun v => qrj h n a v
  | .nilCk x => match ev x with
    | some (.d (.box y)) => val (.d (.box y))
    | some (.ptr l e j) => val (.ptr l e j)
    | _ => none
  | .bin op x y => bnd (ev x) fun a => bnd (ev y) fun b => bnd (bin op a b) fun r => val (.d r)
  | .un op x => bnd (ev x) fun a => bnd (un op a) fun r => val (.d r)
  | .isN eq ifc x => bnd (ev x) fun a => bnd (isNil ifc a) fun b => val (.d (.bool (b == eq)))
  | .eqB eq x y => match ev x, ev y with
    | some (.d (.bool a)), some (.d (.bool b)) => val (.d (.bool ((a == b) == eq)))
    | _, _ => none
  | .conv k x => bnd (ev x) fun a => match k, a with
    | .int k, .d (.int _ n) => val (.d (.int k (k.wrap n)))
    | .rune, .d (.int _ n) => val (.d (.str (Utf8.encode n).data.toList))
    | .b2s, a => bnd (elems h a) fun (xs, m) => bnd (qjr xs) fun s => some (.ok { v := .d (.str s), rd := m })
    | _, _ => none
  | .mkI t x => bnd (ev x) fun v => val (qs7 t v)
  | .mkF f cap => bnd (evl ev cap) fun vs => val (mkFn f vs)
  | .mkSl n z len cap => bnd (ev len) fun a => bnd (ev cap) fun b => match natOf a, natOf b with
    | some l, some c => if l ≤ c ∧ z.cells.length = n.c ∧ c * n.w ≤ lots then some (.ok { v := .ref (.n i 0) n 0 l, wr := [(.n i 0, some (.arr (List.replicate l (.d z)) n))] }) else none
    | _, _ => none
  | .slice s x lo hi => bnd (ev x) fun v =>
    match (match lo with | none => some 0 | some o => bnd (ev o) natOf), (match hi with | none => lenOf v | some o => bnd (ev o) natOf) with
    | some l, some u => bnd (quz s v l u) val
    | _, _ => none
  | .fieldA off n ag x => match ev x with
    | some (.d (.box y)) => bnd (part (.d y) off n ag) fun v => match v with
      | .d z => val (.d (.box z))
      | _ => none
    | some (.ptr l e j) => val (.ptr l e (j + off))
    | _ => none
  | .field off n ag x => bnd (ev x) fun v => if isAgg v then bnd (part v off n ag) val else none
  | .idxA n x k => bnd (ev x) fun v => bnd (ev k) fun a => match natOf a with
    | none => none
    | some j => match v with
      | .d (.sl xs) => match xs[j]? with
        | some y => if y.cells.length = n.c then val (.d (.box y)) else none
        | none => none
      | .ref l sz off len => if j < len ∧ sz = n then val (.ptr l (off + j) 0) else none
      | _ => none
  | .idxS x k => bnd (ev x) fun v => bnd (ev k) fun a => match v, natOf a with
    | .d (.str s), some j => match s[j]? with
      | some b => val (.d (.int .u8 b.toNat))
      | none => none
    | _, _ => none
  | .extract x k => match ev x with
    | some (.tup vs) => bnd (vs[k]?) val
    | _ => none
  | .tass t ok z x => bnd (ev x) fun v => match qgi v with
    | some (t', y) => if t' = t then val (if ok then .tup [y, .d (.bool true)] else y) else if ok then val (.tup [.d z, .d (.bool false)]) else none
    | none => match v, ok with
      | .d .nili, true => val (.tup [.d z, .d (.bool false)])
      | _, _ => none
  | .call f args => bnd (evs ev args) fun vs => qh7 cf f i h vs
  | .callV f args => bnd (ev f) fun g => bnd (evs ev args) fun vs => bnd (fnOf g) fun (f, cap) => qh7 cf f i h (vs ++ cap.map (·, false))
  | .inv m x args => bnd (ev x) fun v => bnd (evs ev args) fun vs => bnd (qgi v) fun (t, y) => bnd (qo8 m t) fun (f, path) =>
    match path with
    | none => qh7 cf f i h ((y, true) :: vs)
    | some (off, n, ag) => bnd (partA y off n ag) fun r => qh7 cf f i h ((r, true) :: vs)
  | .len s x => bnd (ev x) fun v => sel (isStr v == s) (bnd (lenOf v) fun n => sel (fitV v) (val (.d (.int .i64 n))) none) none
  | .app n x y => match x with
    | none => bnd (ev y) fun b => appV h i n none b
    | some x => bnd (ev x) fun a => bnd (ev y) fun b => appV h i n (unN a) b
  | .mx x y => match ev x, ev y with
    | some (.d (.int k a)), some (.d (.int k' b)) => if k = k' then val (.d (.int k (if b > a then b else a))) else none
    | _, _ => none
  | .panic x => bnd (ev x) fun v => match qgi v with
    | some _ => some (.pan { v })
    | none => none
  | .range x => match ev x with
    | some (.d (.str s)) => some (.ok { v := .iter (.n i 0), wr := [(.n i 0, some (.iter s 0))] })
    | _ => none
  | .next x => match ev x with
    | some (.iter l) => match h l with
      | some (.iter s pos) =>
        if pos < s.length then some (.ok { v := .tup [.d (.bool true), .d (.int .i64 pos), .d (.int .i32 (dec s pos).1)], rd := [l], wr := [(l, some (.iter s (pos + (dec s pos).2)))] })
        else some (.ok { v := .tup [.d (.bool false)], rd := [l] })
      | _ => none
    | _ => none
  | .mkMap => some (.ok { v := .map (.n i 0), wr := [(.n i 0, some (.map []))] })
  | .look s z x k => match ev x, ev k with
    | some (.map l), some (.d key) => match h l with
      | some (.map es) => if qp7 s key es then some (.ok { v := ((findE es (qfv key)).getD (.d z)), rd := [l] }) else none
      | _ => none
    | _, _ => none
  | .upd s x k v => match ev x, ev k, ev v with
    | some (.map l), some (.d key), some v => match h l with
      | some (.map es) => if qp7 s key es && !q5u v then some (.ok { v := .tup [], rd := [l], wr := [(l, some (.map (putE es key v)))] }) else none
      | _ => none
    | _, _, _ => none
structure RS where
  env : List (Nat × V)
  h : Loc → Option Obj
structure Rec where
  i : Nat
  rd : List Loc
  wr : List Loc
  ch : List Loc := wr
def getE : List (Nat × V) → Nat → Option V
  | [], _ => none
  | (t, v) :: l, n => if t = n then some v else getE l n
def evO (env : List (Nat × V)) : Opnd → Option V
  | .t n => getE env n
  | .c x => some (.d x)
def putT (env : List (Nat × V)) (dst : Option Nat) (v : V) : List (Nat × V) :=
  match dst with
  | some t => (t, v) :: env
  | none => env
def qba (h : Loc → Option Obj) : List (Loc × Option Obj) → Loc → Option Obj
  | [] => h
  | (l, o) :: ws => qba (fun l' => if l' = l then o else h l') ws
def wanted (env : List (Nat × V)) : Option (Nat × Bool) → Option Bool
  | none => some true
  | some (t, w) => match getE env t with
    | some (.d (.bool b)) => some (b == w)
    | some (.tup []) => some false
    | _ => none
inductive SR where
  | go (s : RS) (r : Rec)
  | pan (v : V) (s : RS) (r : Rec)
  | out
def stepR (o : AIns) (s : RS) : R → SR
  | .ok e => .go { env := putT s.env o.dst e.v, h := qba s.h e.wr } { i := o.i, rd := e.rd, wr := e.wr.map (·.1) }
  | .pan e => .pan e.v { env := s.env, h := qba s.h e.wr } { i := o.i, rd := e.rd, wr := e.wr.map (·.1) }
  | .out => .out
def step (T : Tab) (cf : CF) (o : AIns) (s : RS) : Option SR :=
  bnd (wanted s.env o.guard) fun b =>
    sel b (bnd (exec T cf o.i o.op (evO s.env) s.h) fun r => some (stepR o s r))
      (some (.go { env := putT s.env o.dst (.tup []), h := s.h } { i := o.i, rd := [], wr := [] }))
inductive RR where
  | nrm (s : RS)
  | pan (i : Nat) (v : V) (s : RS)
  | out
def onSR {α : Type} (x : SR) (k : RS → Rec → α) (p : V → RS → Rec → α) (o : α) : α :=
  match x with
  | .go s r => k s r
  | .pan v s r => p v s r
  | .out => o
def runL (T : Tab) (cf : CF) : List AIns → RS → List Rec → Option (RR × List Rec)
  | [], s, rs => some (.nrm s, rs)
  | o :: os, s, rs => bnd (step T cf o s) fun x => onSR x (fun s' r => runL T cf os s' (r :: rs)) (fun v s' r => some (.pan o.i v s', r :: rs)) (some (.out, rs))
def apart (a b : Rec) : Bool :=
  (a.wr.all (fun l => !b.wr.contains l && !b.rd.contains l) && b.wr.all (fun l => !a.rd.contains l)) || (a.ch.all (fun l => !b.ch.contains l && !b.rd.contains l) && b.ch.all (fun l => !a.rd.contains l))
def recOf (rs : List Rec) (i : Nat) : Option Rec := rs.find? (·.i == i)
def qnt (pairs : List (Nat × Nat)) (rs : List Rec) : Bool :=
  pairs.all fun (i, j) => match recOf rs i, recOf rs j with
    | some a, some b => apart a b
    | _, _ => true
def Loc.isNew : Loc → Bool
  | .n _ _ => true
  | .b _ => false
structure St where
  env : List (Nat × V)
  heap : List Obj
inductive Ex where
  | nrm
  | exit (id : Nat)
  | ret
  | pan (v : V)
  | out
def keptE (env : List (Nat × V)) : List Nat → List Nat × List V
  | [] => ([], [])
  | t :: ks => match getE env t, keptE env ks with
    | some v, (ts, vs) => (t :: ts, v :: vs)
    | none, r => r
def endR (pin : Nat) (keep : List Nat) (env : List (Nat × V)) (h : Loc → Option Obj) : Option St :=
  bnd (norm (pins pin) (keptE env keep).2 h) fun x => some { env := (keptE env keep).1.zip x.1, heap := x.2.1 }
def endP (pin : Nat) (v : V) (h : Loc → Option Obj) : Option (Ex × St) :=
  bnd (frz h 24 v) fun a =>
    if a.2.all (fun l => match l with | .b k => decide (pin ≤ k) | .n _ _ => true) then
      bnd (norm (pins pin) [] (qgh h a.2)) fun b => some (.pan (.d a.1), { env := [], heap := b.2.1 })
    else none
def zef (pin : Nat) (keep : List Nat) : RR → Option (Ex × St)
  | .nrm s => bnd (endR pin keep s.env s.h) fun st => some (.nrm, st)
  | .pan _ v s => endP pin v s.h
  | .out => some (.out, { env := [], heap := [] })
def Loc.isOf (i : Nat) : Loc → Bool
  | .n j _ => j == i
  | .b _ => false
def Loc.oldOr (i : Nat) : Loc → Bool
  | .n j _ => j == i
  | .b _ => true
def only (p : Loc → Bool) (h : Loc → Option Obj) : Loc → Option Obj := fun l => sel (p l) (h l) none
def qdr : AOp → Nat
  | .mv _ | .pick _ _ _ | .nilCk _ | .bin _ _ _ | .un _ _ | .isN _ _ _ | .eqB _ _ _ | .mkI _ _ | .mkF _ _ | .slice _ _ _ _ | .fieldA _ _ _ _ | .field _ _ _ _ | .idxA _ _ _ | .idxS _ _ | .extract _ _ | .tass _ _ _ _
  | .len _ _ | .mx _ _ | .conv (.int _) _ | .conv .rune _ | .build _ _ [] => 0
  | .load _ _ _ | .conv .b2s _ | .look _ _ _ _ => 1
  | .call _ _ | .callV _ _ | .inv _ _ _ => 3
  | _ => 2
def qfs (op : AOp) : Bool := qdr op == 3
def locOf : Option V → List Loc
  | some (.ref l _ _ _) => [l]
  | some (.ptr l _ _) => [l]
  | some (.map l) => [l]
  | some (.iter l) => [l]
  | _ => []
def reach (h : Loc → Option Obj) (vs : List V) : List Loc := onO (norm [] vs h) [] fun x => x.2.2
def qdc (op : AOp) (ev : Opnd → Option V) (h : Loc → Option Obj) : List Loc :=
  match op with
  | .load _ _ x => locOf (ev x)
  | .store _ x _ => locOf (ev x)
  | .conv k x => (match k with | .b2s => locOf (ev x) | _ => [])
  | .app _ x y => onO x [] (fun x => locOf (ev x)) ++ locOf (ev y)
  | .next x => locOf (ev x)
  | .look _ _ x _ => locOf (ev x)
  | .upd _ x _ _ => locOf (ev x)
  | .call _ args => onO (evs ev args) [] fun vs => reach h (vs.map (·.1))
  | .callV f args => onO (ev f) [] fun g => onO (evs ev args) [] fun vs => onO (fnOf g) [] fun c => reach h (vs.map (·.1) ++ c.2)
  | .inv _ x args => onO (ev x) [] fun v => onO (evs ev args) [] fun vs => reach h (v :: vs.map (·.1))
  | _ => []
def execD (T : Tab) (cf : CF) (i : Nat) (op : AOp) (A : List Loc) (ev : Opnd → Option V) (h : Loc → Option Obj) : Option R :=
  sel (qfs op) (exec T cf i op ev (only A.contains h)) (exec T cf i op ev h)
def okW (A : List Loc) (i : Nat) (wr : List (Loc × Option Obj)) : Bool :=
  A.all (fun l => (wr.map (·.1)).contains l) && (wr.map (·.1)).all (fun l => A.contains l || l.isOf i)
def okRec (k : Nat) (A : List Loc) (i : Nat) (wr : List (Loc × Option Obj)) : Bool :=
  match k with
  | 0 => A.isEmpty && wr.isEmpty
  | 1 => wr.isEmpty
  | 2 => true
  | _ => okW A i wr
noncomputable section
open Classical in
def chg (A : List Loc) (h : Loc → Option Obj) (wr : List (Loc × Option Obj)) : List Loc := (wr.map (·.1)).filter fun l => !A.contains l || decide (qba h wr l ≠ h l)
def q00 (o : AIns) (A : List Loc) (s : RS) : R → Option SR
  | .ok e => sel (okRec (qdr o.op) A o.i e.wr) (some (.go { env := putT s.env o.dst e.v, h := qba s.h e.wr } { i := o.i, rd := A, wr := e.wr.map (·.1), ch := sel (qfs o.op) (chg A s.h e.wr) (e.wr.map (·.1)) })) none
  | .pan e => sel (decide (2 ≤ qdr o.op) && okRec (qdr o.op) A o.i e.wr) (some (.pan e.v { env := s.env, h := qba s.h e.wr } { i := o.i, rd := A, wr := e.wr.map (·.1) })) none
  | .out => sel (decide (qdr o.op ≠ 0) || A.isEmpty) (some .out) none
def stepD (T : Tab) (cf : CF) (o : AIns) (A : List Loc) (s : RS) : Option SR :=
  bnd (wanted s.env o.guard) fun b =>
    sel b (bnd (execD T cf o.i o.op A (evO s.env) s.h) (q00 o A s))
      (some (.go { env := putT s.env o.dst (.tup []), h := s.h } { i := o.i, rd := [], wr := [] }))
def panOk (pairs : List (Nat × Nat)) (rs : List Rec) (i : Nat) : Bool :=
  pairs.all fun (a, b) => sel (b == i) (onO (recOf rs a) true fun r => r.wr.all (·.isOf a)) true
def runD (T : Tab) (cf : CF) (pairs : List (Nat × Nat)) (ends : List Nat) : List AIns → RS → List Rec → Option (RR × List Rec)
  | [], s, rs => some (.nrm s, rs)
  | o :: os, s, rs => bnd (stepD T cf o (qdc o.op (evO s.env) s.h) s) fun x =>
    onSR x (fun s' r => runD T cf pairs ends os s' (r :: rs))
      (fun v s' r => sel (ends.contains o.i && panOk pairs rs o.i) (some (.pan o.i v s', r :: rs)) none)
      (sel (ends.contains o.i) (some (.out, { i := o.i, rd := qdc o.op (evO s.env) s.h, wr := [] } :: rs)) none)
def qsx (pin : Nat) (keep : List Nat) : RR → Option (Ex × St)
  | .nrm s => bnd (endR pin keep s.env s.h) fun st => some (.nrm, st)
  | .pan i v s => endP pin v (only (Loc.oldOr i) s.h)
  | .out => some (.out, { env := [], heap := [] })
def region (T : Tab) (cf : CF) (pin : Nat) (ops : List AIns) (draw : Option (List (Nat × Nat) × List Nat)) (keep : List Nat) (st : St) : Option (Ex × St) :=
  onO draw (bnd (runL T cf ops { env := st.env, h := qa6 st.heap } []) fun x => zef pin keep x.1) fun d =>
    bnd (runD T cf d.1 d.2 ops { env := st.env, h := qa6 st.heap } []) fun x => sel (qnt d.1 x.2) (qsx pin keep x.1) none
def loopN : Nat → (St → Option (Ex × St)) → St → Option (Ex × St)
  | 0, _, _ => none
  | n + 1, f, st => match f st with
    | some (.nrm, st') => loopN n f st'
    | r => r
def code (T : Tab) (cf : CF) (pin n : Nat) : ACode → St → Option (Ex × St)
  | .skip, st => some (.nrm, st)
  | .region ops draw keep, st => region T cf pin ops draw keep st
  | .seq a b, st => match code T cf pin n a st with
    | some (.nrm, st') => code T cf pin n b st'
    | r => r
  | .cond c a b, st => match evO st.env c with
    | some (.d (.bool true)) => code T cf pin n a st
    | some (.d (.bool false)) => code T cf pin n b st
    | _ => none
  | .block id c, st => match code T cf pin n c st with
    | some (.exit id', st') => if id' = id then some (.nrm, st') else some (.exit id', st')
    | r => r
  | .loop keep c, st => loopN n (fun st => match endR pin keep st.env (qa6 st.heap) with
    | some st => code T cf pin n c st
    | none => none) st
  | .exit id keep, st => bnd (endR pin keep st.env (qa6 st.heap)) fun st => some (.exit id, st)
  | .scope c, st => code T cf pin n c st
  | .ret, st => some (.ret, st)
  | .refuse, _ => none
def resOf (env : List (Nat × V)) (h : Loc → Option Obj) : ARes → Option V
  | .tmp t => getE env t
  | .cell t n ag => match getE env t with
    | some a => match loadV h n ag a with
      | some (.ok e) => some e.v
      | _ => none
    | none => none
def qlp (env : List (Nat × V)) (h : Loc → Option Obj) : List (ARes × Bool) → Option (List (V × Bool))
  | [] => some []
  | (r, fl) :: l => match resOf env h r, qlp env h l with
    | some v, some vs => some ((v, fl) :: vs)
    | _, _ => none
def qjh (pin : Nat) (res : List (ARes × Bool)) (st : St) : Option CRes :=
  bnd (qlp st.env (qa6 st.heap) res) fun vs => bnd (qcc (qa6 st.heap) vs) fun a =>
    if a.2.all (fun l => match l with | .b k => decide (pin ≤ k) | .n _ _ => false) then
      bnd (norm (pins pin) a.1 (qgh (qa6 st.heap) a.2)) fun b => some (.ret b.1 b.2.1)
    else none
structure Exts where
  run : FuncId → Option (CF → List V → List Obj → Option CRes)
def ARes.slot : ARes → Nat
  | .tmp t => t
  | .cell t _ _ => t
def qoh (env : List (Nat × V)) : List Nat → Option (List V)
  | [] => some []
  | t :: ts => bnd (getE env t) fun v => bnd (qoh env ts) fun vs => some (v :: vs)
def qk0 (r : ARec) (env : List (Nat × V)) : List (Nat × V) := (keptE env (r.res.map (·.1.slot))).1.zip (keptE env (r.res.map (·.1.slot))).2
def hEnd (p : Nat) (res : List (ARes × Bool)) (env : List (Nat × V)) : Option (Ex × St) → Option CRes
  | some (.nrm, st) => qjh p res { env, heap := st.heap }
  | some (.ret, st) => qjh p res { env, heap := st.heap }
  | some (.out, _) => some .out
  | _ => none
def bEnd (k : V → List Obj → Option CRes) : Option (Ex × St) → Option CRes
  | some (.nrm, st) => k (.d .nili) st.heap
  | some (.ret, st) => k (.d .nili) st.heap
  | some (.pan (.d (.iface t x)), st) => k (.d (.iface t x)) st.heap
  | some (.out, _) => some .out
  | _ => none
def pEnd (p : Nat) (res : List (ARes × Bool)) (k : St → Option CRes) : Option (Ex × St) → Option CRes
  | some (.nrm, st) => k st
  | some (.ret, st) => qjh p res st
  | some (.pan v, st) => some (.pan v st.heap)
  | some (.out, _) => some .out
  | _ => none
def recG (cd : Nat → ACode → St → Option (Ex × St)) (r : ARec) (vs : List V) (heap : List Obj) : Option CRes :=
  if vs.length = r.np then
    pEnd heap.length r.res (fun st => bnd (qoh st.env r.caps) fun cs =>
      bEnd (fun v h => hEnd heap.length r.res (qk0 r st.env) (cd h.length r.hcode { env := (r.hv, v) :: (List.range cs.length).zip cs, heap := h })) (cd st.heap.length r.body { env := (r.t, .junk) :: st.env, heap := st.heap }))
      (cd heap.length r.pre { env := (List.range r.np).zip vs, heap })
  else none
def call (T : Tab) (X : Exts) : Nat → CF
  | 0 => fun _ _ _ => none
  | n + 1 => fun f vs heap =>
    match X.run f with
    | some e => e (call T X n) vs heap
    | none =>
      match T.funs f with
      | none => match T.recs f with
        | some r => recG (fun p a st => code T (call T X n) p n a st) r vs heap
        | none => none
      | some af =>
        if vs.length = af.np then
          match code T (call T X n) heap.length n af.code { env := (List.range af.np).zip vs, heap } with
          | some (.nrm, st) => qjh heap.length af.res st
          | some (.ret, st) => qjh heap.length af.res st
          | some (.pan v, st) => some (.pan v st.heap)
          | some (.out, _) => some .out
          | _ => none
        else none
end
def decGo (s : List UInt8) : Nat × Nat := if s.length = 0 then (65533, 0) else dec s 0
def decX : CF → List V → List Obj → Option CRes := fun _ vs heap => match vs with
  | [.d (.str s)] => some (.ret [.d (.int .i32 (decGo s).1), .d (.int .i64 (decGo s).2)] heap)
  | _ => none
end Go.Rf

namespace Go.Rf
def CF.le (c c' : CF) : Prop := ∀ f vs h r, c f vs h = some r → c' f vs h = some r
theorem CF.le_refl (c : CF) : CF.le c c := fun _ _ _ _ h => h
theorem CF.le_trans {a b c : CF} (h : CF.le a b) (k : CF.le b c) : CF.le a c := fun f vs hp r e => k _ _ _ _ (h f vs hp r e)
theorem qex {α β : Type} {x : Option α} {f g : α → Option β} {r : β} (e : bnd x f = some r) (h : ∀ a, f a = some r → g a = some r) : bnd x g = some r := by
  cases x with
  | none => cases e
  | some a => exact h a e
theorem ql0 {α β : Type} {x y : Option α} {f g : α → Option β} {r : β} (e : bnd x f = some r) (hx : ∀ a, x = some a → y = some a) (h : ∀ a, f a = some r → g a = some r) : bnd y g = some r := by
  cases x with
  | none => cases e
  | some a => rw [hx a rfl]; exact h a e
theorem q5b {α : Type} {b : Bool} {x y x' y' : Option α} {r : α} (e : sel b x y = some r) (hx : x = some r → x' = some r) (hy : y = some r → y' = some r) : sel b x' y' = some r := by
  cases b with
  | true => exact hx e
  | false => exact hy e
theorem qml {c c' : CF} (hc : CF.le c c') {f i h args r} (e : qh7 c f i h args = some r) : qh7 c' f i h args = some r :=
  qex e fun _ e => qex e fun _ e => q5b e (fun e => ql0 e (fun _ h => hc _ _ _ _ h) fun _ e => e) id
theorem qv8 {T : Tab} {c c' : CF} (hc : CF.le c c') {i op ev h r} (e : exec T c i op ev h = some r) : exec T c' i op ev h = some r := by
  cases op with
  | call f args => exact qex e fun _ e => qml hc e
  | callV f args => exact qex e fun _ e => qex e fun _ e => qex e fun ⟨_, _⟩ e => qml hc e
  | inv m x args =>
    refine qex e fun _ e => qex e fun _ e => qex e fun ⟨_, _⟩ e => qex e fun ⟨_, p⟩ e => ?_
    cases p with
    | none => exact qml hc e
    | some p => obtain ⟨_, _, _⟩ := p; exact qex e fun _ e => qml hc e
  | _ => exact e
theorem q0y {T : Tab} {c c' : CF} (hc : CF.le c c') {o s r} (e : step T c o s = some r) : step T c' o s = some r := by
  refine qex e fun b e => ?_
  cases b with
  | false => exact e
  | true => exact ql0 e (fun _ h => qv8 hc h) fun _ e => e
theorem qu3 {T : Tab} {c c' : CF} (hc : CF.le c c') : ∀ {os s rs r}, runL T c os s rs = some r → runL T c' os s rs = some r
  | [], _, _, _, e => e
  | o :: os, s, rs, r, e => by
    refine ql0 e (fun _ h => q0y hc h) fun x e => ?_
    cases x with
    | go s' r' => exact qu3 hc e
    | pan v s' r' => exact e
    | out => exact e
theorem q70 {T : Tab} {c c' : CF} (hc : CF.le c c') {i op A ev h r} (e : execD T c i op A ev h = some r) : execD T c' i op A ev h = some r :=
  q5b e (qv8 hc) (qv8 hc)
theorem qxd {T : Tab} {c c' : CF} (hc : CF.le c c') {o A s r} (e : stepD T c o A s = some r) : stepD T c' o A s = some r := by
  refine qex e fun b e => ?_
  cases b with
  | false => exact e
  | true => exact ql0 e (fun _ h => q70 hc h) fun _ e => e
theorem qu4 {T : Tab} {c c' : CF} (hc : CF.le c c') {ps es} : ∀ {os s rs r}, runD T c ps es os s rs = some r → runD T c' ps es os s rs = some r
  | [], _, _, _, e => e
  | o :: os, s, rs, r, e => by
    refine ql0 e (fun _ h => qxd hc h) fun x e => ?_
    cases x with
    | go s' r' => exact qu4 hc e
    | pan v s' r' => exact e
    | out => exact e
theorem qva {T : Tab} {c c' : CF} (hc : CF.le c c') {pin ops draw keep st r} (e : region T c pin ops draw keep st = some r) : region T c' pin ops draw keep st = some r := by
  cases draw with
  | none => exact ql0 e (fun _ h => qu3 hc h) fun _ e => e
  | some d => exact ql0 e (fun _ h => qu4 hc h) fun _ e => e
theorem qps {f g : St → Option (Ex × St)} (hfg : ∀ st r, f st = some r → g st = some r) : ∀ {n m : Nat} {st r}, n ≤ m → loopN n f st = some r → loopN m g st = some r
  | 0, _, _, _, _, e => by cases e
  | n + 1, 0, _, _, h, _ => by omega
  | n + 1, m + 1, st, r, h, e => by
    unfold loopN at *
    cases hf : f st with
    | none => rw [hf] at e; cases e
    | some x =>
      rw [hf] at e; rw [hfg _ _ hf]
      obtain ⟨ex, st'⟩ := x
      cases ex with
      | nrm => exact qps hfg (by omega) e
      | exit id => exact e
      | ret => exact e
      | pan v => exact e
      | out => exact e
theorem qd3 {T : Tab} {c c' : CF} (hc : CF.le c c') {pin n m : Nat} (hn : n ≤ m) : ∀ (a : ACode) {st r}, code T c pin n a st = some r → code T c' pin m a st = some r
  | .skip, _, _, e => e
  | .region ops draw keep, _, _, e => qva hc e
  | .seq a b, st, r, e => by
    unfold code at *
    cases ha : code T c pin n a st with
    | none => rw [ha] at e; cases e
    | some x =>
      rw [ha] at e; rw [qd3 hc hn a ha]
      obtain ⟨ex, st'⟩ := x
      cases ex with
      | nrm => exact qd3 hc hn b e
      | exit id => exact e
      | ret => exact e
      | pan v => exact e
      | out => exact e
  | .cond o a b, st, r, e => by
    unfold code at *
    split at e
    · exact qd3 hc hn a e
    · exact qd3 hc hn b e
    · cases e
  | .block id a, st, r, e => by
    unfold code at *
    cases ha : code T c pin n a st with
    | none => rw [ha] at e; cases e
    | some x => rw [ha] at e; rw [qd3 hc hn a ha]; exact e
  | .loop keep a, st, r, e => by
    unfold code at *
    refine qps (fun st r h => ?_) hn e
    cases he : endR pin keep st.env (qa6 st.heap) with
    | none => rw [he] at h; cases h
    | some x => rw [he] at h; exact qd3 hc hn a h
  | .exit _ _, _, _, e => e
  | .scope a, st, r, e => by
    unfold code at *
    exact qd3 hc hn a e
  | .ret, _, _, e => e
  | .refuse, _, _, e => e
class Exts.Mono (X : Exts) : Prop where
  le : ∀ f e, X.run f = some e → ∀ c c', CF.le c c' → ∀ vs h r, e c vs h = some r → e c' vs h = some r
theorem q1f {cd cd' : Nat → ACode → St → Option (Ex × St)} (h : ∀ p a st x, cd p a st = some x → cd' p a st = some x) {r vs heap x} (e : recG cd r vs heap = some x) : recG cd' r vs heap = some x := by
  unfold recG at *
  split at e
  · rename_i hl
    rw [if_pos hl]
    cases h1 : cd heap.length r.pre { env := (List.range r.np).zip vs, heap } with
    | none => rw [h1] at e; cases e
    | some y =>
      rw [h1] at e
      rw [h _ _ _ _ h1]
      obtain ⟨ex, st⟩ := y
      cases ex with
      | nrm =>
        refine qex (show bnd _ _ = some x from e) fun cs e => ?_
        cases h2 : cd st.heap.length r.body { env := (r.t, .junk) :: st.env, heap := st.heap } with
        | none => rw [h2] at e; cases e
        | some z =>
          rw [h2] at e
          rw [h _ _ _ _ h2]
          have hh : ∀ v hp, hEnd heap.length r.res (qk0 r st.env) (cd (List.length hp) r.hcode { env := (r.hv, v) :: (List.range cs.length).zip cs, heap := hp }) = some x → hEnd heap.length r.res (qk0 r st.env) (cd' (List.length hp) r.hcode { env := (r.hv, v) :: (List.range cs.length).zip cs, heap := hp }) = some x := by
            intro v hp e
            cases h3 : cd (List.length hp) r.hcode { env := (r.hv, v) :: (List.range cs.length).zip cs, heap := hp } with
            | none => rw [h3] at e; cases e
            | some u => rw [h _ _ _ _ h3]; rw [h3] at e; exact e
          obtain ⟨ex, st2⟩ := z
          cases ex with
          | nrm => exact hh _ _ e
          | ret => exact hh _ _ e
          | pan v => cases v <;> first | (cases e; done) | (rename_i y; cases y <;> first | (cases e; done) | exact hh _ _ e)
          | out => exact e
          | exit id => cases e
      | ret => exact e
      | pan v => exact e
      | out => exact e
      | exit id => cases e
  · cases e
theorem zcw {cd : Nat → ACode → St → Option (Ex × St)} {g : Nat → Nat → ACode → St → Option (Ex × St)} (hg : ∀ n m, n ≤ m → ∀ p a st x, g n p a st = some x → g m p a st = some x) (h : ∀ p a st x, cd p a st = some x → ∃ n, g n p a st = some x)
    {r vs heap x} (e : recG cd r vs heap = some x) : ∃ n, recG (g n) r vs heap = some x := by
  unfold recG at *
  split at e
  · rename_i hl
    simp only [if_pos hl]
    cases h1 : cd heap.length r.pre { env := (List.range r.np).zip vs, heap } with
    | none => rw [h1] at e; cases e
    | some y =>
      rw [h1] at e
      obtain ⟨n1, k1⟩ := h _ _ _ _ h1
      obtain ⟨ex, st⟩ := y
      cases ex with
      | nrm =>
        cases hs : qoh st.env r.caps with
        | none => simp only [pEnd, hs, q0h] at e; cases e
        | some cs =>
          simp only [pEnd, hs, qbj] at e
          cases h2 : cd st.heap.length r.body { env := (r.t, .junk) :: st.env, heap := st.heap } with
          | none => rw [h2] at e; cases e
          | some z =>
            rw [h2] at e
            obtain ⟨n2, k2⟩ := h _ _ _ _ h2
            have hh : ∀ v hp, hEnd heap.length r.res (qk0 r st.env) (cd (List.length hp) r.hcode { env := (r.hv, v) :: (List.range cs.length).zip cs, heap := hp }) = some x → ∃ n, hEnd heap.length r.res (qk0 r st.env) (g n (List.length hp) r.hcode { env := (r.hv, v) :: (List.range cs.length).zip cs, heap := hp }) = some x ∧ n1 ≤ n ∧ n2 ≤ n := by
              intro v hp e
              cases h3 : cd (List.length hp) r.hcode { env := (r.hv, v) :: (List.range cs.length).zip cs, heap := hp } with
              | none => rw [h3] at e; cases e
              | some u =>
                obtain ⟨n3, k3⟩ := h _ _ _ _ h3
                refine ⟨max n3 (max n1 n2), ?_, by omega, by omega⟩
                rw [hg n3 _ (by omega) _ _ _ _ k3]
                rw [h3] at e; exact e
            obtain ⟨ex, st2⟩ := z
            cases ex with
            | nrm =>
              obtain ⟨n, a1, a2, a3⟩ := hh _ _ e
              exact ⟨n, by rw [hg n1 n a2 _ _ _ _ k1]; simp only [pEnd, hs, qbj]; rw [hg n2 n a3 _ _ _ _ k2]; exact a1⟩
            | ret =>
              obtain ⟨n, a1, a2, a3⟩ := hh _ _ e
              exact ⟨n, by rw [hg n1 n a2 _ _ _ _ k1]; simp only [pEnd, hs, qbj]; rw [hg n2 n a3 _ _ _ _ k2]; exact a1⟩
            | pan v =>
              cases v <;> first | (cases e; done) | skip
              rename_i y
              cases y <;> first | (cases e; done) | skip
              obtain ⟨n, a1, a2, a3⟩ := hh _ _ e
              exact ⟨n, by rw [hg n1 n a2 _ _ _ _ k1]; simp only [pEnd, hs, qbj]; rw [hg n2 n a3 _ _ _ _ k2]; exact a1⟩
            | out =>
              refine ⟨max n1 n2, ?_⟩
              rw [hg n1 _ (by omega) _ _ _ _ k1]; simp only [pEnd, hs, qbj]; rw [hg n2 _ (by omega) _ _ _ _ k2]; exact e
            | exit id => cases e
      | ret => exact ⟨n1, by rw [k1]; exact e⟩
      | pan v => exact ⟨n1, by rw [k1]; exact e⟩
      | out => exact ⟨n1, by rw [k1]; exact e⟩
      | exit id => cases e
  · cases e
theorem q20 {T : Tab} {X : Exts} [X.Mono] : ∀ n, CF.le (call T X n) (call T X (n + 1))
  | 0 => fun _ _ _ _ e => by cases e
  | n + 1 => fun f vs h r e => by
    have ih := q20 (T := T) (X := X) n
    unfold call at e ⊢
    cases hx : X.run f with
    | some ex => simp only [hx] at e ⊢; exact Exts.Mono.le f ex hx _ _ ih _ _ _ e
    | none =>
      simp only [hx] at e ⊢
      split at e
      · split at e
        · exact q1f (fun p a st x h => qd3 ih (Nat.le_succ n) a h) e
        · cases e
      · rename_i af haf
        split at e
        · rename_i hl
          simp only [hl, if_true]
          cases hcd : code T (call T X n) h.length n af.code { env := (List.range af.np).zip vs, heap := h } with
          | none => simp only [hcd] at e; cases e
          | some x =>
            have hcd' := qd3 (T := T) ih (pin := h.length) (Nat.le_succ n) af.code hcd
            simp only [hcd] at e
            simp only [hcd']
            exact e
        · cases e
theorem qga {T : Tab} {X : Exts} [X.Mono] {n m : Nat} (h : n ≤ m) : CF.le (call T X n) (call T X m) := by
  induction h with
  | refl => exact CF.le_refl _
  | step _ ih => exact CF.le_trans ih (q20 _)
open Classical in
noncomputable def lim {α : Type} (g : Nat → Option α) : Option α := if h : ∃ r n, g n = some r then some h.choose else none
theorem zes {α : Type} {g : Nat → Option α} (hg : ∀ n m r, n ≤ m → g n = some r → g m = some r) {n : Nat} {r : α} (h : g n = some r) : lim g = some r := by
  have hex : ∃ r n, g n = some r := ⟨r, n, h⟩
  unfold lim
  rw [dif_pos hex]
  obtain ⟨m, hm⟩ := hex.choose_spec
  have h1 := hg n (max n m) r (Nat.le_max_left ..) h
  have h2 := hg m (max n m) _ (Nat.le_max_right ..) hm
  rw [h1] at h2
  injection h2 with h2
  rw [h2]
theorem q5t {α : Type} {g : Nat → Option α} {r : α} (h : lim g = some r) : ∃ n, g n = some r := by
  unfold lim at h
  split at h
  · rename_i hex
    injection h with h
    subst h
    exact hex.choose_spec
  · cases h
variable (T : Tab) (X : Exts)
noncomputable def callE : CF := fun f vs h => lim (fun n => call T X n f vs h)
noncomputable def codeE (pin : Nat) (a : ACode) (st : St) : Option (Ex × St) := lim (fun n => code T (call T X n) pin n a st)
variable {T X}
theorem qpy {f vs h r} : callE T X f vs h = some r → ∃ n, call T X n f vs h = some r := q5t
theorem qlb [X.Mono] {f vs h r n} (e : call T X n f vs h = some r) : callE T X f vs h = some r :=
  zes (fun _ _ _ hnm he => qga hnm _ _ _ _ he) e
theorem qbo {pin a st r} : codeE T X pin a st = some r → ∃ n, code T (call T X n) pin n a st = some r := q5t
theorem qc4 [X.Mono] {pin a st r n} (e : code T (call T X n) pin n a st = some r) : codeE T X pin a st = some r :=
  zes (fun _ _ _ hnm he => qd3 (qga hnm) hnm _ he) e
theorem qjs {α β : Type} {x : Option α} {f : α → Option β} {g : Nat → α → Option β} {r : β} (e : bnd x f = some r) (h : ∀ a, f a = some r → ∃ n, g n a = some r) : ∃ n, bnd x (g n) = some r := by
  cases x with
  | none => cases e
  | some a => exact h a e
theorem qob {f i h args r} (e : qh7 (callE T X) f i h args = some r) : ∃ n, qh7 (call T X n) f i h args = some r := by
  refine qjs e fun a e => qjs e fun b e => ?_
  cases hb : b.1.all fitV with
  | false => rw [hb] at e; exact ⟨0, e⟩
  | true =>
  rw [hb] at e
  cases hcf : callE T X f b.1 b.2.1 with
  | none => rw [hcf] at e; cases e
  | some x =>
    obtain ⟨n, hn⟩ := qpy hcf
    exact ⟨n, by rw [hn]; rw [hcf] at e; exact e⟩
theorem q0c {i op ev h r} (e : exec T (callE T X) i op ev h = some r) : ∃ n, exec T (call T X n) i op ev h = some r := by
  cases op with
  | call f args => exact qjs e fun _ e => qob e
  | callV f args => exact qjs e fun _ e => qjs e fun _ e => qjs e fun ⟨_, _⟩ e => qob e
  | inv m x args =>
    refine qjs e fun _ e => qjs e fun _ e => qjs e fun ⟨_, _⟩ e => qjs e fun ⟨_, p⟩ e => ?_
    cases p with
    | none => exact qob e
    | some p => obtain ⟨_, _, _⟩ := p; exact qjs e fun _ e => qob e
  | _ => exact ⟨0, e⟩
theorem zcj {o s r} (e : step T (callE T X) o s = some r) : ∃ n, step T (call T X n) o s = some r := by
  refine qjs e fun b e => ?_
  cases b with
  | false => exact ⟨0, e⟩
  | true =>
    cases hx : exec T (callE T X) o.i o.op (evO s.env) s.h with
    | none => rw [hx] at e; cases e
    | some x =>
      obtain ⟨n, hn⟩ := q0c hx
      exact ⟨n, by rw [hn]; rw [hx] at e; exact e⟩
theorem zcq [X.Mono] (os : List AIns) : ∀ (s : RS) (rs : List Rec) (r : RR × List Rec), runL T (callE T X) os s rs = some r → ∃ n, runL T (call T X n) os s rs = some r := by
  induction os with
  | nil => exact fun s rs r e => ⟨0, e⟩
  | cons o os ih =>
    intro s rs r e
    rw [runL] at e
    cases hs : step T (callE T X) o s with
    | none => rw [hs, q0h] at e; cases e
    | some x =>
      rw [hs, qbj] at e
      obtain ⟨n, hn⟩ := zcj hs
      cases x with
      | go s' r' =>
        obtain ⟨m, hm⟩ := ih s' (r' :: rs) r e
        refine ⟨max n m, ?_⟩
        rw [runL, q0y (qga (Nat.le_max_left n m)) hn, qbj]
        exact qu3 (qga (Nat.le_max_right n m)) hm
      | pan v s' r' => exact ⟨n, by rw [runL, hn, qbj]; exact e⟩
      | out => exact ⟨n, by rw [runL, hn, qbj]; exact e⟩
theorem zas {i op A ev h r} (e : execD T (callE T X) i op A ev h = some r) : ∃ n, execD T (call T X n) i op A ev h = some r := by
  unfold execD at *
  cases hc : qfs op with
  | true => rw [hc] at e; exact q0c e
  | false => rw [hc] at e; exact q0c e
theorem q83 {o A s r} (e : stepD T (callE T X) o A s = some r) : ∃ n, stepD T (call T X n) o A s = some r := by
  refine qjs e fun b e => ?_
  cases b with
  | false => exact ⟨0, e⟩
  | true =>
    cases hx : execD T (callE T X) o.i o.op A (evO s.env) s.h with
    | none => rw [hx] at e; cases e
    | some x =>
      obtain ⟨n, hn⟩ := zas hx
      exact ⟨n, by rw [hn]; rw [hx] at e; exact e⟩
theorem zcr [X.Mono] {ps es} (os : List AIns) : ∀ (s : RS) (rs : List Rec) (r : RR × List Rec), runD T (callE T X) ps es os s rs = some r → ∃ n, runD T (call T X n) ps es os s rs = some r := by
  induction os with
  | nil => exact fun s rs r e => ⟨0, e⟩
  | cons o os ih =>
    intro s rs r e
    rw [runD] at e
    cases hs : stepD T (callE T X) o (qdc o.op (evO s.env) s.h) s with
    | none => rw [hs, q0h] at e; cases e
    | some x =>
      rw [hs, qbj] at e
      obtain ⟨n, hn⟩ := q83 hs
      cases x with
      | go s' r' =>
        obtain ⟨m, hm⟩ := ih s' (r' :: rs) r e
        refine ⟨max n m, ?_⟩
        rw [runD, qxd (qga (Nat.le_max_left n m)) hn, qbj]
        exact qu4 (qga (Nat.le_max_right n m)) hm
      | pan v s' r' => exact ⟨n, by rw [runD, hn, qbj]; exact e⟩
      | out => exact ⟨n, by rw [runD, hn, qbj]; exact e⟩
theorem q7i [X.Mono] {pin ops draw keep st r} (e : region T (callE T X) pin ops draw keep st = some r) : ∃ n, region T (call T X n) pin ops draw keep st = some r := by
  unfold region at *
  cases draw with
  | none =>
    simp only [qmg] at *
    cases hr : runL T (callE T X) ops { env := st.env, h := qa6 st.heap } [] with
    | none => rw [hr] at e; cases e
    | some x =>
      obtain ⟨n, hn⟩ := zcq _ _ _ _ hr
      exact ⟨n, by rw [hn]; rw [hr] at e; exact e⟩
  | some d =>
    simp only [qjx] at *
    cases hr : runD T (callE T X) d.1 d.2 ops { env := st.env, h := qa6 st.heap } [] with
    | none => rw [hr] at e; cases e
    | some x =>
      obtain ⟨n, hn⟩ := zcr _ _ _ _ hr
      exact ⟨n, by rw [hn]; rw [hr] at e; exact e⟩
section
variable [X.Mono] {pin : Nat} {st : St}
theorem eSkip : codeE T X pin .skip st = some (.nrm, st) := qc4 (n := 0) rfl
theorem eExit {id keep r} (h : (bnd (endR pin keep st.env (qa6 st.heap)) fun st => some (Ex.exit id, st)) = some r) : codeE T X pin (.exit id keep) st = some r := qc4 (n := 0) h
theorem eRet : codeE T X pin .ret st = some (.ret, st) := qc4 (n := 0) rfl
theorem zhy {ops draw keep r} (e : region T (callE T X) pin ops draw keep st = some r) : codeE T X pin (.region ops draw keep) st = some r := by
  obtain ⟨n, hn⟩ := q7i e
  exact qc4 (n := n) hn
theorem eSeq {a b st' r} (ha : codeE T X pin a st = some (.nrm, st')) (hb : codeE T X pin b st' = some r) : codeE T X pin (.seq a b) st = some r := by
  obtain ⟨n, hn⟩ := qbo ha
  obtain ⟨m, hm⟩ := qbo hb
  refine qc4 (n := max n m) ?_
  unfold code
  rw [qd3 (qga (Nat.le_max_left n m)) (Nat.le_max_left n m) a hn]
  exact qd3 (qga (Nat.le_max_right n m)) (Nat.le_max_right n m) b hm
theorem eSeqX {a b x st'} (ha : codeE T X pin a st = some (x, st')) (hx : x ≠ .nrm) : codeE T X pin (.seq a b) st = some (x, st') := by
  obtain ⟨n, hn⟩ := qbo ha
  refine qc4 (n := n) ?_
  unfold code
  rw [hn]
  cases x with
  | nrm => exact absurd rfl hx
  | _ => rfl
theorem eCondT {c a b r} (hc : evO st.env c = some (.d (.bool true))) (h : codeE T X pin a st = some r) : codeE T X pin (.cond c a b) st = some r := by
  obtain ⟨n, hn⟩ := qbo h
  refine qc4 (n := n) ?_
  unfold code
  rw [hc]; exact hn
theorem eCondF {c a b r} (hc : evO st.env c = some (.d (.bool false))) (h : codeE T X pin b st = some r) : codeE T X pin (.cond c a b) st = some r := by
  obtain ⟨n, hn⟩ := qbo h
  refine qc4 (n := n) ?_
  unfold code
  rw [hc]; exact hn
theorem q2r {id a x st'} (h : codeE T X pin a st = some (x, st')) : codeE T X pin (.block id a) st = some (match x with | .exit i => if i = id then .nrm else .exit i | x => x, st') := by
  obtain ⟨n, hn⟩ := qbo h
  refine qc4 (n := n) ?_
  unfold code
  rw [hn]
  cases x with
  | exit i => simp only; split <;> rfl
  | _ => rfl
theorem eScope {a r} (h : codeE T X pin a st = some r) : codeE T X pin (.scope a) st = some r := by
  obtain ⟨n, hn⟩ := qbo h
  exact qc4 (n := n) (by unfold code; exact hn)
theorem eLoop {keep a st1 st2 r} (hk : endR pin keep st.env (qa6 st.heap) = some st1) (h : codeE T X pin a st1 = some (.nrm, st2)) (hl : codeE T X pin (.loop keep a) st2 = some r) : codeE T X pin (.loop keep a) st = some r := by
  obtain ⟨n, hn⟩ := qbo h
  obtain ⟨m, hm⟩ := qbo hl
  refine qc4 (n := max n m + 1) ?_
  unfold code
  unfold loopN
  simp only [hk]
  rw [qd3 (qga (by omega : n ≤ max n m + 1)) (by omega) a hn]
  unfold code at hm
  refine qps (fun st r h => ?_) (Nat.le_max_right n m) hm
  cases he : endR pin keep st.env (qa6 st.heap) with
  | none => rw [he] at h; cases h
  | some x => rw [he] at h; exact qd3 (qga (by omega)) (by omega) a h
theorem q55 {keep a st1 x st2} (hk : endR pin keep st.env (qa6 st.heap) = some st1) (h : codeE T X pin a st1 = some (x, st2)) (hx : x ≠ .nrm) : codeE T X pin (.loop keep a) st = some (x, st2) := by
  obtain ⟨n, hn⟩ := qbo h
  refine qc4 (n := n + 1) ?_
  unfold code
  unfold loopN
  simp only [hk]
  rw [qd3 (qga (by omega : n ≤ n + 1)) (by omega) a hn]
  cases x with
  | nrm => exact absurd rfl hx
  | _ => rfl
theorem eCall {f af vs heap x st' r} (hx : X.run f = none) (hf : T.funs f = some af) (hl : vs.length = af.np)
    (h : codeE T X heap.length af.code { env := (List.range af.np).zip vs, heap } = some (x, st')) (hr : x = .nrm ∨ x = .ret) (he : qjh heap.length af.res st' = some r) : callE T X f vs heap = some r := by
  obtain ⟨n, hn⟩ := qbo h
  refine qlb (n := n + 1) ?_
  unfold call
  simp only [hx, hf, hl, if_true]
  rw [hn]
  rcases hr with rfl | rfl <;> exact he
theorem eCallP {f af vs heap v st'} (hx : X.run f = none) (hf : T.funs f = some af) (hl : vs.length = af.np)
    (h : codeE T X heap.length af.code { env := (List.range af.np).zip vs, heap } = some (.pan v, st')) : callE T X f vs heap = some (.pan v st'.heap) := by
  obtain ⟨n, hn⟩ := qbo h
  refine qlb (n := n + 1) ?_
  unfold call
  simp only [hx, hf, hl, if_true]
  rw [hn]
theorem eCallO {f af vs heap st'} (hx : X.run f = none) (hf : T.funs f = some af) (hl : vs.length = af.np)
    (h : codeE T X heap.length af.code { env := (List.range af.np).zip vs, heap } = some (.out, st')) : callE T X f vs heap = some .out := by
  obtain ⟨n, hn⟩ := qbo h
  refine qlb (n := n + 1) ?_
  unfold call
  simp only [hx, hf, hl, if_true]
  rw [hn]
theorem qnu {α : Type} {x y : Option α} (h : ∀ r, x = some r → y = some r) (k : ∀ r, y = some r → x = some r) : x = y := by
  cases x with
  | some a => rw [h a rfl]
  | none => cases y with
    | none => rfl
    | some b => exact k b rfl
def seqE (x : Option (Ex × St)) (k : St → Option (Ex × St)) : Option (Ex × St) := match x with
  | some (.nrm, st') => k st'
  | r => r
def condE (x : Option V) (a b : Option (Ex × St)) : Option (Ex × St) := match x with
  | some (.d (.bool true)) => a
  | some (.d (.bool false)) => b
  | _ => none
def qwj (id : Nat) (x : Option (Ex × St)) : Option (Ex × St) := match x with
  | some (.exit id', st') => if id' = id then some (.nrm, st') else some (.exit id', st')
  | r => r
@[simp] theorem blockE_nrm (i st) : qwj i (some (.nrm, st)) = some (.nrm, st) := rfl
@[simp] theorem q4t (i j st) : qwj i (some (.exit j, st)) = if j = i then some (.nrm, st) else some (.exit j, st) := rfl
@[simp] theorem blockE_ret (i st) : qwj i (some (.ret, st)) = some (.ret, st) := rfl
@[simp] theorem blockE_pan (i v st) : qwj i (some (.pan v, st)) = some (.pan v, st) := rfl
@[simp] theorem blockE_out (i st) : qwj i (some (.out, st)) = some (.out, st) := rfl
def endE (x : Option (Ex × St)) (k : St → Option CRes) : Option CRes := match x with
  | some (.nrm, st) => k st
  | some (.ret, st) => k st
  | some (.pan v, st) => some (.pan v st.heap)
  | some (.out, _) => some .out
  | _ => none
theorem q77 {id keep} : codeE T X pin (.exit id keep) st = bnd (endR pin keep st.env (qa6 st.heap)) fun st => some (.exit id, st) := by
  refine qnu (fun r h => ?_) (fun r h => eExit h)
  obtain ⟨n, hn⟩ := qbo h
  exact hn
theorem q75 : codeE T X pin .skip st = some (.nrm, st) := eSkip
theorem za4 : codeE T X pin .ret st = some (.ret, st) := eRet
theorem qt7 {ops draw keep} : codeE T X pin (.region ops draw keep) st = region T (callE T X) pin ops draw keep st := by
  refine qnu (fun r h => ?_) (fun r h => zhy h)
  obtain ⟨n, hn⟩ := qbo h
  refine qva (fun f vs hp r e => qlb e) hn
theorem za3 {a b} : codeE T X pin (.seq a b) st = seqE (codeE T X pin a st) (fun st' => codeE T X pin b st') := by
  refine qnu (fun r h => ?_) (fun r h => ?_)
  · obtain ⟨n, hn⟩ := qbo h
    unfold code at hn
    cases ha : code T (call T X n) pin n a st with
    | none => rw [ha] at hn; cases hn
    | some x =>
      rw [qc4 ha]
      rw [ha] at hn
      obtain ⟨ex, st'⟩ := x
      cases ex with
      | nrm => exact qc4 hn
      | exit id => exact hn
      | ret => exact hn
      | pan v => exact hn
      | out => exact hn
  · cases ha : codeE T X pin a st with
    | none => rw [ha] at h; cases h
    | some x =>
      rw [ha] at h
      obtain ⟨ex, st'⟩ := x
      cases ex with
      | nrm => exact eSeq ha h
      | exit id => cases h; exact eSeqX ha (by simp)
      | ret => cases h; exact eSeqX ha (by simp)
      | pan v => cases h; exact eSeqX ha (by simp)
      | out => cases h; exact eSeqX ha (by simp)
theorem q78 {c a b} : codeE T X pin (.cond c a b) st = condE (evO st.env c) (codeE T X pin a st) (codeE T X pin b st) := by
  refine qnu (fun r h => ?_) (fun r h => ?_)
  · obtain ⟨n, hn⟩ := qbo h
    unfold code at hn
    split at hn
    · rename_i hc; rw [hc]; exact qc4 hn
    · rename_i hc; rw [hc]; exact qc4 hn
    · cases hn
  · unfold condE at h
    split at h
    · rename_i hc; exact eCondT hc h
    · rename_i hc; exact eCondF hc h
    · cases h
theorem q4p {id a} : codeE T X pin (.block id a) st = qwj id (codeE T X pin a st) := by
  refine qnu (fun r h => ?_) (fun r h => ?_)
  · obtain ⟨n, hn⟩ := qbo h
    unfold code at hn
    cases ha : code T (call T X n) pin n a st with
    | none => rw [ha] at hn; cases hn
    | some x => rw [qc4 ha]; rw [ha] at hn; exact hn
  · cases ha : codeE T X pin a st with
    | none => rw [ha] at h; cases h
    | some x =>
      rw [ha] at h
      obtain ⟨ex, st'⟩ := x
      cases ex with
      | exit i =>
        rw [q2r ha]
        simp only [q4t] at h ⊢
        split at h <;> rename_i hi <;> simp only [hi, if_true, if_false] <;> exact h
      | nrm => cases h; exact q2r ha
      | ret => cases h; exact q2r ha
      | pan v => cases h; exact q2r ha
      | out => cases h; exact q2r ha
theorem q4o {a} : codeE T X pin (.scope a) st = codeE T X pin a st := by
  refine qnu (fun r h => ?_) (fun r h => eScope h)
  obtain ⟨n, hn⟩ := qbo h
  exact qc4 (n := n) (by unfold code at hn; exact hn)
theorem q76 {keep a} : codeE T X pin (.loop keep a) st = bnd (endR pin keep st.env (qa6 st.heap)) fun st1 => seqE (codeE T X pin a st1) fun st2 => codeE T X pin (.loop keep a) st2 := by
  refine qnu (fun r h => ?_) (fun r h => ?_)
  · obtain ⟨n, hn⟩ := qbo h
    unfold code at hn
    cases n with
    | zero => cases hn
    | succ n =>
      unfold loopN at hn
      cases hk : endR pin keep st.env (qa6 st.heap) with
      | none => simp only [hk] at hn; cases hn
      | some st1 =>
        simp only [hk] at hn
        rw [qbj]
        cases ha : code T (call T X (n + 1)) pin (n + 1) a st1 with
        | none => rw [ha] at hn; cases hn
        | some x =>
          rw [qc4 ha]
          rw [ha] at hn
          obtain ⟨ex, st2⟩ := x
          cases ex with
          | nrm =>
            refine qc4 (n := n + 1) ?_
            unfold code
            exact qps (fun _ _ h => h) (Nat.le_succ n) hn
          | exit id => exact hn
          | ret => exact hn
          | pan v => exact hn
          | out => exact hn
  · cases hk : endR pin keep st.env (qa6 st.heap) with
    | none => rw [hk] at h; cases h
    | some st1 =>
      rw [hk] at h
      simp only [qbj] at h
      cases ha : codeE T X pin a st1 with
      | none => rw [ha] at h; cases h
      | some x =>
        rw [ha] at h
        obtain ⟨ex, st2⟩ := x
        cases ex with
        | nrm => exact eLoop hk ha h
        | exit id => cases h; exact q55 hk ha (by simp)
        | ret => cases h; exact q55 hk ha (by simp)
        | pan v => cases h; exact q55 hk ha (by simp)
        | out => cases h; exact q55 hk ha (by simp)
theorem qpl {f r vs heap} (hx : X.run f = none) (hf : T.funs f = none) (hr : T.recs f = some r) : callE T X f vs heap = recG (fun p a st => codeE T X p a st) r vs heap := by
  refine qnu (fun x h => ?_) (fun x h => ?_)
  · obtain ⟨n, hn⟩ := qpy h
    cases n with
    | zero => cases hn
    | succ n =>
      unfold call at hn
      simp only [hx, hf, hr] at hn
      exact q1f (fun p a st x h => qc4 h) hn
  · obtain ⟨n, hn⟩ := zcw (g := fun n p a st => code T (call T X n) p n a st) (fun n m hnm p a st x h => qd3 (qga hnm) hnm a h) (fun p a st x h => qbo h) h
    refine qlb (n := n + 1) ?_
    unfold call
    simp only [hx, hf, hr]
    exact hn
theorem za8 {f af vs heap} (hx : X.run f = none) (hf : T.funs f = some af) (hl : vs.length = af.np) :
    callE T X f vs heap = endE (codeE T X heap.length af.code { env := (List.range af.np).zip vs, heap }) (qjh heap.length af.res) := by
  refine qnu (fun r h => ?_) (fun r h => ?_)
  · obtain ⟨n, hn⟩ := qpy h
    cases n with
    | zero => cases hn
    | succ n =>
      unfold call at hn
      simp only [hx, hf, hl, if_true] at hn
      cases hc : code T (call T X n) heap.length n af.code { env := (List.range af.np).zip vs, heap } with
      | none => rw [hc] at hn; cases hn
      | some x => rw [qc4 hc]; rw [hc] at hn; exact hn
  · cases hc : codeE T X heap.length af.code { env := (List.range af.np).zip vs, heap } with
    | none => rw [hc] at h; cases h
    | some x =>
      rw [hc] at h
      obtain ⟨ex, st⟩ := x
      cases ex with
      | nrm => exact eCall hx hf hl hc (.inl rfl) h
      | ret => exact eCall hx hf hl hc (.inr rfl) h
      | pan v => cases h; exact eCallP hx hf hl hc
      | out => cases h; exact eCallO hx hf hl hc
      | exit id => cases h
end
end Go.Rf

namespace Go.Rf
def ccX (K : Nat) : CF → List V → List Obj → Option CRes := fun _ vs heap => match vs, heap with
  | [.ptr (.b 0) 0 0], .arr [.agg [.d .nilp, r]] ⟨2, k⟩ :: rest => if k = K then some (.ret [] (.arr [.agg [.ptr (.b 0) 0 0, r]] ⟨2, k⟩ :: rest)) else none
  | [.ptr (.b 0) 0 0], .arr [.agg [.ptr (.b 0) 0 0, r]] ⟨2, k⟩ :: rest => if k = K then some (.ret [] (.arr [.agg [.ptr (.b 0) 0 0, r]] ⟨2, k⟩ :: rest)) else none
  | _, _ => none
def qx6 : List V → Option (List UInt8)
  | [] => some []
  | .d (.int .u8 n) :: l => if 0 ≤ n ∧ n < 256 then (qx6 l).map (UInt8.ofNat n.toNat :: ·) else none
  | _ :: _ => none
def bsX (K K5 : Nat) : CF → List V → List Obj → Option CRes := fun _ vs heap => match vs, heap with
  | [.ptr (.b 0) 0 0], .arr [.agg [a, .ref (.b 1) ⟨1, k5⟩ 0 n]] ⟨2, k⟩ :: .arr xs ⟨1, k6⟩ :: rest =>
    if k = K ∧ k5 = K5 ∧ k6 = K5 ∧ n = xs.length ∧ 0 < n then bnd (qx6 xs) fun s => some (.ret [.d (.str s)] (.arr [.agg [a, .ref (.b 1) ⟨1, k5⟩ 0 n]] ⟨2, k⟩ :: .dead :: rest)) else none
  | _, _ => none
end Go.Rf
