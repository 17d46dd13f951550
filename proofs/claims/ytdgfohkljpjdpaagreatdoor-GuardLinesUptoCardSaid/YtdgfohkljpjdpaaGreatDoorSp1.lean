/- Parts of the proof: RfSimp, RfTac. -/
import Derived.Test.YtdgfohkljpjdpaaGreatDoorRb1

set_option linter.unusedSimpArgs false
set_option linter.unusedVariables false
set_option linter.unnecessarySimpa false
set_option linter.unusedSectionVars false
namespace Go.Rf
def okV (o : Option V) : Option R := bnd o val
@[simp] theorem okV_some (v) : okV (some v) = some (.ok { v := v }) := rfl
@[simp] theorem okV_none : okV none = none := rfl
@[simp] theorem val_eq (v) : val v = some (.ok { v := v }) := rfl
def pickV (c a b : Option V) : Option R := match c with
  | some (.d (.bool true)) => okV a
  | some (.d (.bool false)) => okV b
  | _ => none
@[simp] theorem pickV_true (a b) : pickV (some (.d (.bool true))) a b = okV a := rfl
@[simp] theorem zgw (a b) : pickV (some (.d (.bool false))) a b = okV b := rfl
def boxX (i n : Nat) (o : Option V) : Option R := bnd o fun v => if v.cells.length = n then some (.ok { v := .ptr (.n i 0) 0 0, wr := [(.n i 0, some (.arr [v] ⟨n, 0⟩))] }) else none
@[simp] theorem boxX_some (i n v) : boxX i n (some v) = if v.cells.length = n then some (.ok { v := .ptr (.n i 0) 0 0, wr := [(.n i 0, some (.arr [v] ⟨n, 0⟩))] }) else none := rfl
def okWX (wr : List (Loc × Option Obj)) (o : Option (List V)) : Option R := bnd o fun cs => some (.ok { v := mkAgg cs, wr := wr })
@[simp] theorem okW_some (wr cs) : okWX wr (some cs) = some (.ok { v := mkAgg cs, wr := wr }) := rfl
def ze8 (x : V × List (Loc × Option Obj)) (o : Option (List (Nat × Nat × V))) : Option R := bnd o fun ps => okWX x.2 (qnr x.1.cells ps)
@[simp] theorem zih (v wr ps) : ze8 (v, wr) (some ps) = okWX wr (qnr v.cells ps) := rfl
def setX (n : W) (z : D) (len : Nat) (o : Option (List (Nat × V))) : Option (List V) := bnd o fun ps => if z.cells.length = n.c ∧ len * n.w ≤ lots then qk5 n (List.replicate len (.d z)) ps else none
@[simp] theorem q88 (n z len ps) : setX n z len (some ps) = if z.cells.length = n.c ∧ len * n.w ≤ lots then qk5 n (List.replicate len (.d z)) ps else none := rfl
def bslX (i : Nat) (n : W) (len : Nat) (o : Option (List V)) : Option R := bnd o fun xs => some (.ok { v := .ref (.n i 0) n 0 len, wr := [(.n i 0, some (.arr xs n))] })
@[simp] theorem bslX_some (i n len xs) : bslX i n len (some xs) = some (.ok { v := .ref (.n i 0) n 0 len, wr := [(.n i 0, some (.arr xs n))] }) := rfl
def loadX (h : Loc → Option Obj) (n : Nat) (ag : Bool) (o : Option V) : Option R := bnd o (loadV h n ag)
@[simp] theorem loadX_some (h n ag v) : loadX h n ag (some v) = loadV h n ag v := rfl
def zd9 (h : Loc → Option Obj) (n : Nat) (a b : Option V) : Option R := bnd a fun a => bnd b fun v => qrj h n a v
@[simp] theorem zfu (h n a b) : zd9 h n (some a) (some b) = qrj h n a b := rfl
def nilX (o : Option V) : Option R := match o with
  | some (.d (.box y)) => val (.d (.box y))
  | some (.ptr l e j) => val (.ptr l e j)
  | _ => none
@[simp] theorem nilX_box (y) : nilX (some (.d (.box y))) = val (.d (.box y)) := rfl
@[simp] theorem nilX_ptr (l e j) : nilX (some (.ptr l e j)) = val (.ptr l e j) := rfl
def okD (o : Option D) : Option R := bnd o fun r => val (.d r)
@[simp] theorem okD_some (x) : okD (some x) = some (.ok { v := .d x }) := rfl
def binX (op : BinOp) (a b : Option V) : Option R := bnd a fun a => bnd b fun b => okD (bin op a b)
@[simp] theorem binX_some (op a b) : binX op (some a) (some b) = okD (bin op a b) := rfl
def unX (op : UnOp) (a : Option V) : Option R := bnd a fun a => okD (un op a)
@[simp] theorem unX_some (op a) : unX op (some a) = okD (un op a) := rfl
def isNY (eq : Bool) (o : Option Bool) : Option R := bnd o fun b => val (.d (.bool (b == eq)))
@[simp] theorem isNY_some (eq b) : isNY eq (some b) = val (.d (.bool (b == eq))) := rfl
def isNX (eq ifc : Bool) (a : Option V) : Option R := bnd a fun a => isNY eq (isNil ifc a)
@[simp] theorem isNX_some (eq ifc a) : isNX eq ifc (some a) = isNY eq (isNil ifc a) := rfl
@[simp] theorem isNil_1 : isNil false (.d .nilp) = some true := rfl
@[simp] theorem isNil_2 (x) : isNil false (.d (.box x)) = some false := rfl
@[simp] theorem isNil_3 (l e j) : isNil false (.ptr l e j) = some false := rfl
@[simp] theorem isNil_4 : isNil true (.d .nili) = some true := rfl
@[simp] theorem isNil_5 (t x) : isNil true (.d (.iface t x)) = some false := rfl
@[simp] theorem isNil_6 (t x) : isNil true (.iface t x) = some false := rfl
def eqBX (eq : Bool) (a b : Option V) : Option R := match a, b with
    | some (.d (.bool a)), some (.d (.bool b)) => val (.d (.bool ((a == b) == eq)))
    | _, _ => none
@[simp] theorem eqBX_some (eq a b) : eqBX eq (some (.d (.bool a))) (some (.d (.bool b))) = val (.d (.bool ((a == b) == eq))) := rfl
def convX (h : Loc → Option Obj) (k : Cv) (o : Option V) : Option R := bnd o fun a => match k, a with
    | .int k, .d (.int _ n) => val (.d (.int k (k.wrap n)))
    | .rune, .d (.int _ n) => val (.d (.str (Utf8.encode n).data.toList))
    | .b2s, a => bnd (elems h a) fun (xs, m) => bnd (qjr xs) fun s => some (.ok { v := .d (.str s), rd := m })
    | _, _ => none
@[simp] theorem convX_int (h k j n) : convX h (.int k) (some (.d (.int j n))) = val (.d (.int k (k.wrap n))) := rfl
@[simp] theorem convX_rune (h j n) : convX h .rune (some (.d (.int j n))) = val (.d (.str (Utf8.encode n).data.toList)) := rfl
def b2sY (m : List Loc) (o : Option (List UInt8)) : Option R := bnd o fun s => some (.ok { v := .d (.str s), rd := m })
@[simp] theorem b2sY_some (m s) : b2sY m (some s) = some (.ok { v := .d (.str s), rd := m }) := rfl
def b2sX (o : Option (List V × List Loc)) : Option R := bnd o fun x => b2sY x.2 (qjr x.1)
@[simp] theorem b2sX_some (xs m) : b2sX (some (xs, m)) = b2sY m (qjr xs) := rfl
@[simp] theorem convX_b2s (h a) : convX h .b2s (some a) = b2sX (elems h a) := by cases a <;> first | rfl | (rename_i x; cases x <;> rfl)
def mkIX (t : TypeId) (o : Option V) : Option R := bnd o fun v => val (qs7 t v)
@[simp] theorem mkIX_some (t v) : mkIX t (some v) = val (qs7 t v) := rfl
def mkFX (f : FuncId) (o : Option (List V)) : Option R := bnd o fun vs => val (mkFn f vs)
@[simp] theorem mkFX_some (f vs) : mkFX f (some vs) = val (mkFn f vs) := rfl
def mkSX (i : Nat) (n : W) (z : D) (a b : Option Nat) : Option R := match a, b with
    | some l, some c => if l ≤ c ∧ z.cells.length = n.c ∧ c * n.w ≤ lots then some (.ok { v := .ref (.n i 0) n 0 l, wr := [(.n i 0, some (.arr (List.replicate l (.d z)) n))] }) else none
    | _, _ => none
@[simp] theorem mkSX_some (i n z l c) : mkSX i n z (some l) (some c) = if l ≤ c ∧ z.cells.length = n.c ∧ c * n.w ≤ lots then some (.ok { v := .ref (.n i 0) n 0 l, wr := [(.n i 0, some (.arr (List.replicate l (.d z)) n))] }) else none := rfl
def natO (o : Option V) : Option Nat := bnd o natOf
@[simp] theorem natO_some (v) : natO (some v) = natOf v := rfl
def lenO (o : Option V) : Option Nat := bnd o lenOf
@[simp] theorem lenO_some (v) : lenO (some v) = lenOf v := rfl
def q02 (s : Option W) (v : Option V) (lo hi : Option Nat) : Option R := bnd v fun v => match lo, hi with
    | some l, some u => okV (quz s v l u)
    | _, _ => none
@[simp] theorem zfx (s v l u) : q02 s (some v) (some l) (some u) = okV (quz s v l u) := rfl
@[simp] theorem isStr_str (s) : isStr (.d (.str s)) = true := rfl
@[simp] theorem isStr_sl (s) : isStr (.d (.sl s)) = false := rfl
@[simp] theorem isStr_ref (l sz o n) : isStr (.ref l sz o n) = false := rfl
def zap (o : Option V) : Option R := bnd o fun v => match v with
      | .d z => val (.d (.box z))
      | _ => none
@[simp] theorem zho (z) : zap (some (.d z)) = val (.d (.box z)) := rfl
def zaq (off n : Nat) (ag : Bool) (o : Option V) : Option R := match o with
    | some (.d (.box y)) => zap (part (.d y) off n ag)
    | some (.ptr l e j) => val (.ptr l e (j + off))
    | _ => none
@[simp] theorem fieldX_box (off n ag y) : zaq off n ag (some (.d (.box y))) = zap (part (.d y) off n ag) := rfl
@[simp] theorem fieldX_ptr (off n ag l e j) : zaq off n ag (some (.ptr l e j)) = val (.ptr l e (j + off)) := rfl
def partX (off n : Nat) (ag : Bool) (o : Option V) : Option R := bnd o fun v => if isAgg v then okV (part v off n ag) else none
@[simp] theorem partX_some (off n ag v) : partX off n ag (some v) = if isAgg v then okV (part v off n ag) else none := rfl
def idxY (n : W) (o : Option D) : Option R := match o with
        | some y => if y.cells.length = n.c then val (.d (.box y)) else none
        | none => none
@[simp] theorem idxY_some (n y) : idxY n (some y) = if y.cells.length = n.c then val (.d (.box y)) else none := rfl
def idxX (n : W) (v : Option V) (j : Option Nat) : Option R := bnd v fun v => match j with
    | none => none
    | some j => match v with
      | .d (.sl xs) => idxY n xs[j]?
      | .ref l sz off len => if j < len ∧ sz = n then val (.ptr l (off + j) 0) else none
      | _ => none
@[simp] theorem idxX_sl (n xs j) : idxX n (some (.d (.sl xs))) (some j) = idxY n xs[j]? := rfl
@[simp] theorem idxX_ref (n l sz off len j) : idxX n (some (.ref l sz off len)) (some j) = if j < len ∧ sz = n then val (.ptr l (off + j) 0) else none := rfl
def idxSY (o : Option UInt8) : Option R := match o with
      | some b => val (.d (.int .u8 b.toNat))
      | none => none
@[simp] theorem idxSY_some (b) : idxSY (some b) = val (.d (.int .u8 b.toNat)) := rfl
def idxSX (v : Option V) (j : Option Nat) : Option R := bnd v fun v => match v, j with
    | .d (.str s), some j => idxSY s[j]?
    | _, _ => none
@[simp] theorem idxSX_some (s j) : idxSX (some (.d (.str s))) (some j) = idxSY s[j]? := rfl
def extX (k : Nat) (o : Option V) : Option R := match o with
    | some (.tup vs) => okV vs[k]?
    | _ => none
@[simp] theorem extX_some (k vs) : extX k (some (.tup vs)) = okV vs[k]? := rfl
def tassY (t : TypeId) (ok : Bool) (z : D) (v : V) (o : Option (TypeId × V)) : Option R := match o with
    | some (t', y) => if t' = t then val (if ok then .tup [y, .d (.bool true)] else y) else if ok then val (.tup [.d z, .d (.bool false)]) else none
    | none => match v, ok with
      | .d .nili, true => val (.tup [.d z, .d (.bool false)])
      | _, _ => none
@[simp] theorem tassY_some (t ok z v t' y) : tassY t ok z v (some (t', y)) = if t' = t then val (if ok then .tup [y, .d (.bool true)] else y) else if ok then val (.tup [.d z, .d (.bool false)]) else none := rfl
@[simp] theorem tassY_none (t z) : tassY t true z (.d .nili) none = val (.tup [.d z, .d (.bool false)]) := rfl
def tassX (t : TypeId) (ok : Bool) (z : D) (o : Option V) : Option R := bnd o fun v => tassY t ok z v (qgi v)
@[simp] theorem tassX_some (t ok z v) : tassX t ok z (some v) = tassY t ok z v (qgi v) := rfl
def callC (fm m : List Loc) (i : Nat) (o : Option CRes) : Option R := bnd o fun r => some (qti fm m i r)
@[simp] theorem callC_some (fm m i r) : callC fm m i (some r) = some (qti fm m i r) := rfl
def callB (cf : CF) (f : FuncId) (i : Nat) (fm : List Loc) (o : Option (List V × List Obj × List Loc)) : Option R := bnd o fun b => if b.1.all fitV then callC fm b.2.2 i (cf f b.1 b.2.1) else none
@[simp] theorem callB_some (cf f i fm vs os m) : callB cf f i fm (some (vs, os, m)) = if vs.all fitV then callC fm m i (cf f vs os) else none := rfl
def callA (cf : CF) (f : FuncId) (i : Nat) (h : Loc → Option Obj) (o : Option (List V × List Loc)) : Option R := bnd o fun a => callB cf f i a.2 (norm [] a.1 (qgh h a.2))
@[simp] theorem callA_some (cf f i h vs fm) : callA cf f i h (some (vs, fm)) = callB cf f i fm (norm [] vs (qgh h fm)) := rfl
theorem qpx (cf : CF) (f i h args) : qh7 cf f i h args = callA cf f i h (qcc h args) := by
  unfold qh7 callA callB callC
  congr 1; funext a; congr 1; funext b
  cases b.1.all fitV <;> rfl
def callX (cf : CF) (f : FuncId) (i : Nat) (h : Loc → Option Obj) (o : Option (List (V × Bool))) : Option R := bnd o fun vs => qh7 cf f i h vs
@[simp] theorem callX_some (cf f i h vs) : callX cf f i h (some vs) = callA cf f i h (qcc h vs) := qpx ..
def q6e (cf : CF) (i : Nat) (h : Loc → Option Obj) (vs : List (V × Bool)) (o : Option (FuncId × List V)) : Option R := bnd o fun x => callA cf x.1 i h (qcc h (vs ++ x.2.map (·, false)))
@[simp] theorem zic (cf i h vs f cap) : q6e cf i h vs (some (f, cap)) = callA cf f i h (qcc h (vs ++ cap.map (·, false))) := rfl
def ze7 (cf : CF) (i : Nat) (h : Loc → Option Obj) (g : Option V) (o : Option (List (V × Bool))) : Option R := bnd g fun g => bnd o fun vs => q6e cf i h vs (fnOf g)
@[simp] theorem zid (cf i h g vs) : ze7 cf i h (some g) (some vs) = q6e cf i h vs (fnOf g) := rfl
def invP (cf : CF) (f : FuncId) (i : Nat) (h : Loc → Option Obj) (vs : List (V × Bool)) (o : Option V) : Option R := bnd o fun r => callA cf f i h (qcc h ((r, true) :: vs))
@[simp] theorem invP_some (cf f i h vs r) : invP cf f i h vs (some r) = callA cf f i h (qcc h ((r, true) :: vs)) := rfl
def invZ (cf : CF) (i : Nat) (h : Loc → Option Obj) (y : V) (vs : List (V × Bool)) (o : Option (FuncId × Option (Nat × Nat × Bool))) : Option R := bnd o fun x => match x.2 with
    | none => invP cf x.1 i h vs (some y)
    | some (off, n, ag) => invP cf x.1 i h vs (partA y off n ag)
@[simp] theorem invZ_none (cf i h y vs f) : invZ cf i h y vs (some (f, none)) = invP cf f i h vs (some y) := rfl
@[simp] theorem invZ_some (cf i h y vs f off n ag) : invZ cf i h y vs (some (f, some (off, n, ag))) = invP cf f i h vs (partA y off n ag) := rfl
@[simp] theorem partA_d (cs off n ag) : partA (.d (.agg cs)) off n ag = part (.d (.agg cs)) off n ag := rfl
@[simp] theorem partA_v (cs off n ag) : partA (.agg cs) off n ag = part (.agg cs) off n ag := rfl
def invY (T : Tab) (cf : CF) (m : List (TypeId × FuncId × Option (Nat × Nat × Bool))) (i : Nat) (h : Loc → Option Obj) (vs : List (V × Bool)) (o : Option (TypeId × V)) : Option R := bnd o fun x => invZ cf i h x.2 vs (qo8 m x.1)
@[simp] theorem qnk (T cf m i h vs t y) : invY T cf m i h vs (some (t, y)) = invZ cf i h y vs (qo8 m t) := rfl
def invX (T : Tab) (cf : CF) (m : List (TypeId × FuncId × Option (Nat × Nat × Bool))) (i : Nat) (h : Loc → Option Obj) (v : Option V) (o : Option (List (V × Bool))) : Option R := bnd v fun v => bnd o fun vs => invY T cf m i h vs (qgi v)
@[simp] theorem invX_some (T cf m i h v vs) : invX T cf m i h (some v) (some vs) = invY T cf m i h vs (qgi v) := rfl
def lenY (fit : Bool) (o : Option Nat) : Option R := bnd o fun n => if fit = true then val (.d (.int .i64 n)) else none
@[simp] theorem lenY_some (str n) : lenY str (some n) = if str = true then val (.d (.int .i64 n)) else none := rfl
def lenX (s : Bool) (o : Option V) : Option R := bnd o fun v => sel (isStr v == s) (lenY (fitV v) (lenOf v)) none
@[simp] theorem lenX_some (s v) : lenX s (some v) = sel (isStr v == s) (lenY (fitV v) (lenOf v)) none := rfl
def appZ (i : Nat) (n : W) (off len : Nat) (l : Loc) (sz : W) (ys : List V) (m : List Loc) (o : Option Obj) : Option R := match o with
        | some (.arr xs _) =>
          if sz = n ∧ off + len ≤ xs.length ∧ l ∉ m then
            if (len + ys.length) * n.w ≤ lots then some (.ok { v := .ref (.n i 0) n 0 (len + ys.length), rd := l :: m, wr := [(l, none), (.n i 0, some (.arr ((xs.drop off).take len ++ ys) n))] }) else none
          else none
        | _ => none
@[simp] theorem appZ_arr (i n off len l sz ys m xs s) : appZ i n off len l sz ys m (some (.arr xs s)) = if sz = n ∧ off + len ≤ xs.length ∧ l ∉ m then
            if (len + ys.length) * n.w ≤ lots then some (.ok { v := .ref (.n i 0) n 0 (len + ys.length), rd := l :: m, wr := [(l, none), (.n i 0, some (.arr ((xs.drop off).take len ++ ys) n))] }) else none
          else none := rfl
def appY (h : Loc → Option Obj) (i : Nat) (n : W) (x : Option V) (o : Option (List V × List Loc)) : Option R := bnd o fun y =>
  if y.1.all (fun v => v.cells.length == n.c) then
    match x with
    | none => if y.1.length * n.w ≤ lots then some (.ok { v := .ref (.n i 0) n 0 y.1.length, rd := y.2, wr := [(.n i 0, some (.arr y.1 n))] }) else none
    | some (.ref l sz off len) => appZ i n off len l sz y.1 y.2 (h l)
    | _ => none
  else none
@[simp] theorem appY_none (h i n ys m) : appY h i n none (some (ys, m)) = if ys.all (fun v => v.cells.length == n.c) then (if ys.length * n.w ≤ lots then some (.ok { v := .ref (.n i 0) n 0 ys.length, rd := m, wr := [(.n i 0, some (.arr ys n))] }) else none) else none := rfl
@[simp] theorem appY_ref (h i n l sz off len ys m) : appY h i n (some (.ref l sz off len)) (some (ys, m)) = if ys.all (fun v => v.cells.length == n.c) then appZ i n off len l sz ys m (h l) else none := rfl
def appX0 (h : Loc → Option Obj) (i : Nat) (n : W) (y : Option V) : Option R := bnd y fun b => appY h i n none (elems h b)
@[simp] theorem appX0_some (h i n b) : appX0 h i n (some b) = appY h i n none (elems h b) := rfl
def appX (h : Loc → Option Obj) (i : Nat) (n : W) (x y : Option V) : Option R := bnd x fun a => bnd y fun b => appY h i n (unN a) (elems h b)
@[simp] theorem unN_ref (l sz o n) : unN (.ref l sz o n) = some (.ref l sz o n) := rfl
@[simp] theorem unN_nils : unN (.d .nils) = none := rfl
@[simp] theorem appX_some (h i n a b) : appX h i n (some a) (some b) = appY h i n (unN a) (elems h b) := rfl
theorem zbn (h i n x y) : appV h i n x y = appY h i n x (elems h y) := by
  unfold appV appY
  cases elems h y with
  | none => rfl
  | some e =>
    obtain ⟨ys, m⟩ := e
    show (if ys.all _ = true then _ else none) = (if ys.all _ = true then _ else none)
    split
    · cases x with
      | none => rfl
      | some x => cases x with
        | ref l sz off len => show (match h l with | some (.arr xs _) => _ | _ => none) = appZ ..; unfold appZ; cases h l with
          | none => rfl
          | some o => cases o <;> rfl
        | _ => rfl
    · rfl
def mxX (a b : Option V) : Option R := match a, b with
    | some (.d (.int k a)), some (.d (.int k' b)) => if k = k' then val (.d (.int k (if b > a then b else a))) else none
    | _, _ => none
@[simp] theorem mxX_some (k a k' b) : mxX (some (.d (.int k a))) (some (.d (.int k' b))) = if k = k' then val (.d (.int k (if b > a then b else a))) else none := rfl
def panY (v : V) (o : Option (TypeId × V)) : Option R := match o with
    | some _ => some (.pan { v })
    | none => none
@[simp] theorem panY_some (v x) : panY v (some x) = some (.pan { v }) := rfl
def panX (o : Option V) : Option R := bnd o fun v => panY v (qgi v)
@[simp] theorem panX_some (v) : panX (some v) = panY v (qgi v) := rfl
def zeh (i : Nat) (o : Option V) : Option R := match o with
    | some (.d (.str s)) => some (.ok { v := .iter (.n i 0), wr := [(.n i 0, some (.iter s 0))] })
    | _ => none
@[simp] theorem zgt (i s) : zeh i (some (.d (.str s))) = some (.ok { v := .iter (.n i 0), wr := [(.n i 0, some (.iter s 0))] }) := rfl
def nextY (l : Loc) (o : Option Obj) : Option R := match o with
      | some (.iter s pos) =>
        if pos < s.length then some (.ok { v := .tup [.d (.bool true), .d (.int .i64 pos), .d (.int .i32 (dec s pos).1)], rd := [l], wr := [(l, some (.iter s (pos + (dec s pos).2)))] })
        else some (.ok { v := .tup [.d (.bool false)], rd := [l] })
      | _ => none
@[simp] theorem nextY_some (l s pos) : nextY l (some (.iter s pos)) = if pos < s.length then some (.ok { v := .tup [.d (.bool true), .d (.int .i64 pos), .d (.int .i32 (dec s pos).1)], rd := [l], wr := [(l, some (.iter s (pos + (dec s pos).2)))] })
        else some (.ok { v := .tup [.d (.bool false)], rd := [l] }) := rfl
def nextX (h : Loc → Option Obj) (o : Option V) : Option R := match o with
    | some (.iter l) => nextY l (h l)
    | _ => none
@[simp] theorem nextX_some (h l) : nextX h (some (.iter l)) = nextY l (h l) := rfl
def lookY (s : Bool) (z : D) (l : Loc) (key : D) (o : Option Obj) : Option R := match o with
      | some (.map es) => if qp7 s key es then some (.ok { v := ((findE es (qfv key)).getD (.d z)), rd := [l] }) else none
      | _ => none
@[simp] theorem lookY_some (s z l key es) : lookY s z l key (some (.map es)) = if qp7 s key es then some (.ok { v := ((findE es (qfv key)).getD (.d z)), rd := [l] }) else none := rfl
def lookX (h : Loc → Option Obj) (s : Bool) (z : D) (x k : Option V) : Option R := match x, k with
    | some (.map l), some (.d key) => lookY s z l key (h l)
    | _, _ => none
@[simp] theorem lookX_some (h s z l key) : lookX h s z (some (.map l)) (some (.d key)) = lookY s z l key (h l) := rfl
def updY (s : Bool) (l : Loc) (key : D) (v : V) (o : Option Obj) : Option R := match o with
      | some (.map es) => if qp7 s key es && !q5u v then some (.ok { v := .tup [], rd := [l], wr := [(l, some (.map (putE es key v)))] }) else none
      | _ => none
@[simp] theorem updY_some (s l key v es) : updY s l key v (some (.map es)) = if qp7 s key es && !q5u v then some (.ok { v := .tup [], rd := [l], wr := [(l, some (.map (putE es key v)))] }) else none := rfl
def updX (h : Loc → Option Obj) (s : Bool) (x k v : Option V) : Option R := match x, k, v with
    | some (.map l), some (.d key), some v => updY s l key v (h l)
    | _, _, _ => none
@[simp] theorem updX_some (h s l key v) : updX h s (some (.map l)) (some (.d key)) (some v) = updY s l key v (h l) := rfl
section
variable (T : Tab) (cf : CF) (i : Nat) (ev : Opnd → Option V) (h : Loc → Option Obj)
@[simp] theorem exec_mv {x} : exec T cf i (.mv x) ev h = okV (ev x) := rfl
@[simp] theorem exec_own {n} : exec T cf i (.own n) ev h = some (.ok { v := .ref (.n i 0) n 0 0, wr := [(.n i 0, some (.arr [] n))] }) := rfl
@[simp] theorem exec_pick {c a b} : exec T cf i (.pick c a b) ev h = pickV (ev c) (ev a) (ev b) := rfl
@[simp] theorem zhw {t z} : exec T cf i (.allocT t z []) ev h = some (.ok { v := .ptr (.n i 0) 0 0, wr := [(.n i 0, some (.arr [.d z] ⟨z.cells.length, t + 1000000⟩))] }) := rfl
@[simp] theorem zey {t z o own} : exec T cf i (.allocT t z (o :: own)) ev h = some (.ok { v := .ptr (.n i 0) 0 0, wr := (ownD i 1 (o :: own) (.d z)).2 ++ [(.n i 0, some (.arr [(ownD i 1 (o :: own) (.d z)).1] ⟨z.cells.length, t + 1000000⟩))] }) := rfl
@[simp] theorem exec_alloc {z} : exec T cf i (.alloc z []) ev h = some (.ok { v := .ptr (.n i 0) 0 0, wr := [(.n i 0, some (.arr [.d z] ⟨z.cells.length, 0⟩))] }) := rfl
@[simp] theorem zhx {z o own} : exec T cf i (.alloc z (o :: own)) ev h = some (.ok { v := .ptr (.n i 0) 0 0, wr := (ownD i 1 (o :: own) (.d z)).2 ++ [(.n i 0, some (.arr [(ownD i 1 (o :: own) (.d z)).1] ⟨z.cells.length, 0⟩))] }) := rfl
@[simp] theorem exec_box {n x} : exec T cf i (.box n x) ev h = boxX i n (ev x) := rfl
@[simp] theorem exec_build {z ps own} : exec T cf i (.build z ps own) ev h = ze8 (ownD i 0 own (.d z)) (evp ev ps) := rfl
@[simp] theorem zex {n z len ps} : exec T cf i (.buildSl n z len ps) ev h = bslX i n len (setX n z len (evq ev ps)) := by
  show bnd (evq ev ps) _ = _
  cases evq ev ps with
  | none => rfl
  | some ps => simp only [bnd, Option.bind, q88]; split <;> rfl
@[simp] theorem exec_load {n ag x} : exec T cf i (.load n ag x) ev h = loadX h n ag (ev x) := rfl
@[simp] theorem exec_store {n x y} : exec T cf i (.store n x y) ev h = zd9 h n (ev x) (ev y) := rfl
@[simp] theorem exec_nilCk {x} : exec T cf i (.nilCk x) ev h = nilX (ev x) := rfl
@[simp] theorem exec_bin {op x y} : exec T cf i (.bin op x y) ev h = binX op (ev x) (ev y) := rfl
@[simp] theorem exec_isN {eq ifc x} : exec T cf i (.isN eq ifc x) ev h = isNX eq ifc (ev x) := rfl
@[simp] theorem exec_eqB {eq x y} : exec T cf i (.eqB eq x y) ev h = eqBX eq (ev x) (ev y) := rfl
@[simp] theorem exec_un {op x} : exec T cf i (.un op x) ev h = unX op (ev x) := rfl
@[simp] theorem exec_conv {k x} : exec T cf i (.conv k x) ev h = convX h k (ev x) := rfl
@[simp] theorem exec_mkI {t x} : exec T cf i (.mkI t x) ev h = mkIX t (ev x) := rfl
@[simp] theorem exec_mkF {f cap} : exec T cf i (.mkF f cap) ev h = mkFX f (evl ev cap) := rfl
@[simp] theorem exec_mkSl {n z len cap} : exec T cf i (.mkSl n z len cap) ev h = mkSX i n z (natO (ev len)) (natO (ev cap)) := by
  show bnd (ev len) _ = _
  cases ev len with
  | none => rfl
  | some a => cases ev cap with
    | none => simp only [bnd, Option.bind, natO, mkSX]; cases natOf a <;> rfl
    | some b => rfl
@[simp] theorem zev {s x} : exec T cf i (.slice s x none none) ev h = q02 s (ev x) (some 0) (lenO (ev x)) := by
  show bnd (ev x) _ = _
  cases ev x <;> rfl
@[simp] theorem zhu {s x hi} : exec T cf i (.slice s x none (some hi)) ev h = q02 s (ev x) (some 0) (natO (ev hi)) := by
  show bnd (ev x) _ = _
  cases ev x <;> rfl
@[simp] theorem zht {s x lo} : exec T cf i (.slice s x (some lo) none) ev h = q02 s (ev x) (natO (ev lo)) (lenO (ev x)) := by
  show bnd (ev x) _ = _
  cases ev x <;> rfl
@[simp] theorem zhs {s x lo hi} : exec T cf i (.slice s x (some lo) (some hi)) ev h = q02 s (ev x) (natO (ev lo)) (natO (ev hi)) := by
  show bnd (ev x) _ = _
  cases ev x <;> rfl
@[simp] theorem zhv {off n ag x} : exec T cf i (.fieldA off n ag x) ev h = zaq off n ag (ev x) := rfl
@[simp] theorem exec_field {off n ag x} : exec T cf i (.field off n ag x) ev h = partX off n ag (ev x) := rfl
@[simp] theorem exec_idxA {n x k} : exec T cf i (.idxA n x k) ev h = idxX n (ev x) (natO (ev k)) := by
  show bnd (ev x) _ = _
  cases ev x with
  | none => rfl
  | some v => cases ev k with
    | none => rfl
    | some a => simp only [bnd, Option.bind, natO, idxX]; cases natOf a <;> rfl
@[simp] theorem exec_idxS {x k} : exec T cf i (.idxS x k) ev h = idxSX (ev x) (natO (ev k)) := by
  show bnd (ev x) _ = _
  cases ev x with
  | none => rfl
  | some v => cases ev k with
    | none => simp only [bnd, Option.bind, natO, idxSX]
    | some a => rfl
@[simp] theorem zew {x k} : exec T cf i (.extract x k) ev h = extX k (ev x) := rfl
@[simp] theorem exec_tass {t ok z x} : exec T cf i (.tass t ok z x) ev h = tassX t ok z (ev x) := rfl
@[simp] theorem exec_call {f args} : exec T cf i (.call f args) ev h = callX cf f i h (evs ev args) := rfl
@[simp] theorem exec_callV {f args} : exec T cf i (.callV f args) ev h = ze7 cf i h (ev f) (evs ev args) := by
  show bnd (ev f) _ = _
  cases ev f with
  | none => rfl
  | some g => cases evs ev args with
    | none => rfl
    | some vs =>
      show bnd (fnOf g) _ = q6e cf i h vs (fnOf g)
      cases fnOf g with
      | none => rfl
      | some x => exact qpx ..
@[simp] theorem exec_inv {m x args} : exec T cf i (.inv m x args) ev h = invX T cf m i h (ev x) (evs ev args) := by
  show bnd (ev x) _ = _
  cases ev x with
  | none => rfl
  | some v => cases evs ev args with
    | none => rfl
    | some vs =>
      show bnd (qgi v) _ = invY T cf m i h vs (qgi v)
      cases qgi v with
      | none => rfl
      | some x =>
        obtain ⟨t, y⟩ := x
        show bnd (qo8 m t) _ = invZ cf i h y vs (qo8 m t)
        cases qo8 m t with
        | none => rfl
        | some z =>
          obtain ⟨f, p⟩ := z
          cases p with
          | none => exact qpx ..
          | some p =>
            obtain ⟨off, n, ag⟩ := p
            show bnd (partA y off n ag) _ = invP cf f i h vs (partA y off n ag)
            cases partA y off n ag with
            | none => rfl
            | some r => exact qpx ..
@[simp] theorem exec_len {s x} : exec T cf i (.len s x) ev h = lenX s (ev x) := by
  show bnd (ev x) _ = _
  cases ev x with
  | none => rfl
  | some v =>
    show sel (isStr v == s) (bnd (lenOf v) _) none = sel (isStr v == s) (lenY (fitV v) (lenOf v)) none
    congr 1
    cases lenOf v with
    | none => rfl
    | some n =>
      show sel _ _ _ = if _ = true then _ else _
      cases fitV v <;> simp [sel]
@[simp] theorem exec_app0 {n y} : exec T cf i (.app n none y) ev h = appX0 h i n (ev y) := by
  show bnd (ev y) _ = _
  cases ev y with
  | none => rfl
  | some b => exact zbn h i n none b
@[simp] theorem exec_app {n x y} : exec T cf i (.app n (some x) y) ev h = appX h i n (ev x) (ev y) := by
  show bnd (ev x) _ = _
  cases ev x with
  | none => rfl
  | some a => cases ev y with
    | none => rfl
    | some b => exact zbn h i n (unN a) b
@[simp] theorem exec_mx {x y} : exec T cf i (.mx x y) ev h = mxX (ev x) (ev y) := rfl
@[simp] theorem exec_panic {x} : exec T cf i (.panic x) ev h = panX (ev x) := rfl
@[simp] theorem exec_range {x} : exec T cf i (.range x) ev h = zeh i (ev x) := rfl
@[simp] theorem exec_next {x} : exec T cf i (.next x) ev h = nextX h (ev x) := rfl
@[simp] theorem exec_mkMap : exec T cf i .mkMap ev h = some (.ok { v := .map (.n i 0), wr := [(.n i 0, some (.map []))] }) := rfl
@[simp] theorem exec_look {s z x k} : exec T cf i (.look s z x k) ev h = lookX h s z (ev x) (ev k) := rfl
@[simp] theorem exec_upd {s x k v} : exec T cf i (.upd s x k v) ev h = updX h s (ev x) (ev k) (ev v) := rfl
end
inductive SS where
  | go (s : RS) (rs : List Rec)
  | pan (i : Nat) (v : V) (s : RS) (rs : List Rec)
  | out (rs : List Rec)
  | bad
def SS.of (i : Nat) (rs : List Rec) : Option SR → SS
  | none => .bad
  | some (.go s r) => .go s (r :: rs)
  | some (.pan v s r) => .pan i v s (r :: rs)
  | some .out => .out rs
@[simp] theorem of_go (i rs s r) : SS.of i rs (some (.go s r)) = .go s (r :: rs) := rfl
@[simp] theorem of_pan (i rs v s r) : SS.of i rs (some (.pan v s r)) = .pan i v s (r :: rs) := rfl
@[simp] theorem of_out (i rs) : SS.of i rs (some .out) = .out rs := rfl
def runS (T : Tab) (cf : CF) (os : List AIns) : SS → Option (RR × List Rec)
  | .go s rs => runL T cf os s rs
  | .pan i v s rs => some (.pan i v s, rs)
  | .out rs => some (.out, rs)
  | .bad => none
@[simp] theorem runS_nil (T cf s rs) : runS T cf [] (.go s rs) = some (.nrm s, rs) := rfl
@[simp] theorem runS_pan (T cf os i v s rs) : runS T cf os (.pan i v s rs) = some (.pan i v s, rs) := rfl
@[simp] theorem runS_out (T cf os rs) : runS T cf os (.out rs) = some (.out, rs) := rfl
def stepE (o : AIns) (s : RS) (x : Option R) : Option SR := bnd x fun r => some (stepR o s r)
@[simp] theorem stepE_ok (i dst op g s v rd wr) : stepE ⟨i, dst, op, g⟩ s (some (.ok ⟨v, rd, wr⟩)) = some (.go { env := putT s.env dst v, h := qba s.h wr } { i, rd, wr := wr.map (·.1) }) := rfl
@[simp] theorem stepE_pan (i dst op g s v rd wr) : stepE ⟨i, dst, op, g⟩ s (some (.pan ⟨v, rd, wr⟩)) = some (.pan v { env := s.env, h := qba s.h wr } { i, rd, wr := wr.map (·.1) }) := rfl
@[simp] theorem stepE_out (o s) : stepE o s (some .out) = some .out := rfl
def stepG (T : Tab) (cf : CF) (o : AIns) (s : RS) (b : Option Bool) : Option SR := bnd b fun b => sel b (stepE o s (exec T cf o.i o.op (evO s.env) s.h)) (some (.go { env := putT s.env o.dst (.tup []), h := s.h } { i := o.i, rd := [], wr := [] }))
@[simp] theorem stepG_true (T cf i dst op g s) : stepG T cf ⟨i, dst, op, g⟩ s (some true) = stepE ⟨i, dst, op, g⟩ s (exec T cf i op (evO s.env) s.h) := rfl
@[simp] theorem zfw (T cf i dst op g s) : stepG T cf ⟨i, dst, op, g⟩ s (some false) = some (.go { env := putT s.env dst (.tup []), h := s.h } { i, rd := [], wr := [] }) := rfl
@[simp] theorem runS_cons (T cf i dst op g os s rs) : runS T cf (⟨i, dst, op, some g⟩ :: os) (.go s rs) = runS T cf os (.of i rs (stepG T cf ⟨i, dst, op, some g⟩ s (wanted s.env (some g)))) := by
  show runL T cf (_ :: os) s rs = _
  rw [runL]
  show bnd (step T cf _ s) _ = runS T cf os (.of i rs (step T cf ⟨i, dst, op, some g⟩ s))
  cases step T cf ⟨i, dst, op, some g⟩ s with
  | none => rfl
  | some x => cases x <;> rfl
@[simp] theorem runS_cons0 (T cf i dst op os s rs) : runS T cf (⟨i, dst, op, none⟩ :: os) (.go s rs) = runS T cf os (.of i rs (stepE ⟨i, dst, op, none⟩ s (exec T cf i op (evO s.env) s.h))) := by
  show runL T cf (_ :: os) s rs = _
  rw [runL]
  show bnd (step T cf _ s) _ = runS T cf os (.of i rs (step T cf ⟨i, dst, op, none⟩ s))
  cases step T cf ⟨i, dst, op, none⟩ s with
  | none => rfl
  | some x => cases x <;> rfl
def nrmX (o : Option St) : Option (Ex × St) := bnd o fun st => some (.nrm, st)
@[simp] theorem nrmX_some (st) : nrmX (some st) = some (.nrm, st) := rfl
def regX (pin : Nat) (keep : List Nat) (o : Option (RR × List Rec)) : Option (Ex × St) := bnd o fun x => zef pin keep x.1
@[simp] theorem regX_nrm (pin keep s rs) : regX pin keep (some (.nrm s, rs)) = nrmX (endR pin keep s.env s.h) := rfl
@[simp] theorem regX_pan (pin keep i v s rs) : regX pin keep (some (.pan i v s, rs)) = endP pin v s.h := rfl
@[simp] theorem regX_out (pin keep rs) : regX pin keep (some (.out, rs)) = some (.out, { env := [], heap := [] }) := rfl
def regDX (ps : List (Nat × Nat)) (pin : Nat) (keep : List Nat) (o : Option (RR × List Rec)) : Option (Ex × St) := bnd o fun x => sel (qnt ps x.2) (qsx pin keep x.1) none
@[simp] theorem regDX_some (ps pin keep x rs) : regDX ps pin keep (some (x, rs)) = if qnt ps rs = true then qsx pin keep x else none := by
  show sel _ _ _ = _
  cases qnt ps rs <;> rfl
@[simp] theorem zgl (pin keep s) : qsx pin keep (.nrm s) = nrmX (endR pin keep s.env s.h) := rfl
@[simp] theorem zgj (pin keep i v s) : qsx pin keep (.pan i v s) = endP pin v (only (Loc.oldOr i) s.h) := rfl
@[simp] theorem zgk (pin keep) : qsx pin keep .out = some (.out, { env := [], heap := [] }) := rfl
@[simp] theorem only_ap (p h l) : only p h l = if p l = true then h l else none := by
  show sel _ _ _ = _
  cases p l <;> rfl
noncomputable def onD (T : Tab) (cf : CF) (ps : List (Nat × Nat)) (es : List Nat) (os : List AIns) (i : Nat) (A : List Loc) (rs : List Rec) (x : Option SR) : Option (RR × List Rec) := bnd x fun x =>
  onSR x (fun s' r => runD T cf ps es os s' (r :: rs)) (fun v s' r => sel (es.contains i && panOk ps rs i) (some (.pan i v s', r :: rs)) none) (sel (es.contains i) (some (.out, { i := i, rd := A, wr := [] } :: rs)) none)
@[simp] theorem onD_go (T cf ps es os i A rs s r) : onD T cf ps es os i A rs (some (.go s r)) = runD T cf ps es os s (r :: rs) := rfl
@[simp] theorem onD_pan (T cf ps es os i A rs v s r) : onD T cf ps es os i A rs (some (.pan v s r)) = if (es.contains i && panOk ps rs i) = true then some (.pan i v s, r :: rs) else none := by
  show sel _ _ _ = _
  cases (es.contains i && panOk ps rs i) <;> rfl
@[simp] theorem onD_out (T cf ps es os i A rs) : onD T cf ps es os i A rs (some .out) = if es.contains i = true then some (.out, { i := i, rd := A, wr := [] } :: rs) else none := by
  show sel _ _ _ = _
  cases es.contains i <;> rfl
@[simp] theorem runD_nil (T cf ps es s rs) : runD T cf ps es [] s rs = some (.nrm s, rs) := rfl
noncomputable def q0z (o : AIns) (A : List Loc) (s : RS) (x : Option R) : Option SR := bnd x (q00 o A s)
noncomputable def chQ (k : Nat) (A : List Loc) (h : Loc → Option Obj) (wr : List (Loc × Option Obj)) : List Loc := sel (k == 3) (chg A h wr) (wr.map (·.1))
@[simp] theorem chQ_0 (A h wr) : chQ 0 A h wr = wr.map (·.1) := rfl
@[simp] theorem chQ_1 (A h wr) : chQ 1 A h wr = wr.map (·.1) := rfl
@[simp] theorem chQ_2 (A h wr) : chQ 2 A h wr = wr.map (·.1) := rfl
open Classical in
@[simp] theorem chQ_all (A h wr f) : (chQ 3 A h wr).all f = wr.all fun e => (A.contains e.1 && decide (qba h wr e.1 = h e.1)) || f e.1 := by
  show (List.filter _ _).all f = _
  rw [List.all_filter, List.all_map]
  congr 1
  funext e
  simp only [Function.comp, Bool.not_or, Bool.not_not, ne_eq, decide_not]
@[simp] theorem stepRX_ok (i dst op g A s v rd wr) : q0z ⟨i, dst, op, g⟩ A s (some (.ok ⟨v, rd, wr⟩)) = if okRec (qdr op) A i wr = true then some (.go { env := putT s.env dst v, h := qba s.h wr } { i := i, rd := A, wr := wr.map (·.1), ch := chQ (qdr op) A s.h wr }) else none := by
  show sel _ _ _ = _
  cases okRec (qdr op) A i wr <;> rfl
@[simp] theorem stepRX_pan (i dst op g A s v rd wr) : q0z ⟨i, dst, op, g⟩ A s (some (.pan ⟨v, rd, wr⟩)) = if (decide (2 ≤ qdr op) && okRec (qdr op) A i wr) = true then some (.pan v { env := s.env, h := qba s.h wr } { i := i, rd := A, wr := wr.map (·.1) }) else none := by
  show sel _ _ _ = _
  cases (decide (2 ≤ qdr op) && okRec (qdr op) A i wr) <;> rfl
@[simp] theorem stepRX_out (i dst op g A s) : q0z ⟨i, dst, op, g⟩ A s (some .out) = if (decide (qdr op ≠ 0) || A.isEmpty) = true then some .out else none := by
  show sel _ _ _ = _
  cases (decide (qdr op ≠ 0) || A.isEmpty) <;> rfl
noncomputable def q84 (T : Tab) (cf : CF) (o : AIns) (s : RS) (A : List Loc) : Option SR := q0z o A s (execD T cf o.i o.op A (evO s.env) s.h)
noncomputable def runD0 (T : Tab) (cf : CF) (ps : List (Nat × Nat)) (es : List Nat) (os : List AIns) (o : AIns) (s : RS) (rs : List Rec) (A : List Loc) : Option (RR × List Rec) := onD T cf ps es os o.i A rs (q84 T cf o s A)
@[simp] theorem stepD0_eq (T cf i dst op g s A) : q84 T cf ⟨i, dst, op, g⟩ s A = q0z ⟨i, dst, op, g⟩ A s (execD T cf i op A (evO s.env) s.h) := rfl
@[simp] theorem runD0_eq (T cf ps es os i dst op g s rs A) : runD0 T cf ps es os ⟨i, dst, op, g⟩ s rs A = onD T cf ps es os i A rs (q84 T cf ⟨i, dst, op, g⟩ s A) := rfl
@[simp] theorem runD_cons0 (T cf ps es i dst op os s rs) : runD T cf ps es (⟨i, dst, op, none⟩ :: os) s rs = runD0 T cf ps es os ⟨i, dst, op, none⟩ s rs (qdc op (evO s.env) s.h) := rfl
noncomputable def runDG (T : Tab) (cf : CF) (ps : List (Nat × Nat)) (es : List Nat) (os : List AIns) (o : AIns) (s : RS) (rs : List Rec) (b : Option Bool) : Option (RR × List Rec) :=
  bnd b fun b => sel b (runD0 T cf ps es os o s rs (qdc o.op (evO s.env) s.h)) (runD T cf ps es os { env := putT s.env o.dst (.tup []), h := s.h } ({ i := o.i, rd := [], wr := [] } :: rs))
@[simp] theorem runDG_true (T cf ps es os i dst op g s rs) : runDG T cf ps es os ⟨i, dst, op, g⟩ s rs (some true) = runD0 T cf ps es os ⟨i, dst, op, g⟩ s rs (qdc op (evO s.env) s.h) := rfl
@[simp] theorem zgg (T cf ps es os i dst op g s rs) : runDG T cf ps es os ⟨i, dst, op, g⟩ s rs (some false) = runD T cf ps es os { env := putT s.env dst (.tup []), h := s.h } ({ i := i, rd := [], wr := [] } :: rs) := rfl
@[simp] theorem runD_cons (T cf ps es i dst op g os s rs) : runD T cf ps es (⟨i, dst, op, some g⟩ :: os) s rs = runDG T cf ps es os ⟨i, dst, op, some g⟩ s rs (wanted s.env (some g)) := by
  show bnd (stepD T cf _ _ s) _ = _
  unfold stepD
  cases h : wanted s.env (some g) with
  | none => rfl
  | some b => cases b <;> rfl
@[simp] theorem execD_eq (T cf i op A ev h) : execD T cf i op A ev h = if (qdr op == 3) = true then exec T cf i op ev (only A.contains h) else exec T cf i op ev h := by
  show sel (qfs op) _ _ = _
  unfold qfs
  cases (qdr op == 3) <;> rfl
attribute [simp] qdr qdc locOf okRec okW apart Loc.isOf Loc.oldOr
@[simp] theorem recOf_nil (i) : recOf [] i = none := rfl
@[simp] theorem recOf_cons (j rd wr ch rs i) : recOf ({ i := j, rd := rd, wr := wr, ch := ch } :: rs) i = if (j == i) = true then some { i := j, rd := rd, wr := wr, ch := ch } else recOf rs i := by
  unfold recOf
  rw [List.find?_cons]
  split <;> simp_all
def q6m (a b : Option Rec) : Bool := match a, b with
  | some a, some b => apart a b
  | _, _ => true
@[simp] theorem apartX_ss (a b) : q6m (some a) (some b) = apart a b := rfl
@[simp] theorem apartX_n (b) : q6m none b = true := by cases b <;> rfl
@[simp] theorem apartX_n' (b) : q6m b none = true := by cases b <;> rfl
@[simp] theorem zgz (rs) : qnt [] rs = true := rfl
@[simp] theorem zei (i j ps rs) : qnt ((i, j) :: ps) rs = (q6m (recOf rs i) (recOf rs j) && qnt ps rs) := rfl
@[simp] theorem panOk_nil (rs i) : panOk [] rs i = true := rfl
def panRX (i a : Nat) (o : Option Rec) : Bool := onO o true fun r => r.wr.all (·.isOf a)
@[simp] theorem panRX_none (i a) : panRX i a none = true := rfl
@[simp] theorem panRX_some (i a r) : panRX i a (some r) = r.wr.all (·.isOf a) := rfl
@[simp] theorem panOk_cons (a b ps rs i) : panOk ((a, b) :: ps) rs i = (sel (b == i) (panRX i a (recOf rs a)) true && panOk ps rs i) := rfl
def q9j (o : Option (List V × List Obj × List Loc)) : List Loc := onO o [] fun x => x.2.2
@[simp] theorem zgr : q9j none = [] := rfl
@[simp] theorem zgq (a b c) : q9j (some (a, b, c)) = c := rfl
@[simp] theorem reach_eq (h vs) : reach h vs = q9j (norm [] vs h) := rfl
def endX (ts : List Nat) (o : Option (List V × List Obj × List Loc)) : Option St := bnd o fun x => some { env := ts.zip x.1, heap := x.2.1 }
@[simp] theorem endX_some (ts vs os m) : endX ts (some (vs, os, m)) = some { env := ts.zip vs, heap := os } := rfl
@[simp] theorem endR_eq (pin keep env h) : endR pin keep env h = endX (keptE env keep).1 (norm (pins pin) (keptE env keep).2 h) := rfl
def normY (vs : List V) (o : Option (List Obj × List Loc)) : Option (List V × List Obj × List Loc) := bnd o fun r => some (vs, r.1, r.2)
@[simp] theorem normY_some (vs os m) : normY vs (some (os, m)) = some (vs, os, m) := rfl
def normX (h : Loc → Option Obj) (x : List V × List Loc) : Option (List V × List Obj × List Loc) := normY x.1 (qdd h 64 0 x.2)
@[simp] theorem normX_mk (h vs m) : normX h (vs, m) = normY vs (qdd h 64 0 m) := rfl
@[simp] theorem norm_eq (pin vs h) : norm pin vs h = normX h (rens (fun l => (h l).isSome) vs pin) := rfl
def consO (o : Obj) (x : Option (List Obj × List Loc)) : Option (List Obj × List Loc) := bnd x fun r => some (o :: r.1, r.2)
@[simp] theorem consO_some (o os m) : consO o (some (os, m)) = some (o :: os, m) := rfl
def walkZ (h : Loc → Option Obj) (f j : Nat) (x : Obj × List Loc) : Option (List Obj × List Loc) := consO x.1 (qdd h f (j + 1) x.2)
@[simp] theorem walkZ_mk (h f j o m) : walkZ h f j (o, m) = consO o (qdd h f (j + 1) m) := rfl
def walkY (h : Loc → Option Obj) (f j : Nat) (m : List Loc) (o : Option Obj) : Option (List Obj × List Loc) := match o with
  | none => consO .dead (qdd h f (j + 1) m)
  | some o => walkZ h f j (o.ren (fun l => (h l).isSome) m)
@[simp] theorem walkY_none (h f j m) : walkY h f j m none = consO .dead (qdd h f (j + 1) m) := rfl
@[simp] theorem walkY_some (h f j m o) : walkY h f j m (some o) = walkZ h f j (o.ren (fun l => (h l).isSome) m) := rfl
def walkX (h : Loc → Option Obj) (f j : Nat) (m : List Loc) (o : Option Loc) : Option (List Obj × List Loc) := match o with
  | none => some ([], m)
  | some l => walkY h f j m (h l)
@[simp] theorem walkX_none (h f j m) : walkX h f j m none = some ([], m) := rfl
@[simp] theorem walkX_some (h f j m l) : walkX h f j m (some l) = walkY h f j m (h l) := rfl
@[simp] theorem zfp (h f j m) : qdd h (f + 1) j m = walkX h f j m m[j]? := by
  rw [qdd]
  cases m[j]? with
  | none => rfl
  | some l => show onO (h l) _ _ = walkY h f j m (h l); cases h l <;> rfl
def nameY (l : Loc) (m : List Loc) (o : Option Nat) : Option Nat × List Loc := match o with
  | none => (some m.length, m ++ [l])
  | some k => (some k, m)
@[simp] theorem nameY_none (l m) : nameY l m none = (some m.length, m ++ [l]) := rfl
@[simp] theorem nameY_some (l m k) : nameY l m (some k) = (some k, m) := rfl
def nameX (l : Loc) (m : List Loc) (b : Bool) : Option Nat × List Loc := match b with
  | true => nameY l m (idx m l)
  | false => (none, m)
@[simp] theorem nameX_true (l m) : nameX l m true = nameY l m (idx m l) := rfl
@[simp] theorem zg2 (l m) : nameX l m false = (none, m) := rfl
@[simp] theorem nameOf_eq (al l m) : qhl al l m = nameX l m (al l) := by
  unfold qhl
  cases al l with
  | false => rfl
  | true => show onO (idx m l) _ _ = nameY l m (idx m l); cases idx m l <;> rfl
@[simp] theorem named_some (k m) (f : Nat → V) : named (some k, m) f = (f k, m) := rfl
@[simp] theorem named_none (m) (f : Nat → V) : named (none, m) f = (.junk, m) := rfl
def withM {α β : Type} (f : α → β) (x : α × List Loc) : β × List Loc := (f x.1, x.2)
@[simp] theorem withM_mk {α β : Type} (f : α → β) (a m) : withM f (a, m) = (f a, m) := rfl
section
variable (al : Loc → Bool) (m : List Loc)
@[simp] theorem ren_d (x) : V.ren al (.d x) m = (.d x, m) := rfl
@[simp] theorem ren_ref (l sz o n) : V.ren al (.ref l sz o n) m = named (qhl al l m) fun k => .ref (.b k) sz o n := rfl
@[simp] theorem ren_ptr (l e j) : V.ren al (.ptr l e j) m = named (qhl al l m) fun k => .ptr (.b k) e j := rfl
@[simp] theorem ren_mapV (l) : V.ren al (.map l) m = named (qhl al l m) fun k => .map (.b k) := rfl
@[simp] theorem ren_iterV (l) : V.ren al (.iter l) m = named (qhl al l m) fun k => .iter (.b k) := rfl
@[simp] theorem ren_agg (cs) : V.ren al (.agg cs) m = withM .agg (rens al cs m) := rfl
@[simp] theorem ren_iface (t x) : V.ren al (.iface t x) m = withM (.iface t) (V.ren al x m) := rfl
@[simp] theorem ren_fn (f cs) : V.ren al (.fn f cs) m = withM (.fn f) (rens al cs m) := rfl
@[simp] theorem ren_tup (cs) : V.ren al (.tup cs) m = withM .tup (rens al cs m) := rfl
@[simp] theorem ren_junk : V.ren al .junk m = (.junk, m) := rfl
def rensY (v : V) (x : List V × List Loc) : List V × List Loc := (v :: x.1, x.2)
@[simp] theorem rensY_mk (v vs) : rensY v (vs, m) = (v :: vs, m) := rfl
def rensX (vs : List V) (x : V × List Loc) : List V × List Loc := rensY x.1 (rens al vs x.2)
@[simp] theorem rensX_mk (vs v) : rensX al vs (v, m) = rensY v (rens al vs m) := rfl
@[simp] theorem rens_nil : rens al [] m = ([], m) := rfl
@[simp] theorem rens_cons (v vs) : rens al (v :: vs) m = rensX al vs (V.ren al v m) := rfl
def renEY (k : D) (v : V) (x : List (D × V) × List Loc) : List (D × V) × List Loc := ((k, v) :: x.1, x.2)
@[simp] theorem renEY_mk (k v es) : renEY k v (es, m) = ((k, v) :: es, m) := rfl
def renEX (k : D) (es : List (D × V)) (x : V × List Loc) : List (D × V) × List Loc := renEY k x.1 (renEs al es x.2)
@[simp] theorem renEX_mk (k es v) : renEX al k es (v, m) = renEY k v (renEs al es m) := rfl
@[simp] theorem renEs_nil : renEs al [] m = ([], m) := rfl
@[simp] theorem renEs_cons (k v es) : renEs al ((k, v) :: es) m = renEX al k es (V.ren al v m) := rfl
@[simp] theorem ren_arr (xs sz) : Obj.ren al (.arr xs sz) m = withM (fun xs => .arr xs sz) (rens al xs m) := rfl
@[simp] theorem ren_iter (s p) : Obj.ren al (.iter s p) m = (.iter s p, m) := rfl
@[simp] theorem ren_map (es) : Obj.ren al (.map es) m = withM .map (renEs al es m) := rfl
@[simp] theorem qpo (ds : List D) : rens al (ds.map .d) m = (ds.map .d, m) := by induction ds <;> simp_all
end
noncomputable def codeX (T : Tab) (X : Exts) (pin : Nat) (a : ACode) : Option (Ex × St) → Option (Ex × St)
  | some (.nrm, st) => codeE T X pin a st
  | r => r
def exitX (id : Nat) (o : Option St) : Option (Ex × St) := bnd o fun st => some (.exit id, st)
@[simp] theorem exitX_some (id st) : exitX id (some st) = some (.exit id, st) := rfl
noncomputable def pickC (T : Tab) (X : Exts) (pin : Nat) (a b : ACode) (st : St) (o : Option V) : Option (Ex × St) := condE o (codeE T X pin a st) (codeE T X pin b st)
section
variable {T : Tab} {X : Exts} {pin : Nat}
@[simp] theorem pickC_true (a b st) : pickC T X pin a b st (some (.d (.bool true))) = codeX T X pin a (some (.nrm, st)) := rfl
@[simp] theorem zgx (a b st) : pickC T X pin a b st (some (.d (.bool false))) = codeX T X pin b (some (.nrm, st)) := rfl
@[simp] theorem codeX_none (a) : codeX T X pin a none = none := rfl
@[simp] theorem zh7 (a i st) : codeX T X pin a (some (.exit i, st)) = some (.exit i, st) := rfl
@[simp] theorem codeX_ret' (a st) : codeX T X pin a (some (.ret, st)) = some (.ret, st) := rfl
@[simp] theorem codeX_pan' (a v st) : codeX T X pin a (some (.pan v, st)) = some (.pan v, st) := rfl
@[simp] theorem codeX_out' (a st) : codeX T X pin a (some (.out, st)) = some (.out, st) := rfl
variable [X.Mono]
@[simp] theorem codeX_skip (x) : codeX T X pin .skip x = x := by
  cases x with
  | none => rfl
  | some x => obtain ⟨e, st⟩ := x; cases e <;> first | rfl | exact q75
@[simp] theorem codeX_seq (a b x) : codeX T X pin (.seq a b) x = codeX T X pin b (codeX T X pin a x) := by
  cases x with
  | none => rfl
  | some x => obtain ⟨e, st⟩ := x; cases e <;> first | rfl | exact za3
@[simp] theorem zh6 (a x) : codeX T X pin (.scope a) x = codeX T X pin a x := by
  cases x with
  | none => rfl
  | some x => obtain ⟨e, st⟩ := x; cases e <;> first | rfl | exact q4o
@[simp] theorem ze5 (ops keep st) : codeX T X pin (.region ops none keep) (some (.nrm, st)) = regX pin keep (runS T (callE T X) ops (.go { env := st.env, h := qa6 st.heap } [])) := qt7
@[simp] theorem zdr (ops ps es keep st) : codeX T X pin (.region ops (some (ps, es)) keep) (some (.nrm, st)) = regDX ps pin keep (runD T (callE T X) ps es ops { env := st.env, h := qa6 st.heap } []) := qt7
@[simp] theorem codeX_cond (c a b st) : codeX T X pin (.cond c a b) (some (.nrm, st)) = pickC T X pin a b st (evO st.env c) := q78
@[simp] theorem zh8 (id a st) : codeX T X pin (.block id a) (some (.nrm, st)) = qwj id (codeX T X pin a (some (.nrm, st))) := q4p
@[simp] theorem codeX_exit (id keep st) : codeX T X pin (.exit id keep) (some (.nrm, st)) = exitX id (endR pin keep st.env (qa6 st.heap)) := q77
@[simp] theorem codeX_ret (st) : codeX T X pin .ret (some (.nrm, st)) = some (.ret, st) := za4
theorem qac {keep a l} (hl : l = .loop keep a) (st) : codeX T X pin l (some (.nrm, st)) = codeX T X pin l (codeX T X pin a (nrmX (endR pin keep st.env (qa6 st.heap)))) := by
  subst hl
  show codeE T X pin _ st = _
  rw [q76]
  cases endR pin keep st.env (qa6 st.heap) with
  | none => rfl
  | some st1 =>
    show seqE (codeE T X pin a st1) _ = codeX T X pin _ (codeE T X pin a st1)
    cases codeE T X pin a st1 with
    | none => rfl
    | some x => obtain ⟨e, st⟩ := x; cases e <;> rfl
def endC (pin : Nat) (res : List (ARes × Bool)) (o : Option (Ex × St)) : Option CRes := endE o (qjh pin res)
@[simp] theorem endC_nrm (res st) : endC pin res (some (.nrm, st)) = qjh pin res st := rfl
@[simp] theorem endC_ret (res st) : endC pin res (some (.ret, st)) = qjh pin res st := rfl
@[simp] theorem endC_pan (res v st) : endC pin res (some (.pan v, st)) = some (.pan v st.heap) := rfl
@[simp] theorem endC_out (res st) : endC pin res (some (.out, st)) = some .out := rfl
theorem qab {f af vs heap} (hx : X.run f = none) (hf : T.funs f = some af) (hl : vs.length = af.np) :
    callE T X f vs heap = endC heap.length af.res (codeX T X heap.length af.code (some (.nrm, { env := (List.range af.np).zip vs, heap }))) := za8 hx hf hl
end
def finC (o : Option (List V × List Obj × List Loc)) : Option CRes := bnd o fun b => some (.ret b.1 b.2.1)
@[simp] theorem finC_some (vs os m) : finC (some (vs, os, m)) = some (.ret vs os) := rfl
def finB (pin : Nat) (h : Loc → Option Obj) (o : Option (List V × List Loc)) : Option CRes := bnd o fun a =>
  if a.2.all (fun l => match l with | .b k => decide (pin ≤ k) | .n _ _ => false) then finC (norm (pins pin) a.1 (qgh h a.2)) else none
def oldL (pin : Nat) : Loc → Bool
  | .b k => decide (pin ≤ k)
  | .n _ _ => false
@[simp] theorem oldL_b (pin k) : oldL pin (.b k) = decide (pin ≤ k) := rfl
@[simp] theorem finB_some (pin h vs fm) : finB pin h (some (vs, fm)) = if fm.all (oldL pin) then finC (norm (pins pin) vs (qgh h fm)) else none := rfl
def finA (pin : Nat) (h : Loc → Option Obj) (o : Option (List (V × Bool))) : Option CRes := bnd o fun vs => finB pin h (qcc h vs)
@[simp] theorem finA_some (pin h vs) : finA pin h (some vs) = finB pin h (qcc h vs) := rfl
@[simp] theorem finish_eq (pin res env heap) : qjh pin res { env, heap } = finA pin (qa6 heap) (qlp env (qa6 heap) res) := rfl
@[simp] theorem zfn (env) : wanted env none = some true := rfl
def qyf (w : Bool) : Option V → Option Bool
  | some (.d (.bool b)) => some (b == w)
  | some (.tup []) => some false
  | _ => none
@[simp] theorem zfm (env t w) : wanted env (some (t, w)) = qyf w (getE env t) := by
  unfold wanted qyf
  split <;> split <;> simp_all
@[simp] theorem zd4 (w b) : qyf w (some (.d (.bool b))) = some (b == w) := rfl
@[simp] theorem zfo (w) : qyf w (some (.tup [])) = some false := rfl
@[simp] theorem evO_t (env n) : evO env (.t n) = getE env n := rfl
@[simp] theorem evO_c (env x) : evO env (.c x) = some (.d x) := rfl
@[simp] theorem putT_some (env t v) : putT env (some t) v = (t, v) :: env := rfl
@[simp] theorem putT_none (env v) : putT env none v = env := rfl
@[simp] theorem zig (fm m i) : qti fm m i .out = .out := rfl
@[simp] theorem zie (fm m i rs heap) : qti fm m i (.ret rs heap) = .ok { v := (untup rs).mapL (backL m i), rd := fm ++ m, wr := fm.map (·, none) ++ qfc m i 0 heap } := rfl
@[simp] theorem zif (fm m i v heap) : qti fm m i (.pan v heap) = .pan { v := v.mapL (backL m i), rd := fm ++ m, wr := fm.map (·, none) ++ qfc m i 0 heap } := rfl
@[simp] theorem untup_one (v) : untup [v] = v := rfl
@[simp] theorem untup_nil : untup [] = .tup [] := rfl
@[simp] theorem untup_more (v w l) : untup (v :: w :: l) = .tup (v :: w :: l) := rfl
@[simp] theorem fitV_agg (cs) : fitV (.d (.agg cs)) = cs.all fitC := rfl
@[simp] theorem fitV_sl (xs) : fitV (.d (.sl xs)) = decide (xs.length * wl xs ≤ lots) := rfl
@[simp] theorem fitV_str (s) : fitV (.d (.str s)) = decide (s.length ≤ long) := rfl
@[simp] theorem fitV_int (k n) : fitV (.d (.int k n)) = true := rfl
@[simp] theorem fitV_bool (b) : fitV (.d (.bool b)) = true := rfl
@[simp] theorem fitV_iface (t x) : fitV (.d (.iface t x)) = true := rfl
@[simp] theorem fitV_box (x) : fitV (.d (.box x)) = true := rfl
@[simp] theorem fitV_fn (f x) : fitV (.d (.fn f x)) = true := rfl
@[simp] theorem fitV_fnV (f x) : fitV (.fn f x) = true := rfl
@[simp] theorem fitV_nilp : fitV (.d .nilp) = true := rfl
@[simp] theorem fitV_nili : fitV (.d .nili) = true := rfl
@[simp] theorem fitV_ptr (l e j) : fitV (.ptr l e j) = true := rfl
@[simp] theorem fitV_ref (l sz o n) : fitV (.ref l sz o n) = decide (n * sz.w ≤ lots) := rfl
@[simp] theorem fitV_aggV (cs) : fitV (.agg cs) = true := rfl
@[simp] theorem fitC_sl (xs) : fitC (.sl xs) = decide (xs.length * wl xs ≤ lots) := rfl
@[simp] theorem fitC_str (s) : fitC (.str s) = decide (s.length ≤ long) := rfl
@[simp] theorem fitC_int (k n) : fitC (.int k n) = true := rfl
@[simp] theorem fitC_bool (b) : fitC (.bool b) = true := rfl
@[simp] theorem fitC_iface (t x) : fitC (.iface t x) = true := rfl
@[simp] theorem fitC_nilp : fitC .nilp = true := rfl
@[simp] theorem fitC_nili : fitC .nili = true := rfl
@[simp] theorem fitC_box (x) : fitC (.box x) = true := rfl
@[simp] theorem natOf_int (k a) : natOf (.d (.int k a)) = if 0 ≤ a then some a.toNat else none := rfl
@[simp] theorem lenOf_nils : lenOf (.d .nils) = some 0 := rfl
@[simp] theorem isStr_nils : isStr (.d .nils) = false := rfl
@[simp] theorem fitV_nils : fitV (.d .nils) = true := rfl
@[simp] theorem lenOf_sl (xs) : lenOf (.d (.sl xs)) = some xs.length := rfl
@[simp] theorem lenOf_str (s) : lenOf (.d (.str s)) = some s.length := rfl
@[simp] theorem lenOf_ref (l sz o n) : lenOf (.ref l sz o n) = some n := rfl
@[simp] theorem elems_sl (h xs) : elems h (.d (.sl xs)) = some (xs.map .d, []) := rfl
@[simp] theorem elems_str (h s) : elems h (.d (.str s)) = some (s.map (fun b => .d (.int .u8 b.toNat)), []) := rfl
def ze2 (o : Option Obj) (l : Loc) (off len : Nat) : Option (List V × List Loc) :=
  match o with
  | some (.arr xs _) => if off + len ≤ xs.length then some ((xs.drop off).take len, [l]) else none
  | _ => none
@[simp] theorem elemsO_arr (xs sz l off len) : ze2 (some (.arr xs sz)) l off len = if off + len ≤ xs.length then some ((xs.drop off).take len, [l]) else none := rfl
@[simp] theorem elems_ref (h l sz off len) : elems h (.ref l sz off len) = ze2 (h l) l off len := rfl
@[simp] theorem bin_add (k k' a b) : bin .add (.d (.int k a)) (.d (.int k' b)) = if k = k' then qej .add k a b else none := rfl
@[simp] theorem bin_sub (k k' a b) : bin .sub (.d (.int k a)) (.d (.int k' b)) = if k = k' then qej .sub k a b else none := rfl
@[simp] theorem bin_mul (k k' a b) : bin .mul (.d (.int k a)) (.d (.int k' b)) = if k = k' then qej .mul k a b else none := rfl
@[simp] theorem bin_quo (k k' a b) : bin .quo (.d (.int k a)) (.d (.int k' b)) = if k = k' then qej .quo k a b else none := rfl
@[simp] theorem bin_rem (k k' a b) : bin .rem (.d (.int k a)) (.d (.int k' b)) = if k = k' then qej .rem k a b else none := rfl
@[simp] theorem bin_and (k k' a b) : bin .and (.d (.int k a)) (.d (.int k' b)) = if k = k' then qej .and k a b else none := rfl
@[simp] theorem bin_or (k k' a b) : bin .or (.d (.int k a)) (.d (.int k' b)) = if k = k' then qej .or k a b else none := rfl
@[simp] theorem bin_xor (k k' a b) : bin .xor (.d (.int k a)) (.d (.int k' b)) = if k = k' then qej .xor k a b else none := rfl
@[simp] theorem bin_andNot (k k' a b) : bin .andNot (.d (.int k a)) (.d (.int k' b)) = if k = k' then qej .andNot k a b else none := rfl
@[simp] theorem bin_eql (k k' a b) : bin .eql (.d (.int k a)) (.d (.int k' b)) = if k = k' then qej .eql k a b else none := rfl
@[simp] theorem bin_neq (k k' a b) : bin .neq (.d (.int k a)) (.d (.int k' b)) = if k = k' then qej .neq k a b else none := rfl
@[simp] theorem bin_lss (k k' a b) : bin .lss (.d (.int k a)) (.d (.int k' b)) = if k = k' then qej .lss k a b else none := rfl
@[simp] theorem bin_leq (k k' a b) : bin .leq (.d (.int k a)) (.d (.int k' b)) = if k = k' then qej .leq k a b else none := rfl
@[simp] theorem bin_gtr (k k' a b) : bin .gtr (.d (.int k a)) (.d (.int k' b)) = if k = k' then qej .gtr k a b else none := rfl
@[simp] theorem bin_geq (k k' a b) : bin .geq (.d (.int k a)) (.d (.int k' b)) = if k = k' then qej .geq k a b else none := rfl
@[simp] theorem bin_shl (k k' a b) : bin .shl (.d (.int k a)) (.d (.int k' b)) = if b < 0 then none else some (.int k (k.wrap (a * 2 ^ (min b.toNat k.bits)))) := rfl
@[simp] theorem bin_shr (k k' a b) : bin .shr (.d (.int k a)) (.d (.int k' b)) = if b < 0 then none else some (.int k (a.fdiv (2 ^ (min b.toNat k.bits)))) := rfl
@[simp] theorem bin_str (op a b) : bin op (.d (.str a)) (.d (.str b)) = qxc op a b := rfl
@[simp] theorem strBin_add (a b) : qxc .add a b = if a.length + b.length ≤ long then some (.str (a ++ b)) else none := rfl
@[simp] theorem strBin_eql (a b) : qxc .eql a b = some (.bool (a == b)) := rfl
@[simp] theorem strBin_neq (a b) : qxc .neq a b = some (.bool (!(a == b))) := rfl
@[simp] theorem un_not (b) : un .not (.d (.bool b)) = some (.bool (!b)) := rfl
@[simp] theorem un_neg (k a) : un .neg (.d (.int k a)) = some (.int k (k.wrap (0 - a))) := rfl
section
variable (k : IntKind) (a b : Int)
@[simp] theorem intBin_add : qej .add k a b = some (.int k (k.wrap (a + b))) := rfl
@[simp] theorem intBin_sub : qej .sub k a b = some (.int k (k.wrap (a - b))) := rfl
@[simp] theorem intBin_mul : qej .mul k a b = some (.int k (k.wrap (a * b))) := rfl
@[simp] theorem intBin_quo : qej .quo k a b = if b = 0 then none else some (.int k (k.wrap (a.tdiv b))) := rfl
@[simp] theorem intBin_rem : qej .rem k a b = if b = 0 then none else some (.int k (a.tmod b)) := rfl
@[simp] theorem intBin_and : qej .and k a b = some (.int k (k.wrap (BitVec.ofInt k.bits a &&& BitVec.ofInt k.bits b).toNat)) := rfl
def orK (k : IntKind) (a b : Int) : Int := k.wrap (BitVec.ofInt k.bits a ||| BitVec.ofInt k.bits b).toNat
@[simp] theorem intBin_or : qej .or k a b = some (.int k (orK k a b)) := rfl
@[simp] theorem intBin_eql : qej .eql k a b = some (.bool (a == b)) := rfl
@[simp] theorem intBin_neq : qej .neq k a b = some (.bool (a != b)) := rfl
@[simp] theorem intBin_lss : qej .lss k a b = some (.bool (decide (a < b))) := rfl
@[simp] theorem intBin_leq : qej .leq k a b = some (.bool (decide (a ≤ b))) := rfl
@[simp] theorem intBin_gtr : qej .gtr k a b = some (.bool (decide (b < a))) := rfl
@[simp] theorem intBin_geq : qej .geq k a b = some (.bool (decide (b ≤ a))) := rfl
end
@[simp] theorem cells_agg (cs) : V.cells (.d (.agg cs)) = cs.map .d := rfl
@[simp] theorem cells_aggV (cs) : V.cells (.agg cs) = cs := rfl
@[simp] theorem cells_int (k n) : V.cells (.d (.int k n)) = [.d (.int k n)] := rfl
@[simp] theorem cells_bool (b) : V.cells (.d (.bool b)) = [.d (.bool b)] := rfl
@[simp] theorem cells_str (b) : V.cells (.d (.str b)) = [.d (.str b)] := rfl
@[simp] theorem cells_sl (b) : V.cells (.d (.sl b)) = [.d (.sl b)] := rfl
@[simp] theorem cells_box (b) : V.cells (.d (.box b)) = [.d (.box b)] := rfl
@[simp] theorem cells_nilp : V.cells (.d .nilp) = [.d .nilp] := rfl
@[simp] theorem cells_nili : V.cells (.d .nili) = [.d .nili] := rfl
@[simp] theorem zib (t x) : V.cells (.d (.iface t x)) = [.d (.iface t x)] := rfl
@[simp] theorem cells_ref (l sz o n) : V.cells (.ref l sz o n) = [.ref l sz o n] := rfl
@[simp] theorem cells_ptr (l e j) : V.cells (.ptr l e j) = [.ptr l e j] := rfl
@[simp] theorem cells_map (l) : V.cells (.map l) = [.map l] := rfl
@[simp] theorem dcells_agg (cs) : D.cells (.agg cs) = cs := rfl
@[simp] theorem dcells_int (k n) : D.cells (.int k n) = [.int k n] := rfl
@[simp] theorem zh5 (b) : D.cells (.bool b) = [.bool b] := rfl
@[simp] theorem dcells_str (b) : D.cells (.str b) = [.str b] := rfl
@[simp] theorem dcells_sl (b) : D.cells (.sl b) = [.sl b] := rfl
@[simp] theorem zh3 : D.cells .nilp = [.nilp] := rfl
@[simp] theorem zh4 : D.cells .nili = [.nili] := rfl
@[simp] theorem loadV_agg (h n cs) : loadV h n true (.d (.box (.agg cs))) = if cs.length = n then val (.d (.agg cs)) else none := rfl
@[simp] theorem loadV_int (h n k a) : loadV h n false (.d (.box (.int k a))) = val (.d (.int k a)) := rfl
@[simp] theorem loadV_bool (h n b) : loadV h n false (.d (.box (.bool b))) = val (.d (.bool b)) := rfl
@[simp] theorem loadV_str (h n b) : loadV h n false (.d (.box (.str b))) = val (.d (.str b)) := rfl
@[simp] theorem loadV_sl (h n b) : loadV h n false (.d (.box (.sl b))) = val (.d (.sl b)) := rfl
@[simp] theorem zg7 (h n t b) : loadV h n false (.d (.box (.iface t b))) = val (.d (.iface t b)) := rfl
@[simp] theorem loadV_nili (h n) : loadV h n false (.d (.box .nili)) = val (.d .nili) := rfl
@[simp] theorem loadV_nilp (h n) : loadV h n false (.d (.box .nilp)) = val (.d .nilp) := rfl
@[simp] theorem loadV_box (h n x) : loadV h n false (.d (.box (.box x))) = val (.d (.box x)) := rfl
def ldZ (l : Loc) (o : Option V) : Option R := o.map fun v => .ok { v, rd := [l] }
@[simp] theorem ldZ_some (l v) : ldZ l (some v) = some (.ok { v, rd := [l] }) := rfl
def ldY (l : Loc) (n : Nat) (ag : Bool) (j : Nat) (o : Option V) : Option R := match o with
  | none => none
  | some v => ldZ l (part v j n ag)
@[simp] theorem ldY_some (l n ag j v) : ldY l n ag j (some v) = ldZ l (part v j n ag) := rfl
def loadO (o : Option Obj) (l : Loc) (e j n : Nat) (ag : Bool) : Option R :=
  match o with
  | some (.arr xs _) => ldY l n ag j xs[e]?
  | _ => none
@[simp] theorem loadO_arr (xs sz l e j n ag) : loadO (some (.arr xs sz)) l e j n ag = ldY l n ag j xs[e]? := rfl
@[simp] theorem loadV_ptr (h n ag l e j) : loadV h n ag (.ptr l e j) = loadO (h l) l e j n ag := by
  simp only [loadV, loadO]
  cases h l with
  | none => rfl
  | some o => cases o with
    | arr xs sz => simp only; cases xs[e]? <;> rfl
    | _ => rfl
def stZ (l : Loc) (e : Nat) (sz : W) (xs : List V) (o : Option V) : Option R := o.map fun w => .ok { v := .tup [], rd := [l], wr := [(l, some (.arr (xs.set e w) sz))] }
@[simp] theorem stZ_some (l e sz xs w) : stZ l e sz xs (some w) = some (.ok { v := .tup [], rd := [l], wr := [(l, some (.arr (xs.set e w) sz))] }) := rfl
def stY (l : Loc) (e n j : Nat) (sz : W) (xs : List V) (v : V) (o : Option V) : Option R := match o with
  | none => none
  | some w => if v.cells.length = n then stZ l e sz xs (qd8 w j v) else none
@[simp] theorem stY_some (l e n j sz xs v w) : stY l e n j sz xs v (some w) = if v.cells.length = n then stZ l e sz xs (qd8 w j v) else none := rfl
def q80 (o : Option Obj) (l : Loc) (e j n : Nat) (v : V) : Option R :=
  match o with
  | some (.arr xs sz) => stY l e n j sz xs v xs[e]?
  | _ => none
@[simp] theorem storeO_arr (xs sz l e j n v) : q80 (some (.arr xs sz)) l e j n v = stY l e n j sz xs v xs[e]? := rfl
@[simp] theorem storeV_ptr (h n l e j v) : qrj h n (.ptr l e j) v = q80 (h l) l e j n v := by
  simp only [qrj, q80]
  cases h l with
  | none => rfl
  | some o => cases o with
    | arr xs sz => simp only; cases xs[e]? <;> rfl
    | _ => rfl
@[simp] theorem sliceV_str (s lo hi) : quz none (.d (.str s)) lo hi = if lo ≤ hi then (if hi ≤ s.length then some (.d (.str ((s.drop lo).take (hi - lo)))) else none) else none := rfl
@[simp] theorem sliceV_sl (n s lo hi) : quz (some n) (.d (.sl s)) lo hi = if lo ≤ hi then (if hi ≤ s.length ∧ s.all (fun y => y.cells.length == n.c) = true then some (.d (.sl ((s.drop lo).take (hi - lo)))) else none) else none := rfl
@[simp] theorem sliceV_ref (n l sz off len lo hi) : quz (some n) (.ref l sz off len) lo hi = if lo ≤ hi then (if hi ≤ len ∧ sz = n then (if lo = hi then some (.d (.sl [])) else some (.ref l sz (off + lo) (hi - lo))) else none) else none := rfl
@[simp] theorem part_agg (v off n) : part v off n true = if off + n ≤ v.cells.length then some (mkAgg ((v.cells.drop off).take n)) else none := rfl
@[simp] theorem part_one (v off n) : part v off n false = v.cells[off]? := rfl
@[simp] theorem isAgg_d (cs) : isAgg (.d (.agg cs)) = true := rfl
@[simp] theorem isAgg_v (cs) : isAgg (.agg cs) = true := rfl
@[simp] theorem isAgg_int (k n) : isAgg (.d (.int k n)) = false := rfl
@[simp] theorem isAgg_bool (b) : isAgg (.d (.bool b)) = false := rfl
@[simp] theorem isAgg_str (b) : isAgg (.d (.str b)) = false := rfl
@[simp] theorem isAgg_sl (b) : isAgg (.d (.sl b)) = false := rfl
@[simp] theorem zg8 (t b) : isAgg (.d (.iface t b)) = false := rfl
@[simp] theorem isAgg_nili : isAgg (.d .nili) = false := rfl
@[simp] theorem isAgg_nilp : isAgg (.d .nilp) = false := rfl
@[simp] theorem isAgg_box (x) : isAgg (.d (.box x)) = false := rfl
@[simp] theorem isAgg_ref (l sz o n) : isAgg (.ref l sz o n) = false := rfl
@[simp] theorem isAgg_ptr (l e j) : isAgg (.ptr l e j) = false := rfl
@[simp] theorem q6n (ds : List D) : allD (ds.map .d) = some ds := by induction ds <;> simp_all [allD]
def aggO (l : List V) (o : Option (List D)) : V := match o with
  | some ds => .d (.agg ds)
  | none => .agg l
@[simp] theorem aggO_some (l ds) : aggO l (some ds) = .d (.agg ds) := rfl
@[simp] theorem aggO_none (l) : aggO l none = .agg l := rfl
@[simp] theorem mkAgg_eq (l) : mkAgg l = aggO l (allD l) := rfl
@[simp] theorem allD_nil : allD [] = some [] := rfl
def allC (x : D) (o : Option (List D)) : Option (List D) := o.map (x :: ·)
@[simp] theorem allC_some (x ds) : allC x (some ds) = some (x :: ds) := rfl
@[simp] theorem allC_none (x) : allC x none = none := rfl
@[simp] theorem allD_cons (x l) : allD (.d x :: l) = allC x (allD l) := rfl
@[simp] theorem allD_mapV (v l) : allD (.map v :: l) = none := rfl
@[simp] theorem allD_fn (f c l) : allD (.fn f c :: l) = none := rfl
@[simp] theorem allD_iface (f c l) : allD (.iface f c :: l) = none := rfl
@[simp] theorem allD_ref (a sz o n l) : allD (.ref a sz o n :: l) = none := rfl
@[simp] theorem allD_ptr (a e j l) : allD (.ptr a e j :: l) = none := rfl
@[simp] theorem ifaceOf_d (t x) : qgi (.d (.iface t x)) = some (t, .d x) := rfl
@[simp] theorem ifaceOf_v (t x) : qgi (.iface t x) = some (t, x) := rfl
@[simp] theorem zet : qgi (.d .nili) = none := rfl
@[simp] theorem fnOf_d (f cap) : fnOf (.d (.fn f cap)) = some (f, cap.map .d) := rfl
@[simp] theorem fnOf_v (f cap) : fnOf (.fn f cap) = some (f, cap) := rfl
@[simp] theorem mkIface_d (t x) : qs7 t (.d x) = .d (.iface t x) := rfl
@[simp] theorem frzL_nil (f) : frzL f [] = some ([], []) := rfl
@[simp] theorem frz_d (h k x) : frz h k (.d x) = some (x, []) := by cases k <;> rfl
@[simp] theorem q50 (h k) (ds : List D) : frzL (frz h k) (ds.map .d) = some (ds, []) := by induction ds <;> simp_all [frzL]
def frzS (l : Loc) (sz : W) (o : Option (List D × List Loc)) : Option (D × List Loc) := o.bind fun (ds, m) => if wl ds ≤ sz.w then some (.sl ds, l :: m) else none
@[simp] theorem frzS_some (l sz ds m) : frzS l sz (some (ds, m)) = if wl ds ≤ sz.w then some (.sl ds, l :: m) else none := rfl
def frzB (l : Loc) (o : Option (D × List Loc)) : Option (D × List Loc) := o.map fun (x, m) => (.box x, l :: m)
@[simp] theorem frzB_some (l x m) : frzB l (some (x, m)) = some (.box x, l :: m) := rfl
def frzQ (h : Loc → Option Obj) (k : Nat) (l : Loc) (o : Option V) : Option (D × List Loc) := match o with
  | none => none
  | some v => frzB l (frz h k v)
@[simp] theorem frzQ_some (h k l v) : frzQ h k l (some v) = frzB l (frz h k v) := rfl
def frzLX (x : Option (D × List Loc)) (y : Option (List D × List Loc)) : Option (List D × List Loc) := match x, y with
    | some (x, m), some (xs, m') => some (x :: xs, m ++ m')
    | _, _ => none
@[simp] theorem frzLX_some (x m xs m') : frzLX (some (x, m)) (some (xs, m')) = some (x :: xs, m ++ m') := rfl
@[simp] theorem frzL_cons (f v vs) : frzL f (v :: vs) = frzLX (f v) (frzL f vs) := rfl
def frzG (o : Option (List D × List Loc)) : Option (D × List Loc) := o.map fun (ds, m) => (.agg ds, m)
@[simp] theorem frzG_some (ds m) : frzG (some (ds, m)) = some (.agg ds, m) := rfl
@[simp] theorem frz_aggV (h k cs) : frz h (k + 1) (.agg cs) = frzG (frzL (frz h k) cs) := rfl
def frzI (t : TypeId) (o : Option (D × List Loc)) : Option (D × List Loc) := o.map fun (x, m) => (.iface t x, m)
@[simp] theorem frzI_some (t x m) : frzI t (some (x, m)) = some (.iface t x, m) := rfl
@[simp] theorem frz_iface (h k t v) : frz h (k + 1) (.iface t v) = frzI t (frz h k v) := rfl
def frzO (h : Loc → Option Obj) (k : Nat) (l : Loc) (s : W) (off len : Nat) : Option Obj → Option (D × List Loc)
  | some (.arr xs _) => if off + len ≤ xs.length then frzS l s (frzL (frz h k) ((xs.drop off).take len)) else none
  | _ => none
@[simp] theorem frzO_arr (h k l s off len xs sz) : frzO h k l s off len (some (.arr xs sz)) = if off + len ≤ xs.length then frzS l s (frzL (frz h k) ((xs.drop off).take len)) else none := rfl
@[simp] theorem frz_ref (h k l sz off len) : frz h (k + 1) (.ref l sz off len) = frzO h k l sz off len (h l) := rfl
def frzP (h : Loc → Option Obj) (k : Nat) (l : Loc) (e j : Nat) : Option Obj → Option (D × List Loc)
  | some (.arr xs _) => if j = 0 then frzQ h k l xs[e]? else none
  | _ => none
@[simp] theorem frzP_arr (h k l e j xs sz) : frzP h k l e j (some (.arr xs sz)) = if j = 0 then frzQ h k l xs[e]? else none := rfl
@[simp] theorem frz_ptr (h k l e j) : frz h (k + 1) (.ptr l e j) = frzP h k l e j (h l) := by
  simp only [frz, frzP]
  cases h l with
  | none => rfl
  | some o => cases o with
    | arr xs sz => show (if j = 0 then _ else none) = (if j = 0 then _ else none); split <;> first | rfl | (cases xs[e]? <;> rfl)
    | _ => rfl
def frzM (l : Loc) : Option Obj → Option (D × List Loc)
  | some (.map _) => some (.nilm, [l])
  | _ => none
@[simp] theorem frzM_map (l es) : frzM l (some (.map es)) = some (.nilm, [l]) := rfl
@[simp] theorem frz_map (h k l) : frz h (k + 1) (.map l) = frzM l (h l) := rfl
@[simp] theorem zg5 (t t' : TypeId) (r l) : qo8 ((t', r) :: l) t = if t' = t then some r else qo8 l t := rfl
@[simp] theorem keysOk_str (s es) : qp7 true (.str s) es = es.all (fun e => isKey true e.1) := rfl
@[simp] theorem keysOk_int (n es) : qp7 false (.int .i64 n) es = es.all (fun e => isKey false e.1) := rfl
@[simp] theorem isKey_str (s) : isKey true (.str s) = true := rfl
@[simp] theorem isKey_int (n) : isKey false (.int .i64 n) = true := rfl
@[simp] theorem isAggW_int (k n) : q5u (.d (.int k n)) = false := rfl
@[simp] theorem zhl (h) : qcc h [] = some ([], []) := rfl
def frzAT (x : Option (D × List Loc)) (y : Option (List V × List Loc)) : Option (List V × List Loc) := match x, y with
    | some (x, m), some (vs, m') => some (.d x :: vs, m ++ m')
    | _, _ => none
@[simp] theorem frzAT_some (x m vs m') : frzAT (some (x, m)) (some (vs, m')) = some (.d x :: vs, m ++ m') := rfl
def frzAF (v : V) (y : Option (List V × List Loc)) : Option (List V × List Loc) := match y with
    | some (vs, m') => some (v :: vs, m')
    | _ => none
@[simp] theorem frzAF_some (v vs m') : frzAF v (some (vs, m')) = some (v :: vs, m') := rfl
@[simp] theorem zeu (h v l) : qcc h ((v, true) :: l) = frzAT (frz h 24 v) (qcc h l) := by
  simp only [qcc, if_true]
  cases frz h 24 v with
  | none => rfl
  | some x => cases qcc h l <;> rfl
@[simp] theorem zdj (h v l) : qcc h ((v, false) :: l) = frzAF v (qcc h l) := by
  simp only [qcc]
  cases qcc h l with
  | none => rfl
  | some x => rfl
@[simp] theorem zfl (h : Loc → Option Obj) : qgh h [] = h := by funext l; simp [qgh]
@[simp] theorem ofList_nil (l) : qa6 [] l = none := by cases l <;> rfl
def objO : Option Obj → Option Obj
  | some .dead => none
  | o => o
@[simp] theorem objO_none : objO none = none := rfl
@[simp] theorem objO_dead : objO (some .dead) = none := rfl
@[simp] theorem objO_arr (xs sz) : objO (some (.arr xs sz)) = some (.arr xs sz) := rfl
@[simp] theorem objO_iter (s p) : objO (some (.iter s p)) = some (.iter s p) := rfl
@[simp] theorem objO_map (es) : objO (some (.map es)) = some (.map es) := rfl
@[simp] theorem ofList_b (os n) : qa6 os (.b n) = objO os[n]? := by
  unfold qa6 objO
  split <;> split <;> simp_all
@[simp] theorem ofList_n (os i k) : qa6 os (.n i k) = none := rfl
@[simp] theorem mapLs_map (f) (ds : List D) : mapLs f (ds.map .d) = ds.map .d := by induction ds <;> simp_all [mapLs, V.mapL]
@[simp] theorem mapLo_arr (f xs sz) : Obj.mapL f (.arr xs sz) = some (.arr (mapLs f xs) sz) := rfl
@[simp] theorem mapLo_iter (f s p) : Obj.mapL f (.iter s p) = some (.iter s p) := rfl
@[simp] theorem mapLo_map (f es) : Obj.mapL f (.map es) = some (.map (mapLe f es)) := rfl
@[simp] theorem mapLo_dead (f) : Obj.mapL f .dead = none := rfl
@[simp] theorem backL_b (m i k) : backL m i (.b k) = if k < m.length then m.getD k (.n i 0) else .n i (k - m.length) := rfl
@[simp] theorem keptE_nil (env) : keptE env [] = ([], []) := rfl
def kept1 (t : Nat) (x : List Nat × List V) (o : Option V) : List Nat × List V := match o with
  | none => x
  | some v => (t :: x.1, v :: x.2)
@[simp] theorem kept1_none (t x) : kept1 t x none = x := rfl
@[simp] theorem kept1_some (t ts vs v) : kept1 t (ts, vs) (some v) = (t :: ts, v :: vs) := rfl
@[simp] theorem keptE_cons (env t ks) : keptE env (t :: ks) = kept1 t (keptE env ks) (getE env t) := by
  simp only [keptE]
  cases getE env t <;> rfl
@[simp] theorem resOf_tmp (env h t) : resOf env h (.tmp t) = getE env t := rfl
def resC : Option R → Option V
  | some (.ok e) => some e.v
  | _ => none
@[simp] theorem resC_ok (e) : resC (some (.ok e)) = some e.v := rfl
@[simp] theorem resOf_cell (env h t n ag) : resOf env h (.cell t n ag) = resC (loadX h n ag (getE env t)) := by
  simp only [resOf]
  cases getE env t with
  | none => rfl
  | some a =>
    show (match loadV h n ag a with | some (.ok e) => some e.v | _ => none) = resC (loadV h n ag a)
    cases loadV h n ag a with
    | none => rfl
    | some r => cases r <;> rfl
@[simp] theorem zgi (env h) : qlp env h [] = some [] := rfl
def resX (fl : Bool) (v : Option V) (o : Option (List (V × Bool))) : Option (List (V × Bool)) := match v, o with
  | some v, some vs => some ((v, fl) :: vs)
  | _, _ => none
@[simp] theorem resX_some (fl v vs) : resX fl (some v) (some vs) = some ((v, fl) :: vs) := rfl
@[simp] theorem zee (env h r fl l) : qlp env h ((r, fl) :: l) = resX fl (resOf env h r) (qlp env h l) := by
  simp only [qlp]
  cases resOf env h r with
  | none => rfl
  | some v => cases qlp env h l <;> rfl
@[simp] theorem ownD_nil (i k v) : ownD i k [] v = (v, []) := rfl
@[simp] theorem mkFn_nil (f) : mkFn f [] = .d (.fn f []) := rfl
@[simp] theorem isNew_n (i k) : Loc.isNew (.n i k) = true := rfl
@[simp] theorem isNew_b (k) : Loc.isNew (.b k) = false := rfl
section
variable (ev : Opnd → Option V)
@[simp] theorem evs_nil : evs ev [] = some [] := rfl
@[simp] theorem evs_cons (x fl l) : evs ev ((x, fl) :: l) = resX fl (ev x) (evs ev l) := by
  simp only [evs]
  cases ev x with
  | none => rfl
  | some v => cases evs ev l <;> rfl
def evlX (v : Option V) (o : Option (List V)) : Option (List V) := match v, o with
  | some v, some vs => some (v :: vs)
  | _, _ => none
@[simp] theorem evlX_some (v vs) : evlX (some v) (some vs) = some (v :: vs) := rfl
@[simp] theorem evl_nil : evl ev [] = some [] := rfl
@[simp] theorem evl_cons (x l) : evl ev (x :: l) = evlX (ev x) (evl ev l) := rfl
def evpX (a b : Nat) (v : Option V) (o : Option (List (Nat × Nat × V))) : Option (List (Nat × Nat × V)) := match v, o with
  | some v, some vs => some ((a, b, v) :: vs)
  | _, _ => none
@[simp] theorem evpX_some (a b v vs) : evpX a b (some v) (some vs) = some ((a, b, v) :: vs) := rfl
@[simp] theorem evp_nil : evp ev [] = some [] := rfl
@[simp] theorem evp_cons (a b x l) : evp ev ((a, b, x) :: l) = evpX a b (ev x) (evp ev l) := rfl
def evqX (a : Nat) (v : Option V) (o : Option (List (Nat × V))) : Option (List (Nat × V)) := match v, o with
  | some v, some vs => some ((a, v) :: vs)
  | _, _ => none
@[simp] theorem evqX_some (a v vs) : evqX a (some v) (some vs) = some ((a, v) :: vs) := rfl
@[simp] theorem evq_nil : evq ev [] = some [] := rfl
@[simp] theorem evq_cons (a x l) : evq ev ((a, x) :: l) = evqX a (ev x) (evq ev l) := rfl
end
attribute [simp] getE qba pins V.mapL mapLs mapLe qfc idx qmf qnr qk5
end Go.Rf

namespace Go.Rf
theorem zdq {p : Prop} [Decidable p] (h : p) : decide p = true := decide_eq_true h
theorem zax {p : Prop} [Decidable p] (h : ¬ p) : decide p = false := decide_eq_false h
theorem zbh (a b : Int) : (a == b) = decide (a = b) := rfl
theorem zij (a b : Int) : (a != b) = decide (a ≠ b) := by
  show (!(a == b)) = _
  rw [zbh]
  by_cases h : a = b <;> simp [h]
theorem zbx {n : Int} (h : -9223372036854775808 ≤ n ∧ n ≤ 9223372036854775807) : IntKind.wrap .i64 n = n := by
  simp only [IntKind.wrap, IntKind.bits, IntKind.signed, Bool.true_and, decide_eq_true_eq, ge_iff_le]
  split <;> omega
theorem zby {n : Int} (h : -2147483648 ≤ n ∧ n ≤ 2147483647) : IntKind.wrap .i32 n = n := by
  simp only [IntKind.wrap, IntKind.bits, IntKind.signed, Bool.true_and, decide_eq_true_eq, ge_iff_le]
  split <;> omega
theorem qye {n : Int} (h : 0 ≤ n ∧ n < 18446744073709551616) : IntKind.wrap .u64 n = n := by
  simp only [IntKind.wrap, IntKind.bits, IntKind.signed, Bool.false_and, Bool.false_eq_true, if_false]
  omega
theorem zbw {n : Int} (h : 0 ≤ n ∧ n < 4294967296) : IntKind.wrap .u32 n = n := by
  simp only [IntKind.wrap, IntKind.bits, IntKind.signed, Bool.false_and, Bool.false_eq_true, if_false]
  omega
theorem zfj {n : Int} (h : 0 ≤ n ∧ n < 256) : IntKind.wrap .u8 n = n := by
  simp only [IntKind.wrap, IntKind.bits, IntKind.signed, Bool.false_and, Bool.false_eq_true, if_false]
  omega
theorem q0p (n : Int) : IntKind.wrap .u32 n = n % 4294967296 := by
  simp only [IntKind.wrap, IntKind.bits, IntKind.signed, Bool.false_and, Bool.false_eq_true, if_false]
  rfl
theorem qfq (n : Int) : IntKind.wrap .u64 n = n % 18446744073709551616 := by
  simp only [IntKind.wrap, IntKind.bits, IntKind.signed, Bool.false_and, Bool.false_eq_true, if_false]
  rfl
def nth (xs : List Int) (i : Nat) : Int := xs.getD i 0
def L (xs : List Int) : List D := xs.map fun n => .int .u32 n
@[simp] theorem L_len (xs : List Int) : (L xs).length = xs.length := by simp [L]
@[simp] theorem L_take (xs : List Int) (i : Nat) : (L xs).take i = L (xs.take i) := by simp [L, List.map_take]
@[simp] theorem L_drop (xs : List Int) (i : Nat) : (L xs).drop i = L (xs.drop i) := by simp [L, List.map_drop]
@[simp] theorem L_nil : L [] = [] := rfl
@[simp] theorem q3b (x : Int) (xs : List Int) : L (x :: xs) = .int .u32 x :: L xs := rfl
theorem L_get {xs : List Int} {i : Nat} (h : i < xs.length) : (L xs)[i]? = some (.int .u32 (nth xs i)) := by
  simp [L, nth, h]
def LV (xs : List Int) : List V := xs.map fun n => .d (.int .u32 n)
@[simp] theorem LV_len (xs : List Int) : (LV xs).length = xs.length := by simp [LV]
@[simp] theorem zit (xs : List Int) (i : Nat) : (LV xs).take i = LV (xs.take i) := by simp [LV, List.map_take]
@[simp] theorem LV_drop (xs : List Int) (i : Nat) : (LV xs).drop i = LV (xs.drop i) := by simp [LV, List.map_drop]
@[simp] theorem q6q : LV [] = [] := rfl
@[simp] theorem LV_app (xs ys : List Int) : LV xs ++ LV ys = LV (xs ++ ys) := by simp [LV]
@[simp] theorem LV_app1 (xs : List Int) (y : Int) : LV xs ++ [.d (.int .u32 y)] = LV (xs ++ [y]) := by simp [LV]
theorem LV_get {xs : List Int} {i : Nat} (h : i < xs.length) : (LV xs)[i]? = some (.d (.int .u32 (nth xs i))) := by
  simp [LV, nth, h]
@[simp] theorem LV_set (xs : List Int) (i : Nat) (y : Int) : (LV xs).set i (.d (.int .u32 y)) = LV (xs.set i y) := by simp [LV, List.map_set]
@[simp] theorem L_map (xs : List Int) : (L xs).map V.d = LV xs := by simp [L, LV, Function.comp_def]
@[simp] theorem allD_LV (xs : List Int) : allD (LV xs) = some (L xs) := by
  induction xs with
  | nil => rfl
  | cons x xs ih =>
    show allD (.d _ :: LV xs) = _
    simp only [allD, ih]
    rfl
@[simp] theorem rens_LV (al : Loc → Bool) (xs : List Int) (m : List Loc) : rens al (LV xs) m = (LV xs, m) := by
  rw [← L_map]; exact qpo ..
@[simp] theorem mapLs_LV (f : Loc → Loc) (xs : List Int) : mapLs f (LV xs) = LV xs := by
  induction xs with
  | nil => rfl
  | cons x xs ih =>
    show V.mapL f (.d _) :: mapLs f (LV xs) = _
    rw [ih]
    rfl
@[simp] theorem frzL_LV (h : Loc → Option Obj) (k : Nat) (xs : List Int) : frzL (frz h (k + 1)) (LV xs) = some (L xs, []) := by
  induction xs with
  | nil => rfl
  | cons x xs ih =>
    show frzL (frz h (k + 1)) (.d _ :: LV xs) = _
    simp only [frzL, ih]
    rfl
@[simp] theorem LV_rep (n : Nat) (y : Int) : List.replicate n (V.d (D.int .u32 y)) = LV (List.replicate n y) := by simp [LV]
@[simp] theorem L_rep (n : Nat) (y : Int) : List.replicate n (D.int .u32 y) = L (List.replicate n y) := by simp [L]
theorem wl_L (xs : List Int) : wl (L xs) ≤ 4 := by
  induction xs with
  | nil => simp [wl]
  | cons x xs ih => simp only [q3b, wl, wt, IntKind.bits]; omega
@[simp] theorem wl_L4 (xs : List Int) : (wl (L xs) ≤ 4) = True := eq_true (wl_L xs)
theorem zdw (xs : List Int) : (LV xs).all (fun v => v.cells.length == 1) = true := by
  simp [LV, V.cells]
@[simp] theorem fit_L' {n : Nat} {xs : List Int} (h : n ≤ 1099511627776) : (n * wl (L xs) ≤ lots) = True := eq_true (Nat.le_trans (Nat.mul_le_mul h (wl_L xs)) (by unfold lots; omega))
@[simp] theorem le_lots {n : Nat} (h : n ≤ 1099511627776 * 64) : (n ≤ lots) = True := eq_true (by unfold lots; omega)
attribute [simp] zbh zij
attribute [simp] zdq zax zbx zby qye zbw zfj L_get LV_get zdw
attribute [simp] qet qlo
@[simp] theorem lget0 {α : Type} (a : α) (l : List α) : (a :: l)[0]? = some a := rfl
@[simp] theorem lget1 {α : Type} (a b : α) (l : List α) : (a :: b :: l)[1]? = some b := rfl
@[simp] theorem lget2 {α : Type} (a b c : α) (l : List α) : (a :: b :: c :: l)[2]? = some c := rfl
@[simp] theorem lget3 {α : Type} (a b c d : α) (l : List α) : (a :: b :: c :: d :: l)[3]? = some d := rfl
@[simp] theorem lget4 {α : Type} (a b c d e : α) (l : List α) : (a :: b :: c :: d :: e :: l)[4]? = some e := rfl
@[simp] theorem lget_nil {α : Type} (n : Nat) : ([] : List α)[n]? = none := by simp
@[simp] theorem lget1' {α : Type} (a : α) : [a][1]? = none := rfl
@[simp] theorem lget2' {α : Type} (a b : α) : [a, b][2]? = none := rfl
@[simp] theorem lget3' {α : Type} (a b c : α) : [a, b, c][3]? = none := rfl
@[simp] theorem lget4' {α : Type} (a b c d : α) : [a, b, c, d][4]? = none := rfl
@[simp] theorem lget21 {α : Type} (a : α) : [a][2]? = none := rfl
@[simp] theorem L_cells (xs : List Int) : (∀ x ∈ L xs, x.cells.length = 1) = True := eq_true (by
  intro x hx
  obtain ⟨n, _, rfl⟩ := List.mem_map.1 hx
  rfl)
@[simp] theorem LV_cells (xs : List Int) : (∀ x ∈ LV xs, x.cells.length = 1) = True := eq_true (by
  intro x hx
  obtain ⟨n, _, rfl⟩ := List.mem_map.1 hx
  rfl)
theorem zdg {α : Type} {c : Prop} [Decidable c] {a b : α} (h : c) : (if c then a else b) = a := if_pos h
theorem zdh {α : Type} {c : Prop} [Decidable c] {a b : α} (h : ¬ c) : (if c then a else b) = b := if_neg h
attribute [simp] zdg zdh q0p
@[simp] theorem fdiv32 (a : Int) : a.fdiv 4294967296 = a / 4294967296 := Int.fdiv_eq_ediv_of_nonneg a (by decide)
@[simp] theorem range0 : List.range 0 = [] := rfl
@[simp] theorem range1 : List.range 1 = [0] := rfl
@[simp] theorem range2 : List.range 2 = [0, 1] := rfl
@[simp] theorem range3 : List.range 3 = [0, 1, 2] := rfl
@[simp] theorem range4 : List.range 4 = [0, 1, 2, 3] := rfl
@[simp] theorem range5 : List.range 5 = [0, 1, 2, 3, 4] := rfl
@[simp] theorem range6 : List.range 6 = [0, 1, 2, 3, 4, 5] := rfl
@[simp] theorem bits_u64 : IntKind.bits .u64 = 64 := rfl
@[simp] theorem bits_u32 : IntKind.bits .u32 = 32 := rfl
@[simp] theorem bits_u8 : IntKind.bits .u8 = 8 := rfl
@[simp] theorem bits_i64 : IntKind.bits .i64 = 64 := rfl
@[simp] theorem bits_i32 : IntKind.bits .i32 = 32 := rfl
theorem zdm {a b : Int} (h : 0 ≤ b) : a.fdiv b = a / b := Int.fdiv_eq_ediv_of_nonneg a h
attribute [simp] zdm
@[simp] theorem min1 : min 32 64 = 32 := rfl
@[simp] theorem min2 : min 63 64 = 63 := rfl
@[simp] theorem min3 : min 16 64 = 16 := rfl
@[simp] theorem min4 : min 8 64 = 8 := rfl
@[simp] theorem p32 : (2 : Int) ^ (32 : Nat) = 4294967296 := rfl
@[simp] theorem p63 : (2 : Int) ^ (63 : Nat) = 9223372036854775808 := rfl
@[simp] theorem p16 : (2 : Int) ^ (16 : Nat) = 65536 := rfl
@[simp] theorem p8 : (2 : Int) ^ (8 : Nat) = 256 := rfl
@[simp] theorem take_snoc {α : Type} (xs : List α) (y : α) : (xs ++ [y]).take (xs.length + 1) = xs ++ [y] := List.take_of_length_le (by simp)
@[simp] theorem zf0 (k k' x y) : qd8 (.d (.int k x)) 0 (.d (.int k' y)) = some (.d (.int k' y)) := rfl
@[simp] theorem zec (x y) : qd8 (.d (.bool x)) 0 (.d (.bool y)) = some (.d (.bool y)) := rfl
@[simp] theorem zfy (x y) : qd8 (.d (.str x)) 0 (.d (.str y)) = some (.d (.str y)) := rfl
@[simp] theorem setPart_sl (x y) : qd8 (.d (.sl x)) 0 (.d (.sl y)) = some (.d (.sl y)) := rfl
@[simp] theorem toNat_ab (a b : Nat) : ((a : Int) + (b : Int)).toNat = a + b := by omega
@[simp] theorem toNat_abc (a b c : Nat) : ((a : Int) + (b : Int) + (c : Int)).toNat = a + b + c := by omega
@[simp] theorem toNat_ab1 (a b : Nat) : ((a : Int) + (b : Int) - 1).toNat = a + b - 1 := by omega
@[simp] theorem toNat_ab2 (a b : Nat) : ((a : Int) + (b : Int) - 2).toNat = a + b - 2 := by omega
@[simp] theorem toNat_ab1' (a b : Nat) : ((a : Int) + (b : Int) + 1).toNat = a + b + 1 := by omega
@[simp] theorem toNat_a1 (a : Nat) : ((a : Int) + 1).toNat = a + 1 := by omega
@[simp] theorem toNat_a1' (a : Nat) : ((a : Int) - 1).toNat = a - 1 := by omega
@[simp] theorem toNat_a2' (a : Nat) : ((a : Int) - 2).toNat = a - 2 := by omega
@[simp] theorem toNat_asb (a b : Nat) : ((a : Int) - (b : Int)).toNat = a - b := by omega
@[simp] theorem zeb (cs off x) : qd8 (.d (.agg cs)) off x = if off + x.cells.length ≤ (V.cells (.d (.agg cs))).length then some (mkAgg (qmf (V.cells (.d (.agg cs))) off x.cells)) else none := rfl
@[simp] theorem zf1 (cs off x) : qd8 (.agg cs) off x = if off + x.cells.length ≤ (V.cells (.agg cs)).length then some (mkAgg (qmf (V.cells (.agg cs)) off x.cells)) else none := rfl
@[simp] theorem onO_some' {α β : Type} (x : α) (d : β) (f : α → β) : onO (some x) d f = f x := rfl
@[simp] theorem onO_none' {α β : Type} (d : β) (f : α → β) : onO none d f = d := rfl
theorem zb7 {a b : Int} (h : 0 ≤ a) : a.tdiv b = a / b := Int.tdiv_eq_ediv_of_nonneg h
theorem zb3 {a b : Int} (h : 0 ≤ a) : a.tmod b = a % b := Int.tmod_eq_emod_of_nonneg h
attribute [simp] zb7 zb3
@[simp] theorem le_long {n : Nat} (h : n ≤ 1099511627776) : (n ≤ long) = True := eq_true (Nat.le_trans h (by unfold long; omega))
def panB (x : D) (o : Option (List V × List Obj × List Loc)) : Option (Ex × St) := bnd o fun b => some (.pan (.d x), { env := [], heap := b.2.1 })
@[simp] theorem panB_some (x vs os m) : panB x (some (vs, os, m)) = some (.pan (.d x), { env := [], heap := os }) := rfl
@[simp] theorem endP_d (pin x h) : endP pin (.d x) h = panB x (norm (pins pin) [] (qgh h [])) := rfl
end Go.Rf
