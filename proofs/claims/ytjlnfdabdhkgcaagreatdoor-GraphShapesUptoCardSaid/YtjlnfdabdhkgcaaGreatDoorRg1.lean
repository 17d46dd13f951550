/- Parts of the proof: RfRel, RfHeap, RfVal, RfNorm, RfFrz. -/
import Derived.Test.YtjlnfdabdhkgcaaGreatDoorRb2
import Derived.WalkKit

set_option linter.unusedSimpArgs false
set_option linter.unusedVariables false
set_option linter.unnecessarySimpa false
set_option linter.unusedSectionVars false
set_option linter.all false
namespace Go.Rf
abbrev Ice:=Nat→Nat→Option Value
def YZ (H:Ice) (b off:Nat) (vs:List Value):Prop:=∀ i v,vs[i]? = some v→H b (off + i)=some v
def flat (us:List Value):List Value:=us.flatMap fun u=>u.cells.toList
def jk:D→Bool
 | .agg _=>true
 | _=>false
def one:Value→Bool
 | .agg _ | .tuple _=>false
 | _=>true
def ZY (f:FuncId) (us:List Value):Value:=if f < fB then .func (.func f) #[] ⟨us⟩ else .func (.func (f - fB)) ⟨us⟩ #[]
mutual
def Q6 (H:Ice):D→Value→Prop
 | .bool b,v=>v = .bool b
 | .int k n,v=>v = .int k n
 | .str s,v=>v = .string ⟨s.toArray⟩∧s.length≤long
 | .agg cs,v=>∃ vs,v = .agg ⟨vs⟩∧B1 H cs vs∧cs.any jk=false
 | .iface t x,v=>∃ u,v = .iface t u∧Q6 H x u
 | .sl xs,v=>∃ a c,v = .slice a xs.length c∧xs.length≤c∧xs.length * wl xs≤A5∧(xs≠[]→∃ b off sz us,a=some ⟨b,off,none⟩∧B1 H xs us∧(∀ u∈us,u.cells.size=sz)∧YZ H b off (flat us))
 | .box x,v=>∃ b off u,v = .pointer (some ⟨b,off,none⟩)∧Q6 H x u∧YZ H b off u.cells.toList
 | .fn f cap,v=>∃ us,v=ZY f us∧B1 H cap us
 | .nilp,v=>v = .pointer none
 | .nili,v=>v = .nilIface
 | .nilf,v=>v = .nilFunc
 | .nilm,v=>∃ r,v = .map r
 | .nils,v=>v = .slice none 0 0
def B1 (H:Ice):List D→List Value→Prop
 | [],vs=>vs=[]
 | d :: ds,vs=>∃ v vs',vs=v :: vs'∧Q6 H d v∧B1 H ds vs'
end
inductive Place where
 | none
 | dead
 | virt (sz:W)
 | at_ (b base:Nat) (sz:W) (size:Nat)
 | blk (r:Nat)
 | lol (b base:Nat) (sz:W) (size:Nat) (inn:List (Option (Nat × Nat × Nat)))
 deriving Inhabited
def Place.has:Place→Nat→Prop
 | .at_ b' _ _ _,b=>b'=b
 | .blk r,b=>r=b
 | .lol b' _ _ _ inn,b=>b'=b ∨ ∃ c s,some (b,c,s)∈inn
 | _,_=>False
def Place.core:Place→Place
 | .lol b base sz size _=>.at_ b base sz size
 | p=>p
abbrev Map:=Loc→Place
def K7:V→Bool
 | .d x=>jk x
 | .agg _ | .tup _=>true
 | _=>false
def H0 (p:Place) (sz:W) (off len:Nat) (v:Value):Prop:=
 match p with
 | .none=>False
 | .dead=>∃ a c,v = .slice a len c∧len * sz.w≤A5∧len≤c∧(0 < len→∃ q,a=some q)∧len≤A5
 | .virt s=>s=sz∧off=0∧len=0∧v = .slice Option.none 0 0
 | .at_ b base s size=>s=sz ∧ ∃ c,v = .slice (some ⟨b,base + off * sz.c,Option.none⟩) len c∧len≤c∧len * sz.w≤A5∧base + (off + c) * sz.c≤size∧len≤A5∧(1000000≤sz.w→off=0∧base=0∧c * sz.c=size)
 | .blk _=>False
 | .lol b base s size _=>s=sz ∧ ∃ c,v = .slice (some ⟨b,base + off * sz.c,Option.none⟩) len c∧len≤c∧len * sz.w≤A5∧base + (off + c) * sz.c≤size∧len≤A5∧(1000000≤sz.w→off=0∧base=0∧c * sz.c=size)
def M4 (p:Place) (e j:Nat) (v:Value):Prop:=
 match p with
 | .none=>False
 | .dead=>∃ a,v = .pointer (some a)
 | .virt _=>False
 | .at_ b base s _=>v = .pointer (some ⟨b,base + e * s.c + j,Option.none⟩)
 | .blk _=>False
 | .lol b base s _ _=>v = .pointer (some ⟨b,base + e * s.c + j,Option.none⟩)
theorem Place.core_none {p:Place} (h:p.core = .none):p = .none:=by cases p <;> first | rfl | cases h
theorem Place.core_lol {p:Place} {a b c d e} (h:p.core = .lol a b c d e):False:=by cases p <;> cases h
theorem Place.core_dead {p:Place} (h:p.core = .dead):p = .dead:=by cases p <;> first | rfl | cases h
theorem vH {p sz off len v}:H0 p.core sz off len v=H0 p sz off len v:=by cases p <;> rfl
theorem qed {p e j v}:M4 p.core e j v=M4 p e j v:=by cases p <;> rfl
def xh (p:Place) (f:Nat→Value) (v:Value):Prop:=
 match p with
 | .none=>False
 | .dead=>∃ r,v=f r
 | .blk r=>v=f r
 | _=>False
mutual
def m7 (ρ:Map) (H:Ice):V→Value→Prop
 | .d x,v=>Q6 H x v
 | .ref l sz off len,v=>H0 (ρ l) sz off len v
 | .ptr l e j,v=>M4 (ρ l) e j v
 | .agg cs,v=>∃ vs,v = .agg ⟨vs⟩∧f9 ρ H cs vs∧cs.any K7=false
 | .iface t x,v=>∃ u,v = .iface t u∧m7 ρ H x u
 | .fn f cap,v=>∃ us,v=ZY f us∧f9 ρ H cap us
 | .tup vs,v=>∃ us,v = .tuple ⟨us⟩∧f9 ρ H vs us
 | .map l,v=>xh (ρ l) (fun r=>.map (some r)) v
 | .iter l,v=>xh (ρ l) (fun r=>.pointer (some ⟨r,0,Option.none⟩)) v
 | .junk,v=>one v=true
def f9 (ρ:Map) (H:Ice):List V→List Value→Prop
 | [],vs=>vs=[]
 | d :: ds,vs=>∃ v vs',vs=v :: vs'∧m7 ρ H d v∧f9 ρ H ds vs'
end
def qys:D→Value→Prop
 | .int k n,v=>v = .int k n
 | .str s,v=>v = .string ⟨s.toArray⟩
 | _,_=>False
def qeh (ρ:Map) (H:Ice) (x:D × V) (e:MapEntry):Prop:=qys x.1 e.key∧m7 ρ H x.2 e.val∧K7 x.2=false
inductive All2 {α β:Type} (R:α→β→Prop):List α→List β→Prop
 | nil:All2 R [] []
 | cons {a b a7 bs}:R a b→All2 R a7 bs→All2 R (a :: a7) (b :: bs)
def qje (H:Ice) (w:World) (xs:List D) (b c s:Nat):Prop:=∃ arr elem fr us,w.heap[b]? = some (.cells arr elem (fr,fr))∧arr.size=s∧B1 H xs us∧(∀ u∈us,u.cells.size=1) ∧ ∀ i v,(flat us)[i]? = some v→arr[c + i]? = some v
def zbk (H:Ice) (w:World):Option (List D)→Option (Nat × Nat × Nat)→Value→Prop
 | none,none,v=>one v=true
 | some [],none,v=>v = .slice none 0 0
 | some (x :: xs),some (b,c,s),v=>H0 (.at_ b c ⟨1,8⟩ s) ⟨1,8⟩ 0 (xs.length + 1) v∧qje H w (x :: xs) b c s
 | _,_,_=>False
def z7 (ρ:Map) (H:Ice) (w:World):Obj→Place→Prop
 | .arr xs sz,.virt s=>xs=[]∧s=sz
 | .arr xs sz,.at_ b base s size=>s=sz ∧ ∃ arr elem fr us,w.heap[b]? = some (.cells arr elem (fr,fr))∧arr.size=size∧f9 ρ H xs us∧xs.any isJunk=false∧(∀ u∈us,u.cells.size=sz.c)∧(∀ i v,(flat us)[i]? = some v→arr[base + i]? = some v)∧(1000000≤s.w→elem + 1000000=s.w∧fr=0∧base=0∧(s.c≠1→size=s.c))
 | .map es,.blk r=>∃ ents clock,w.heap[r]? = some (.map ⟨ents⟩ clock)∧All2 (qeh ρ H) es ents
 | .iter s pos,.blk r=>w.heap[r]? = some (.stringIter ⟨s.toArray⟩ pos)∧s.length≤long
 | .lol ls,.lol b base s size inn=>s.w < 1000000∧(b :: inn.filterMap (·.map (·.1))).Nodup∧inn.length=ls.length ∧ ∃ arr elem fr us,w.heap[b]? = some (.cells arr elem (fr,fr))∧arr.size=size∧us.length=ls.length∧(∀ u∈us,u.cells.size=s.c)∧(∀ i v,(flat us)[i]? = some v→arr[base + i]? = some v) ∧ ∀ (e:Nat) (x:Option (List D)) (q:Option (Nat × Nat × Nat)) (u:Value),ls[e]? = some x→inn[e]? = some q→us[e]? = some u→zbk H w x q u
 | _,_=>False
 where
 isJunk:V→Bool
 | .tup _=>true
 | _=>false
structure HRel (ρ:Map) (H:Ice) (h:Loc→Option Obj) (w:World):Prop where
 ice:∀ b o v,H b o=some v→w.cell? ⟨b,o,Option.none⟩=some v
 objs:∀ l o,h l=some o→z7 ρ H w o (ρ l)
 gone:∀ l,h l=Option.none→ρ l = .none ∨ ρ l = .dead
 inj:∀ l l' b,(ρ l).has b→(ρ l').has b→l=l'
 sep:∀ l b,(ρ l).has b→∀ o,H b o=Option.none
structure Trans (ρ:Map) (H:Ice) (w:World) (ρ':Map) (H':Ice) (w':World):Prop where
 os:w'.os=w.os
 tape:w'.tape=w.tape
 output:w'.output=w.output
 size:w.heap.size≤w'.heap.size
 keep:∀ b,b < w.heap.size→(∀ l,¬ (ρ l).has b)→w'.heap[b]? = w.heap[b]? ∧ ∀ o,H' b o=H b o
 new:∀ l b,(ρ' l).has b→w.heap.size≤b ∨ ∃ l',(ρ l').has b
def n9 (ρ ρ':Map):Prop:=∀ l,ρ l ≠ .none→(ρ' l).core=(ρ l).core ∨ ρ' l = .dead
def Ice.le (H H':Ice):Prop:=∀ b o v,H b o=some v→H' b o=some v
theorem YZ.mono {H H':Ice} (h:H.le H') {b off vs} (k:YZ H b off vs):YZ H' b off vs:=fun i v e=>h _ _ _ (k i v e)
mutual
theorem Q6.mono {H H':Ice} (h:H.le H'):∀ (d:D) {v:Value},Q6 H d v→Q6 H' d v
 | .bool _,_,k=>k
 | .int _ _,_,k=>k
 | .str _,_,k=>k
 | .agg cs,_,k=>by
   obtain ⟨vs,e,k,n⟩:=k;exact ⟨vs,e,B1.mono h cs k,n⟩
 | .iface t x,_,k=>by
   obtain ⟨u,e,k⟩:=k;exact ⟨u,e,Q6.mono h x k⟩
 | .sl xs,_,k=>by
   obtain ⟨a,c,e,hc,hl,k⟩:=k;refine ⟨a,c,e,hc,hl,fun hx=>?_⟩;obtain ⟨b,off,sz,us,ea,k,hs,hcell⟩:=k hx;exact ⟨b,off,sz,us,ea,B1.mono h xs k,hs,hcell.mono h⟩
 | .box x,_,k=>by
   obtain ⟨b,off,u,e,k,hc⟩:=k;exact ⟨b,off,u,e,Q6.mono h x k,hc.mono h⟩
 | .fn f cap,_,k=>by
   obtain ⟨us,e,k⟩:=k;exact ⟨us,e,B1.mono h cap k⟩
 | .nilp,_,k=>k
 | .nili,_,k=>k
 | .nilf,_,k=>k
 | .nilm,_,k=>k
 | .nils,_,k=>k
theorem B1.mono {H H':Ice} (h:H.le H'):∀ (ds:List D) {vs:List Value},B1 H ds vs→B1 H' ds vs
 | [],_,k=>k
 | d :: ds,_,k=>by
   obtain ⟨v,vs',e,k1,k2⟩:=k;exact ⟨v,vs',e,Q6.mono h d k1,B1.mono h ds k2⟩
end
theorem H0.toDead {p:Place} {sz off len v} (k:H0 p sz off len v):H0 .dead sz off len v:=by
 cases p with
 | none=>exact k.elim
 | dead=>exact k
 | virt s=>obtain ⟨_,_,rfl,rfl⟩:=k; exact ⟨_,_,rfl,by simp,Nat.le_refl _,(fun h=>by cases h),Nat.zero_le _⟩
 | at_ b base s size=>obtain ⟨rfl,c,rfl,h1,h2,_,h3,_⟩:=k; exact ⟨_,_,rfl,h2,h1,fun _=>⟨_,rfl⟩,h3⟩
 | lol b base s size inn=>obtain ⟨rfl,c,rfl,h1,h2,_,h3,_⟩:=k; exact ⟨_,_,rfl,h2,h1,fun _=>⟨_,rfl⟩,h3⟩
 | blk r=>exact k.elim
theorem H0.stays {p p':Place} {sz off len v} (h:p ≠ .none→p'.core=p.core∨p' = .dead) (k:H0 p sz off len v):H0 p' sz off len v:=by
 rcases h (fun e=>by subst e; exact k) with e | e
 ·rw[← vH,e,vH]; exact k
 ·subst e; exact k.toDead
theorem M4.stays {p p':Place} {e j v} (h:p ≠ .none→p'.core=p.core∨p' = .dead) (k:M4 p e j v):M4 p' e j v:=by
 rcases h (fun e=>by subst e; exact k) with e | e
 ·rw[← qed,e,qed]; exact k
 ·subst e
  cases p <;> first | exact k.elim | exact k | exact ⟨_,k⟩
theorem xh.stays {p p':Place} {f v} (h:p ≠ .none→p'.core=p.core∨p' = .dead) (k:xh p f v):xh p' f v:=by
 rcases h (fun e=>by subst e; exact k) with e | e
 ·cases p with
  | dead=>
    have:p' = .dead:=by cases p' <;> first | rfl | cases e
    subst this; exact k
  | blk r=>
    have:p' = .blk r:=by cases p' <;> first | exact e | cases e
    subst this; exact k
  | _=>exact k.elim
 ·subst e
  cases p <;> first | exact k.elim | exact k | exact ⟨_,k⟩
mutual
theorem m7.mono {ρ ρ':Map} {H H':Ice} (hs:n9 ρ ρ') (h:H.le H'):∀ (x:V) {v:Value},m7 ρ H x v→m7 ρ' H' x v
 | .d x,_,k=>Q6.mono h x k
 | .ref l _ _ _,_,k=>H0.stays (hs l) k
 | .ptr l _ _,_,k=>M4.stays (hs l) k
 | .agg cs,_,k=>by
   obtain ⟨vs,e,k,n⟩:=k;exact ⟨vs,e,f9.mono hs h cs k,n⟩
 | .iface t x,_,k=>by
   obtain ⟨u,e,k⟩:=k;exact ⟨u,e,m7.mono hs h x k⟩
 | .fn f cap,_,k=>by
   obtain ⟨us,e,k⟩:=k;exact ⟨us,e,f9.mono hs h cap k⟩
 | .tup cs,_,k=>by
   obtain ⟨vs,e,k⟩:=k;exact ⟨vs,e,f9.mono hs h cs k⟩
 | .map l,_,k=>xh.stays (hs l) k
 | .iter l,_,k=>xh.stays (hs l) k
 | .junk,_,k=>k
theorem f9.mono {ρ ρ':Map} {H H':Ice} (hs:n9 ρ ρ') (h:H.le H'):∀ (xs:List V) {vs:List Value},f9 ρ H xs vs→f9 ρ' H' xs vs
 | [],_,k=>k
 | x :: xs,_,k=>by
   obtain ⟨v,vs',e,k1,k2⟩:=k;exact ⟨v,vs',e,m7.mono hs h x k1,f9.mono hs h xs k2⟩
end
theorem B1.length {H:Ice}:∀ {ds:List D} {vs:List Value},B1 H ds vs→ds.length=vs.length
 | [],_,k=>by cases k; rfl
 | _ :: _,_,k=>by obtain ⟨_,_,rfl,_,k⟩:=k; simp[k.length]
theorem f9.length {ρ:Map} {H:Ice}:∀ {ds:List V} {vs:List Value},f9 ρ H ds vs→ds.length=vs.length
 | [],_,k=>by cases k; rfl
 | _ :: _,_,k=>by obtain ⟨_,_,rfl,_,k⟩:=k; simp[k.length]
theorem B1.toV {ρ:Map} {H:Ice}:∀ {ds:List D} {vs:List Value},B1 H ds vs→f9 ρ H (ds.map .d) vs
 | [],_,k=>k
 | _ :: _,_,k=>by obtain ⟨v,vs',rfl,k1,k2⟩:=k; exact ⟨v,vs',rfl,k1,k2.toV⟩
theorem f9.toD {ρ:Map} {H:Ice}:∀ {ds:List D} {vs:List Value},f9 ρ H (ds.map .d) vs→B1 H ds vs
 | [],_,k=>k
 | _ :: _,_,k=>by obtain ⟨v,vs',rfl,k1,k2⟩:=k; exact ⟨v,vs',rfl,k1,f9.toD k2⟩
theorem f9.get {ρ:Map} {H:Ice}:∀ {xs:List V} {vs:List Value} {i:Nat} {x:V},f9 ρ H xs vs→xs[i]? = some x→∃ v,vs[i]? = some v∧m7 ρ H x v
 | _ :: _,_,0,_,k,e=>by
   obtain ⟨v,vs',rfl,k1,k2⟩:=k;simp at e; subst e;exact ⟨v,rfl,k1⟩
 | _ :: _,_,i + 1,_,k,e=>by
   obtain ⟨v,vs',rfl,k1,k2⟩:=k
   simpa using k2.get (i:=i) (by simpa using e)
theorem B1.get {H:Ice}:∀ {xs:List D} {vs:List Value} {i:Nat} {x:D},B1 H xs vs→xs[i]? = some x→∃ v,vs[i]? = some v∧Q6 H x v
 | _ :: _,_,0,_,k,e=>by
   obtain ⟨v,vs',rfl,k1,k2⟩:=k;simp at e; subst e;exact ⟨v,rfl,k1⟩
 | _ :: _,_,i + 1,_,k,e=>by
   obtain ⟨v,vs',rfl,k1,k2⟩:=k
   simpa using k2.get (i:=i) (by simpa using e)
theorem f9.drop {ρ:Map} {H:Ice}:∀ (n:Nat) {xs:List V} {vs:List Value},f9 ρ H xs vs→f9 ρ H (xs.drop n) (vs.drop n)
 | 0,_,_,k=>k
 | n + 1,[],_,k=>by cases k; exact rfl
 | n + 1,_ :: _,_,k=>by obtain ⟨v,vs',rfl,k1,k2⟩:=k; exact k2.drop n
theorem f9.take {ρ:Map} {H:Ice}:∀ (n:Nat) {xs:List V} {vs:List Value},f9 ρ H xs vs→f9 ρ H (xs.take n) (vs.take n)
 | 0,_,_,_=>rfl
 | n + 1,[],_,k=>by cases k; exact rfl
 | n + 1,_ :: _,_,k=>by obtain ⟨v,vs',rfl,k1,k2⟩:=k; exact ⟨v,vs'.take n,rfl,k1,k2.take n⟩
theorem B1.drop {H:Ice}:∀ (n:Nat) {xs:List D} {vs:List Value},B1 H xs vs→B1 H (xs.drop n) (vs.drop n)
 | 0,_,_,k=>k
 | n + 1,[],_,k=>by cases k; exact rfl
 | n + 1,_ :: _,_,k=>by obtain ⟨v,vs',rfl,k1,k2⟩:=k; exact k2.drop n
theorem B1.take {H:Ice}:∀ (n:Nat) {xs:List D} {vs:List Value},B1 H xs vs→B1 H (xs.take n) (vs.take n)
 | 0,_,_,_=>rfl
 | n + 1,[],_,k=>by cases k; exact rfl
 | n + 1,_ :: _,_,k=>by obtain ⟨v,vs',rfl,k1,k2⟩:=k; exact ⟨v,vs'.take n,rfl,k1,k2.take n⟩
theorem f9.append {ρ:Map} {H:Ice}:∀ {xs ys:List V} {vs us:List Value},f9 ρ H xs vs→f9 ρ H ys us→f9 ρ H (xs++ys) (vs++us)
 | [],_,_,_,k,k'=>by cases k; exact k'
 | _ :: _,_,_,_,k,k'=>by obtain ⟨v,vs',rfl,k1,k2⟩:=k; exact ⟨v,vs'++_,rfl,k1,k2.append k'⟩
theorem f9.set {ρ:Map} {H:Ice}:∀ {xs:List V} {vs:List Value} (i:Nat) {x:V} {v:Value},f9 ρ H xs vs→m7 ρ H x v→f9 ρ H (xs.set i x) (vs.set i v)
 | [],_,_,_,_,k,_=>by cases k; exact rfl
 | _ :: _,_,0,_,v,k,h=>by obtain ⟨u,vs',rfl,k1,k2⟩:=k; exact ⟨v,vs',rfl,h,k2⟩
 | _ :: _,_,i + 1,_,v,k,h=>by obtain ⟨u,vs',rfl,k1,k2⟩:=k; exact ⟨u,vs'.set i v,rfl,k1,k2.set i h⟩
theorem qje.lt {H w xs b c s} (k:qje H w xs b c s):b < w.heap.size:=by
 obtain ⟨_,_,_,_,hb,_⟩:=k;exact (Array.getElem?_eq_some_iff.1 hb).1
theorem HRel.lt {ρ H h w} (k:HRel ρ H h w) {l:Loc} {b:Nat} (e:(ρ l).has b):b < w.heap.size:=by
 cases ho:h l with
 | none=>
   rcases k.gone l ho with e' | e' <;> rw[e'] at e <;> cases e
 | some o=>
   have hr:=k.objs l o ho
   cases hp:ρ l with
   | none=>rw[hp] at e; cases e
   | dead=>rw[hp] at e; cases e
   | virt s=>rw[hp] at e; cases e
   | lol b' base s size inn=>
     rw[hp] at e hr
     cases o with
     | lol ls=>
       obtain ⟨_,_,hl,arr,elem,fr,us,hb,_,hul,_,_,hi⟩:=hr;rcases e with rfl | ⟨c,s',hm⟩
       ·exact (Array.getElem?_eq_some_iff.1 hb).1
       ·obtain ⟨e,he,hq⟩:=List.getElem_of_mem hm
        have h1:inn[e]? = some (some (b,c,s')):=by rw[List.getElem?_eq_getElem he,hq]
        have h2:=List.getElem?_eq_getElem (l:=ls) (i:=e) (by omega);have h3:=List.getElem?_eq_getElem (l:=us) (i:=e) (by omega);have:=hi e _ _ _ h2 h1 h3
        cases hx:ls[e] with
        | none=>rw[hx] at this; exact this.elim
        | some xs=>
          rw[hx] at this
          cases xs with
          | nil=>exact this.elim
          | cons x xs=>exact this.2.lt
     | _=>exact hr.elim
   | at_ b' base s size=>
     rw[hp] at e hr;have e:b'=b:=e;subst e
     cases o with
     | arr xs sz=>
       obtain ⟨_,arr,elem,fr,us,hb,_⟩:=hr;exact (Array.getElem?_eq_some_iff.1 hb).1
     | _=>exact hr.elim
   | blk r=>
     rw[hp] at e hr;have e:r=b:=e;subst e
     cases o with
     | map es=>
       obtain ⟨_,_,hb,_⟩:=hr;exact (Array.getElem?_eq_some_iff.1 hb).1
     | iter s pos=>exact (Array.getElem?_eq_some_iff.1 hr.1).1
     | _=>exact hr.elim
theorem HRel.iceLt {ρ H h w} (k:HRel ρ H h w) {b o:Nat} {v:Value} (e:H b o=some v):b < w.heap.size:=by
 have:=k.ice b o v e;exact World.block_lt_of_cell? w _ this
theorem Trans.le {ρ H h w ρ' H' w'} (k:HRel ρ H h w) (t:Trans ρ H w ρ' H' w'):H.le H':=fun b o v e=>by
 have hlt:=k.iceLt e;rw[(t.keep b hlt (fun l hl=>by rw[k.sep l b hl o] at e; cases e)).2 o];exact e
theorem Trans.refl (ρ H w):Trans ρ H w ρ H w:=⟨rfl,rfl,rfl,Nat.le_refl _,fun _ _ _=>⟨rfl,fun _=>rfl⟩,fun l _ h=>.inr ⟨l,h⟩⟩
theorem Trans.trans {ρ H w ρ1 H1 w1 ρ2 H2 w2} (t:Trans ρ H w ρ1 H1 w1) (u:Trans ρ1 H1 w1 ρ2 H2 w2):Trans ρ H w ρ2 H2 w2 where
 os:=u.os.trans t.os
 tape:=u.tape.trans t.tape
 output:=u.output.trans t.output
 size:=Nat.le_trans t.size u.size
 keep:=fun b hb hn=>by
  have h1:=t.keep b hb hn
  have h2:=u.keep b (Nat.lt_of_lt_of_le hb t.size) (fun l hl=>by
   rcases t.new l b hl with h | ⟨l',h⟩
   ·omega
   ·exact hn l' h)
  exact ⟨h2.1.trans h1.1,fun o=>(h2.2 o).trans (h1.2 o)⟩
 new:=fun l b h=>by
  rcases u.new l b h with h | ⟨l',h⟩
  ·exact .inl (Nat.le_trans t.size h)
  ·exact t.new l' b h
theorem n9.refl (ρ):n9 ρ ρ:=fun _ _=>.inl rfl
theorem n9.trans {ρ ρ1 ρ2} (h:n9 ρ ρ1) (k:n9 ρ1 ρ2):n9 ρ ρ2:=fun l hl=>by
 rcases h l hl with e | e
 ·rcases k l (fun h=>hl (Place.core_none (by rw[← e,h]; rfl))) with e' | e'
  ·exact .inl (e'.trans e)
  ·exact .inr e'
 ·rcases k l (by rw[e]; simp) with e' | e'
  ·exact .inr (Place.core_dead (by rw[e',e]; rfl))
  ·exact .inr e'
end Go.Rf

namespace Go.Rf
def O3 (ρ:Map) (l:Loc) (p:Place):Map:=fun l'=>if l'=l then p else ρ l'
def Zc (h:Loc→Option Obj) (l:Loc) (o:Option Obj):Loc→Option Obj:=fun l'=>if l'=l then o else h l'
theorem Jk (h l o ws):i9 h ((l,o) :: ws)=i9 (Zc h l o) ws:=rfl
@[simp] theorem q8 (ρ l p):O3 ρ l p l=p:=by simp[O3]
@[simp] theorem r8 {ρ l p l'} (h:l'≠l):O3 ρ l p l' = ρ l':=by simp[O3,h]
@[simp] theorem V3 (ρ l p):Zc ρ l p l=p:=by simp[Zc]
@[simp] theorem zm {ρ l p l'} (h:l'≠l):Zc ρ l p l' = ρ l':=by simp[Zc,h]
theorem All2.mono {α β:Type} {R S:α→β→Prop} (h:∀ a b,R a b→S a b):∀ {a7 bs},All2 R a7 bs→All2 S a7 bs
 | _,_,.nil=>.nil
 | _,_,.cons x k=>.cons (h _ _ x) (k.mono h)
theorem z7.mono {ρ ρ':Map} {H H':Ice} {w w':World} {o:Obj} {p:Place} (k:z7 ρ H w o p) (hs:n9 ρ ρ') (hl:H.le H')
 (hb:∀ b,p.has b→w'.heap[b]? = w.heap[b]?):z7 ρ' H' w' o p:=by
 cases o with
 | arr xs sz=>
   cases p with
   | virt s=>exact k
   | at_ b base s size=>
     obtain ⟨e,arr,elem,fr,us,h1,h2,h3,h4,h5,h6⟩:=k;exact ⟨e,arr,elem,fr,us,(hb b rfl).trans h1,h2,h3.mono hs hl,h4,h5,h6⟩
   | _=>exact k.elim
 | map es=>
   cases p with
   | blk r=>
     obtain ⟨ents,clock,h1,h2⟩:=k;exact ⟨ents,clock,(hb r rfl).trans h1,h2.mono fun a b ⟨x,y,z⟩=>⟨x,y.mono hs hl,z⟩⟩
   | _=>exact k.elim
 | iter s pos=>
   cases p with
   | blk r=>exact ⟨(hb r rfl).trans k.1,k.2⟩
   | _=>exact k.elim
 | lol ls=>
   cases p with
   | lol b base s size inn=>
     obtain ⟨h1,h2,h3,arr,elem,fr,us,h4,h5,h6,h7,h8,h9⟩:=k;refine ⟨h1,h2,h3,arr,elem,fr,us,(hb b (.inl rfl)).trans h4,h5,h6,h7,h8,fun e x q u hx hq hu=>?_⟩;have:=h9 e x q u hx hq hu
     cases x with
     | none=>cases q <;> exact this
     | some xs=>cases xs with
       | nil=>cases q <;> exact this
       | cons y ys=>cases q with
         | none=>exact this
         | some q=>
           obtain ⟨b',c,s'⟩:=q;refine ⟨this.1,?_⟩;obtain ⟨arr,elem,fr,us,g1,g2,g3,g4⟩:=this.2;exact ⟨arr,elem,fr,us,(hb b' (.inr ⟨c,s',List.mem_of_getElem? hq⟩)).trans g1,g2,g3.mono hl,g4⟩
   | _=>exact k.elim
 | dead=>cases p <;> exact k.elim
theorem n9.upd {ρ:Map} {l:Loc} (p:Place) (h:ρ l = .none∨p = .dead):n9 ρ (O3 ρ l p):=fun l' hl'=>by
 by_cases e:l'=l
 ·subst e;rcases h with h | h
  ·exact absurd h hl'
  ·right; simp[h]
 ·left; simp[e]
theorem HRel.drawn {ρ H h w} (k:HRel ρ H h w) (n:Nat):HRel ρ H h { w with drawn:=n } where
 ice:=fun b o v e=>k.ice b o v e
 objs:=fun l o e=>(k.objs l o e).mono (n9.refl _) (fun _ _ _ e=>e) (fun _ _=>rfl)
 gone:=k.gone
 inj:=k.inj
 sep:=k.sep
theorem Trans.drawn (ρ H w) (n:Nat):Trans ρ H w ρ H { w with drawn:=n }:=⟨rfl,rfl,rfl,Nat.le_refl _,fun _ _ _=>⟨rfl,fun _=>rfl⟩,fun l _ h=>.inr ⟨l,h⟩⟩
theorem HRel.push {ρ H h w} (k:HRel ρ H h w) {l:Loc} (hl:ρ l = .none) (o:Obj) (b:Go.Obj) (p:Place) (hp:∀ b',p.has b'→b'=w.heap.size)
 (ho:z7 (O3 ρ l p) H { w with heap:=w.heap.push b } o p) :
 HRel (O3 ρ l p) H (Zc h l (some o)) { w with heap:=w.heap.push b } ∧ Trans ρ H w (O3 ρ l p) H { w with heap:=w.heap.push b } ∧ n9 ρ (O3 ρ l p):=by
 have hst:n9 ρ (O3 ρ l p):=n9.upd p (.inl hl)
 have old:∀ i,i < w.heap.size→(w.heap.push b)[i]? = w.heap[i]?:=fun i hi=>by rw[Array.getElem?_push,if_neg (by omega)]
 refine ⟨⟨?_,?_,?_,?_,?_⟩,⟨rfl,rfl,rfl,by simp,?_,?_⟩,hst⟩
 ·intro b' o' v e;have hlt:=k.iceLt e;have:=k.ice b' o' v e;exact (World.cell?_of_block (w:=w) (a:=⟨b',o',Option.none⟩) (w':={ w with heap:=w.heap.push b }) (old b' hlt)).trans this
 ·intro l' o' e
  by_cases hh:l'=l
  ·subst hh;rw[V3] at e
   injection e with e
   subst e;rw[q8];exact ho
  ·rw[zm hh] at e;rw[r8 hh];exact (k.objs l' o' e).mono hst (fun _ _ _ e=>e) (fun b' hb'=>old b' (k.lt hb'))
 ·intro l' e
  by_cases hh:l'=l
  ·subst hh; rw[V3] at e; cases e
  ·rw[zm hh] at e; rw[r8 hh]; exact k.gone l' e
 ·intro l1 l2 b' e1 e2
  by_cases h1:l1=l <;> by_cases h2:l2=l
  ·rw[h1,h2]
  ·rw[h1,q8] at e1;rw[r8 h2] at e2
   replace e1:=hp _ e1
   have:=k.lt e2;omega
  ·rw[h2,q8] at e2;rw[r8 h1] at e1
   replace e2:=hp _ e2
   have:=k.lt e1;omega
  ·rw[r8 h1] at e1; rw[r8 h2] at e2; exact k.inj l1 l2 b' e1 e2
 ·intro l1 b' e1 o'
  by_cases h1:l1=l
  ·rw[h1,q8] at e1
   replace e1:=hp _ e1
   cases he:H b' o' with
   | none=>rfl
   | some v=>have:=k.iceLt he; omega
  ·rw[r8 h1] at e1; exact k.sep l1 b' e1 o'
 ·intro b' hb' _;exact ⟨old b' hb',fun _=>rfl⟩
 ·intro l1 b' e1
  by_cases h1:l1=l
  ·rw[h1,q8] at e1
   replace e1:=hp _ e1
   exact .inl (by omega)
  ·rw[r8 h1] at e1; exact .inr ⟨l1,e1⟩
theorem HRel.virt {ρ H h w} (k:HRel ρ H h w) {l:Loc} (hl:ρ l = .none) (sz:W) :
 HRel (O3 ρ l (.virt sz)) H (Zc h l (some (.arr [] sz))) w∧Trans ρ H w (O3 ρ l (.virt sz)) H w∧n9 ρ (O3 ρ l (.virt sz)):=by
 have hst:n9 ρ (O3 ρ l (.virt sz)):=n9.upd _ (.inl hl);refine ⟨⟨k.ice,?_,?_,?_,?_⟩,⟨rfl,rfl,rfl,Nat.le_refl _,fun _ _ _=>⟨rfl,fun _=>rfl⟩,?_⟩,hst⟩
 ·intro l' o' e
  by_cases hh:l'=l
  ·subst hh;rw[V3] at e
   injection e with e
   subst e;rw[q8];exact ⟨rfl,rfl⟩
  ·rw[zm hh] at e;rw[r8 hh];exact (k.objs l' o' e).mono hst (fun _ _ _ e=>e) (fun _ _=>rfl)
 ·intro l' e
  by_cases hh:l'=l
  ·subst hh; rw[V3] at e; cases e
  ·rw[zm hh] at e; rw[r8 hh]; exact k.gone l' e
 ·intro l1 l2 b' e1 e2
  have h1:l1≠l:=fun h=>by rw[h,q8] at e1; cases e1
  have h2:l2≠l:=fun h=>by rw[h,q8] at e2; cases e2
  rw[r8 h1] at e1; rw[r8 h2] at e2; exact k.inj l1 l2 b' e1 e2
 ·intro l1 b' e1 o'
  have h1:l1≠l:=fun h=>by rw[h,q8] at e1; cases e1
  rw[r8 h1] at e1; exact k.sep l1 b' e1 o'
 ·intro l1 b' e1
  have h1:l1≠l:=fun h=>by rw[h,q8] at e1; cases e1
  rw[r8 h1] at e1; exact .inr ⟨l1,e1⟩
theorem HRel.kill {ρ H h w} (k:HRel ρ H h w) (l:Loc) :
 HRel (O3 ρ l .dead) H (Zc h l none) w∧Trans ρ H w (O3 ρ l .dead) H w∧n9 ρ (O3 ρ l .dead):=by
 have hst:n9 ρ (O3 ρ l .dead):=n9.upd _ (.inr rfl);refine ⟨⟨k.ice,?_,?_,?_,?_⟩,⟨rfl,rfl,rfl,Nat.le_refl _,fun _ _ _=>⟨rfl,fun _=>rfl⟩,?_⟩,hst⟩
 ·intro l' o' e
  by_cases hh:l'=l
  ·subst hh; rw[V3] at e; cases e
  ·rw[zm hh] at e;rw[r8 hh];exact (k.objs l' o' e).mono hst (fun _ _ _ e=>e) (fun _ _=>rfl)
 ·intro l' e
  by_cases hh:l'=l
  ·subst hh; right; simp
  ·rw[zm hh] at e; rw[r8 hh]; exact k.gone l' e
 ·intro l1 l2 b' e1 e2
  have h1:l1≠l:=fun h=>by rw[h,q8] at e1; cases e1
  have h2:l2≠l:=fun h=>by rw[h,q8] at e2; cases e2
  rw[r8 h1] at e1; rw[r8 h2] at e2; exact k.inj l1 l2 b' e1 e2
 ·intro l1 b' e1 o'
  have h1:l1≠l:=fun h=>by rw[h,q8] at e1; cases e1
  rw[r8 h1] at e1; exact k.sep l1 b' e1 o'
 ·intro l1 b' e1
  have h1:l1≠l:=fun h=>by rw[h,q8] at e1; cases e1
  rw[r8 h1] at e1; exact .inr ⟨l1,e1⟩
theorem HRel.write {ρ H h w w'} (k:HRel ρ H h w) {l:Loc} {b:Nat} (hb:(ρ l).has b) (o:Obj)
 (hw:w'.os=w.os∧w'.tape=w.tape∧w'.output=w.output∧w'.heap.size=w.heap.size) (hk:∀ i,i≠b→w'.heap[i]? = w.heap[i]?)
 (ho:z7 ρ H w' o (ρ l)):HRel ρ H (Zc h l (some o)) w'∧Trans ρ H w ρ H w':=by
 refine ⟨⟨?_,?_,?_,k.inj,k.sep⟩,⟨hw.1,hw.2.1,hw.2.2.1,by omega,?_,fun l b h=>.inr ⟨l,h⟩⟩⟩
 ·intro b' o' v e
  have hne:b'≠b:=fun h=>by rw[h,k.sep l b hb o'] at e; cases e
  exact (World.cell?_of_block (w:=w) (a:=⟨b',o',Option.none⟩) (w':=w') (hk b' hne)).trans (k.ice b' o' v e)
 ·intro l' o' e
  by_cases hh:l'=l
  ·subst hh;rw[V3] at e
   injection e with e
   subst e;exact ho
  ·rw[zm hh] at e;exact (k.objs l' o' e).mono (n9.refl _) (fun _ _ _ e=>e) (fun b' hb'=>hk b' (fun h=>hh (k.inj l' l b (h ▸ hb') hb)))
 ·intro l' e
  by_cases hh:l'=l
  ·subst hh; rw[V3] at e; cases e
  ·rw[zm hh] at e; exact k.gone l' e
 ·intro b' hb' hn;exact ⟨hk b' (fun h=>hn l (h ▸ hb)),fun _=>rfl⟩
theorem HRel.move {ρ H h w w'} (k:HRel ρ H h w) {l l':Loc} {b:Nat} (hb:(ρ l).has b) (hl':ρ l' = .none) (o:Obj) (p:Place) (hp:∀ b',p.has b'→b'=b)
 (hw:w'.os=w.os∧w'.tape=w.tape∧w'.output=w.output∧w'.heap.size=w.heap.size) (hk:∀ i,i≠b→w'.heap[i]? = w.heap[i]?)
 (ho:z7 (O3 (O3 ρ l .dead) l' p) H w' o p) :
 HRel (O3 (O3 ρ l .dead) l' p) H (Zc (Zc h l none) l' (some o)) w'∧Trans ρ H w (O3 (O3 ρ l .dead) l' p) H w'∧n9 ρ (O3 (O3 ρ l .dead) l' p):=by
 have hll:l≠l':=fun e=>by rw[← e] at hl'; rw[hl'] at hb; cases hb
 have hst:n9 ρ (O3 (O3 ρ l .dead) l' p):=(n9.upd .dead (.inr rfl)).trans (n9.upd p (.inl (by rw[r8 (Ne.symm hll)]; exact hl')))
 have blk:∀ l1 b',(O3 (O3 ρ l .dead) l' p l1).has b'→(l1=l'∧b'=b)∨(l1≠l'∧l1≠l∧(ρ l1).has b'):=by
  intro l1 b' e
  by_cases h1:l1=l'
  ·rw[h1,q8] at e; exact .inl ⟨h1,hp _ e⟩
  ·rw[r8 h1] at e
   by_cases h2:l1=l
   ·rw[h2,q8] at e; cases e
   ·rw[r8 h2] at e; exact .inr ⟨h1,h2,e⟩
 refine ⟨⟨?_,?_,?_,?_,?_⟩,⟨hw.1,hw.2.1,hw.2.2.1,by omega,?_,?_⟩,hst⟩
 ·intro b' o' v e
  have hne:b'≠b:=fun h=>by rw[h,k.sep l b hb o'] at e; cases e
  exact (World.cell?_of_block (w:=w) (a:=⟨b',o',Option.none⟩) (w':=w') (hk b' hne)).trans (k.ice b' o' v e)
 ·intro l1 o' e
  by_cases h1:l1=l'
  ·subst h1;rw[V3] at e
   injection e with e
   subst e;rw[q8];exact ho
  ·rw[zm h1] at e
   by_cases h2:l1=l
   ·subst h2; rw[V3] at e; cases e
   ·rw[zm h2] at e;rw[r8 h1,r8 h2];exact (k.objs l1 o' e).mono hst (fun _ _ _ e=>e) (fun b' hb'=>hk b' (fun h=>h2 (k.inj l1 l b (h ▸ hb') hb)))
 ·intro l1 e
  by_cases h1:l1=l'
  ·subst h1; rw[V3] at e; cases e
  ·rw[zm h1] at e;rw[r8 h1]
   by_cases h2:l1=l
   ·subst h2; right; simp
   ·rw[zm h2] at e; rw[r8 h2]; exact k.gone l1 e
 ·intro l1 l2 b' e1 e2
  rcases blk l1 b' e1 with ⟨h1,g1⟩ | ⟨h1,h1',g1⟩ <;> rcases blk l2 b' e2 with ⟨h2,g2⟩ | ⟨h2,h2',g2⟩
  ·rw[h1,h2]
  ·rw[g1] at g2; exact absurd (k.inj l2 l b g2 hb) h2'
  ·rw[g2] at g1; exact absurd (k.inj l1 l b g1 hb) h1'
  ·exact k.inj l1 l2 b' g1 g2
 ·intro l1 b' e1 o';rcases blk l1 b' e1 with ⟨h1,g1⟩ | ⟨h1,h1',g1⟩
  ·rw[g1]; exact k.sep l b hb o'
  ·exact k.sep l1 b' g1 o'
 ·intro b' hb' hn;exact ⟨hk b' (fun h=>hn l (h ▸ hb)),fun _=>rfl⟩
 ·intro l1 b' e1;rcases blk l1 b' e1 with ⟨h1,g1⟩ | ⟨h1,h1',g1⟩
  ·exact .inr ⟨l,g1 ▸ hb⟩
  ·exact .inr ⟨l1,g1⟩
end Go.Rf

namespace Go.Rf
theorem zM (b off j:Nat):(⟨b,off,Option.none⟩:Addr).add j=⟨b,off + j,Option.none⟩:=by
 unfold Addr.add;split
 ·rename_i h; subst h; rfl
 ·rfl
theorem v7 {u:Value} (h:one u=true):u.cells = #[u]:=by cases u <;> first | rfl | cases h
theorem qko {u:Value} (h:one u=true):u.oneCell'=true:=by cases u <;> first | rfl | cases h
theorem Q6.one {H:Ice} {x:D} {u:Value} (k:Q6 H x u) (h:jk x=false):one u=true:=by
 cases x with
 | agg cs=>cases h
 | str s=>obtain ⟨rfl,_⟩:=k; rfl
 | iface t x=>obtain ⟨_,rfl,_⟩:=k; rfl
 | sl xs=>obtain ⟨_,_,rfl,_⟩:=k; rfl
 | box x=>obtain ⟨_,_,_,rfl,_⟩:=k; rfl
 | fn f cap=>obtain ⟨_,rfl,_⟩:=k; unfold ZY; split <;> rfl
 | bool b=>cases k; rfl
 | int k' n=>cases k; rfl
 | nilp=>cases k; rfl
 | nili=>cases k; rfl
 | nilf=>cases k; rfl
 | nilm=>obtain ⟨_,rfl⟩:=k; rfl
 | nils=>cases k; rfl
theorem H0.one {p sz off len u} (k:H0 p sz off len u):one u=true:=by
 cases p with
 | none=>exact k.elim
 | dead=>obtain ⟨_,_,rfl,_⟩:=k; rfl
 | virt s=>obtain ⟨_,_,_,rfl⟩:=k; rfl
 | at_ b base s size=>obtain ⟨_,_,rfl,_⟩:=k; rfl
 | lol b base s size inn=>obtain ⟨_,_,rfl,_⟩:=k; rfl
 | blk r=>exact k.elim
theorem M4.one {p e j u} (k:M4 p e j u):one u=true:=by
 cases p with
 | none=>exact k.elim
 | dead=>obtain ⟨_,rfl⟩:=k; rfl
 | virt s=>exact k.elim
 | at_ b base s size=>cases k; rfl
 | lol b base s size inn=>cases k; rfl
 | blk r=>exact k.elim
theorem m7.one {ρ:Map} {H:Ice} {x:V} {u:Value} (k:m7 ρ H x u) (h:K7 x=false):one u=true:=by
 cases x with
 | d x=>exact Q6.one k h
 | ref l sz off len=>exact H0.one k
 | ptr l e j=>exact M4.one k
 | agg cs=>cases h
 | iface t x=>obtain ⟨_,rfl,_⟩:=k; rfl
 | fn f cap=>obtain ⟨_,rfl,_⟩:=k; unfold ZY; split <;> rfl
 | tup vs=>cases h
 | map l=>
   have k:xh (ρ l) (fun r=>.map (some r)) u:=k
   cases hp:ρ l with
   | dead=>rw[hp] at k; obtain ⟨_,rfl⟩:=k; rfl
   | blk r=>rw[hp] at k; cases k; rfl
   | _=>rw[hp] at k; exact k.elim
 | iter l=>
   have k:xh (ρ l) (fun r=>.pointer (some ⟨r,0,Option.none⟩)) u:=k
   cases hp:ρ l with
   | dead=>rw[hp] at k; obtain ⟨_,rfl⟩:=k; rfl
   | blk r=>rw[hp] at k; cases k; rfl
   | _=>rw[hp] at k; exact k.elim
 | junk=>exact k
def jR:V→Bool
 | .tup _=>false
 | _=>true
theorem Zx {x:V} (h:z7.isJunk x=false):jR x=true:=by cases x <;> first | rfl | cases h
theorem jb {x:V} (h:jR x=true):z7.isJunk x=false:=by cases x <;> first | rfl | cases h
theorem m7.cells {ρ:Map} {H:Ice} {x:V} {u:Value} (k:m7 ρ H x u) (h:jR x=true):f9 ρ H x.cells u.cells.toList∧x.cells.any K7=false:=by
 cases x with
 | d x=>
   cases hx:jk x with
   | false=>
     have hc:V.cells (.d x)=[.d x]:=by cases x <;> first | rfl | cases hx
     rw[hc,v7 (Q6.one k hx)];exact ⟨⟨u,[],rfl,k,rfl⟩,by simp[K7,hx]⟩
   | true=>
     cases x with
     | agg cs=>
       obtain ⟨vs,rfl,k,hn⟩:=k;refine ⟨k.toV,?_⟩;show (cs.map V.d).any K7=false;rw[List.any_map];exact hn
     | _=>cases hx
 | agg cs=>
   obtain ⟨vs,rfl,k,hn⟩:=k;exact ⟨k,hn⟩
 | tup vs=>cases h
 | junk=>rw[show V.cells .junk=[.junk] from rfl,v7 (show Rf.one u=true from k)]; exact ⟨⟨u,[],rfl,k,rfl⟩,rfl⟩
 | ref l sz off len=>rw[v7 (m7.one k rfl)]; exact ⟨⟨u,[],rfl,k,rfl⟩,rfl⟩
 | ptr l e j=>rw[v7 (m7.one k rfl)]; exact ⟨⟨u,[],rfl,k,rfl⟩,rfl⟩
 | iface t x=>rw[v7 (m7.one k rfl)]; exact ⟨⟨u,[],rfl,k,rfl⟩,rfl⟩
 | fn f cap=>rw[v7 (m7.one k rfl)]; exact ⟨⟨u,[],rfl,k,rfl⟩,rfl⟩
 | map l=>rw[v7 (m7.one k rfl)]; exact ⟨⟨u,[],rfl,k,rfl⟩,rfl⟩
 | iter l=>rw[v7 (m7.one k rfl)]; exact ⟨⟨u,[],rfl,k,rfl⟩,rfl⟩
theorem JP:∀ {l:List V} {ds:List D},S9 l=some ds→l=ds.map .d
 | [],_,h=>by cases h; rfl
 | .d x :: l,ds,h=>by
   simp only[S9,Option.map_eq_some_iff] at h;obtain ⟨ds',h1,rfl⟩:=h;simp[JP h1]
 | .ref .. :: _,_,h | .ptr .. :: _,_,h | .agg .. :: _,_,h | .iface .. :: _,_,h | .fn .. :: _,_,h | .tup .. :: _,_,h | .map .. :: _,_,h | .iter .. :: _,_,h | .junk :: _,_,h=>by cases h
theorem JB {ρ:Map} {H:Ice} {l:List V} {vs:List Value} (k:f9 ρ H l vs) (hn:l.any K7=false):m7 ρ H (wT l) (.agg ⟨vs⟩):=by
 unfold wT
 cases hd:S9 l with
 | none=>exact ⟨vs,rfl,k,hn⟩
 | some ds=>
   have:=JP hd;subst this;refine ⟨vs,rfl,k.toD,?_⟩;rw[List.any_map] at hn;exact hn
theorem XM (l:List V):jR (wT l)=true:=by
 unfold wT
 cases S9 l <;> rfl
theorem qjb {α:Type} {p:α→Bool} {l:List α} (h:l.any p=false) {i:Nat} {x:α} (e:l[i]? = some x):p x=false:=by
 rw[List.any_eq_false] at h;have:=h x (List.mem_of_getElem? e)
 simpa using this
theorem qd6 {α:Type} {p:α→Bool} {l:List α} (h:l.any p=false) (n:Nat):(l.drop n).any p=false:=by
 rw[List.any_eq_false] at *
 exact fun x hx=>h x (List.mem_of_mem_drop hx)
theorem qd4 {α:Type} {p:α→Bool} {l:List α} (h:l.any p=false) (n:Nat):(l.take n).any p=false:=by
 rw[List.any_eq_false] at *
 exact fun x hx=>h x (List.mem_of_mem_take hx)
theorem Yg {ρ:Map} {H:Ice} {x y:V} {u:Value} {off n:Nat} {ag:Bool} (k:m7 ρ H x u) (h:jR x=true) (e:part x off n ag=some y) :
 (ag=true→off + n≤u.cells.size∧m7 ρ H y (.agg ⟨(u.cells.toList.drop off).take n⟩)) ∧
 (ag=false→∃ v,u.cells.toList[off]? = some v∧m7 ρ H y v∧K7 y=false)∧jR y=true:=by
 obtain ⟨kc,hn⟩:=k.cells h;unfold part at e
 cases ag with
 | true=>
   simp only[if_true] at e;split at e
   ·rename_i hl
    injection e with e
    subst e;refine ⟨fun _=>⟨?_,JB ((kc.drop off).take n) (qd4 (qd6 hn off) n)⟩,(fun h=>by cases h),XM _⟩;have:=kc.length;simp at this;omega
   ·cases e
 | false=>
   simp only[Bool.false_eq_true,if_false] at e;obtain ⟨v,h1,h2⟩:=kc.get e;have h3:=qjb hn e;refine ⟨(fun h=>by cases h),fun _=>⟨v,h1,h2,h3⟩,?_⟩
   cases y <;> first | rfl | cases h3
theorem M6 (u:Value) (us:List Value):flat (u :: us)=u.cells.toList++flat us:=rfl
theorem kG (us vs:List Value):flat (us++vs)=flat us++flat vs:=by simp[flat,List.flatMap_append]
theorem C5 {sz:Nat}:∀ {us:List Value},(∀ u∈us,u.cells.size=sz)→(flat us).length=us.length * sz
 | [],_=>by simp[flat]
 | u :: us,h=>by
   rw[M6,List.length_append,C5 (fun x hx=>h x (List.mem_cons_of_mem _ hx))]
   have:u.cells.toList.length=sz:=by simpa using h u (List.mem_cons_self ..)
   rw[this,List.length_cons,Nat.add_mul];omega
theorem XZ {sz:Nat}:∀ {us:List Value} {e:Nat} {u:Value} {j:Nat},(∀ u∈us,u.cells.size=sz)→us[e]? = some u→j < sz→(flat us)[e * sz + j]? = u.cells.toList[j]?
 | [],e,u,j,_,he,_=>by simp at he
 | v :: us,0,u,j,h,he,hj=>by
   simp at he;subst he
   have hl:v.cells.toList.length=sz:=by simpa using h v (List.mem_cons_self ..)
   rw[M6,Nat.zero_mul,Nat.zero_add,List.getElem?_append_left (by omega)]
 | v :: us,e + 1,u,j,h,he,hj=>by
   have hl:v.cells.toList.length=sz:=by simpa using h v (List.mem_cons_self ..)
   rw[M6,List.getElem?_append_right (by rw[hl,Nat.add_mul]; omega)]
   have:(e + 1) * sz + j - v.cells.toList.length=e * sz + j:=by rw[hl,Nat.add_mul]; omega
   rw[this];exact XZ (fun x hx=>h x (List.mem_cons_of_mem _ hx)) (by simpa using he) hj
theorem qks {ρ H w xs sz b base s size} (k:z7 ρ H w (.arr xs sz) (.at_ b base s size)) {e:Nat} {x:V} (he:xs[e]? = some x) :
 ∃ u,m7 ρ H x u∧jR x=true∧u.cells.size=s.c ∧ ∀ j v,u.cells.toList[j]? = some v→w.cell? ⟨b,base + e * s.c + j,Option.none⟩=some v:=by
 obtain ⟨rfl,arr,elem,fr,us,hb,_,hv,hj,hs,hc,_⟩:=k;obtain ⟨u,hu,hr⟩:=hv.get he;refine ⟨u,hr,Zx (qjb hj he),hs u (List.mem_of_getElem? hu),fun j v hv'=>?_⟩
 have hjs:j < s.c:=by
  have h1:=hs u (List.mem_of_getElem? hu);have:=(List.getElem?_eq_some_iff.1 hv').1;simp at this;omega
 have:=hc (e * s.c + j) v ((XZ hs hu hjs).trans hv');simp only[World.cell?,hb];rw[show base + e * s.c + j=base + (e * s.c + j) from by omega]
 simpa using this
end Go.Rf

namespace Go.Rf
def zV (ρ:Map) (m:List Loc):Map
 | .b k=>match m[k]? with
   | some l=>ρ l
   | none=>.none
 | .n _ _=>.none
theorem YA:∀ {m:List Loc} {l:Loc} {k:Nat},idx m l=some k→m[k]? = some l
 | [],_,_,e=>by cases e
 | x :: m,l,k,e=>by
   simp only[idx] at e;split at e
   ·rename_i h; cases e; subst h; rfl
   ·simp only[Option.map_eq_some_iff] at e;obtain ⟨k',h1,rfl⟩:=e
    simpa using YA h1
theorem Yz:∀ {m:List Loc} {l:Loc},idx m l=none→l ∉ m
 | [],_,_=>by simp
 | x :: m,l,e=>by
   simp only[idx] at e;split at e
   ·cases e
   ·rename_i h;simp only[Option.map_eq_none_iff] at e;have:=Yz e;simp only[List.mem_cons,not_or];exact ⟨fun h'=>h h'.symm,this⟩
theorem Zp {m m':List Loc} (h:m <+: m') {k:Nat} {l:Loc} (e:m[k]? = some l):m'[k]? = some l:=by
 obtain ⟨t,rfl⟩:=h;rw[List.getElem?_append_left (List.getElem?_eq_some_iff.1 e).1];exact e
theorem vR {al:Loc→Bool} {l:Loc} {m:List Loc}:m <+: (U3 al l m).2∧(m.Nodup→(U3 al l m).2.Nodup) ∧ ∀ k,(U3 al l m).1=some k→(U3 al l m).2[k]? = some l:=by
 unfold U3
 cases al l with
 | false=>exact ⟨List.prefix_refl _,id,fun k h=>by cases h⟩
 | true=>
   simp only[j6]
   cases hi:idx m l with
   | none=>
     simp only[kD];refine ⟨List.prefix_append _ _,fun h=>?_,fun k hk=>?_⟩
     ·rw[List.nodup_append];refine ⟨h,by simp,fun a ha b hb=>?_⟩;simp only[List.mem_singleton] at hb;subst hb
      exact fun he=>Yz hi (he ▸ ha)
     ·cases hk;simp
   | some k=>
     simp only[qP];exact ⟨List.prefix_refl _,id,fun k' hk=>by cases hk; exact YA hi⟩
theorem Xz {ρ:Map} {m:List Loc} {k:Nat} {l:Loc} (h:m[k]? = some l):zV ρ m (.b k) = ρ l:=by simp only[zV,h]
mutual
theorem qbz (al:Loc→Bool):∀ (v:V) (m:List Loc),m <+: (V.ren al v m).2∧(m.Nodup→(V.ren al v m).2.Nodup)∧K7 (V.ren al v m).1=K7 v∧z7.isJunk (V.ren al v m).1=z7.isJunk v ∧
 ∀ (ρ:Map) (H:Ice) (u:Value) (M:List Loc),(V.ren al v m).2 <+: M→m7 ρ H v u→m7 (zV ρ M) H (V.ren al v m).1 u
 | .d x,m=>⟨List.prefix_refl _,id,rfl,rfl,fun _ _ _ _ _ k=>k⟩
 | .ref l sz o n,m=>by
   obtain ⟨h1,h2,h3⟩:=vR (al:=al) (l:=l) (m:=m);simp only[V.ren,named,X6]
   cases hn:(U3 al l m).1 with
   | none=>exact ⟨h1,h2,rfl,rfl,fun ρ H u M _ k=>H0.one (show H0 (ρ l) sz o n u from k)⟩
   | some k'=>
     refine ⟨h1,h2,rfl,rfl,fun ρ H u M hM k=>?_⟩;show H0 (zV ρ M (.b k')) sz o n u;rw[Xz (Zp hM (h3 k' hn))];exact k
 | .ptr l e j,m=>by
   obtain ⟨h1,h2,h3⟩:=vR (al:=al) (l:=l) (m:=m);simp only[V.ren,named,X6]
   cases hn:(U3 al l m).1 with
   | none=>exact ⟨h1,h2,rfl,rfl,fun ρ H u M _ k=>M4.one (show M4 (ρ l) e j u from k)⟩
   | some k'=>
     refine ⟨h1,h2,rfl,rfl,fun ρ H u M hM k=>?_⟩;show M4 (zV ρ M (.b k')) e j u;rw[Xz (Zp hM (h3 k' hn))];exact k
 | .map l,m=>by
   obtain ⟨h1,h2,h3⟩:=vR (al:=al) (l:=l) (m:=m);simp only[V.ren,named,X6]
   cases hn:(U3 al l m).1 with
   | none=>exact ⟨h1,h2,rfl,rfl,fun ρ H u M _ k=>m7.one (x:=.map l) k rfl⟩
   | some k'=>
     refine ⟨h1,h2,rfl,rfl,fun ρ H u M hM k=>?_⟩;show xh (zV ρ M (.b k')) _ u;rw[Xz (Zp hM (h3 k' hn))];exact k
 | .iter l,m=>by
   obtain ⟨h1,h2,h3⟩:=vR (al:=al) (l:=l) (m:=m);simp only[V.ren,named,X6]
   cases hn:(U3 al l m).1 with
   | none=>exact ⟨h1,h2,rfl,rfl,fun ρ H u M _ k=>m7.one (x:=.iter l) k rfl⟩
   | some k'=>
     refine ⟨h1,h2,rfl,rfl,fun ρ H u M hM k=>?_⟩;show xh (zV ρ M (.b k')) _ u;rw[Xz (Zp hM (h3 k' hn))];exact k
 | .agg cs,m=>by
   obtain ⟨h1,h2,h3,_,h4⟩:=wG al cs m;simp only[V.ren,X6];refine ⟨h1,h2,rfl,rfl,fun ρ H u M hM k=>?_⟩;obtain ⟨vs,e,k1,k2⟩:=k;exact ⟨vs,e,h4 ρ H vs M hM k1,by rw[h3]; exact k2⟩
 | .iface t x,m=>by
   obtain ⟨h1,h2,_,_,h4⟩:=qbz al x m;simp only[V.ren,X6];refine ⟨h1,h2,rfl,rfl,fun ρ H u M hM k=>?_⟩;obtain ⟨v,e,k1⟩:=k;exact ⟨v,e,h4 ρ H v M hM k1⟩
 | .fn f cs,m=>by
   obtain ⟨h1,h2,_,_,h4⟩:=wG al cs m;simp only[V.ren,X6];refine ⟨h1,h2,rfl,rfl,fun ρ H u M hM k=>?_⟩;obtain ⟨vs,e,k1⟩:=k;exact ⟨vs,e,h4 ρ H vs M hM k1⟩
 | .tup cs,m=>by
   obtain ⟨h1,h2,_,_,h4⟩:=wG al cs m;simp only[V.ren,X6];refine ⟨h1,h2,rfl,rfl,fun ρ H u M hM k=>?_⟩;obtain ⟨vs,e,k1⟩:=k;exact ⟨vs,e,h4 ρ H vs M hM k1⟩
 | .junk,m=>⟨List.prefix_refl _,id,rfl,rfl,fun _ _ _ _ _ k=>k⟩
theorem wG (al:Loc→Bool):∀ (vs:List V) (m:List Loc),m <+: (qN al vs m).2∧(m.Nodup→(qN al vs m).2.Nodup)∧(qN al vs m).1.any K7=vs.any K7∧(qN al vs m).1.any z7.isJunk=vs.any z7.isJunk ∧
 ∀ (ρ:Map) (H:Ice) (us:List Value) (M:List Loc),(qN al vs m).2 <+: M→f9 ρ H vs us→f9 (zV ρ M) H (qN al vs m).1 us
 | [],m=>⟨List.prefix_refl _,id,rfl,rfl,fun _ _ _ _ _ k=>k⟩
 | v :: vs,m=>by
   obtain ⟨a1,a2,a3,a4,a5⟩:=qbz al v m;obtain ⟨b1,b2,b3,b4,b5⟩:=wG al vs (V.ren al v m).2;simp only[qN,X6];refine ⟨a1.trans b1,fun h=>b2 (a2 h),by simp only[List.any_cons,a3,b3],by simp only[List.any_cons,a4,b4],fun ρ H us M hM k=>?_⟩;obtain ⟨u,us',rfl,k1,k2⟩:=k;exact ⟨u,us',rfl,a5 ρ H u M (b1.trans hM) k1,b5 ρ H us' M hM k2⟩
end
theorem qb0 (al:Loc→Bool):∀ (es:List (D × V)) (m:List Loc),m <+: (jf al es m).2∧(m.Nodup→(jf al es m).2.Nodup) ∧
 ∀ (ρ:Map) (H:Ice) (ents:List MapEntry) (M:List Loc),(jf al es m).2 <+: M→All2 (qeh ρ H) es ents→All2 (qeh (zV ρ M) H) (jf al es m).1 ents
 | [],m=>⟨List.prefix_refl _,id,fun _ _ _ _ _ k=>by cases k; exact .nil⟩
 | (key,v) :: es,m=>by
   obtain ⟨a1,a2,a3,a4,a5⟩:=qbz al v m;obtain ⟨b1,b2,b5⟩:=qb0 al es (V.ren al v m).2;simp only[jf,X6];refine ⟨a1.trans b1,fun h=>b2 (a2 h),fun ρ H ents M hM k=>?_⟩
   cases k with
   | cons k1 k2=>
     obtain ⟨c1,c2,c3⟩:=k1;exact .cons ⟨c1,a5 ρ H _ M (b1.trans hM) c2,by rw[a3]; exact c3⟩ (b5 ρ H _ M hM k2)
theorem qhy (al:Loc→Bool) (o:Obj) (m:List Loc):m <+: (o.ren al m).2∧(m.Nodup→(o.ren al m).2.Nodup) ∧
 ∀ (ρ:Map) (H:Ice) (w:World) (p:Place) (M:List Loc),(o.ren al m).2 <+: M→z7 ρ H w o p→z7 (zV ρ M) H w (o.ren al m).1 p:=by
 cases o with
 | arr xs sz=>
   obtain ⟨a1,a2,a3,a4,a5⟩:=wG al xs m;simp only[Obj.ren,X6];refine ⟨a1,a2,fun ρ H w p M hM k=>?_⟩
   cases p with
   | virt s=>
     obtain ⟨rfl,k2⟩:=k;exact ⟨rfl,k2⟩
   | at_ b base s size=>
     obtain ⟨e,arr,elem,fr,us,h1,h2,h3,h4,h5,h6⟩:=k;exact ⟨e,arr,elem,fr,us,h1,h2,a5 ρ H us M hM h3,by rw[a4]; exact h4,h5,h6⟩
   | _=>exact k.elim
 | map es=>
   obtain ⟨a1,a2,a5⟩:=qb0 al es m;simp only[Obj.ren,X6];refine ⟨a1,a2,fun ρ H w p M hM k=>?_⟩
   cases p with
   | blk r=>
     obtain ⟨ents,clock,h1,h2⟩:=k;exact ⟨ents,clock,h1,a5 ρ H ents M hM h2⟩
   | _=>exact k.elim
 | iter s pos=>exact ⟨List.prefix_refl _,id,fun ρ H w p M _ k=>by cases p <;> exact k⟩
 | lol ls=>exact ⟨List.prefix_refl _,id,fun ρ H w p M _ k=>by cases p <;> exact k⟩
 | dead=>exact ⟨List.prefix_refl _,id,fun ρ H w p M _ k=>by cases p <;> exact k⟩
theorem Wb (h:Loc→Option Obj):∀ (f j:Nat) (m:List Loc) (os:List Obj) (M:List Loc),D1 h f j m=some (os,M)→j≤m.length→
 m <+: M∧(m.Nodup→M.Nodup)∧os.length + j=M.length ∧ ∀ k o',os[k]? = some o'→∃ l,M[j + k]? = some l∧((h l=none∧o' = .dead) ∨ ∃ o,h l=some o ∧
   ∀ (ρ:Map) (H:Ice) (w:World) (p:Place),z7 ρ H w o p→z7 (zV ρ M) H w o' p)
 | 0,j,m,os,M,e,_=>by cases e
 | f + 1,j,m,os,M,e,hj=>by
   simp only[D1] at e
   cases hm:m[j]? with
   | none=>
     rw[hm,kD] at e;cases e;have:=List.getElem?_eq_none_iff.1 hm;exact ⟨List.prefix_refl _,id,by simp; omega,fun k o' hk=>by simp at hk⟩
   | some l=>
     rw[hm,qP] at e;have hlt:=(List.getElem?_eq_some_iff.1 hm).1
     cases hl:h l with
     | none=>
       rw[hl,kD] at e
       obtain ⟨⟨os',M'⟩,e1,e2⟩:=(show ∃ a,D1 h f (j + 1) m=some a∧some (.dead :: a.1,a.2)=some (os,M) from by
        cases hw:D1 h f (j + 1) m with
        | none=>rw[hw] at e; cases e
        | some a=>rw[hw] at e; exact ⟨a,rfl,e⟩)
       cases e2;obtain ⟨a1,a2,a3,a4⟩:=Wb h f (j + 1) m os' M' e1 hlt;refine ⟨a1,a2,by simp; omega,fun k o' hk=>?_⟩
       cases k with
       | zero=>
         simp at hk;subst hk;exact ⟨l,Zp a1 hm,.inl ⟨hl,rfl⟩⟩
       | succ k=>
         obtain ⟨l',b1,b2⟩:=a4 k o' (by simpa using hk);exact ⟨l',by rw[← b1]; congr 1; omega,b2⟩
     | some o=>
       rw[hl,qP] at e;obtain ⟨r1,r2,r3⟩:=qhy (fun l=>(h l).isSome) o m;simp only[X6] at e
       obtain ⟨⟨os',M'⟩,e1,e2⟩:=(show ∃ a,D1 h f (j + 1) (o.ren (fun l=>(h l).isSome) m).2=some a∧some ((o.ren (fun l=>(h l).isSome) m).1 :: a.1,a.2)=some (os,M) from by
        cases hw:D1 h f (j + 1) (o.ren (fun l=>(h l).isSome) m).2 with
        | none=>rw[hw] at e; cases e
        | some a=>rw[hw] at e; exact ⟨a,rfl,e⟩)
       cases e2;have hlen:=r1.length_le;obtain ⟨a1,a2,a3,a4⟩:=Wb h f (j + 1) _ os' M' e1 (by omega);refine ⟨r1.trans a1,fun hn=>a2 (r2 hn),by simp; omega,fun k o' hk=>?_⟩
       cases k with
       | zero=>
         simp at hk;subst hk;exact ⟨l,Zp (r1.trans a1) hm,.inr ⟨o,hl,fun ρ H w p k=>r3 ρ H w p M' a1 k⟩⟩
       | succ k=>
         obtain ⟨l',b1,b2⟩:=a4 k o' (by simpa using hk);exact ⟨l',by rw[← b1]; congr 1; omega,b2⟩
theorem qf0 {m:List Loc} (h:m.Nodup) {i j:Nat} {l:Loc} (h1:m[i]? = some l) (h2:m[j]? = some l):i=j:=by
 obtain ⟨a1,a2⟩:=List.getElem?_eq_some_iff.1 h1;obtain ⟨b1,b2⟩:=List.getElem?_eq_some_iff.1 h2;exact (List.getElem_inj h).1 (a2.trans b2.symm)
theorem XJ {ρ:Map} {H:Ice} {h:Loc→Option Obj} {w:World} {pin:List Loc} {vs vs':List V} {os:List Obj} {M:List Loc} (hH:HRel ρ H h w) (hp:pin.Nodup) (e:XK pin vs h=some (vs',os,M)) :
 HRel (zV ρ M) H (o5 os) w∧(∀ us,f9 ρ H vs us→f9 (zV ρ M) H vs' us)∧pin <+: M∧M.Nodup∧os.length=M.length:=by
 obtain ⟨r1,r2,_,_,r5⟩:=wG (fun l=>(h l).isSome) vs pin;simp only[XK,X6] at e
 obtain ⟨⟨os',M'⟩,e1,e2⟩:=(show ∃ a,D1 h 64 0 (qN (fun l=>(h l).isSome) vs pin).2=some a∧some ((qN (fun l=>(h l).isSome) vs pin).1,a.1,a.2)=some (vs',os,M) from by
  cases hw:D1 h 64 0 (qN (fun l=>(h l).isSome) vs pin).2 with
  | none=>rw[hw] at e; cases e
  | some a=>rw[hw] at e; exact ⟨a,rfl,e⟩)
 cases e2;obtain ⟨a1,a2,a3,a4⟩:=Wb h 64 0 _ os' M' e1 (Nat.zero_le _);have hnd:M'.Nodup:=a2 (r2 hp);refine ⟨⟨hH.ice,?_,?_,?_,?_⟩,fun us k=>r5 ρ H us M' a1 k,r1.trans a1,hnd,by simpa using a3⟩
 ·intro l o ho
  cases l with
  | n i k=>simp[o5] at ho
  | b k=>
    have hk:os'[k]? = some o:=by
     simp only[o5] at ho;split at ho
     ·cases ho
     ·exact ho
    obtain ⟨l,b1,b2⟩:=a4 k o hk;rw[Nat.zero_add] at b1;rw[Xz b1];rcases b2 with ⟨_,rfl⟩ | ⟨o',c1,c2⟩
    ·simp[o5,hk] at ho
    ·exact c2 ρ H w _ (hH.objs l o' c1)
 ·intro l ho
  cases l with
  | n i k=>exact .inl rfl
  | b k=>
    simp only[o5] at ho;split at ho
    ·rename_i hk;obtain ⟨l,b1,b2⟩:=a4 k _ hk;rw[Nat.zero_add] at b1;rw[Xz b1];rcases b2 with ⟨c1,_⟩ | ⟨o',c1,c2⟩
     ·exact hH.gone l c1
     ·exfalso
      have:=c2 ρ H w _ (hH.objs l o' c1)
      cases hp:ρ l <;> rw[hp] at this <;> exact this.elim
    ·have:M'[k]? = none:=by
      rw[List.getElem?_eq_none_iff] at ho ⊢;omega
     left;simp only[zV,this]
 ·intro l l' b h1 h2
  cases l with
  | n i k=>cases h1
  | b k=>
    cases l' with
    | n i k=>cases h2
    | b k'=>
      simp only[zV] at h1 h2;split at h1
      ·rename_i l e1;split at h2
       ·rename_i l' e2;have:=hH.inj l l' b h1 h2;subst this;rw[qf0 hnd e1 e2]
       ·cases h2
      ·cases h1
 ·intro l b h1 o
  cases l with
  | n i k=>cases h1
  | b k=>
    simp only[zV] at h1;split at h1
    ·exact hH.sep _ b h1 o
    ·cases h1
end Go.Rf

namespace Go.Rf
open Classical
noncomputable def jU (ρ:Map) (H:Ice) (w:World) (S:List Loc):Ice:=fun b o=>if ∃ l∈S,(ρ l).has b then w.cell? ⟨b,o,Option.none⟩ else H b o
noncomputable def xS (ρ:Map) (S:List Loc):Map:=fun l=>if l∈S then .dead else ρ l
theorem X2 {ρ:Map} {H:Ice} {h:Loc→Option Obj} {w:World} (hH:HRel ρ H h w) (S:List Loc) :
 HRel (xS ρ S) (jU ρ H w S) (Q7 h S) w∧Trans ρ H w (xS ρ S) (jU ρ H w S) w∧n9 ρ (xS ρ S)∧H.le (jU ρ H w S):=by
 have hle:H.le (jU ρ H w S):=fun b o v e=>by
  unfold jU;split
  ·exact hH.ice b o v e
  ·exact e
 have hst:n9 ρ (xS ρ S):=fun l _=>by
  unfold xS;split
  ·exact .inr rfl
  ·exact .inl rfl
 have blk:∀ l b,(xS ρ S l).has b→l ∉ S∧(ρ l).has b:=fun l b e=>by
  unfold xS at e;split at e
  ·cases e
  ·rename_i h; exact ⟨h,e⟩
 refine ⟨⟨?_,?_,?_,?_,?_⟩,⟨rfl,rfl,rfl,Nat.le_refl _,?_,?_⟩,hst,hle⟩
 ·intro b o v e;unfold jU at e;split at e
  ·exact e
  ·exact hH.ice b o v e
 ·intro l o e;unfold Q7 at e;split at e
  ·cases e
  ·rename_i hn;have:=(hH.objs l o e).mono hst hle (fun _ _=>rfl);unfold xS;rw[if_neg hn];exact this
 ·intro l e;unfold Q7 at e;unfold xS;split at e
  ·rename_i hn; rw[if_pos hn]; exact .inr rfl
  ·rename_i hn; rw[if_neg hn]; exact hH.gone l e
 ·intro l l' b e e';exact hH.inj l l' b (blk l b e).2 (blk l' b e').2
 ·intro l b e o;obtain ⟨hn,e⟩:=blk l b e;unfold jU;rw[if_neg]
  ·exact hH.sep l b e o
  ·rintro ⟨l',h1,h2⟩
   exact hn (hH.inj l l' b e h2 ▸ h1)
 ·intro b _ hn;refine ⟨rfl,fun o=>?_⟩;unfold jU;rw[if_neg]
  rintro ⟨l',_,h2⟩
  exact hn l' h2
 ·intro l b e;exact .inr ⟨l,(blk l b e).2⟩
def q4w (ρ:Map) (H:Ice) (h:Loc→Option Obj) (w:World) (v:V) (x:D) (ms:List Loc):Prop:=
 (∀ l∈ms,∃ o,h l=some o)∧jk x=K7 v ∧ ∀ S:List Loc,(∀ l∈ms,l∈S)→∀ u,m7 ρ H v u→Q6 (jU ρ H w S) x u
theorem YF {ρ:Map} {H:Ice} {h:Loc→Option Obj} {w:World} {f:V→Option (D × List Loc)} (hf:∀ v x ms,f v=some (x,ms)→q4w ρ H h w v x ms) :
 ∀ (vs:List V) (ds:List D) (ms:List Loc),jP f vs=some (ds,ms)→(∀ l∈ms,∃ o,h l=some o)∧ds.any jk=vs.any K7 ∧
   ∀ S:List Loc,(∀ l∈ms,l∈S)→∀ us,f9 ρ H vs us→B1 (jU ρ H w S) ds us
 | [],ds,ms,e=>by cases e; exact ⟨(fun l hl=>(List.not_mem_nil hl).elim),rfl,fun S _ us k=>k⟩
 | v :: vs,ds,ms,e=>by
   simp only[jP] at e;split at e
   ·rename_i x m xs m' e1 e2;cases e;obtain ⟨a1,a2,a3⟩:=hf v x m e1;obtain ⟨b1,b2,b3⟩:=YF hf vs xs m' e2;refine ⟨fun l hl=>?_,by simp only[List.any_cons,a2,b2],fun S hS us k=>?_⟩
    ·rcases List.mem_append.1 hl with h | h
     ·exact a1 l h
     ·exact b1 l h
    ·obtain ⟨u,us',rfl,k1,k2⟩:=k;exact ⟨u,us',rfl,a3 S (fun l hl=>hS l (List.mem_append_left _ hl)) u k1,b3 S (fun l hl=>hS l (List.mem_append_right _ hl)) us' k2⟩
   ·cases e
theorem XY {us:List Value} {n j:Nat} {v:Value} (h:(flat (us.take n))[j]? = some v):(flat us)[j]? = some v:=by
 have:flat us=flat (us.take n)++flat (us.drop n):=by rw[← kG,List.take_append_drop]
 rw[this];have hl:=(List.getElem?_eq_some_iff.1 h).1;rw[List.getElem?_append_left hl];exact h
theorem KC {sz:Nat}:∀ {us:List Value} (n:Nat),(∀ u∈us,u.cells.size=sz)→flat (us.drop n)=(flat us).drop (n * sz)
 | us,0,_=>by simp
 | [],n + 1,_=>by simp[flat]
 | u :: us,n + 1,h=>by
   have hl:u.cells.toList.length=sz:=by simpa using h u (List.mem_cons_self ..)
   rw[List.drop_succ_cons,KC n (fun x hx=>h x (List.mem_cons_of_mem _ hx)),M6,List.drop_append,hl]
   have:(n + 1) * sz - sz=n * sz:=by rw[Nat.add_mul]; omega
   have h0:List.drop ((n + 1) * sz) u.cells.toList=[]:=List.drop_eq_nil_of_le (by rw[hl,Nat.add_mul]; omega);rw[this,h0,List.nil_append]
theorem YB {ρ:Map} {H:Ice} {w:World} {S:List Loc} {l:Loc} {b:Nat} (hl:l∈S) (hb:(ρ l).has b) (o:Nat):jU ρ H w S b o=w.cell? ⟨b,o,Option.none⟩:=by
 unfold jU;rw[if_pos ⟨l,hl,hb⟩]
theorem qk4:∀ {ls:List (Option (List D))} {ds:List D},qh5 ls=some ds→ds.length=ls.length∧ds.any jk=false∧(ds≠[]→wl ds=24) ∧ ∀ (e:Nat) (x:Option (List D)),ls[e]? = some x→∃ xs:List D,x=some xs∧wl xs≤8∧ds[e]? = some (D.sl xs)
 | [],ds,e=>by cases e; simp
 | none :: _,ds,e=>by cases e
 | some xs :: ls,ds,e=>by
   simp only[qh5] at e;split at e
   ·rename_i hw;simp only[Option.map_eq_some_iff] at e;obtain ⟨ds',e1,rfl⟩:=e;obtain ⟨a1,a2,a3,a4⟩:=qk4 e1;refine ⟨by simp[a1],by simp[jk,a2],fun _=>?_,fun i x hi=>?_⟩
    ·by_cases h:ds'=[]
     ·subst h; simp[wl,wt]
     ·simp[wl,wt,a3 h]
    ·cases i with
     | zero=>simp at hi; subst hi; exact ⟨xs,rfl,hw,rfl⟩
     | succ i=>simpa using a4 i x (by simpa using hi)
   ·cases e
theorem B1.of_get {H:Ice}:∀ {ds:List D} {us:List Value},ds.length=us.length→(∀ (e:Nat) d u,ds[e]? = some d→us[e]? = some u→Q6 H d u)→B1 H ds us
 | [],[],_,_=>rfl
 | [],_ :: _,h,_=>by cases h
 | _ :: _,[],h,_=>by cases h
 | d :: ds,u :: us,h,k=>⟨u,us,rfl,k 0 d u rfl rfl,B1.of_get (by simpa using h) fun e d u h1 h2=>k (e + 1) d u (by simpa using h1) (by simpa using h2)⟩
theorem q0i {ρ:Map} {H:Ice} {h:Loc→Option Obj} {w:World} {l:Loc} {ls:List (Option (List D))} {ds:List D} {sz:W} {S:List Loc} {u:Value} (hH:HRel ρ H h w) (hl:h l=some (.lol ls)) (e:qh5 ls=some ds) (hw:24≤sz.w) (hS:l∈S)
 (hu:H0 (ρ l) sz 0 ls.length u):Q6 (jU ρ H w S) (.sl ds) u:=by
 obtain ⟨e1,e2,e3,e4⟩:=qk4 e;have hobj:=hH.objs l _ hl
 cases hp:ρ l with
 | lol b base s size inn=>
   rw[hp] at hobj hu;obtain ⟨_,_,hil,arr,elem,fr,us,hb,hsize,hul,hus,hc,hi⟩:=hobj;obtain ⟨rfl,c,rfl,q1,q2,q3,q4,_⟩:=hu;have hle:H.le (jU ρ H w S):=(X2 hH S).2.2.2;refine ⟨some ⟨b,base + 0 * s.c,Option.none⟩,c,by rw[e1],by omega,?_,fun hne=>⟨b,base + 0 * s.c,s.c,us,rfl,?_,hus,fun j v hj=>?_⟩⟩
   ·by_cases hd:ds=[]
    ·subst hd; simp
    ·rw[e1,e3 hd]; exact Nat.le_trans (Nat.mul_le_mul_left _ hw) q2
   ·refine B1.of_get (by omega) fun i d u hd hu=>?_
    have hlt:=(List.getElem?_eq_some_iff.1 hu).1;have h1:=List.getElem?_eq_getElem (l:=ls) (i:=i) (by omega);have h2:=List.getElem?_eq_getElem (l:=inn) (i:=i) (by omega);have:=hi i _ _ u h1 h2 hu;obtain ⟨xs,g1,g2,g3⟩:=e4 i _ h1;rw[g3] at hd;cases hd;rw[g1] at this
    cases xs with
    | nil=>
      cases hq:inn[i] with
      | none=>rw[hq] at this; exact ⟨Option.none,0,this,Nat.le_refl _,by simp,fun h=>absurd rfl h⟩
      | some q=>rw[hq] at this; exact this.elim
    | cons x xs=>
      cases hq:inn[i] with
      | none=>rw[hq] at this; exact this.elim
      | some q=>
        obtain ⟨b',c',s'⟩:=q;rw[hq] at this h2;obtain ⟨⟨_,cap,rfl,r1,r2,_⟩,arr',elem',fr',us',k1,k2,k3,k4,k5⟩:=this;refine ⟨some ⟨b',c' + 0 * 1,Option.none⟩,cap,rfl,r1,Nat.le_trans (Nat.mul_le_mul_left _ g2) r2,fun _=>⟨b',c' + 0 * 1,1,us',rfl,k3.mono hle,k4,fun j v hj=>?_⟩⟩;rw[YB hS (by rw[hp]; exact .inr ⟨c',s',List.mem_of_getElem? h2⟩)];have:=k5 _ _ hj;simp only[World.cell?,k1]
        simpa using this
   ·rw[YB hS (by rw[hp]; exact .inl rfl)];have:=hc _ _ hj;simp only[World.cell?,hb]
    simpa using this
 | _=>rw[hp] at hobj; exact hobj.elim
theorem vU {ρ:Map} {H:Ice} {h:Loc→Option Obj} {w:World} (hH:HRel ρ H h w):∀ (k:Nat) (v:V) (x:D) (ms:List Loc),frz h k v=some (x,ms)→q4w ρ H h w v x ms
 | k,.d y,x,ms,e=>by
   have:frz h k (.d y)=some (y,[]):=by cases k <;> rfl
   rw[this] at e;cases e;exact ⟨fun l hl=>(List.not_mem_nil hl).elim,rfl,fun S _ u k=>Q6.mono (X2 hH S).2.2.2 _ k⟩
 | 0,.ref ..,_,_,e | 0,.ptr ..,_,_,e | 0,.agg _,_,_,e | 0,.iface ..,_,_,e | 0,.fn ..,_,_,e | 0,.tup _,_,_,e | 0,.map _,_,_,e | 0,.iter _,_,_,e | 0,.junk,_,_,e=>by cases e
 | k + 1,.tup _,_,_,e | k + 1,.iter _,_,_,e | k + 1,.junk,_,_,e=>by cases e
 | k + 1,.map l,x,ms,e=>by
   simp only[frz] at e;split at e
   ·rename_i es hl;cases e;refine ⟨fun l' hl'=>⟨_,List.mem_singleton.1 hl' ▸ hl⟩,rfl,fun S _ u hu=>?_⟩;have hu:xh (ρ l) (fun r=>.map (some r)) u:=hu
    cases hp:ρ l with
    | dead=>rw[hp] at hu; obtain ⟨r,hu⟩:=hu; exact ⟨_,hu⟩
    | blk q=>rw[hp] at hu; exact ⟨_,hu⟩
    | none=>rw[hp] at hu; exact hu.elim
    | virt s=>rw[hp] at hu; exact hu.elim
    | at_ a b c d=>rw[hp] at hu; exact hu.elim
    | lol a b c d e=>rw[hp] at hu; exact hu.elim
   ·cases e
 | k + 1,.agg cs,x,ms,e=>by
   simp only[frz,Option.map_eq_some_iff] at e;obtain ⟨⟨ds,m⟩,e1,e2⟩:=e;cases e2;obtain ⟨a1,a2,a3⟩:=YF (fun v x ms=>vU hH k v x ms) cs ds _ e1;refine ⟨a1,rfl,fun S hS u hu=>?_⟩;obtain ⟨vs,rfl,k1,k2⟩:=hu;exact ⟨vs,rfl,a3 S hS vs k1,by rw[a2]; exact k2⟩
 | k + 1,.iface t v,x,ms,e=>by
   simp only[frz,Option.map_eq_some_iff] at e;obtain ⟨⟨y,m⟩,e1,e2⟩:=e;cases e2;obtain ⟨a1,a2,a3⟩:=vU hH k v y _ e1;refine ⟨a1,rfl,fun S hS u hu=>?_⟩;obtain ⟨u',rfl,k1⟩:=hu;exact ⟨u',rfl,a3 S hS u' k1⟩
 | k + 1,.fn f cs,x,ms,e=>by
   simp only[frz,Option.map_eq_some_iff] at e;obtain ⟨⟨ds,m⟩,e1,e2⟩:=e;cases e2;obtain ⟨a1,a2,a3⟩:=YF (fun v x ms=>vU hH k v x ms) cs ds _ e1;refine ⟨a1,rfl,fun S hS u hu=>?_⟩;obtain ⟨vs,rfl,k1⟩:=hu;exact ⟨vs,rfl,a3 S hS vs k1⟩
 | k + 1,.ref l sz off len,x,ms,e=>by
   simp only[frz] at e;split at e
   ·rename_i xs sz' hl;split at e
    ·rename_i hle;simp only[Option.bind_eq_some_iff] at e;obtain ⟨⟨ds,m⟩,e1,e2⟩:=e;split at e2
     ·rename_i hwl;cases e2;obtain ⟨a1,a2,a3⟩:=YF (fun v x ms=>vU hH k v x ms) _ ds m e1;refine ⟨fun l' hl'=>?_,rfl,fun S hS u hu=>?_⟩
      ·rcases List.mem_cons.1 hl' with rfl | h'
       ·exact ⟨_,hl⟩
       ·exact a1 l' h'
      ·have hobj:=hH.objs l _ hl;have hu:H0 (ρ l) sz off len u:=hu
       cases hp:ρ l with
       | none=>rw[hp] at hu; exact hu.elim
       | dead=>rw[hp] at hobj; exact hobj.elim
       | blk q=>rw[hp] at hu; exact hu.elim
       | lol b base s size inn=>rw[hp] at hobj; exact hobj.elim
       | virt s=>
         rw[hp] at hobj hu;obtain ⟨rfl,_⟩:=hobj;obtain ⟨_,rfl,rfl,rfl⟩:=hu;cases e1;exact ⟨Option.none,0,rfl,Nat.le_refl _,by simp,fun h=>absurd rfl h⟩
       | at_ b base s size=>
         rw[hp] at hobj hu;obtain ⟨rfl,arr,elem,fr,us,hb,hsize,hus,hj,hs,hc,_⟩:=hobj;obtain ⟨rfl,c,rfl,q1,q2,q3,q4,_⟩:=hu;have hr:f9 ρ H ((xs.drop off).take len) ((us.drop off).take len):=(hus.drop off).take len;have hd:=a3 S (fun l' hl'=>hS l' (List.mem_cons_of_mem _ hl')) _ hr
         have hlen:ds.length=len:=by
          rw[hd.length,← hr.length,List.length_take,List.length_drop]; omega
         show Q6 _ (.sl ds) _;refine ⟨some ⟨b,base + off * s.c,Option.none⟩,c,by rw[hlen],by omega,?_,fun _=>⟨b,base + off * s.c,s.c,_,rfl,hd,fun u hu=>hs u (List.mem_of_mem_drop (List.mem_of_mem_take hu)),fun j v hjv=>?_⟩⟩
         ·rw[hlen];exact Nat.le_trans (Nat.mul_le_mul_left _ hwl) q2
         ·rw[YB (hS l (List.mem_cons_self ..)) (by rw[hp]; rfl)];have q:=XY hjv;rw[KC off hs,List.getElem?_drop] at q;have:=hc _ _ q;simp only[World.cell?,hb]
          simpa [Nat.add_assoc] using this
     ·cases e2
    ·cases e
   ·rename_i ls hl;split at e
    ·rename_i hc;obtain ⟨rfl,rfl,hw⟩:=hc;simp only[Option.map_eq_some_iff] at e;obtain ⟨ds,e1,e2⟩:=e;cases e2;refine ⟨fun l' hl'=>⟨_,List.mem_singleton.1 hl' ▸ hl⟩,rfl,fun S hS u hu=>q0i hH hl e1 hw (hS l (List.mem_singleton_self _)) hu⟩
    ·cases e
   ·cases e
 | k + 1,.ptr l e' j,x,ms,e=>by
   simp only[frz] at e;split at e
   ·rename_i xs sz' hl;split at e
    ·rename_i hj0;subst hj0;split at e
     ·rename_i v hv;simp only[Option.map_eq_some_iff] at e;obtain ⟨⟨y,m⟩,e1,e2⟩:=e;cases e2;obtain ⟨a1,a2,a3⟩:=vU hH k v y m e1;refine ⟨fun l' hl'=>?_,rfl,fun S hS u hu=>?_⟩
      ·rcases List.mem_cons.1 hl' with rfl | h'
       ·exact ⟨_,hl⟩
       ·exact a1 l' h'
      ·have hobj:=hH.objs l _ hl;have hu:M4 (ρ l) e' 0 u:=hu
       cases hp:ρ l with
       | none=>rw[hp] at hu; exact hu.elim
       | dead=>rw[hp] at hobj; exact hobj.elim
       | blk q=>rw[hp] at hu; exact hu.elim
       | virt s=>rw[hp] at hu; exact hu.elim
       | lol b base s size inn=>rw[hp] at hobj; exact hobj.elim
       | at_ b base s size=>
         rw[hp] at hobj hu;obtain ⟨u',r1,r2,r3,r4⟩:=qks hobj hv;refine ⟨b,base + e' * s.c,u',hu,a3 S (fun l' hl'=>hS l' (List.mem_cons_of_mem _ hl')) u' r1,fun q v hq=>?_⟩;rw[YB (hS l (List.mem_cons_self ..)) (by rw[hp]; rfl)];exact r4 q v hq
     ·cases e
    ·cases e
   ·cases e
end Go.Rf
