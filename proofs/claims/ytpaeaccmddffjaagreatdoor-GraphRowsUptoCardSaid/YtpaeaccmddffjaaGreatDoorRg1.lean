/- Parts of the proof. -/
import Derived.Test.YtpaeaccmddffjaaGreatDoorRb2
import Derived.WalkKit
import Derived.RangeFuncLeaves
set_option linter.all false
set_option linter.unusedSectionVars false
namespace Go.Rf
abbrev Ice:=Nat→Nat→Option Value
def ZU (H:Ice) (b off:Nat) (vs:List Value):Prop:=∀ i v,vs[i]? = some v→H b (off + i)=some v
def flat (us:List Value):List Value:=us.flatMap fun u=>u.cells.toList
def Y3:D→Bool
 | .agg _=>true
 | _=>false
def one:Value→Bool
 | .agg _ | .tuple _=>false
 | _=>true
def vI (f:FuncId) (us:List Value):Value:=if f < fB then .func (.func f) #[] ⟨us⟩ else .func (.func (f - fB)) ⟨us⟩ #[]
mutual
def I3 (H:Ice):D→Value→Prop
 | .bool b,v=>v = .bool b
 | .int k n,v=>v = .int k n
 | .str s,v=>v = .string ⟨s.toArray⟩∧s.length≤long
 | .agg cs,v=>∃ vs,v = .agg ⟨vs⟩∧p9 H cs vs∧cs.any Y3=false
 | .iface t x,v=>∃ u,v = .iface t u∧I3 H x u
 | .sl xs,v=>∃ a c,v = .slice a xs.length c∧xs.length≤c∧xs.length * wl xs≤w8∧(xs≠[]→∃ b off sz us,a=some ⟨b,off,none⟩∧p9 H xs us∧(∀ u∈us,u.cells.size=sz)∧ZU H b off (flat us))
 | .box x,v=>∃ b off u,v = .pointer (some ⟨b,off,none⟩)∧I3 H x u∧ZU H b off u.cells.toList
 | .fn f cap,v=>∃ us,v=vI f us∧p9 H cap us
 | .nilp,v=>v = .pointer none
 | .nili,v=>v = .nilIface
 | .nilf,v=>v = .nilFunc
 | .nilm,v=>∃ r,v = .map r
 | .nils,v=>v = .slice none 0 0
def p9 (H:Ice):List D→List Value→Prop
 | [],vs=>vs=[]
 | d :: ds,vs=>∃ v vs',vs=v :: vs'∧I3 H d v∧p9 H ds vs'
end
inductive Place where
 | none
 | dead
 | virt (sz:W)
 | at_ (b base:Nat) (sz:W) (size:Nat)
 | blk (r:Nat)
 | gl (b base:Nat) (sz:W) (size:Nat) (inn:Nat→Option (Nat × Nat))
 | grw (b base:Nat) (sz:W) (size n:Nat)
 | out (lp:Nat) (JB:Nat→Prop) (OW:Nat→Nat→Prop) (R:List (List D × Bool)→(Nat→Prop)→(Nat→Nat→Prop)→Ice→World→Prop)
 deriving Inhabited
def Place.has:Place→Nat→Prop
 | .at_ b' _ _ _,b=>b'=b
 | .blk r,b=>r=b
 | .gl b' _ _ _ inn,b=>b'=b ∨ ∃ k lo,inn k=some (b,lo)
 | .grw b' _ _ _ _,b=>b'=b
 | .out _ JB _ _,b=>JB b
 | _,_=>False
def Place.owns:Place→Nat→Nat→Prop
 | .gl b' _ _ _ inn,b,o=>b'=b ∨ ∃ k lo,inn k=some (b,lo)∧lo≤o
 | .grw b' base sz _ n,b,o=>b'=b∧base + n * sz.c≤o
 | .out _ JB OW _,b,o=>JB b∧OW b o
 | p,b,_=>p.has b
def Place.all:Place→Nat→Prop
 | .gl b' _ _ _ _,b=>b'=b
 | .grw _ _ _ _ _,_=>False
 | .out _ _ _ _,_=>False
 | p,b=>p.has b
theorem Place.owns.has {p:Place} {b o:Nat} (h:p.owns b o):p.has b:=by
 cases p with
 | gl b' x y z inn=>exact h.imp id fun ⟨k,lo,h,_⟩=>⟨k,lo,h⟩
 | grw b' x y z n=>exact h.1
 | out lp JB OW R=>exact h.1
 | _=>exact h
theorem Place.all.owns {p:Place} {b:Nat} (h:p.all b) (o:Nat):p.owns b o:=by
 cases p with
 | gl b' x y z inn=>exact .inl h
 | grw b' x y z n=>exact h.elim
 | out lp JB OW R=>exact h.elim
 | _=>exact h
theorem Place.all.has {p:Place} {b:Nat} (h:p.all b):p.has b:=(h.owns 0).has
def Place.core:Place→Place
 | .gl b base sz size _=>.at_ b base sz size
 | .grw b base sz size _=>.at_ b base sz size
 | .out lp _ _ R=>.out lp (fun _=>False) (fun _ _=>False) R
 | p=>p
abbrev Map:=Loc→Place
def J7:V→Bool
 | .d x=>Y3 x
 | .agg _ | .tup _=>true
 | _=>false
def A3 (p:Place) (sz:W) (off len:Nat) (v:Value):Prop:=
 match p with
 | .none=>False
 | .dead=>∃ a c,v = .slice a len c∧len * sz.w≤w8∧len≤c∧(0 < len→∃ q,a=some q)∧len≤w8
 | .virt s=>s=sz∧off=0∧len=0∧v = .slice Option.none 0 0
 | .at_ b base s size=>s=sz ∧ ∃ c,v = .slice (some ⟨b,base + off * sz.c,Option.none⟩) len c∧len≤c∧len * sz.w≤w8∧base + (off + c) * sz.c≤size∧len≤w8∧(1000000≤sz.w→off=0∧base=0∧c * sz.c=size)
 | .blk _=>False
 | .out _ _ _ _=>False
 | .gl b base s size _=>s=sz ∧ ∃ c,v = .slice (some ⟨b,base + off * sz.c,Option.none⟩) len c∧len≤c∧len * sz.w≤w8∧base + (off + c) * sz.c≤size∧len≤w8∧(1000000≤sz.w→off=0∧base=0∧c * sz.c=size)
 | .grw b base s size _=>s=sz ∧ ∃ c,v = .slice (some ⟨b,base + off * sz.c,Option.none⟩) len c∧len≤c∧len * sz.w≤w8∧base + (off + c) * sz.c≤size∧len≤w8∧(1000000≤sz.w→off=0∧base=0∧c * sz.c=size)
def D8 (p:Place) (e j:Nat) (v:Value):Prop:=
 match p with
 | .none=>False
 | .dead=>∃ a,v = .pointer (some a)
 | .virt _=>False
 | .at_ b base s _=>v = .pointer (some ⟨b,base + e * s.c + j,Option.none⟩)
 | .blk _=>False
 | .out _ _ _ _=>False
 | .gl b base s _ _=>v = .pointer (some ⟨b,base + e * s.c + j,Option.none⟩)
 | .grw b base s _ _=>v = .pointer (some ⟨b,base + e * s.c + j,Option.none⟩)
theorem Place.core_none {p:Place} (h:p.core = .none):p = .none:=by cases p <;> first | rfl | cases h
theorem Place.core_gl {p:Place} {a b c d e} (h:p.core = .gl a b c d e):False:=by cases p <;> cases h
theorem Place.core_grw {p:Place} {a b c d e} (h:p.core = .grw a b c d e):False:=by cases p <;> cases h
theorem Place.core_out {p:Place} {lp JB OW R} (h:p.core = .out lp JB OW R):∃ JB' OW',p = .out lp JB' OW' R:=by
 cases p <;> cases h
 exact ⟨_,_,rfl⟩
theorem Place.core_dead {p:Place} (h:p.core = .dead):p = .dead:=by cases p <;> first | rfl | cases h
theorem vm {p sz off len v}:A3 p.core sz off len v=A3 p sz off len v:=by cases p <;> rfl
theorem qek {p e j v}:D8 p.core e j v=D8 p e j v:=by cases p <;> rfl
def QR (p:Place) (f:Nat→Value) (v:Value):Prop:=
 match p with
 | .none=>False
 | .dead=>∃ r,v=f r
 | .blk r=>v=f r
 | _=>False
def jt (p:Place) (v:Value):Prop:=
 match p with
 | .none=>False
 | .dead=>one v=true
 | .blk r=>v = .pointer (some ⟨r,0,Option.none⟩)
 | .out lp _ _ _=>v = .func (.yield lp) #[] #[]
 | _=>False
mutual
def j9 (ρ:Map) (H:Ice):V→Value→Prop
 | .d x,v=>I3 H x v
 | .ref l sz off len,v=>A3 (ρ l) sz off len v
 | .ptr l e j,v=>D8 (ρ l) e j v
 | .agg cs,v=>∃ vs,v = .agg ⟨vs⟩∧f9 ρ H cs vs∧cs.any J7=false
 | .iface t x,v=>∃ u,v = .iface t u∧j9 ρ H x u
 | .fn f cap,v=>∃ us,v=vI f us∧f9 ρ H cap us
 | .tup vs,v=>∃ us,v = .tuple ⟨us⟩∧f9 ρ H vs us
 | .map l,v=>QR (ρ l) (fun r=>.map (some r)) v
 | .iter l,v=>jt (ρ l) v
 | .junk,v=>one v=true
def f9 (ρ:Map) (H:Ice):List V→List Value→Prop
 | [],vs=>vs=[]
 | d :: ds,vs=>∃ v vs',vs=v :: vs'∧j9 ρ H d v∧f9 ρ H ds vs'
end
def q0e:D→Value→Prop
 | .int k n,v=>v = .int k n
 | .str s,v=>v = .string ⟨s.toArray⟩
 | _,_=>False
def qeo (ρ:Map) (H:Ice) (x:D × V) (e:MapEntry):Prop:=q0e x.1 e.key∧j9 ρ H x.2 e.val∧J7 x.2=false
inductive All2 {α β:Type} (R:α→β→Prop):List α→List β→Prop
 | nil:All2 R [] []
 | cons {a b c8 bs}:R a b→All2 R c8 bs→All2 R (a :: c8) (b :: bs)
def kV (H:Ice) (w:World):GC→Option (Nat × Nat)→Value→Prop
 | .d x,none,v=>I3 H x v∧Y3 x=false
 | .g xs,some (b,lo),v=>(I3 H (.sl xs) v∧xs≠[]) ∧ ∃ off c n arr elem fr,v = .slice (some ⟨b,off,Option.none⟩) xs.length c∧xs.length≤c∧lo=off + xs.length * n∧(∀ x∈xs,x.cells.length=n)∧w.heap[b]? = some (.cells arr elem (fr,fr))∧off + c * n≤arr.size
 | _,_,_=>False
class Prg where
 p:Program
variable [Prg]
structure TransJ (JB:Nat→Prop) (H:Ice) (w:World) (JB':Nat→Prop) (H':Ice) (w':World):Prop where
 os:w'.os=w.os∧w'.tape=w.tape∧w'.output=w.output∧w.heap.size≤w'.heap.size
 keep:∀ b,b < w.heap.size→¬ JB b→w'.heap[b]? = w.heap[b]? ∧ ∀ o,H' b o=H b o
 new:∀ b,JB' b→w.heap.size≤b∨JB b
 grows:∀ b o v,H b o=some v→H' b o=some v
def qhk (JB:Nat→Prop) (OW:Nat→Nat→Prop) (H:Ice) (w:World):Prop:=(∀ b o v,H b o=some v→w.cell? ⟨b,o,Option.none⟩=some v) ∧ ∀ b o,JB b→OW b o→H b o=Option.none
structure OutOk (lp:Nat) (R:List (List D × Bool)→(Nat→Prop)→(Nat→Nat→Prop)→Ice→World→Prop):Prop where
 mono:∀ rem JB OW H w H' w',R rem JB OW H w→(∀ b o v,H b o=some v→H' b o=some v)→(∀ b,JB b→w'.heap[b]? = w.heap[b]?)→R rem JB OW H' w'
 lt:∀ rem JB OW H w,R rem JB OW H w→∀ b,JB b→b < w.heap.size
 round:∀ d b rest JB OW H w us,R ((d,b) :: rest) JB OW H w→qhk JB OW H w→p9 H d us→∃ r,w.heap[lp]? = some (.loop r)∧r.params.size=us.length ∧
  RoundIn Fence.wide 0 Prg.p lp r.fn ((r.params.zip ⟨us⟩).foldl (fun tmps (t,a)=>tmps.setIfInBounds t a) r.tmps) r.assign r.body w fun e w'=>e = .returned (.bool b) ∧ ∃ JB' OW' H',R rest JB' OW' H' w'∧qhk JB' OW' H' w'∧TransJ JB H w JB' H' w'
def w5 (ρ:Map) (H:Ice) (w:World):Obj→Place→Prop
 | .arr xs sz,.virt s=>xs=[]∧s=sz
 | .arr xs sz,.at_ b base s size=>s=sz ∧ ∃ arr elem fr us,w.heap[b]? = some (.cells arr elem (fr,fr))∧arr.size=size∧f9 ρ H xs us∧xs.any isJunk=false∧(∀ u∈us,u.cells.size=sz.c)∧(∀ i v,(flat us)[i]? = some v→arr[base + i]? = some v)∧(1000000≤s.w→elem + 1000000=s.w∧fr=0∧base=0∧(s.c≠1→size=s.c))
 | .map es,.blk r=>∃ ents clock,w.heap[r]? = some (.map ⟨ents⟩ clock)∧All2 (qeo ρ H) es ents
 | .iter s pos,.blk r=>w.heap[r]? = some (.stringIter ⟨s.toArray⟩ pos)∧s.length≤long
 | .gl cs sz,.gl b base s size inn=>s=sz∧s.w < 1000000∧(∀ k k' b' lo lo',inn k=some (b',lo)→inn k'=some (b',lo')→k=k')∧(∀ k lo,inn k≠some (b,lo))∧(∀ k,cs.length≤k→inn k=Option.none) ∧
   ∃ arr elem fr,∃ vs:List Value,w.heap[b]? = some (.cells arr elem (fr,fr))∧arr.size=size∧vs.length=cs.length∧(∀ i v,vs[i]? = some v→arr[base + i]? = some v) ∧ ∀ (k:Nat) (c:GC) (v:Value),cs[k]? = some c→vs[k]? = some v→kV H w c (inn k) v
 | .grw xs sz,.grw b base s size n=>s=sz∧s.w < 1000000∧n=xs.length∧wl xs≤s.w∧xs.length * s.w≤w8 ∧
   ∃ arr elem fr us,w.heap[b]? = some (.cells arr elem (fr,fr))∧arr.size=size∧p9 H xs us∧(∀ u∈us,u.cells.size=s.c)∧ZU H b base (flat us)
 | .tr rem,.out lp JB OW R=>R rem JB OW H w∧OutOk lp R
 | _,_=>False
 where
 isJunk:V→Bool
 | .tup _=>true
 | _=>false
structure HRel (ρ:Map) (H:Ice) (h:Loc→Option Obj) (w:World):Prop where
 ice:∀ b o v,H b o=some v→w.cell? ⟨b,o,Option.none⟩=some v
 objs:∀ l o,h l=some o→w5 ρ H w o (ρ l)
 gone:∀ l,h l=Option.none→ρ l = .none ∨ ρ l = .dead
 inj:∀ l l' b,(ρ l).has b→(ρ l').has b→l=l'
 sep:∀ l b o,(ρ l).owns b o→H b o=Option.none
structure Trans (ρ:Map) (H:Ice) (w:World) (ρ':Map) (H':Ice) (w':World):Prop where
 os:w'.os=w.os
 tape:w'.tape=w.tape
 output:w'.output=w.output
 size:w.heap.size≤w'.heap.size
 keep:∀ b,b < w.heap.size→(∀ l,¬ (ρ l).has b)→w'.heap[b]? = w.heap[b]? ∧ ∀ o,H' b o=H b o
 new:∀ l b,(ρ' l).has b→w.heap.size≤b ∨ ∃ l',(ρ l').has b
 grows:∀ b o v,H b o=some v→H' b o=some v
def j4 (ρ ρ':Map):Prop:=∀ l,ρ l ≠ .none→(ρ' l).core=(ρ l).core ∨ ρ' l = .dead
def Ice.le (H H':Ice):Prop:=∀ b o v,H b o=some v→H' b o=some v
theorem ZU.mono {H H':Ice} (h:H.le H') {b off vs} (k:ZU H b off vs):ZU H' b off vs:=fun i v e=>h _ _ _ (k i v e)
mutual
theorem I3.mono {H H':Ice} (h:H.le H'):∀ (d:D) {v:Value},I3 H d v→I3 H' d v
 | .bool _,_,k=>k
 | .int _ _,_,k=>k
 | .str _,_,k=>k
 | .agg cs,_,k=>by
   obtain ⟨vs,e,k,n⟩:=k;exact ⟨vs,e,p9.mono h cs k,n⟩
 | .iface t x,_,k=>by
   obtain ⟨u,e,k⟩:=k;exact ⟨u,e,I3.mono h x k⟩
 | .sl xs,_,k=>by
   obtain ⟨a,c,e,hc,hl,k⟩:=k;refine ⟨a,c,e,hc,hl,fun hx=>?_⟩;obtain ⟨b,off,sz,us,ea,k,hs,hcell⟩:=k hx;exact ⟨b,off,sz,us,ea,p9.mono h xs k,hs,hcell.mono h⟩
 | .box x,_,k=>by
   obtain ⟨b,off,u,e,k,hc⟩:=k;exact ⟨b,off,u,e,I3.mono h x k,hc.mono h⟩
 | .fn f cap,_,k=>by
   obtain ⟨us,e,k⟩:=k;exact ⟨us,e,p9.mono h cap k⟩
 | .nilp,_,k=>k
 | .nili,_,k=>k
 | .nilf,_,k=>k
 | .nilm,_,k=>k
 | .nils,_,k=>k
theorem p9.mono {H H':Ice} (h:H.le H'):∀ (ds:List D) {vs:List Value},p9 H ds vs→p9 H' ds vs
 | [],_,k=>k
 | d :: ds,_,k=>by
   obtain ⟨v,vs',e,k1,k2⟩:=k;exact ⟨v,vs',e,I3.mono h d k1,p9.mono h ds k2⟩
end
theorem A3.toDead {p:Place} {sz off len v} (k:A3 p sz off len v):A3 .dead sz off len v:=by
 cases p with
 | none=>exact k.elim
 | dead=>exact k
 | virt s=>obtain ⟨_,_,rfl,rfl⟩:=k; exact ⟨_,_,rfl,by simp,Nat.le_refl _,(fun h=>by cases h),Nat.zero_le _⟩
 | at_ b base s size=>obtain ⟨rfl,c,rfl,h1,h2,_,h3,_⟩:=k; exact ⟨_,_,rfl,h2,h1,fun _=>⟨_,rfl⟩,h3⟩
 | gl b base s size inn=>obtain ⟨rfl,c,rfl,h1,h2,_,h3,_⟩:=k; exact ⟨_,_,rfl,h2,h1,fun _=>⟨_,rfl⟩,h3⟩
 | grw b base s size n=>obtain ⟨rfl,c,rfl,h1,h2,_,h3,_⟩:=k; exact ⟨_,_,rfl,h2,h1,fun _=>⟨_,rfl⟩,h3⟩
 | blk r=>exact k.elim
 | out _ _ _ _=>exact k.elim
theorem A3.stays {p p':Place} {sz off len v} (h:p ≠ .none→p'.core=p.core∨p' = .dead) (k:A3 p sz off len v):A3 p' sz off len v:=by
 rcases h (fun e=>by subst e; exact k) with e | e
 ·rw[← vm,e,vm]; exact k
 ·subst e; exact k.toDead
theorem D8.stays {p p':Place} {e j v} (h:p ≠ .none→p'.core=p.core∨p' = .dead) (k:D8 p e j v):D8 p' e j v:=by
 rcases h (fun e=>by subst e; exact k) with e | e
 ·rw[← qek,e,qek]; exact k
 ·subst e
  cases p <;> first | exact k.elim | exact k | exact ⟨_,k⟩
theorem QR.stays {p p':Place} {f v} (h:p ≠ .none→p'.core=p.core∨p' = .dead) (k:QR p f v):QR p' f v:=by
 rcases h (fun e=>by subst e; exact k) with e | e
 ·cases p with
  | dead=>
    have:p' = .dead:=by cases p' <;> first | rfl | cases e
    subst this; exact k
  | blk r=>
    have:p' = .blk r:=by cases p' <;> first | exact e | cases e
    subst this; exact k
  | _=>exact k.elim
 ·subst e
  cases p <;> first | exact k.elim | exact k | exact ⟨_,k⟩
theorem jt.stays {p p':Place} {v} (h:p ≠ .none→p'.core=p.core∨p' = .dead) (k:jt p v):jt p' v:=by
 rcases h (fun e=>by subst e; exact k) with e | e
 ·cases p with
  | dead=>
    have:p' = .dead:=by cases p' <;> first | rfl | cases e
    subst this; exact k
  | blk r=>
    have:p' = .blk r:=by cases p' <;> first | exact e | cases e
    subst this; exact k
  | out lp JB OW R=>
    obtain ⟨JB',OW',rfl⟩:=Place.core_out e;exact k
  | _=>exact k.elim
 ·subst e
  cases p <;> first | exact k.elim | exact k | (have k:=k; unfold jt at k ⊢; subst k; rfl)
mutual
theorem j9.mono {ρ ρ':Map} {H H':Ice} (hs:j4 ρ ρ') (h:H.le H'):∀ (x:V) {v:Value},j9 ρ H x v→j9 ρ' H' x v
 | .d x,_,k=>I3.mono h x k
 | .ref l _ _ _,_,k=>A3.stays (hs l) k
 | .ptr l _ _,_,k=>D8.stays (hs l) k
 | .agg cs,_,k=>by
   obtain ⟨vs,e,k,n⟩:=k;exact ⟨vs,e,f9.mono hs h cs k,n⟩
 | .iface t x,_,k=>by
   obtain ⟨u,e,k⟩:=k;exact ⟨u,e,j9.mono hs h x k⟩
 | .fn f cap,_,k=>by
   obtain ⟨us,e,k⟩:=k;exact ⟨us,e,f9.mono hs h cap k⟩
 | .tup cs,_,k=>by
   obtain ⟨vs,e,k⟩:=k;exact ⟨vs,e,f9.mono hs h cs k⟩
 | .map l,_,k=>QR.stays (hs l) k
 | .iter l,_,k=>jt.stays (hs l) k
 | .junk,_,k=>k
theorem f9.mono {ρ ρ':Map} {H H':Ice} (hs:j4 ρ ρ') (h:H.le H'):∀ (xs:List V) {vs:List Value},f9 ρ H xs vs→f9 ρ' H' xs vs
 | [],_,k=>k
 | x :: xs,_,k=>by
   obtain ⟨v,vs',e,k1,k2⟩:=k;exact ⟨v,vs',e,j9.mono hs h x k1,f9.mono hs h xs k2⟩
end
theorem p9.length {H:Ice}:∀ {ds:List D} {vs:List Value},p9 H ds vs→ds.length=vs.length
 | [],_,k=>by cases k; rfl
 | _ :: _,_,k=>by obtain ⟨_,_,rfl,_,k⟩:=k; simp[k.length]
theorem f9.length {ρ:Map} {H:Ice}:∀ {ds:List V} {vs:List Value},f9 ρ H ds vs→ds.length=vs.length
 | [],_,k=>by cases k; rfl
 | _ :: _,_,k=>by obtain ⟨_,_,rfl,_,k⟩:=k; simp[k.length]
theorem p9.toV {ρ:Map} {H:Ice}:∀ {ds:List D} {vs:List Value},p9 H ds vs→f9 ρ H (ds.map .d) vs
 | [],_,k=>k
 | _ :: _,_,k=>by obtain ⟨v,vs',rfl,k1,k2⟩:=k; exact ⟨v,vs',rfl,k1,k2.toV⟩
theorem f9.toD {ρ:Map} {H:Ice}:∀ {ds:List D} {vs:List Value},f9 ρ H (ds.map .d) vs→p9 H ds vs
 | [],_,k=>k
 | _ :: _,_,k=>by obtain ⟨v,vs',rfl,k1,k2⟩:=k; exact ⟨v,vs',rfl,k1,f9.toD k2⟩
theorem f9.get {ρ:Map} {H:Ice}:∀ {xs:List V} {vs:List Value} {i:Nat} {x:V},f9 ρ H xs vs→xs[i]? = some x→∃ v,vs[i]? = some v∧j9 ρ H x v
 | _ :: _,_,0,_,k,e=>by
   obtain ⟨v,vs',rfl,k1,k2⟩:=k;simp at e; subst e;exact ⟨v,rfl,k1⟩
 | _ :: _,_,i + 1,_,k,e=>by
   obtain ⟨v,vs',rfl,k1,k2⟩:=k
   simpa using k2.get (i:=i) (by simpa using e)
theorem p9.get {H:Ice}:∀ {xs:List D} {vs:List Value} {i:Nat} {x:D},p9 H xs vs→xs[i]? = some x→∃ v,vs[i]? = some v∧I3 H x v
 | _ :: _,_,0,_,k,e=>by
   obtain ⟨v,vs',rfl,k1,k2⟩:=k;simp at e; subst e;exact ⟨v,rfl,k1⟩
 | _ :: _,_,i + 1,_,k,e=>by
   obtain ⟨v,vs',rfl,k1,k2⟩:=k
   simpa using k2.get (i:=i) (by simpa using e)
theorem f9.drop {ρ:Map} {H:Ice}:∀ (n:Nat) {xs:List V} {vs:List Value},f9 ρ H xs vs→f9 ρ H (xs.drop n) (vs.drop n)
 | 0,_,_,k=>k
 | n + 1,[],_,k=>by cases k; exact rfl
 | n + 1,_ :: _,_,k=>by obtain ⟨v,vs',rfl,k1,k2⟩:=k; exact k2.drop n
theorem f9.take {ρ:Map} {H:Ice}:∀ (n:Nat) {xs:List V} {vs:List Value},f9 ρ H xs vs→f9 ρ H (xs.take n) (vs.take n)
 | 0,_,_,_=>rfl
 | n + 1,[],_,k=>by cases k; exact rfl
 | n + 1,_ :: _,_,k=>by obtain ⟨v,vs',rfl,k1,k2⟩:=k; exact ⟨v,vs'.take n,rfl,k1,k2.take n⟩
theorem p9.drop {H:Ice}:∀ (n:Nat) {xs:List D} {vs:List Value},p9 H xs vs→p9 H (xs.drop n) (vs.drop n)
 | 0,_,_,k=>k
 | n + 1,[],_,k=>by cases k; exact rfl
 | n + 1,_ :: _,_,k=>by obtain ⟨v,vs',rfl,k1,k2⟩:=k; exact k2.drop n
theorem p9.take {H:Ice}:∀ (n:Nat) {xs:List D} {vs:List Value},p9 H xs vs→p9 H (xs.take n) (vs.take n)
 | 0,_,_,_=>rfl
 | n + 1,[],_,k=>by cases k; exact rfl
 | n + 1,_ :: _,_,k=>by obtain ⟨v,vs',rfl,k1,k2⟩:=k; exact ⟨v,vs'.take n,rfl,k1,k2.take n⟩
theorem f9.append {ρ:Map} {H:Ice}:∀ {xs ys:List V} {vs us:List Value},f9 ρ H xs vs→f9 ρ H ys us→f9 ρ H (xs++ys) (vs++us)
 | [],_,_,_,k,k'=>by cases k; exact k'
 | _ :: _,_,_,_,k,k'=>by obtain ⟨v,vs',rfl,k1,k2⟩:=k; exact ⟨v,vs'++_,rfl,k1,k2.append k'⟩
theorem f9.set {ρ:Map} {H:Ice}:∀ {xs:List V} {vs:List Value} (i:Nat) {x:V} {v:Value},f9 ρ H xs vs→j9 ρ H x v→f9 ρ H (xs.set i x) (vs.set i v)
 | [],_,_,_,_,k,_=>by cases k; exact rfl
 | _ :: _,_,0,_,v,k,h=>by obtain ⟨u,vs',rfl,k1,k2⟩:=k; exact ⟨v,vs',rfl,h,k2⟩
 | _ :: _,_,i + 1,_,v,k,h=>by obtain ⟨u,vs',rfl,k1,k2⟩:=k; exact ⟨u,vs'.set i v,rfl,k1,k2.set i h⟩
theorem HRel.lt {ρ H h w} (k:HRel ρ H h w) {l:Loc} {b:Nat} (e:(ρ l).has b):b < w.heap.size:=by
 cases ho:h l with
 | none=>
   rcases k.gone l ho with e' | e' <;> rw[e'] at e <;> cases e
 | some o=>
   have hr:=k.objs l o ho
   cases hp:ρ l with
   | none=>rw[hp] at e; cases e
   | dead=>rw[hp] at e; cases e
   | virt s=>rw[hp] at e; cases e
   | gl b' base s size inn=>
     rw[hp] at e hr
     cases o with
     | gl cs sz=>
       obtain ⟨_,_,_,_,hin,arr,elem,fr,vs,hb,_,hl,_,hc⟩:=hr;rcases e with rfl | ⟨k,lo,hk⟩
       ·exact (Array.getElem?_eq_some_iff.1 hb).1
       ·have hlt:k < cs.length:=Nat.lt_of_not_le fun h=>by rw[hin k h] at hk; cases hk
        have:=hc k _ _ (List.getElem?_eq_getElem hlt) (List.getElem?_eq_getElem (by omega));rw[hk] at this
        cases hq:cs[k] with
        | d x=>rw[hq] at this; exact this.elim
        | g xs=>rw[hq] at this; obtain ⟨_,_,_,_,_,_,_,_,_,_,_,hb',_⟩:=this; exact (Array.getElem?_eq_some_iff.1 hb').1
     | _=>exact hr.elim
   | grw b' base s size n=>
     rw[hp] at e hr;have e:b'=b:=e;subst e
     cases o with
     | grw xs sz=>
       obtain ⟨_,_,_,_,_,arr,elem,fr,us,hb,_⟩:=hr;exact (Array.getElem?_eq_some_iff.1 hb).1
     | _=>exact hr.elim
   | at_ b' base s size=>
     rw[hp] at e hr;have e:b'=b:=e;subst e
     cases o with
     | arr xs sz=>
       obtain ⟨_,arr,elem,fr,us,hb,_⟩:=hr;exact (Array.getElem?_eq_some_iff.1 hb).1
     | _=>exact hr.elim
   | blk r=>
     rw[hp] at e hr;have e:r=b:=e;subst e
     cases o with
     | map es=>
       obtain ⟨_,_,hb,_⟩:=hr;exact (Array.getElem?_eq_some_iff.1 hb).1
     | iter s pos=>exact (Array.getElem?_eq_some_iff.1 hr.1).1
     | _=>exact hr.elim
   | out lp JB OW R=>
     rw[hp] at e hr
     cases o with
     | tr rem=>exact hr.2.lt _ _ _ _ _ hr.1 b e
     | _=>exact hr.elim
theorem HRel.iceLt {ρ H h w} (k:HRel ρ H h w) {b o:Nat} {v:Value} (e:H b o=some v):b < w.heap.size:=by
 have:=k.ice b o v e;exact World.block_lt_of_cell? w _ this
theorem Trans.le {ρ H h w ρ' H' w'} (k:HRel ρ H h w) (t:Trans ρ H w ρ' H' w'):H.le H':=t.grows
theorem HRel.sepA {ρ H h w} (k:HRel ρ H h w) (l:Loc) (b:Nat) (e:(ρ l).all b) (o:Nat):H b o=Option.none:=k.sep l b o (e.owns o)
theorem Trans.refl (ρ H w):Trans ρ H w ρ H w:=⟨rfl,rfl,rfl,Nat.le_refl _,fun _ _ _=>⟨rfl,fun _=>rfl⟩,fun l _ h=>.inr ⟨l,h⟩,fun _ _ _ e=>e⟩
theorem Trans.trans {ρ H w ρ1 H1 w1 ρ2 H2 w2} (t:Trans ρ H w ρ1 H1 w1) (u:Trans ρ1 H1 w1 ρ2 H2 w2):Trans ρ H w ρ2 H2 w2 where
 os:=u.os.trans t.os
 tape:=u.tape.trans t.tape
 output:=u.output.trans t.output
 size:=Nat.le_trans t.size u.size
 keep:=fun b hb hn=>by
  have h1:=t.keep b hb hn
  have h2:=u.keep b (Nat.lt_of_lt_of_le hb t.size) (fun l hl=>by
   rcases t.new l b hl with h | ⟨l',h⟩
   ·omega
   ·exact hn l' h)
  exact ⟨h2.1.trans h1.1,fun o=>(h2.2 o).trans (h1.2 o)⟩
 new:=fun l b h=>by
  rcases u.new l b h with h | ⟨l',h⟩
  ·exact .inl (Nat.le_trans t.size h)
  ·exact t.new l' b h
 grows:=fun b o v e=>u.grows b o v (t.grows b o v e)
theorem j4.refl (ρ):j4 ρ ρ:=fun _ _=>.inl rfl
theorem j4.trans {ρ ρ1 ρ2} (h:j4 ρ ρ1) (k:j4 ρ1 ρ2):j4 ρ ρ2:=fun l hl=>by
 rcases h l hl with e | e
 ·rcases k l (fun h=>hl (Place.core_none (by rw[← e,h]; rfl))) with e' | e'
  ·exact .inl (e'.trans e)
  ·exact .inr e'
 ·rcases k l (by rw[e]; simp) with e' | e'
  ·exact .inr (Place.core_dead (by rw[e',e]; rfl))
  ·exact .inr e'
end Go.Rf

set_option linter.unusedSectionVars false
namespace Go.Rf
variable [Prg]
def B5 (ρ:Map) (l:Loc) (p:Place):Map:=fun l'=>if l'=l then p else ρ l'
def F5 (h:Loc→Option Obj) (l:Loc) (o:Option Obj):Loc→Option Obj:=fun l'=>if l'=l then o else h l'
theorem Jg (h l o ws):j8 h ((l,o) :: ws)=j8 (F5 h l o) ws:=rfl
@[simp] theorem m7 (ρ l p):B5 ρ l p l=p:=by simp[B5]
@[simp] theorem n6 {ρ l p l'} (h:l'≠l):B5 ρ l p l' = ρ l':=by simp[B5,h]
@[simp] theorem m9 (ρ l p):F5 ρ l p l=p:=by simp[F5]
@[simp] theorem I4 {ρ l p l'} (h:l'≠l):F5 ρ l p l' = ρ l':=by simp[F5,h]
theorem All2.mono {α β:Type} {R S:α→β→Prop} (h:∀ a b,R a b→S a b):∀ {c8 bs},All2 R c8 bs→All2 S c8 bs
 | _,_,.nil=>.nil
 | _,_,.cons x k=>.cons (h _ _ x) (k.mono h)
theorem w5.mono {ρ ρ':Map} {H H':Ice} {w w':World} {o:Obj} {p:Place} (k:w5 ρ H w o p) (hs:j4 ρ ρ') (hl:H.le H')
 (hb:∀ b,p.has b→w'.heap[b]? = w.heap[b]?):w5 ρ' H' w' o p:=by
 cases o with
 | arr xs sz=>
   cases p with
   | virt s=>exact k
   | at_ b base s size=>
     obtain ⟨e,arr,elem,fr,us,h1,h2,h3,h4,h5,h6⟩:=k;exact ⟨e,arr,elem,fr,us,(hb b rfl).trans h1,h2,h3.mono hs hl,h4,h5,h6⟩
   | _=>exact k.elim
 | map es=>
   cases p with
   | blk r=>
     obtain ⟨ents,clock,h1,h2⟩:=k;exact ⟨ents,clock,(hb r rfl).trans h1,h2.mono fun a b ⟨x,y,z⟩=>⟨x,y.mono hs hl,z⟩⟩
   | _=>exact k.elim
 | iter s pos=>
   cases p with
   | blk r=>exact ⟨(hb r rfl).trans k.1,k.2⟩
   | _=>exact k.elim
 | gl cs sz=>
   cases p with
   | gl b base s size inn=>
     obtain ⟨h1,h2,h3,h4,h5,arr,elem,fr,vs,h6,h7,h8,h9,h10⟩:=k;refine ⟨h1,h2,h3,h4,h5,arr,elem,fr,vs,(hb b (.inl rfl)).trans h6,h7,h8,h9,fun k c v hc hv=>?_⟩;have:=h10 k c v hc hv
     cases hq:inn k with
     | none=>rw[hq] at this; cases c with
       | d x=>exact ⟨this.1.mono hl,this.2⟩
       | g xs=>exact this.elim
     | some q=>
       obtain ⟨b',lo⟩:=q
       rw[hq] at this; cases c with
       | d x=>exact this.elim
       | g xs=>
         obtain ⟨g1,off,c',n,arr',elem',fr',g2,g3,g4,g5,g6,g7⟩:=this;exact ⟨⟨g1.1.mono hl,g1.2⟩,off,c',n,arr',elem',fr',g2,g3,g4,g5,(hb b' (.inr ⟨k,lo,hq⟩)).trans g6,g7⟩
   | _=>exact k.elim
 | grw xs sz=>
   cases p with
   | grw b base s size n=>
     obtain ⟨h1,h2,h3,h4,h5,arr,elem,fr,us,h6,h7,h8,h9,h10⟩:=k;exact ⟨h1,h2,h3,h4,h5,arr,elem,fr,us,(hb b rfl).trans h6,h7,h8.mono hl,h9,h10.mono hl⟩
   | _=>exact k.elim
 | tr rem=>
   cases p with
   | out lp JB OW R=>exact ⟨k.2.mono _ _ _ _ _ _ _ k.1 hl hb,k.2⟩
   | _=>exact k.elim
 | dead=>cases p <;> exact k.elim
theorem j4.upd {ρ:Map} {l:Loc} (p:Place) (h:ρ l = .none∨p = .dead):j4 ρ (B5 ρ l p):=fun l' hl'=>by
 by_cases e:l'=l
 ·subst e;rcases h with h | h
  ·exact absurd h hl'
  ·right; simp[h]
 ·left; simp[e]
theorem HRel.drawn {ρ H h w} (k:HRel ρ H h w) (n:Nat):HRel ρ H h { w with drawn:=n } where
 ice:=fun b o v e=>k.ice b o v e
 objs:=fun l o e=>(k.objs l o e).mono (j4.refl _) (fun _ _ _ e=>e) (fun _ _=>rfl)
 gone:=k.gone
 inj:=k.inj
 sep:=k.sep
theorem Trans.drawn (ρ H w) (n:Nat):Trans ρ H w ρ H { w with drawn:=n }:=⟨rfl,rfl,rfl,Nat.le_refl _,fun _ _ _=>⟨rfl,fun _=>rfl⟩,fun l _ h=>.inr ⟨l,h⟩,fun _ _ _ e=>e⟩
theorem HRel.push {ρ H h w} (k:HRel ρ H h w) {l:Loc} (hl:ρ l = .none) (o:Obj) (b:Go.Obj) (p:Place) (hp:∀ b',p.has b'→b'=w.heap.size)
 (ho:w5 (B5 ρ l p) H { w with heap:=w.heap.push b } o p) :
 HRel (B5 ρ l p) H (F5 h l (some o)) { w with heap:=w.heap.push b } ∧ Trans ρ H w (B5 ρ l p) H { w with heap:=w.heap.push b } ∧ j4 ρ (B5 ρ l p):=by
 have hst:j4 ρ (B5 ρ l p):=j4.upd p (.inl hl)
 have old:∀ i,i < w.heap.size→(w.heap.push b)[i]? = w.heap[i]?:=fun i hi=>by rw[Array.getElem?_push,if_neg (by omega)]
 refine ⟨⟨?_,?_,?_,?_,?_⟩,⟨rfl,rfl,rfl,by simp,?_,?_,fun _ _ _ e=>e⟩,hst⟩
 ·intro b' o' v e;have hlt:=k.iceLt e;have:=k.ice b' o' v e;exact (World.cell?_of_block (w:=w) (a:=⟨b',o',Option.none⟩) (w':={ w with heap:=w.heap.push b }) (old b' hlt)).trans this
 ·intro l' o' e
  by_cases hh:l'=l
  ·subst hh;rw[m9] at e
   injection e with e
   subst e;rw[m7];exact ho
  ·rw[I4 hh] at e;rw[n6 hh];exact (k.objs l' o' e).mono hst (fun _ _ _ e=>e) (fun b' hb'=>old b' (k.lt hb'))
 ·intro l' e
  by_cases hh:l'=l
  ·subst hh; rw[m9] at e; cases e
  ·rw[I4 hh] at e; rw[n6 hh]; exact k.gone l' e
 ·intro l1 l2 b' e1 e2
  by_cases h1:l1=l <;> by_cases h2:l2=l
  ·rw[h1,h2]
  ·rw[h1,m7] at e1;rw[n6 h2] at e2
   replace e1:=hp _ e1
   have:=k.lt e2;omega
  ·rw[h2,m7] at e2;rw[n6 h1] at e1
   replace e2:=hp _ e2
   have:=k.lt e1;omega
  ·rw[n6 h1] at e1; rw[n6 h2] at e2; exact k.inj l1 l2 b' e1 e2
 ·intro l1 b' o' e1
  by_cases h1:l1=l
  ·rw[h1,m7] at e1
   replace e1:=hp _ e1.has
   cases he:H b' o' with
   | none=>rfl
   | some v=>have:=k.iceLt he; omega
  ·rw[n6 h1] at e1; exact k.sep l1 b' o' e1
 ·intro b' hb' _;exact ⟨old b' hb',fun _=>rfl⟩
 ·intro l1 b' e1
  by_cases h1:l1=l
  ·rw[h1,m7] at e1
   replace e1:=hp _ e1
   exact .inl (by omega)
  ·rw[n6 h1] at e1; exact .inr ⟨l1,e1⟩
theorem HRel.virt {ρ H h w} (k:HRel ρ H h w) {l:Loc} (hl:ρ l = .none) (sz:W) :
 HRel (B5 ρ l (.virt sz)) H (F5 h l (some (.arr [] sz))) w∧Trans ρ H w (B5 ρ l (.virt sz)) H w∧j4 ρ (B5 ρ l (.virt sz)):=by
 have hst:j4 ρ (B5 ρ l (.virt sz)):=j4.upd _ (.inl hl);refine ⟨⟨k.ice,?_,?_,?_,?_⟩,⟨rfl,rfl,rfl,Nat.le_refl _,fun _ _ _=>⟨rfl,fun _=>rfl⟩,?_,fun _ _ _ e=>e⟩,hst⟩
 ·intro l' o' e
  by_cases hh:l'=l
  ·subst hh;rw[m9] at e
   injection e with e
   subst e;rw[m7];exact ⟨rfl,rfl⟩
  ·rw[I4 hh] at e;rw[n6 hh];exact (k.objs l' o' e).mono hst (fun _ _ _ e=>e) (fun _ _=>rfl)
 ·intro l' e
  by_cases hh:l'=l
  ·subst hh; rw[m9] at e; cases e
  ·rw[I4 hh] at e; rw[n6 hh]; exact k.gone l' e
 ·intro l1 l2 b' e1 e2
  have h1:l1≠l:=fun h=>by rw[h,m7] at e1; cases e1
  have h2:l2≠l:=fun h=>by rw[h,m7] at e2; cases e2
  rw[n6 h1] at e1; rw[n6 h2] at e2; exact k.inj l1 l2 b' e1 e2
 ·intro l1 b' o' e1
  have h1:l1≠l:=fun h=>by rw[h,m7] at e1; cases e1
  rw[n6 h1] at e1; exact k.sep l1 b' o' e1
 ·intro l1 b' e1
  have h1:l1≠l:=fun h=>by rw[h,m7] at e1; cases e1
  rw[n6 h1] at e1; exact .inr ⟨l1,e1⟩
theorem HRel.kill {ρ H h w} (k:HRel ρ H h w) (l:Loc) :
 HRel (B5 ρ l .dead) H (F5 h l none) w∧Trans ρ H w (B5 ρ l .dead) H w∧j4 ρ (B5 ρ l .dead):=by
 have hst:j4 ρ (B5 ρ l .dead):=j4.upd _ (.inr rfl);refine ⟨⟨k.ice,?_,?_,?_,?_⟩,⟨rfl,rfl,rfl,Nat.le_refl _,fun _ _ _=>⟨rfl,fun _=>rfl⟩,?_,fun _ _ _ e=>e⟩,hst⟩
 ·intro l' o' e
  by_cases hh:l'=l
  ·subst hh; rw[m9] at e; cases e
  ·rw[I4 hh] at e;rw[n6 hh];exact (k.objs l' o' e).mono hst (fun _ _ _ e=>e) (fun _ _=>rfl)
 ·intro l' e
  by_cases hh:l'=l
  ·subst hh; right; simp
  ·rw[I4 hh] at e; rw[n6 hh]; exact k.gone l' e
 ·intro l1 l2 b' e1 e2
  have h1:l1≠l:=fun h=>by rw[h,m7] at e1; cases e1
  have h2:l2≠l:=fun h=>by rw[h,m7] at e2; cases e2
  rw[n6 h1] at e1; rw[n6 h2] at e2; exact k.inj l1 l2 b' e1 e2
 ·intro l1 b' o' e1
  have h1:l1≠l:=fun h=>by rw[h,m7] at e1; cases e1
  rw[n6 h1] at e1; exact k.sep l1 b' o' e1
 ·intro l1 b' e1
  have h1:l1≠l:=fun h=>by rw[h,m7] at e1; cases e1
  rw[n6 h1] at e1; exact .inr ⟨l1,e1⟩
theorem HRel.write {ρ H h w w'} (k:HRel ρ H h w) {l:Loc} {b:Nat} (ha:(ρ l).all b) (o:Obj)
 (hw:w'.os=w.os∧w'.tape=w.tape∧w'.output=w.output∧w'.heap.size=w.heap.size) (hk:∀ i,i≠b→w'.heap[i]? = w.heap[i]?)
 (ho:w5 ρ H w' o (ρ l)):HRel ρ H (F5 h l (some o)) w'∧Trans ρ H w ρ H w':=by
 have hb:=ha.has;refine ⟨⟨?_,?_,?_,k.inj,k.sep⟩,⟨hw.1,hw.2.1,hw.2.2.1,by omega,?_,fun l b h=>.inr ⟨l,h⟩,fun _ _ _ e=>e⟩⟩
 ·intro b' o' v e
  have hne:b'≠b:=fun h=>by rw[h,k.sepA l b ha o'] at e; cases e
  exact (World.cell?_of_block (w:=w) (a:=⟨b',o',Option.none⟩) (w':=w') (hk b' hne)).trans (k.ice b' o' v e)
 ·intro l' o' e
  by_cases hh:l'=l
  ·subst hh;rw[m9] at e
   injection e with e
   subst e;exact ho
  ·rw[I4 hh] at e;exact (k.objs l' o' e).mono (j4.refl _) (fun _ _ _ e=>e) (fun b' hb'=>hk b' (fun h=>hh (k.inj l' l b (h ▸ hb') hb)))
 ·intro l' e
  by_cases hh:l'=l
  ·subst hh; rw[m9] at e; cases e
  ·rw[I4 hh] at e; exact k.gone l' e
 ·intro b' hb' hn;exact ⟨hk b' (fun h=>hn l (h ▸ hb)),fun _=>rfl⟩
theorem HRel.move {ρ H h w w'} (k:HRel ρ H h w) {l l':Loc} {b:Nat} (ha:(ρ l).all b) (hl':ρ l' = .none) (o:Obj) (p:Place) (hp:∀ b',p.has b'→b'=b)
 (hw:w'.os=w.os∧w'.tape=w.tape∧w'.output=w.output∧w'.heap.size=w.heap.size) (hk:∀ i,i≠b→w'.heap[i]? = w.heap[i]?)
 (ho:w5 (B5 (B5 ρ l .dead) l' p) H w' o p) :
 HRel (B5 (B5 ρ l .dead) l' p) H (F5 (F5 h l none) l' (some o)) w'∧Trans ρ H w (B5 (B5 ρ l .dead) l' p) H w'∧j4 ρ (B5 (B5 ρ l .dead) l' p):=by
 have hb:=ha.has
 have hll:l≠l':=fun e=>by rw[← e] at hl'; rw[hl'] at hb; cases hb
 have hst:j4 ρ (B5 (B5 ρ l .dead) l' p):=(j4.upd .dead (.inr rfl)).trans (j4.upd p (.inl (by rw[n6 (Ne.symm hll)]; exact hl')))
 have blk:∀ l1 b',(B5 (B5 ρ l .dead) l' p l1).has b'→(l1=l'∧b'=b)∨(l1≠l'∧l1≠l∧(ρ l1).has b'):=by
  intro l1 b' e
  by_cases h1:l1=l'
  ·rw[h1,m7] at e; exact .inl ⟨h1,hp _ e⟩
  ·rw[n6 h1] at e
   by_cases h2:l1=l
   ·rw[h2,m7] at e; cases e
   ·rw[n6 h2] at e; exact .inr ⟨h1,h2,e⟩
 refine ⟨⟨?_,?_,?_,?_,?_⟩,⟨hw.1,hw.2.1,hw.2.2.1,by omega,?_,?_,fun _ _ _ e=>e⟩,hst⟩
 ·intro b' o' v e
  have hne:b'≠b:=fun h=>by rw[h,k.sepA l b ha o'] at e; cases e
  exact (World.cell?_of_block (w:=w) (a:=⟨b',o',Option.none⟩) (w':=w') (hk b' hne)).trans (k.ice b' o' v e)
 ·intro l1 o' e
  by_cases h1:l1=l'
  ·subst h1;rw[m9] at e
   injection e with e
   subst e;rw[m7];exact ho
  ·rw[I4 h1] at e
   by_cases h2:l1=l
   ·subst h2; rw[m9] at e; cases e
   ·rw[I4 h2] at e;rw[n6 h1,n6 h2];exact (k.objs l1 o' e).mono hst (fun _ _ _ e=>e) (fun b' hb'=>hk b' (fun h=>h2 (k.inj l1 l b (h ▸ hb') hb)))
 ·intro l1 e
  by_cases h1:l1=l'
  ·subst h1; rw[m9] at e; cases e
  ·rw[I4 h1] at e;rw[n6 h1]
   by_cases h2:l1=l
   ·subst h2; right; simp
   ·rw[I4 h2] at e; rw[n6 h2]; exact k.gone l1 e
 ·intro l1 l2 b' e1 e2
  rcases blk l1 b' e1 with ⟨h1,g1⟩ | ⟨h1,h1',g1⟩ <;> rcases blk l2 b' e2 with ⟨h2,g2⟩ | ⟨h2,h2',g2⟩
  ·rw[h1,h2]
  ·rw[g1] at g2; exact absurd (k.inj l2 l b g2 hb) h2'
  ·rw[g2] at g1; exact absurd (k.inj l1 l b g1 hb) h1'
  ·exact k.inj l1 l2 b' g1 g2
 ·intro l1 b' o' e1;rcases blk l1 b' e1.has with ⟨h1,g1⟩ | ⟨h1,h1',g1⟩
  ·rw[g1]; exact k.sepA l b ha o'
  ·rw[n6 h1,n6 h1'] at e1; exact k.sep l1 b' o' e1
 ·intro b' hb' hn;exact ⟨hk b' (fun h=>hn l (h ▸ hb)),fun _=>rfl⟩
 ·intro l1 b' e1;rcases blk l1 b' e1 with ⟨h1,g1⟩ | ⟨h1,h1',g1⟩
  ·exact .inr ⟨l,g1 ▸ hb⟩
  ·exact .inr ⟨l1,g1⟩
end Go.Rf

set_option linter.unusedSectionVars false
namespace Go.Rf
variable [Prg]
theorem W3 (b off j:Nat):(⟨b,off,Option.none⟩:Addr).add j=⟨b,off + j,Option.none⟩:=by
 unfold Addr.add;split
 ·rename_i h; subst h; rfl
 ·rfl
theorem o5 {u:Value} (h:one u=true):u.cells = #[u]:=by cases u <;> first | rfl | cases h
theorem WI {u:Value} (h:one u=true):u.oneCell'=true:=by cases u <;> first | rfl | cases h
theorem I3.one {H:Ice} {x:D} {u:Value} (k:I3 H x u) (h:Y3 x=false):one u=true:=by
 cases x with
 | agg cs=>cases h
 | str s=>obtain ⟨rfl,_⟩:=k; rfl
 | iface t x=>obtain ⟨_,rfl,_⟩:=k; rfl
 | sl xs=>obtain ⟨_,_,rfl,_⟩:=k; rfl
 | box x=>obtain ⟨_,_,_,rfl,_⟩:=k; rfl
 | fn f cap=>obtain ⟨_,rfl,_⟩:=k; unfold vI; split <;> rfl
 | bool b=>cases k; rfl
 | int k' n=>cases k; rfl
 | nilp=>cases k; rfl
 | nili=>cases k; rfl
 | nilf=>cases k; rfl
 | nilm=>obtain ⟨_,rfl⟩:=k; rfl
 | nils=>cases k; rfl
theorem A3.one {p sz off len u} (k:A3 p sz off len u):one u=true:=by
 cases p with
 | none=>exact k.elim
 | dead=>obtain ⟨_,_,rfl,_⟩:=k; rfl
 | virt s=>obtain ⟨_,_,_,rfl⟩:=k; rfl
 | at_ b base s size=>obtain ⟨_,_,rfl,_⟩:=k; rfl
 | gl b base s size inn=>obtain ⟨_,_,rfl,_⟩:=k; rfl
 | grw b base s size inn=>obtain ⟨_,_,rfl,_⟩:=k; rfl
 | blk r=>exact k.elim
 | out _ _ _ _=>exact k.elim
theorem D8.one {p e j u} (k:D8 p e j u):one u=true:=by
 cases p with
 | none=>exact k.elim
 | dead=>obtain ⟨_,rfl⟩:=k; rfl
 | virt s=>exact k.elim
 | at_ b base s size=>cases k; rfl
 | gl b base s size inn=>cases k; rfl
 | grw b base s size inn=>cases k; rfl
 | blk r=>exact k.elim
 | out _ _ _ _=>exact k.elim
theorem j9.one {ρ:Map} {H:Ice} {x:V} {u:Value} (k:j9 ρ H x u) (h:J7 x=false):one u=true:=by
 cases x with
 | d x=>exact I3.one k h
 | ref l sz off len=>exact A3.one k
 | ptr l e j=>exact D8.one k
 | agg cs=>cases h
 | iface t x=>obtain ⟨_,rfl,_⟩:=k; rfl
 | fn f cap=>obtain ⟨_,rfl,_⟩:=k; unfold vI; split <;> rfl
 | tup vs=>cases h
 | map l=>
   have k:QR (ρ l) (fun r=>.map (some r)) u:=k
   cases hp:ρ l with
   | dead=>rw[hp] at k; obtain ⟨_,rfl⟩:=k; rfl
   | blk r=>rw[hp] at k; cases k; rfl
   | _=>rw[hp] at k; exact k.elim
 | iter l=>
   have k:jt (ρ l) u:=k
   cases hp:ρ l with
   | dead=>rw[hp] at k; exact k
   | blk r=>rw[hp] at k; cases k; rfl
   | out _ _ _ _=>rw[hp] at k; cases k; rfl
   | _=>rw[hp] at k; exact k.elim
 | junk=>exact k
def xD:V→Bool
 | .tup _=>false
 | _=>true
theorem Zt {x:V} (h:w5.isJunk x=false):xD x=true:=by cases x <;> first | rfl | cases h
theorem xC {x:V} (h:xD x=true):w5.isJunk x=false:=by cases x <;> first | rfl | cases h
theorem j9.cells {ρ:Map} {H:Ice} {x:V} {u:Value} (k:j9 ρ H x u) (h:xD x=true):f9 ρ H x.cells u.cells.toList∧x.cells.any J7=false:=by
 cases x with
 | d x=>
   cases hx:Y3 x with
   | false=>
     have hc:V.cells (.d x)=[.d x]:=by cases x <;> first | rfl | cases hx
     rw[hc,o5 (I3.one k hx)];exact ⟨⟨u,[],rfl,k,rfl⟩,by simp[J7,hx]⟩
   | true=>
     cases x with
     | agg cs=>
       obtain ⟨vs,rfl,k,hn⟩:=k;refine ⟨k.toV,?_⟩;show (cs.map V.d).any J7=false;rw[List.any_map];exact hn
     | _=>cases hx
 | agg cs=>
   obtain ⟨vs,rfl,k,hn⟩:=k;exact ⟨k,hn⟩
 | tup vs=>cases h
 | junk=>rw[show V.cells .junk=[.junk] from rfl,o5 (show Rf.one u=true from k)]; exact ⟨⟨u,[],rfl,k,rfl⟩,rfl⟩
 | ref l sz off len=>rw[o5 (j9.one k rfl)]; exact ⟨⟨u,[],rfl,k,rfl⟩,rfl⟩
 | ptr l e j=>rw[o5 (j9.one k rfl)]; exact ⟨⟨u,[],rfl,k,rfl⟩,rfl⟩
 | iface t x=>rw[o5 (j9.one k rfl)]; exact ⟨⟨u,[],rfl,k,rfl⟩,rfl⟩
 | fn f cap=>rw[o5 (j9.one k rfl)]; exact ⟨⟨u,[],rfl,k,rfl⟩,rfl⟩
 | map l=>rw[o5 (j9.one k rfl)]; exact ⟨⟨u,[],rfl,k,rfl⟩,rfl⟩
 | iter l=>rw[o5 (j9.one k rfl)]; exact ⟨⟨u,[],rfl,k,rfl⟩,rfl⟩
theorem wd:∀ {l:List V} {ds:List D},qE l=some ds→l=ds.map .d
 | [],_,h=>by cases h; rfl
 | .d x :: l,ds,h=>by
   simp only[qE,Option.map_eq_some_iff] at h;obtain ⟨ds',h1,rfl⟩:=h;simp[wd h1]
 | .ref .. :: _,_,h | .ptr .. :: _,_,h | .agg .. :: _,_,h | .iface .. :: _,_,h | .fn .. :: _,_,h | .tup .. :: _,_,h | .map .. :: _,_,h | .iter .. :: _,_,h | .junk :: _,_,h=>by cases h
theorem Jv {ρ:Map} {H:Ice} {l:List V} {vs:List Value} (k:f9 ρ H l vs) (hn:l.any J7=false):j9 ρ H (wJ l) (.agg ⟨vs⟩):=by
 unfold wJ
 cases hd:qE l with
 | none=>exact ⟨vs,rfl,k,hn⟩
 | some ds=>
   have:=wd hd;subst this;refine ⟨vs,rfl,k.toD,?_⟩;rw[List.any_map] at hn;exact hn
theorem XE (l:List V):xD (wJ l)=true:=by
 unfold wJ
 cases qE l <;> rfl
theorem qjw {α:Type} {p:α→Bool} {l:List α} (h:l.any p=false) {i:Nat} {x:α} (e:l[i]? = some x):p x=false:=by
 rw[List.any_eq_false] at h;have:=h x (List.mem_of_getElem? e)
 simpa using this
theorem qef {α:Type} {p:α→Bool} {l:List α} (h:l.any p=false) (n:Nat):(l.drop n).any p=false:=by
 rw[List.any_eq_false] at *
 exact fun x hx=>h x (List.mem_of_mem_drop hx)
theorem qed {α:Type} {p:α→Bool} {l:List α} (h:l.any p=false) (n:Nat):(l.take n).any p=false:=by
 rw[List.any_eq_false] at *
 exact fun x hx=>h x (List.mem_of_mem_take hx)
theorem KU {ρ:Map} {H:Ice} {x y:V} {u:Value} {off n:Nat} {ag:Bool} (k:j9 ρ H x u) (h:xD x=true) (e:part x off n ag=some y) :
 (ag=true→off + n≤u.cells.size∧j9 ρ H y (.agg ⟨(u.cells.toList.drop off).take n⟩)) ∧
 (ag=false→∃ v,u.cells.toList[off]? = some v∧j9 ρ H y v∧J7 y=false)∧xD y=true:=by
 obtain ⟨kc,hn⟩:=k.cells h;unfold part at e
 cases ag with
 | true=>
   simp only[if_true] at e;split at e
   ·rename_i hl
    injection e with e
    subst e;refine ⟨fun _=>⟨?_,Jv ((kc.drop off).take n) (qed (qef hn off) n)⟩,(fun h=>by cases h),XE _⟩;have:=kc.length;simp at this;omega
   ·cases e
 | false=>
   simp only[Bool.false_eq_true,if_false] at e;obtain ⟨v,h1,h2⟩:=kc.get e;have h3:=qjw hn e;refine ⟨(fun h=>by cases h),fun _=>⟨v,h1,h2,h3⟩,?_⟩
   cases y <;> first | rfl | cases h3
theorem H9 (u:Value) (us:List Value):flat (u :: us)=u.cells.toList++flat us:=rfl
theorem qx (us vs:List Value):flat (us++vs)=flat us++flat vs:=by simp[flat,List.flatMap_append]
theorem A7 {sz:Nat}:∀ {us:List Value},(∀ u∈us,u.cells.size=sz)→(flat us).length=us.length * sz
 | [],_=>by simp[flat]
 | u :: us,h=>by
   rw[H9,List.length_append,A7 (fun x hx=>h x (List.mem_cons_of_mem _ hx))]
   have:u.cells.toList.length=sz:=by simpa using h u (List.mem_cons_self ..)
   rw[this,List.length_cons,Nat.add_mul];omega
theorem XR {sz:Nat}:∀ {us:List Value} {e:Nat} {u:Value} {j:Nat},(∀ u∈us,u.cells.size=sz)→us[e]? = some u→j < sz→(flat us)[e * sz + j]? = u.cells.toList[j]?
 | [],e,u,j,_,he,_=>by simp at he
 | v :: us,0,u,j,h,he,hj=>by
   simp at he;subst he
   have hl:v.cells.toList.length=sz:=by simpa using h v (List.mem_cons_self ..)
   rw[H9,Nat.zero_mul,Nat.zero_add,List.getElem?_append_left (by omega)]
 | v :: us,e + 1,u,j,h,he,hj=>by
   have hl:v.cells.toList.length=sz:=by simpa using h v (List.mem_cons_self ..)
   rw[H9,List.getElem?_append_right (by rw[hl,Nat.add_mul]; omega)]
   have:(e + 1) * sz + j - v.cells.toList.length=e * sz + j:=by rw[hl,Nat.add_mul]; omega
   rw[this];exact XR (fun x hx=>h x (List.mem_cons_of_mem _ hx)) (by simpa using he) hj
theorem qlo {ρ H w xs sz b base s size} (k:w5 ρ H w (.arr xs sz) (.at_ b base s size)) {e:Nat} {x:V} (he:xs[e]? = some x) :
 ∃ u,j9 ρ H x u∧xD x=true∧u.cells.size=s.c ∧ ∀ j v,u.cells.toList[j]? = some v→w.cell? ⟨b,base + e * s.c + j,Option.none⟩=some v:=by
 obtain ⟨rfl,arr,elem,fr,us,hb,_,hv,hj,hs,hc,_⟩:=k;obtain ⟨u,hu,hr⟩:=hv.get he;refine ⟨u,hr,Zt (qjw hj he),hs u (List.mem_of_getElem? hu),fun j v hv'=>?_⟩
 have hjs:j < s.c:=by
  have h1:=hs u (List.mem_of_getElem? hu);have:=(List.getElem?_eq_some_iff.1 hv').1;simp at this;omega
 have:=hc (e * s.c + j) v ((XR hs hu hjs).trans hv');simp only[World.cell?,hb];rw[show base + e * s.c + j=base + (e * s.c + j) from by omega]
 simpa using this
end Go.Rf

set_option linter.unusedSectionVars false
namespace Go.Rf
variable [Prg]
def zI (ρ:Map) (m:List Loc):Map
 | .b k=>match m[k]? with
   | some l=>ρ l
   | none=>.none
 | .n _ _=>.none
theorem Yj:∀ {m:List Loc} {l:Loc} {k:Nat},idx m l=some k→m[k]? = some l
 | [],_,_,e=>by cases e
 | x :: m,l,k,e=>by
   simp only[idx] at e;split at e
   ·rename_i h; cases e; subst h; rfl
   ·simp only[Option.map_eq_some_iff] at e;obtain ⟨k',h1,rfl⟩:=e
    simpa using Yj h1
theorem Yi:∀ {m:List Loc} {l:Loc},idx m l=none→l ∉ m
 | [],_,_=>by simp
 | x :: m,l,e=>by
   simp only[idx] at e;split at e
   ·cases e
   ·rename_i h;simp only[Option.map_eq_none_iff] at e;have:=Yi e;simp only[List.mem_cons,not_or];exact ⟨fun h'=>h h'.symm,this⟩
theorem Zg {m m':List Loc} (h:m <+: m') {k:Nat} {l:Loc} (e:m[k]? = some l):m'[k]? = some l:=by
 obtain ⟨t,rfl⟩:=h;rw[List.getElem?_append_left (List.getElem?_eq_some_iff.1 e).1];exact e
theorem vF {al:Loc→Bool} {l:Loc} {m:List Loc}:m <+: (R9 al l m).2∧(m.Nodup→(R9 al l m).2.Nodup) ∧ ∀ k,(R9 al l m).1=some k→(R9 al l m).2[k]? = some l:=by
 unfold R9
 cases al l with
 | false=>exact ⟨List.prefix_refl _,id,fun k h=>by cases h⟩
 | true=>
   simp only[j3]
   cases hi:idx m l with
   | none=>
     simp only[kb];refine ⟨List.prefix_append _ _,fun h=>?_,fun k hk=>?_⟩
     ·rw[List.nodup_append];refine ⟨h,by simp,fun a ha b hb=>?_⟩;simp only[List.mem_singleton] at hb;subst hb
      exact fun he=>Yi hi (he ▸ ha)
     ·cases hk;simp
   | some k=>
     simp only[qr];exact ⟨List.prefix_refl _,id,fun k' hk=>by cases hk; exact Yj hi⟩
theorem Xo {ρ:Map} {m:List Loc} {k:Nat} {l:Loc} (h:m[k]? = some l):zI ρ m (.b k) = ρ l:=by simp only[zI,h]
mutual
theorem qby (al:Loc→Bool):∀ (v:V) (m:List Loc),m <+: (V.ren al v m).2∧(m.Nodup→(V.ren al v m).2.Nodup)∧J7 (V.ren al v m).1=J7 v∧w5.isJunk (V.ren al v m).1=w5.isJunk v ∧
 ∀ (ρ:Map) (H:Ice) (u:Value) (M:List Loc),(V.ren al v m).2 <+: M→j9 ρ H v u→j9 (zI ρ M) H (V.ren al v m).1 u
 | .d x,m=>⟨List.prefix_refl _,id,rfl,rfl,fun _ _ _ _ _ k=>k⟩
 | .ref l sz o n,m=>by
   obtain ⟨h1,h2,h3⟩:=vF (al:=al) (l:=l) (m:=m);simp only[V.ren,named,V4]
   cases hn:(R9 al l m).1 with
   | none=>exact ⟨h1,h2,rfl,rfl,fun ρ H u M _ k=>A3.one (show A3 (ρ l) sz o n u from k)⟩
   | some k'=>
     refine ⟨h1,h2,rfl,rfl,fun ρ H u M hM k=>?_⟩;show A3 (zI ρ M (.b k')) sz o n u;rw[Xo (Zg hM (h3 k' hn))];exact k
 | .ptr l e j,m=>by
   obtain ⟨h1,h2,h3⟩:=vF (al:=al) (l:=l) (m:=m);simp only[V.ren,named,V4]
   cases hn:(R9 al l m).1 with
   | none=>exact ⟨h1,h2,rfl,rfl,fun ρ H u M _ k=>D8.one (show D8 (ρ l) e j u from k)⟩
   | some k'=>
     refine ⟨h1,h2,rfl,rfl,fun ρ H u M hM k=>?_⟩;show D8 (zI ρ M (.b k')) e j u;rw[Xo (Zg hM (h3 k' hn))];exact k
 | .map l,m=>by
   obtain ⟨h1,h2,h3⟩:=vF (al:=al) (l:=l) (m:=m);simp only[V.ren,named,V4]
   cases hn:(R9 al l m).1 with
   | none=>exact ⟨h1,h2,rfl,rfl,fun ρ H u M _ k=>j9.one (x:=.map l) k rfl⟩
   | some k'=>
     refine ⟨h1,h2,rfl,rfl,fun ρ H u M hM k=>?_⟩;show QR (zI ρ M (.b k')) _ u;rw[Xo (Zg hM (h3 k' hn))];exact k
 | .iter l,m=>by
   obtain ⟨h1,h2,h3⟩:=vF (al:=al) (l:=l) (m:=m);simp only[V.ren,named,V4]
   cases hn:(R9 al l m).1 with
   | none=>exact ⟨h1,h2,rfl,rfl,fun ρ H u M _ k=>j9.one (x:=.iter l) k rfl⟩
   | some k'=>
     refine ⟨h1,h2,rfl,rfl,fun ρ H u M hM k=>?_⟩;show jt (zI ρ M (.b k')) u;rw[Xo (Zg hM (h3 k' hn))];exact k
 | .agg cs,m=>by
   obtain ⟨h1,h2,h3,_,h4⟩:=ww al cs m;simp only[V.ren,V4];refine ⟨h1,h2,rfl,rfl,fun ρ H u M hM k=>?_⟩;obtain ⟨vs,e,k1,k2⟩:=k;exact ⟨vs,e,h4 ρ H vs M hM k1,by rw[h3]; exact k2⟩
 | .iface t x,m=>by
   obtain ⟨h1,h2,_,_,h4⟩:=qby al x m;simp only[V.ren,V4];refine ⟨h1,h2,rfl,rfl,fun ρ H u M hM k=>?_⟩;obtain ⟨v,e,k1⟩:=k;exact ⟨v,e,h4 ρ H v M hM k1⟩
 | .fn f cs,m=>by
   obtain ⟨h1,h2,_,_,h4⟩:=ww al cs m;simp only[V.ren,V4];refine ⟨h1,h2,rfl,rfl,fun ρ H u M hM k=>?_⟩;obtain ⟨vs,e,k1⟩:=k;exact ⟨vs,e,h4 ρ H vs M hM k1⟩
 | .tup cs,m=>by
   obtain ⟨h1,h2,_,_,h4⟩:=ww al cs m;simp only[V.ren,V4];refine ⟨h1,h2,rfl,rfl,fun ρ H u M hM k=>?_⟩;obtain ⟨vs,e,k1⟩:=k;exact ⟨vs,e,h4 ρ H vs M hM k1⟩
 | .junk,m=>⟨List.prefix_refl _,id,rfl,rfl,fun _ _ _ _ _ k=>k⟩
theorem ww (al:Loc→Bool):∀ (vs:List V) (m:List Loc),m <+: (qo al vs m).2∧(m.Nodup→(qo al vs m).2.Nodup)∧(qo al vs m).1.any J7=vs.any J7∧(qo al vs m).1.any w5.isJunk=vs.any w5.isJunk ∧
 ∀ (ρ:Map) (H:Ice) (us:List Value) (M:List Loc),(qo al vs m).2 <+: M→f9 ρ H vs us→f9 (zI ρ M) H (qo al vs m).1 us
 | [],m=>⟨List.prefix_refl _,id,rfl,rfl,fun _ _ _ _ _ k=>k⟩
 | v :: vs,m=>by
   obtain ⟨a1,a2,a3,a4,a5⟩:=qby al v m;obtain ⟨b1,b2,b3,b4,b5⟩:=ww al vs (V.ren al v m).2;simp only[qo,V4];refine ⟨a1.trans b1,fun h=>b2 (a2 h),by simp only[List.any_cons,a3,b3],by simp only[List.any_cons,a4,b4],fun ρ H us M hM k=>?_⟩;obtain ⟨u,us',rfl,k1,k2⟩:=k;exact ⟨u,us',rfl,a5 ρ H u M (b1.trans hM) k1,b5 ρ H us' M hM k2⟩
end
theorem qbz (al:Loc→Bool):∀ (es:List (D × V)) (m:List Loc),m <+: (kR al es m).2∧(m.Nodup→(kR al es m).2.Nodup) ∧
 ∀ (ρ:Map) (H:Ice) (ents:List MapEntry) (M:List Loc),(kR al es m).2 <+: M→All2 (qeo ρ H) es ents→All2 (qeo (zI ρ M) H) (kR al es m).1 ents
 | [],m=>⟨List.prefix_refl _,id,fun _ _ _ _ _ k=>by cases k; exact .nil⟩
 | (key,v) :: es,m=>by
   obtain ⟨a1,a2,a3,a4,a5⟩:=qby al v m;obtain ⟨b1,b2,b5⟩:=qbz al es (V.ren al v m).2;simp only[kR,V4];refine ⟨a1.trans b1,fun h=>b2 (a2 h),fun ρ H ents M hM k=>?_⟩
   cases k with
   | cons k1 k2=>
     obtain ⟨c1,c2,c3⟩:=k1;exact .cons ⟨c1,a5 ρ H _ M (b1.trans hM) c2,by rw[a3]; exact c3⟩ (b5 ρ H _ M hM k2)
theorem qim (al:Loc→Bool) (o:Obj) (m:List Loc):m <+: (o.ren al m).2∧(m.Nodup→(o.ren al m).2.Nodup) ∧
 ∀ (ρ:Map) (H:Ice) (w:World) (p:Place) (M:List Loc),(o.ren al m).2 <+: M→w5 ρ H w o p→w5 (zI ρ M) H w (o.ren al m).1 p:=by
 cases o with
 | arr xs sz=>
   obtain ⟨a1,a2,a3,a4,a5⟩:=ww al xs m;simp only[Obj.ren,V4];refine ⟨a1,a2,fun ρ H w p M hM k=>?_⟩
   cases p with
   | virt s=>
     obtain ⟨rfl,k2⟩:=k;exact ⟨rfl,k2⟩
   | at_ b base s size=>
     obtain ⟨e,arr,elem,fr,us,h1,h2,h3,h4,h5,h6⟩:=k;exact ⟨e,arr,elem,fr,us,h1,h2,a5 ρ H us M hM h3,by rw[a4]; exact h4,h5,h6⟩
   | _=>exact k.elim
 | map es=>
   obtain ⟨a1,a2,a5⟩:=qbz al es m;simp only[Obj.ren,V4];refine ⟨a1,a2,fun ρ H w p M hM k=>?_⟩
   cases p with
   | blk r=>
     obtain ⟨ents,clock,h1,h2⟩:=k;exact ⟨ents,clock,h1,a5 ρ H ents M hM h2⟩
   | _=>exact k.elim
 | iter s pos=>exact ⟨List.prefix_refl _,id,fun ρ H w p M _ k=>by cases p <;> exact k⟩
 | gl cs sz=>exact ⟨List.prefix_refl _,id,fun ρ H w p M _ k=>by cases p <;> exact k⟩
 | grw xs sz=>exact ⟨List.prefix_refl _,id,fun ρ H w p M _ k=>by cases p <;> exact k⟩
 | tr rem=>exact ⟨List.prefix_refl _,id,fun ρ H w p M _ k=>by cases p <;> exact k⟩
 | dead=>exact ⟨List.prefix_refl _,id,fun ρ H w p M _ k=>by cases p <;> exact k⟩
theorem YF (h:Loc→Option Obj):∀ (f j:Nat) (m:List Loc) (os:List Obj) (M:List Loc),C8 h f j m=some (os,M)→j≤m.length→
 m <+: M∧(m.Nodup→M.Nodup)∧os.length + j=M.length ∧ ∀ k o',os[k]? = some o'→∃ l,M[j + k]? = some l∧((h l=none∧o' = .dead) ∨ ∃ o,h l=some o ∧
   ∀ (ρ:Map) (H:Ice) (w:World) (p:Place),w5 ρ H w o p→w5 (zI ρ M) H w o' p)
 | 0,j,m,os,M,e,_=>by cases e
 | f + 1,j,m,os,M,e,hj=>by
   simp only[C8] at e
   cases hm:m[j]? with
   | none=>
     rw[hm,kb] at e;cases e;have:=List.getElem?_eq_none_iff.1 hm;exact ⟨List.prefix_refl _,id,by simp; omega,fun k o' hk=>by simp at hk⟩
   | some l=>
     rw[hm,qr] at e;have hlt:=(List.getElem?_eq_some_iff.1 hm).1
     cases hl:h l with
     | none=>
       rw[hl,kb] at e
       obtain ⟨⟨os',M'⟩,e1,e2⟩:=(show ∃ a,C8 h f (j + 1) m=some a∧some (.dead :: a.1,a.2)=some (os,M) from by
        cases hw:C8 h f (j + 1) m with
        | none=>rw[hw] at e; cases e
        | some a=>rw[hw] at e; exact ⟨a,rfl,e⟩)
       cases e2;obtain ⟨a1,a2,a3,a4⟩:=YF h f (j + 1) m os' M' e1 hlt;refine ⟨a1,a2,by simp; omega,fun k o' hk=>?_⟩
       cases k with
       | zero=>
         simp at hk;subst hk;exact ⟨l,Zg a1 hm,.inl ⟨hl,rfl⟩⟩
       | succ k=>
         obtain ⟨l',b1,b2⟩:=a4 k o' (by simpa using hk);exact ⟨l',by rw[← b1]; congr 1; omega,b2⟩
     | some o=>
       rw[hl,qr] at e;obtain ⟨r1,r2,r3⟩:=qim (fun l=>(h l).isSome) o m;simp only[V4] at e
       obtain ⟨⟨os',M'⟩,e1,e2⟩:=(show ∃ a,C8 h f (j + 1) (o.ren (fun l=>(h l).isSome) m).2=some a∧some ((o.ren (fun l=>(h l).isSome) m).1 :: a.1,a.2)=some (os,M) from by
        cases hw:C8 h f (j + 1) (o.ren (fun l=>(h l).isSome) m).2 with
        | none=>rw[hw] at e; cases e
        | some a=>rw[hw] at e; exact ⟨a,rfl,e⟩)
       cases e2;have hlen:=r1.length_le;obtain ⟨a1,a2,a3,a4⟩:=YF h f (j + 1) _ os' M' e1 (by omega);refine ⟨r1.trans a1,fun hn=>a2 (r2 hn),by simp; omega,fun k o' hk=>?_⟩
       cases k with
       | zero=>
         simp at hk;subst hk;exact ⟨l,Zg (r1.trans a1) hm,.inr ⟨o,hl,fun ρ H w p k=>r3 ρ H w p M' a1 k⟩⟩
       | succ k=>
         obtain ⟨l',b1,b2⟩:=a4 k o' (by simpa using hk);exact ⟨l',by rw[← b1]; congr 1; omega,b2⟩
theorem qf7 {m:List Loc} (h:m.Nodup) {i j:Nat} {l:Loc} (h1:m[i]? = some l) (h2:m[j]? = some l):i=j:=by
 obtain ⟨a1,a2⟩:=List.getElem?_eq_some_iff.1 h1;obtain ⟨b1,b2⟩:=List.getElem?_eq_some_iff.1 h2;exact (List.getElem_inj h).1 (a2.trans b2.symm)
theorem XC {ρ:Map} {H:Ice} {h:Loc→Option Obj} {w:World} {pin:List Loc} {vs vs':List V} {os:List Obj} {M:List Loc} (hH:HRel ρ H h w) (hp:pin.Nodup) (e:XD pin vs h=some (vs',os,M)) :
 HRel (zI ρ M) H (j5 os) w∧(∀ us,f9 ρ H vs us→f9 (zI ρ M) H vs' us)∧pin <+: M∧M.Nodup∧os.length=M.length:=by
 obtain ⟨r1,r2,_,_,r5⟩:=ww (fun l=>(h l).isSome) vs pin;simp only[XD,V4] at e
 obtain ⟨⟨os',M'⟩,e1,e2⟩:=(show ∃ a,C8 h 64 0 (qo (fun l=>(h l).isSome) vs pin).2=some a∧some ((qo (fun l=>(h l).isSome) vs pin).1,a.1,a.2)=some (vs',os,M) from by
  cases hw:C8 h 64 0 (qo (fun l=>(h l).isSome) vs pin).2 with
  | none=>rw[hw] at e; cases e
  | some a=>rw[hw] at e; exact ⟨a,rfl,e⟩)
 cases e2;obtain ⟨a1,a2,a3,a4⟩:=YF h 64 0 _ os' M' e1 (Nat.zero_le _);have hnd:M'.Nodup:=a2 (r2 hp);refine ⟨⟨hH.ice,?_,?_,?_,?_⟩,fun us k=>r5 ρ H us M' a1 k,r1.trans a1,hnd,by simpa using a3⟩
 ·intro l o ho
  cases l with
  | n i k=>simp[j5] at ho
  | b k=>
    have hk:os'[k]? = some o:=by
     simp only[j5] at ho;split at ho
     ·cases ho
     ·exact ho
    obtain ⟨l,b1,b2⟩:=a4 k o hk;rw[Nat.zero_add] at b1;rw[Xo b1];rcases b2 with ⟨_,rfl⟩ | ⟨o',c1,c2⟩
    ·simp[j5,hk] at ho
    ·exact c2 ρ H w _ (hH.objs l o' c1)
 ·intro l ho
  cases l with
  | n i k=>exact .inl rfl
  | b k=>
    simp only[j5] at ho;split at ho
    ·rename_i hk;obtain ⟨l,b1,b2⟩:=a4 k _ hk;rw[Nat.zero_add] at b1;rw[Xo b1];rcases b2 with ⟨c1,_⟩ | ⟨o',c1,c2⟩
     ·exact hH.gone l c1
     ·exfalso
      have:=c2 ρ H w _ (hH.objs l o' c1)
      cases hp:ρ l <;> rw[hp] at this <;> exact this.elim
    ·have:M'[k]? = none:=by
      rw[List.getElem?_eq_none_iff] at ho ⊢;omega
     left;simp only[zI,this]
 ·intro l l' b h1 h2
  cases l with
  | n i k=>cases h1
  | b k=>
    cases l' with
    | n i k=>cases h2
    | b k'=>
      simp only[zI] at h1 h2;split at h1
      ·rename_i l e1;split at h2
       ·rename_i l' e2;have:=hH.inj l l' b h1 h2;subst this;rw[qf7 hnd e1 e2]
       ·cases h2
      ·cases h1
 ·intro l b o h1
  cases l with
  | n i k=>exact h1.has.elim
  | b k=>
    simp only[zI] at h1;split at h1
    ·exact hH.sep _ b o h1
    ·exact h1.has.elim
end Go.Rf
