/- Parts of the proof: RfLaw, RfUtf8, RfShape. -/
import Derived.Test.YtjlnfdabdhkgcaaGreatDoorRg8
import Derived.Shelf.Unicode.DecodeSlow

set_option linter.unusedSimpArgs false
set_option linter.unusedVariables false
set_option linter.unnecessarySimpa false
set_option linter.unusedSectionVars false
set_option linter.all false
namespace Go.Rf
open Go.ChangeShapes Go.WideShapes Go.RowKit
section
variable {H:Type} {enc:TypeId × Value→H} {P:Program} {w:World} {sp:Nat→Bool} {held:Bool}
theorem qyd {f:Nat} {t:TypeId} (h:okT P f t=true) {r:Reach} {base fuel:Nat} {v:Value} {x:DataW H × List MemPlace} (hv:Value.okWide P w r base t v) (e:DataW.trod enc P w 0 sp held fuel t v.cells.toList=some x):qhe x.1 v.cells.toList=v:=by
 cases f with
 | zero=>simp[okT] at h
 | succ f=>
   unfold okT at h;split at h
   ·rename_i hu;obtain ⟨b,rfl⟩:=okWide_bool hu hv;obtain ⟨b',h1,rfl⟩:=DataW.trod_bool hu e;rfl
   ·rename_i k hu;obtain ⟨b,rfl⟩:=okWide_int hu hv;obtain ⟨b',h1,rfl,_⟩:=DataW.trod_int hu e;rfl
   ·rename_i hu;obtain ⟨b,rfl⟩:=okWide_string hu hv;obtain ⟨b',h1,rfl,_⟩:=DataW.trod_string hu e;rfl
   ·rename_i el hu;obtain ⟨a,l,c,rfl⟩:=okWide_slice hu hv;rcases DataW.trod_slice hu e with ⟨_,rfl⟩ | ⟨a,len,cap,G5,rest,n,_,_,rfl,_⟩
    ·rfl
    ·rfl
   ·rename_i fs hu;simp only[Value.okWide,hu] at hv;obtain ⟨cs,rfl,_⟩:=hv;obtain ⟨xs,n,_,rfl,_⟩:=DataW.trod_struct hu e;rfl
   ·cases h
theorem Z4 {f:Nat} {r:Reach} {base:Nat} {ρ:Map}:∀ (ts:List TypeId) (vs:List Value) (ds:List (DataW H)) (ps:List MemPlace),DataW.TrodAll enc P w 0 sp held ts vs ds ps→(∀ t∈ts,okT P f t=true)→
 (∀ (j:Nat) t v,ts[j]? = some t→vs[j]? = some v→Value.okWide P w r base t v)→D4 ds≤1048576→g9 ρ (XY w) (ds.map fun d=>.d (toD d)) vs
 | [],[],[],_,_,_,_,_=>rfl
 | t :: ts,v :: vs,d :: ds,ps,h,hok,hv,hb=>by
   obtain ⟨p,q,⟨fuel,h1⟩,h2,_⟩:=h;simp only[D4] at hb;have hr:=YL f t (hok t (List.mem_cons_self ..)) fuel _ _ h1 (by simp only; omega);have hm:=qyd (hok t (List.mem_cons_self ..)) (hv 0 t v rfl rfl) h1;refine ⟨v,vs,rfl,?_,Z4 ts vs ds q h2 (fun t' ht=>hok t' (List.mem_cons_of_mem _ ht)) (fun j t' v' a b=>hv (j + 1) t' v' (by simpa using a) (by simpa using b)) (by omega)⟩;have:=hr.val.1;rw[hm] at this;exact this
 | [],_ :: _,_,_,h,_,_,_=>h.elim
 | [],[],_ :: _,_,h,_,_,_=>h.elim
 | _ :: _,[],_,_,h,_,_,_=>h.elim
 | _ :: _,_ :: _,[],_,h,_,_,_=>h.elim
theorem V4 (hl:laidOutB P=true) {W W':World} (hb:Below W.heap.size W W'):∀ (ts:List TypeId) (vs:List Value) (ds:List (DataW H)) (ps:List MemPlace),(∀ t∈ts,P.readableRec t=true∧t < P.types.size)→
 DataW.TrodAll enc P W 0 (fun _=>true) true ts vs ds ps→(∀ x∈ps,x.block < W.heap.size)→DataW.TrodAll enc P W' 0 (fun b=>decide (b < W.heap.size)) true ts vs ds ps
 | [],[],[],_,_,h,_=>h
 | t :: ts,v :: vs,d :: ds,ps,hok,h,hlt=>by
   obtain ⟨p,q,h1,h2,rfl⟩:=h;exact ⟨p,q,Below.trod hl (hok t (List.mem_cons_self ..)).1 (hok t (List.mem_cons_self ..)).2 h1 hb (fun x hx=>hlt x (List.mem_append_left _ hx)),V4 hl hb ts vs ds q (fun t' ht=>hok t' (List.mem_cons_of_mem _ ht)) h2 (fun x hx=>hlt x (List.mem_append_right _ hx)),rfl⟩
 | [],_ :: _,_,_,_,h,_=>h.elim
 | [],[],_ :: _,_,_,h,_=>h.elim
 | _ :: _,[],_,_,_,h,_=>h.elim
 | _ :: _,_ :: _,[],_,_,h,_=>h.elim
end
theorem qtp (W:World):HRel (fun _=>.none) (XY W) (n7 []) W where
 ice:=fun _ _ _ e=>e
 objs:=fun l o e=>by cases l <;> simp[n7] at e
 gone:=fun _ _=>.inl rfl
 inj:=fun _ _ _ e=>by cases e
 sep:=fun _ _ e=>by cases e
theorem vC {P:Program} {T:Tab} {X:Exts} {W:World} (hT:∀ f af,T.funs f=some af→qg7 P f af=true) (hR:∀ f r,T.recs f=some r→Yv P f r=true) (hX:∀ f e,X.run f=some e→q0j (XY W) P f e) {n:Nat} {f:FuncId} {vs:List V} {args:Array Value}
 (hv:g9 (fun _=>.none) (XY W) vs args.toList) (hc:call T X n f vs []=some (.ret [.d (.bool true)] [])):Calls P f args W fun e W'=>e = .returned (.bool true)∧Below W.heap.size W W':=by
 have h:=(qss hT hR hX n).1 f vs [] _ hc (fun _=>.none) (XY W) W args (fun _ _ _ e=>e) (qtp W) hv (fun l hl=>(hl rfl).elim);unfold KN at h
 refine h.mono fun e W' he=>?_
 cases e with
 | outgrown=>cases he
 | panicked ch=>obtain ⟨_,_,_,_,_,h1,_⟩:=he; cases h1
 | returned v=>
   obtain ⟨rs,os,ρ',H',h1,h2,h3⟩:=he;cases h1;refine ⟨by rw[show v = .bool true from h3],⟨h2.trans.os,h2.trans.tape,h2.trans.output,h2.trans.size,fun k hk=>(h2.trans.keep k hk (fun l hl=>by cases hl)).1⟩⟩
end Go.Rf

namespace Go.Rf
variable {B:Ice}
def XM (B:Ice) (g3 g4:Nat):Prop:=
 (∀ c,c < 256→B g3 c=some (.int .u8 (Lib.firstT c))) ∧ ∀ i,i < 16→B g4 (2 * i)=some (.int .u8 (Lib.accLo i))∧B g4 (2 * i + 1)=some (.int .u8 (Lib.accHi i))
theorem qri {w w':World} (k:RowKit.Below w.heap.size w w') {a:Addr} {v:Value} (h:w.cell? a=some v):w'.cell? a=some v:=by
 rw[k.cell (World.block_lt_of_cell? w a h)];exact h
theorem HRel.below {ρ:Map} {H:Ice} {h:Loc→Option Obj} {w w':World} (hH:HRel ρ H h w) (k:RowKit.Below w.heap.size w w'):HRel ρ H h w' where
 ice:=fun b o v e=>qri k (hH.ice b o v e)
 objs:=fun l o e=>(hH.objs l o e).mono (n9.refl _) (fun _ _ _ e=>e) (fun b hb=>k.block b (hH.lt hb))
 gone:=hH.gone
 inj:=hH.inj
 sep:=hH.sep
theorem Trans.below {ρ:Map} {H:Ice} {w w':World} (k:RowKit.Below w.heap.size w w'):Trans ρ H w ρ H w':=
 ⟨k.os,k.tape,k.output,k.size,fun b hb _=>⟨k.block b hb,fun _=>rfl⟩,fun l _ h=>.inr ⟨l,h⟩⟩
theorem KH {P:Program} {R:Shelf.Ren} (L:Go.Proofs.Lays.n260 P R) (hf:qR P (R.f 260)=true) (hT:XM B (R.g 3) (R.g 4)):q0j B P (R.f 260) zat:=by
 refine ⟨hf,fun cf _ vs heap r e ρ H w args hB hH hv honly=>?_⟩;unfold zat at e;split at e
 ·rename_i s;cases e;obtain ⟨v,vs',h1,h2,h3⟩:=hv;cases h3;obtain ⟨rfl,hl⟩:=(h2:v = .string ⟨s.toArray⟩∧s.length≤long);have ha:args = #[.string ⟨s.toArray⟩]:=Array.toList_inj.1 h1;subst ha
  have cell:∀ {b o v},B b o=some v→w.cell? ⟨b,o,none⟩=some v:=fun {b o v} h=>hH.ice b o v (hB b o v h)
  have tabs:Lib.Utf8Tabs (R.g 3) (R.g 4) w:=⟨fun c hc=>cell (hT.1 c hc),fun i hi=>⟨cell (hT.2 i hi).1,cell (hT.2 i hi).2⟩⟩;unfold KN
  refine (Go.Proofs.Any.utf8_decodeRuneInStringSlow L ⟨s.toArray⟩ w tabs).mono fun e w' he=>?_
  obtain ⟨rfl,hb⟩:=he;refine ⟨_,_,ρ,H,rfl,⟨hH.below hb,Trans.below hb,n9.refl _,fun l hl=>by obtain ⟨k,_,hk⟩:=honly l hl; exact ⟨k,hk⟩,Nat.le_refl _⟩,?_⟩
  have hd:Lib.decodeGo ⟨s.toArray⟩=vX s:=by
   unfold Lib.decodeGo vX dec;simp[ByteArray.size]
  rw[hd];exact ⟨[_,_],rfl,_,_,rfl,rfl,_,_,rfl,rfl,rfl⟩
 ·cases e
end Go.Rf

namespace Go.Rf
open Go.ChangeShapes
section
variable {H:Type} {enc:TypeId × Value→H} {P:Program} {w:World} {sp:Nat→Bool} {held:Bool} {fuel:Nat} {t:TypeId} {cs:List Value} {x:DataW H × List MemPlace}
theorem qsu:∀ {l:List (DataW H)} {y:DataW H},y∈l→D8 y≤D4 l
 | d :: l,y,h=>by
   simp only[D4];rcases List.mem_cons.1 h with h | h
   ·subst h; omega
   ·have:=qsu h; omega
theorem qlr {α:Type} (F:α→D) (Q:α→Prop):∀ l:List (DataW H),(∀ y∈l,∃ a,toD y=F a∧Q a)→∃ zs:List α,Jj l=zs.map F∧zs.length=l.length ∧ ∀ a∈zs,Q a
 | [],_=>⟨[],rfl,rfl,fun a h=>by cases h⟩
 | d :: l,h=>by
   obtain ⟨a,h1,h2⟩:=h d (List.mem_cons_self ..);obtain ⟨zs,h3,h4,h5⟩:=qlr F Q l (fun y hy=>h y (List.mem_cons_of_mem _ hy));refine ⟨a :: zs,by simp[Jj,h1,h3],by simp[h4],fun b hb=>?_⟩;rcases List.mem_cons.1 hb with hb | hb
   ·rw[hb]; exact h2
   ·exact h5 b hb
theorem qtz {e:TypeId} {α:Type} {F:α→D} {Q:α→Prop} (ht:P.underlying t=some (.slice e)) (he:∀ n cs y,DataW.trod enc P w 0 sp held n e cs=some y→D8 y.1 + 1≤D8 x.1→∃ a,toD y.1=F a∧Q a)
 (h:DataW.trod enc P w 0 sp held fuel t cs=some x):∃ zs:List α,toD x.1 = .sl (zs.map F)∧zs.length≤D8 x.1 ∧ ∀ a∈zs,Q a:=by
 rcases DataW.trod_slice ht h with ⟨_,rfl⟩ | ⟨a,len,cap,G5,rest,n,_,_,hx,_,_,_,hl,hg,_⟩
 ·exact ⟨[],rfl,by simp,fun a h=>by cases h⟩
 ·have hb:D8 x.1=D4 (G5.map (·.1)) + D4 (rest.map (·.1)) + 1:=by rw[hx]; simp[D8]
  have hd:toD x.1 = .sl (Jj (G5.map (·.1))):=by rw[hx]; simp[toD]
  obtain ⟨zs,h1,h2,h3⟩:=qlr F Q (G5.map (·.1)) (fun y hy=>by
   obtain ⟨z,hz,rfl⟩:=List.mem_map.1 hy;obtain ⟨i,hi,rfl⟩:=List.getElem_of_mem hz;have hgi:=hg i (by omega);rw[List.getElem?_eq_getElem hi] at hgi;obtain ⟨cs',_,h4⟩:=Option.bind_eq_some_iff.1 hgi;have:=qsu hy
   exact he n cs' _ h4 (by omega))
  have hlen:=Xn (G5.map (·.1));exact ⟨zs,by rw[hd,h1],by omega,h3⟩
theorem vG (ht:P.underlying t=some .string) (h:DataW.trod enc P w 0 sp held fuel t cs=some x):∃ s:List UInt8,toD x.1 = .str s∧s.length≤D8 x.1:=by
 obtain ⟨s,_,hx,_⟩:=DataW.trod_string ht h;exact ⟨s.data.toList,by rw[hx]; rfl,by rw[hx]; simp[D8]⟩
theorem jm (ht:P.underlying t=some (.int .i64)) (h:DataW.trod enc P w 0 sp held fuel t cs=some x):∃ n:Int,toD x.1 = .int .i64 n ∧ -9223372036854775808≤n∧n≤9223372036854775807:=by
 obtain ⟨n,_,hx,hw⟩:=DataW.trod_int ht h;refine ⟨n,by rw[hx]; rfl,?_⟩;simp only[Lit.wf,Bool.and_eq_true,decide_eq_true_eq,IntKind.min,IntKind.max,IntKind.signed,IntKind.bits] at hw;simp only[if_true] at hw;omega
theorem kE {e:TypeId} (ht:P.underlying t=some (.slice e)) (hs:P.underlying e=some (.int .i64)) (h:DataW.trod enc P w 0 sp held fuel t cs=some x):∃ vs:List Int,toD x.1 = .sl (vs.map (.int .i64))∧vs.length≤D8 x.1 ∧ ∀ v∈vs,-9223372036854775808≤v∧v≤9223372036854775807:=
 qtz ht (fun n cs y hy _=>jm hs hy) h
end
end Go.Rf
