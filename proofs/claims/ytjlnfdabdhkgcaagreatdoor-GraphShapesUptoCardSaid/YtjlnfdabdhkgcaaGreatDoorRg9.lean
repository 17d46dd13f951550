/- Parts of the proof: RfLaw, RfUtf8, RfShape. -/
import Derived.Test.YtjlnfdabdhkgcaaGreatDoorRg8
import Derived.Shelf.Unicode.DecodeSlow

set_option linter.unusedSimpArgs false
set_option linter.unusedVariables false
set_option linter.unnecessarySimpa false
set_option linter.unusedSectionVars false
set_option linter.all false
namespace Go.Rf
open Go.ChangeShapes Go.WideShapes Go.RowKit
section
variable {H:Type} {enc:TypeId × Value→H} {P:Program} {w:World} {sp:Nat→Bool} {held:Bool}
theorem qwk {f:Nat} {t:TypeId} (h:okT P f t=true) {r:Reach} {base fuel:Nat} {v:Value} {x:DataW H × List MemPlace} (hv:Value.okWide P w r base t v) (e:DataW.trod enc P w 0 sp held fuel t v.cells.toList=some x):qf4 x.1 v.cells.toList=v:=by
 cases f with
 | zero=>simp[okT] at h
 | succ f=>
   unfold okT at h;split at h
   ·rename_i hu;obtain ⟨b,rfl⟩:=okWide_bool hu hv;obtain ⟨b',h1,rfl⟩:=DataW.trod_bool hu e;rfl
   ·rename_i k hu;obtain ⟨b,rfl⟩:=okWide_int hu hv;obtain ⟨b',h1,rfl,_⟩:=DataW.trod_int hu e;rfl
   ·rename_i hu;obtain ⟨b,rfl⟩:=okWide_string hu hv;obtain ⟨b',h1,rfl,_⟩:=DataW.trod_string hu e;rfl
   ·rename_i el hu;obtain ⟨a,l,c,rfl⟩:=okWide_slice hu hv;rcases DataW.trod_slice hu e with ⟨_,rfl⟩ | ⟨a,len,cap,K1,rest,n,_,_,rfl,_⟩
    ·rfl
    ·rfl
   ·rename_i fs hu;simp only[Value.okWide,hu] at hv;obtain ⟨cs,rfl,_⟩:=hv;obtain ⟨xs,n,_,rfl,_⟩:=DataW.trod_struct hu e;rfl
   ·cases h
theorem KW {f:Nat} {r:Reach} {base:Nat} {ρ:Map}:∀ (ts:List TypeId) (vs:List Value) (ds:List (DataW H)) (ps:List MemPlace),DataW.TrodAll enc P w 0 sp held ts vs ds ps→(∀ t∈ts,okT P f t=true)→
 (∀ (j:Nat) t v,ts[j]? = some t→vs[j]? = some v→Value.okWide P w r base t v)→xe ds≤1048576→f9 ρ (WF w) (ds.map fun d=>.d (toD d)) vs
 | [],[],[],_,_,_,_,_=>rfl
 | t :: ts,v :: vs,d :: ds,ps,h,hok,hv,hb=>by
   obtain ⟨p,q,⟨fuel,h1⟩,h2,_⟩:=h;simp only[xe] at hb;have hr:=KO f t (hok t (List.mem_cons_self ..)) fuel _ _ h1 (by simp only; omega);have hm:=qwk (hok t (List.mem_cons_self ..)) (hv 0 t v rfl rfl) h1;refine ⟨v,vs,rfl,?_,KW ts vs ds q h2 (fun t' ht=>hok t' (List.mem_cons_of_mem _ ht)) (fun j t' v' a b=>hv (j + 1) t' v' (by simpa using a) (by simpa using b)) (by omega)⟩;have:=hr.val.1;rw[hm] at this;exact this
 | [],_ :: _,_,_,h,_,_,_=>h.elim
 | [],[],_ :: _,_,h,_,_,_=>h.elim
 | _ :: _,[],_,_,h,_,_,_=>h.elim
 | _ :: _,_ :: _,[],_,h,_,_,_=>h.elim
theorem Kb (hl:laidOutB P=true) {W W':World} (hb:Below W.heap.size W W'):∀ (ts:List TypeId) (vs:List Value) (ds:List (DataW H)) (ps:List MemPlace),(∀ t∈ts,P.readableRec t=true∧t < P.types.size)→
 DataW.TrodAll enc P W 0 (fun _=>true) true ts vs ds ps→(∀ x∈ps,x.block < W.heap.size)→DataW.TrodAll enc P W' 0 (fun b=>decide (b < W.heap.size)) true ts vs ds ps
 | [],[],[],_,_,h,_=>h
 | t :: ts,v :: vs,d :: ds,ps,hok,h,hlt=>by
   obtain ⟨p,q,h1,h2,rfl⟩:=h;exact ⟨p,q,Below.trod hl (hok t (List.mem_cons_self ..)).1 (hok t (List.mem_cons_self ..)).2 h1 hb (fun x hx=>hlt x (List.mem_append_left _ hx)),Kb hl hb ts vs ds q (fun t' ht=>hok t' (List.mem_cons_of_mem _ ht)) h2 (fun x hx=>hlt x (List.mem_append_right _ hx)),rfl⟩
 | [],_ :: _,_,_,_,h,_=>h.elim
 | [],[],_ :: _,_,_,h,_=>h.elim
 | _ :: _,[],_,_,_,h,_=>h.elim
 | _ :: _,_ :: _,[],_,_,h,_=>h.elim
end
theorem qr2 (W:World):HRel (fun _=>.none) (WF W) (o5 []) W where
 ice:=fun _ _ _ e=>e
 objs:=fun l o e=>by cases l <;> simp[o5] at e
 gone:=fun _ _=>.inl rfl
 inj:=fun _ _ _ e=>by cases e
 sep:=fun _ _ e=>by cases e
theorem qss {P:Program} {T:Tab} {X:Exts} {W:World} (hT:∀ f af,T.funs f=some af→qfy P f af=true) (hR:∀ f r,T.recs f=some r→Kx P f r=true) (hX:∀ f e,X.run f=some e→qyt (WF W) P f e) {n:Nat} {f:FuncId} {vs:List V} {args:Array Value}
 (hv:f9 (fun _=>.none) (WF W) vs args.toList) (hc:call T X n f vs []=some (.ret [.d (.bool true)] [])):Calls P f args W fun e W'=>e = .returned (.bool true)∧Below W.heap.size W W':=by
 have h:=(qq5 hT hR hX n).1 f vs [] _ hc (fun _=>.none) (WF W) W args (fun _ _ _ e=>e) (qr2 W) hv (fun l hl=>(hl rfl).elim);unfold JS at h
 refine h.mono fun e W' he=>?_
 cases e with
 | outgrown=>cases he
 | panicked ch=>obtain ⟨_,_,_,_,_,h1,_⟩:=he; cases h1
 | returned v=>
   obtain ⟨rs,os,ρ',H',h1,h2,h3⟩:=he;cases h1;refine ⟨by rw[show v = .bool true from h3],⟨h2.trans.os,h2.trans.tape,h2.trans.output,h2.trans.size,fun k hk=>(h2.trans.keep k hk (fun l hl=>by cases hl)).1⟩⟩
end Go.Rf

namespace Go.Rf
variable {B:Ice}
def qrh (B:Ice) (g3 g4:Nat):Prop:=
 (∀ c,c < 256→B g3 c=some (.int .u8 (Lib.firstT c))) ∧ ∀ i,i < 16→B g4 (2 * i)=some (.int .u8 (Lib.accLo i))∧B g4 (2 * i + 1)=some (.int .u8 (Lib.accHi i))
theorem qpt {w w':World} (k:RowKit.Below w.heap.size w w') {a:Addr} {v:Value} (h:w.cell? a=some v):w'.cell? a=some v:=by
 rw[k.cell (World.block_lt_of_cell? w a h)];exact h
theorem HRel.below {ρ:Map} {H:Ice} {h:Loc→Option Obj} {w w':World} (hH:HRel ρ H h w) (k:RowKit.Below w.heap.size w w'):HRel ρ H h w' where
 ice:=fun b o v e=>qpt k (hH.ice b o v e)
 objs:=fun l o e=>(hH.objs l o e).mono (n9.refl _) (fun _ _ _ e=>e) (fun b hb=>k.block b (hH.lt hb))
 gone:=hH.gone
 inj:=hH.inj
 sep:=hH.sep
theorem Trans.below {ρ:Map} {H:Ice} {w w':World} (k:RowKit.Below w.heap.size w w'):Trans ρ H w ρ H w':=
 ⟨k.os,k.tape,k.output,k.size,fun b hb _=>⟨k.block b hb,fun _=>rfl⟩,fun l _ h=>.inr ⟨l,h⟩⟩
theorem q1e {P:Program} {R:Shelf.Ren} (L:Go.Proofs.Lays.n260 P R) (hf:qB P (R.f 260)=true) (hT:qrh B (R.g 3) (R.g 4)):qyt B P (R.f 260) q99:=by
 refine ⟨hf,fun cf _ vs heap r e ρ H w args hB hH hv honly=>?_⟩;unfold q99 at e;split at e
 ·rename_i s;cases e;obtain ⟨v,vs',h1,h2,h3⟩:=hv;cases h3;obtain ⟨rfl,hl⟩:=(h2:v = .string ⟨s.toArray⟩∧s.length≤long);have ha:args = #[.string ⟨s.toArray⟩]:=Array.toList_inj.1 h1;subst ha
  have cell:∀ {b o v},B b o=some v→w.cell? ⟨b,o,none⟩=some v:=fun {b o v} h=>hH.ice b o v (hB b o v h)
  have tabs:Lib.Utf8Tabs (R.g 3) (R.g 4) w:=⟨fun c hc=>cell (hT.1 c hc),fun i hi=>⟨cell (hT.2 i hi).1,cell (hT.2 i hi).2⟩⟩;unfold JS
  refine (Go.Proofs.Any.utf8_decodeRuneInStringSlow L ⟨s.toArray⟩ w tabs).mono fun e w' he=>?_
  obtain ⟨rfl,hb⟩:=he;refine ⟨_,_,ρ,H,rfl,⟨hH.below hb,Trans.below hb,n9.refl _,fun l hl=>by obtain ⟨k,_,hk⟩:=honly l hl; exact ⟨k,hk⟩,Nat.le_refl _⟩,?_⟩
  have hd:Lib.decodeGo ⟨s.toArray⟩=vj s:=by
   unfold Lib.decodeGo vj dec;simp[ByteArray.size]
  rw[hd];exact ⟨[_,_],rfl,_,_,rfl,rfl,_,_,rfl,rfl,rfl⟩
 ·cases e
end Go.Rf

namespace Go.Rf
open Go.ChangeShapes
section
variable {H:Type} {enc:TypeId × Value→H} {P:Program} {w:World} {sp:Nat→Bool} {held:Bool} {fuel:Nat} {t:TypeId} {cs:List Value} {x:DataW H × List MemPlace}
theorem qns (ht:P.underlying t=some .string) (h:DataW.trod enc P w 0 sp held fuel t cs=some x):∃ s:List UInt8,toD x.1 = .str s∧s.length≤xY x.1:=by
 obtain ⟨s,_,hx,_⟩:=DataW.trod_string ht h;exact ⟨s.data.toList,by rw[hx]; rfl,by rw[hx]; simp[xY]⟩
end
end Go.Rf
