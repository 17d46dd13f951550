/- GraphShapes, at most 1048576 values and letters: the law's card, out of what its abstract call comes to. -/
import Derived.Test.YtjlnfdabdhkgcaaGreatDoorRg9
import Derived.Test.YtjlnfdabdhkgcaaGreatDoorSp28
import Derived.Test.YtjlnfdabdhkgcaaGreatDoorRb2
import Derived.Test.YtjlnfdabdhkgcaaGreatDoorCk
import Derived.Test.YtjlnfdabdhkgcaaGreatDoorChecked
import Derived.Test.YtjlnfdabdhkgcaaGreatDoorCards
import Derived.Test.YtjlnfdabdhkgcaaGreatDoorTie
import Derived.Shelf.Strings.Builder1
import Derived.Deep.DeepHandedRow
import Derived.Lib.LaidU8T
import Derived.PinnedBridge
import Derived.Lay

set_option linter.unusedSimpArgs false
set_option linter.unusedVariables false
set_option linter.unnecessarySimpa false
set_option linter.unusedSectionVars false
set_option linter.all false
namespace Go.Rf
open Go.ChangeShapes Go.RowKit
theorem q0w {H:Type} {enc:TypeId × Value→H} {W:World} {args:List Value} {ds:List (DataW H)} {ps:List MemPlace} (h:DataW.TrodAll enc Go.Proofs.Tryz.prog W 0 (fun _=>true) true [9] args ds ps) (hb:xe ds≤1048576) :
 ∃ n,call T0 X0 n 14 (ds.map fun d=>.d (toD d)) []=some (.ret [.d (.bool true)] []):=by
 obtain ⟨v0,vs0,d0,ds0,p0,q0,_,rfl,_,⟨f0,h0⟩,r0⟩:=trodAll_cons h;obtain ⟨_,rfl,_⟩:=trodAll_nil r0;simp only[xe] at hb;obtain ⟨s,e0,l0⟩:=qns Go.Proofs.Tryz.underlying9 h0;simp only[] at l0 e0;have g:=qn2 s (by omega)
 have e:([d0].map fun d=>V.d (toD d))=[.d (.str s)]:=by
  simp only[List.map_cons,List.map_nil,e0]
 rw[e];exact vm g
end Go.Rf

namespace Go.Rf
variable {B:Ice}
theorem ofList_cons (o:Obj) (os:List Obj) (ho:o ≠ .dead):o5 (o :: os) (.b 0)=some o:=by
 unfold o5;simp only[List.getElem?_cons_zero];split
 ·rename_i e; cases e; exact absurd rfl ho
 ·rfl
theorem ofList_upd0 (o o':Obj) (os:List Obj) (ho:o' ≠ .dead):Zc (o5 (o :: os)) (.b 0) (some o')=o5 (o' :: os):=by
 funext l
 by_cases h:l = .b 0
 ·subst h; rw[V3,ofList_cons _ _ ho]
 ·rw[zm h]
  cases l with
  | n i k=>rfl
  | b n=>
    cases n with
    | zero=>exact absurd rfl h
    | succ n=>rfl
theorem ofList_kill1 (o o':Obj) (os:List Obj):Zc (o5 (o :: o' :: os)) (.b 1) none=o5 (o :: .dead :: os):=by
 funext l
 by_cases h:l = .b 1
 ·subst h; rw[V3]; rfl
 ·rw[zm h]
  cases l with
  | n i k=>rfl
  | b n=>
    match n with
    | 0=>rfl
    | 1=>exact absurd rfl h
    | n + 2=>rfl
theorem HRel.free {ρ:Map} {H:Ice} {h:Loc→Option Obj} {w w':World} (k:HRel ρ H h w) {g:Nat} (hg:∀ l,¬ (ρ l).has g) (hi:∀ o,H g o=none) (hk:∀ i,i≠g→w'.heap[i]? = w.heap[i]?):HRel ρ H h w' where
 ice:=fun b o v e=>by
  have hne:b≠g:=fun hb=>by rw[hb,hi o] at e; cases e
  exact (World.cell?_of_block (w:=w) (a:=⟨b,o,Option.none⟩) (w':=w') (hk b hne)).trans (k.ice b o v e)
 objs:=fun l o e=>(k.objs l o e).mono (n9.refl _) (fun _ _ _ e=>e) (fun b hb=>hk b (fun e=>hg l (e ▸ hb)))
 gone:=k.gone
 inj:=k.inj
 sep:=k.sep
theorem bytesX_rel {ρ:Map} {H:Ice}:∀ {ys:List V} {us:List Value} {s:List UInt8},qi6 ys=some s→f9 ρ H ys us→us=Lib.byteCells s∧flat us=us
 | [],us,s,e,k=>by cases e; cases k; exact ⟨rfl,rfl⟩
 | y :: ys,us,s,e,k=>by
   obtain ⟨u,us',rfl,k1,k2⟩:=k;unfold qi6 at e;split at e
   ·rename_i h; cases h
   ·rename_i n l hy;cases hy;split at e
    ·rename_i hn;obtain ⟨s',e1,rfl⟩:=Option.map_eq_some_iff.1 e;obtain ⟨rfl,h3⟩:=bytesX_rel e1 k2;have k1:u = .int .u8 n:=k1;subst k1
     have:((UInt8.ofNat n.toNat).toNat:Int)=n:=by
      rw[UInt8.toNat_ofNat',Nat.mod_eq_of_lt (by omega)];omega
     refine ⟨congrArg (· :: Lib.byteCells s') (congrArg (Value.int .u8) this.symm),?_⟩;simp only[flat,List.flatMap_cons] at h3 ⊢;rw[h3];rfl
    ·cases e
   ·cases e
open Go.Proofs Go.Shelf Go.RowKit in
theorem ccX_ok {P:Program} {R:Shelf.Ren} (L:Go.Proofs.Lays.n240 P R) (X:Go.Proofs.Builder.X72 P R) (hf:qB P (R.f 240)=true):qyt B P (R.f 240) (ccX (R.t 72 + 1000000)):=by
 refine ⟨hf,fun cf _ vs heap r e ρ H w args hB hH hv honly=>?_⟩
 have key:∀ (a rr:V) (rest:List Obj) (args:Array Value),HRel ρ H (o5 (.arr [.agg [a,rr]] ⟨2,R.t 72 + 1000000⟩ :: rest)) w→f9 ρ H [.ptr (.b 0) 0 0] args.toList→
  ∃ b arr va vr,ρ (.b 0) = .at_ b 0 ⟨2,R.t 72 + 1000000⟩ 2∧args = #[.pointer (some ⟨b,0,Option.none⟩)]∧w.heap[b]? = some (.cells arr (R.t 72) (0,0))∧arr.size=2∧m7 ρ H a va∧m7 ρ H rr vr∧arr[0]? = some va∧arr[1]? = some vr∧[a,rr].any K7=false:=by
  intro a rr rest args hH hv;have hobj:=hH.objs (.b 0) _ (ofList_cons _ _ (by intro h; cases h));obtain ⟨v,vs',h1,h2,h3⟩:=hv;cases h3;have h2:M4 (ρ (.b 0)) 0 0 v:=h2
  cases hp:ρ (.b 0) with
  | at_ b base s size=>
    rw[hp] at hobj h2;obtain ⟨rfl,arr,elem,fr,us,hb,hsize,hus,hj,hs,hc,hty⟩:=hobj;obtain ⟨t1,t2,t3,t4⟩:=hty (Nat.le_add_left ..);have t4:=t4 (show (2:Nat)≠1 by decide);have t1:elem=R.t 72:=Nat.add_right_cancel t1;subst t1 t2 t3 t4;obtain ⟨u,us',rfl,k1,k2⟩:=hus;cases k2;obtain ⟨cs,rfl,q1,q2⟩:=k1;obtain ⟨va,l1,rfl,m1,m2⟩:=q1;obtain ⟨vr,l2,rfl,m3,m4⟩:=m2;cases m4;have c0:=hc 0 va rfl;have c1:=hc 1 vr rfl;refine ⟨b,arr,va,vr,rfl,?_,hb,by simpa using hsize,m1,m3,by simpa using c0,by simpa using c1,q2⟩;have h2:v = .pointer (some ⟨b,0 + 0 * 2 + 0,Option.none⟩):=h2;rw[h2] at h1;exact Array.toList_inj.1 h1
  | none=>rw[hp] at h2; exact h2.elim
  | dead=>rw[hp] at hobj; exact hobj.elim
  | virt s=>rw[hp] at h2; exact h2.elim
  | blk q=>rw[hp] at h2; exact h2.elim
  | lol b1 b2 b3 b4 b5=>rw[hp] at hobj; exact hobj.elim
 unfold ccX at e;split at e
 ·rename_i rr k rest;split at e
  ·rename_i hk;subst hk;cases e;obtain ⟨b,arr,va,vr,hp,rfl,hb,hsz,m1,m3,c0,c1,hag⟩:=key _ _ _ _ hH hv;have m1:va = .pointer Option.none:=m1;subst m1;have hlt:b < w.heap.size:=(Array.getElem?_eq_some_iff.1 hb).1;unfold JS
   refine (Any.Builder_copyCheck_fresh L X b w (by simp only[World.cell?,hb]; simpa using c0) (by simp[World.shape?,hb,hsz]) (by simp[World.frozen?,hb])).mono fun e w' he=>?_
   obtain ⟨rfl,rfl⟩:=he
   have hw:(w.setCell ⟨b,0,Option.none⟩ (.pointer (some ⟨b,0,Option.none⟩))).heap[b]? = some (.cells (arr.setIfInBounds 0 (.pointer (some ⟨b,0,Option.none⟩))) (R.t 72) (0,0)):=by
    simp[World.setCell,Array.getElem?_modify,hb]
   obtain ⟨k1,k2⟩:=hH.write (w':=w.setCell ⟨b,0,Option.none⟩ (.pointer (some ⟨b,0,Option.none⟩))) (l:=.b 0) (b:=b) (by rw[hp]; rfl) (.arr [.agg [.ptr (.b 0) 0 0,rr]] ⟨2,R.t 72 + 1000000⟩) ⟨rfl,rfl,rfl,by simp[World.setCell]⟩
    (fun q hq=>by simp[World.setCell,Array.getElem?_modify,Ne.symm hq]) (by
     rw[hp];refine ⟨rfl,_,_,0,[.agg #[.pointer (some ⟨b,0,Option.none⟩),vr]],hw,by simp[hsz],⟨_,[],rfl,⟨_,rfl,⟨_,_,rfl,?_,_,_,rfl,m3,rfl⟩,?_⟩,rfl⟩,rfl,?_,?_,fun _=>⟨rfl,rfl,rfl,fun _=>rfl⟩⟩
     ·show M4 (ρ (.b 0)) 0 0 _;rw[hp]; rfl
     ·exact hag
     ·intro u hu;rw[List.mem_singleton.1 hu];rfl
     ·intro i v hi
      match i,hi with
      | 0,hi=>
        have:v = .pointer (some ⟨b,0,Option.none⟩):=(Option.some.inj hi).symm;subst this;simp[Array.getElem?_setIfInBounds,hsz]
      | 1,hi=>
        have:v=vr:=(Option.some.inj hi).symm;subst this
        simpa [Array.getElem?_setIfInBounds] using c1
      | i + 2,hi=>cases hi)
   rw[ofList_upd0 _ _ _ (by intro h; cases h)] at k1;exact ⟨[],_,ρ,H,rfl,⟨k1,k2,n9.refl _,fun l hl=>by obtain ⟨k,_,hk⟩:=honly l hl; exact ⟨k,hk⟩,by simp⟩,⟨[],rfl,rfl⟩⟩
  ·cases e
 ·rename_i rr k rest;split at e
  ·rename_i hk;subst hk;cases e;obtain ⟨b,arr,va,vr,hp,rfl,hb,hsz,m1,m3,c0,c1,hag⟩:=key _ _ _ _ hH hv;have m1:M4 (ρ (.b 0)) 0 0 va:=m1;rw[hp] at m1;have m1:va = .pointer (some ⟨b,0,Option.none⟩):=m1;subst m1;unfold JS
   refine (Any.Builder_copyCheck_used L X b w (by simp only[World.cell?,hb]; simpa using c0)).mono fun e w' he=>?_
   obtain ⟨rfl,rfl⟩:=he;exact ⟨[],_,ρ,H,rfl,⟨hH,Trans.refl ..,n9.refl _,fun l hl=>by obtain ⟨k,_,hk⟩:=honly l hl; exact ⟨k,hk⟩,by simp⟩,⟨[],rfl,rfl⟩⟩
  ·cases e
 ·cases e
open Go.Proofs Go.Shelf Go.RowKit in
set_option maxHeartbeats 1000000 in
set_option maxRecDepth 100000 in
theorem builder_string {P:Program} {R:Shelf.Ren} (L:Go.Proofs.Lays.n169 P R) (X:Go.Proofs.Builder.Extra P R) (b g cap:Nat) (p:Value) (cur:Array Value) (l:List UInt8) (w:World) (h0:l≠[]) (hbk:w.heap[b]? = some (.cells #[p,.slice (some ⟨g,0,Option.none⟩) l.length cap] (R.t 72) (0,0)))
 (hg:w.heap[g]? = some (.cells cur (R.t 5) (0,0))) (hnc:l.length≤cap) (hcs:cur.size=cap) (hcm:l.length≤9223372036854775807) (hcell:∀ (j:Nat) (x:UInt8),l[j]? = some x→cur[j]? = some (Value.int .u8 x.toNat)) :
 Calls P (R.f 169) #[.pointer (some ⟨b,0,Option.none⟩)] w fun e w'=>e = .returned (.string ⟨l.toArray⟩)∧w'=w.drew.freeze ⟨g,0,Option.none⟩ l.length:=by
 have hl0:l.length≠0:=by simpa using h0
 have c1:w.drew.cell? ⟨b,1,Option.none⟩=some (.slice (some ⟨g,0,Option.none⟩) l.length cap):=by
  have:w.drew.heap[b]? = some (.cells #[p,.slice (some ⟨g,0,Option.none⟩) l.length cap] (R.t 72) (0,0)):=hbk;rw[Lib.cell_of_heap this]; rfl
 have hSD:(Builtin.unsafeSliceData_ #[(R.t 37)] (R.t 127) #[.slice (some ⟨g,0,Option.none⟩) l.length cap]).run P w.drew = .ok (.pointer (some ⟨g,0,Option.none⟩)) w.drew:=
  Lib.run_unsafeSliceData_row _ _ _ _ _ _ (by omega)
 have hUS:(Builtin.unsafeString_ #[(R.t 127),(R.t 3)] (R.t 9) #[.pointer (some ⟨g,0,Option.none⟩),.int .i64 l.length]).run P w.drew = .ok (.string ⟨l.toArray⟩) (w.drew.freeze ⟨g,0,Option.none⟩ l.length):=by
  refine Lib.run_unsafeString_row w.drew (R.t 127) (R.t 3) (R.t 9) (R.t 5) L.t127 X.cellsByte g cur.size (by have hg':w.drew.heap[g]? = some (.cells cur (R.t 5) (0,0)):=hg; simp[World.shape?,hg']) l h0 (by omega) hcm ?_;intro j x hx;have hg':w.drew.heap[g]? = some (.cells cur (R.t 5) (0,0)):=hg
  have:w.drew.cell? ⟨g,j,Option.none⟩=some (.int .u8 x.toNat):=by rw[Lib.cell_of_heap hg']; exact hcell j x hx
  simp only[Addr.add];split
  ·rename_i hj; rw[hj] at this; exact this
  ·simpa using this
 have mixed:=L.mixed;have t72:=L.t72; have a72:=L.a72; have z72:=L.z72; have v72:=L.v72; have u72:=run_underlying L.t72;have t70:=L.t70; have a70:=L.a70; have z70:=L.z70; have v70:=L.v70; have u70:=run_underlying L.t70;have t37:=L.t37; have a37:=L.a37; have z37:=L.z37; have v37:=L.v37; have u37:=run_underlying L.t37;have t127:=L.t127; have a127:=L.a127; have z127:=L.z127; have v127:=L.v127; have u127:=run_underlying L.t127;have t3:=L.t3; have a3:=L.a3; have z3:=L.z3; have v3:=L.v3; have u3:=run_underlying L.t3;have t9:=L.t9; have a9:=L.a9; have z9:=L.z9; have v9:=L.v9; have u9:=run_underlying L.t9;have t5:=X.t5; have a5:=X.a5; have z5:=X.z5; have v5:=X.v5; have u5:=run_underlying X.t5
 go_enter L.f169,Body.n169_ntmps R
 go_wp2
 go_region_o
 all_goals (go_wp2; go_ret; exact ⟨rfl,rfl⟩)
open Go.Proofs Go.Shelf Go.RowKit in
theorem bsX_ok {P:Program} {R:Shelf.Ren} (L:Go.Proofs.Lays.n169 P R) (X:Go.Proofs.Builder.Extra P R) (hf:qB P (R.f 169)=true):qyt B P (R.f 169) (bsX (R.t 72 + 1000000) (R.t 5 + 1000000)):=by
 refine ⟨hf,fun cf _ vs heap r e ρ H w args hB hH hv honly=>?_⟩;unfold bsX at e;split at e
 ·rename_i a k5 n k xs k6 rest;split at e
  ·rename_i hc;obtain ⟨rfl,rfl,rfl,rfl,hpos⟩:=hc;obtain ⟨s,e1,e2⟩:=d9 e;cases e2;have hobj:=hH.objs (.b 0) _ (ofList_cons _ _ (by intro h; cases h));have hob1:z7 ρ H w (.arr xs ⟨1,R.t 5 + 1000000⟩) (ρ (.b 1)):=hH.objs (.b 1) _ rfl;obtain ⟨v,vs',h1,h2,h3⟩:=hv;cases h3;have h2:M4 (ρ (.b 0)) 0 0 v:=h2
   cases hp:ρ (.b 0) with
   | none=>rw[hp] at h2; exact h2.elim
   | dead=>rw[hp] at hobj; exact hobj.elim
   | virt s=>rw[hp] at h2; exact h2.elim
   | blk q=>rw[hp] at h2; exact h2.elim
   | lol b1 b2 b3 b4 b5=>rw[hp] at hobj; exact hobj.elim
   | at_ b base sz size=>
   rw[hp] at hobj h2;obtain ⟨rfl,arr,elem,fr,us,hb,hsize,hus,hj,hs,hc,hty⟩:=hobj;obtain ⟨t1,t2,t3,t4⟩:=hty (Nat.le_add_left ..);have t4:=t4 (show (2:Nat)≠1 by decide);have t1:elem=R.t 72:=Nat.add_right_cancel t1;subst t1 t2 t3 t4;obtain ⟨u,us',rfl,k1,k2⟩:=hus;cases k2;obtain ⟨cs,rfl,q1,q2⟩:=k1;obtain ⟨va,l1,rfl,m1,m2⟩:=q1;obtain ⟨vr,l2,rfl,m3,m4⟩:=m2;cases m4;have c0:=hc 0 va rfl;have c1:=hc 1 vr rfl;have h2:v = .pointer (some ⟨b,0 + 0 * 2 + 0,Option.none⟩):=h2;have m3:H0 (ρ (.b 1)) ⟨1,R.t 5 + 1000000⟩ 0 xs.length vr:=m3
   cases hq:ρ (.b 1) with
   | none=>rw[hq] at m3; exact m3.elim
   | dead=>rw[hq] at hob1; exact hob1.elim
   | virt s2=>rw[hq] at m3; obtain ⟨_,_,h,_⟩:=m3; omega
   | blk q=>rw[hq] at m3; exact m3.elim
   | lol b1 b2 b3 b4 b5=>rw[hq] at hob1; exact hob1.elim
   | at_ g base2 sz2 size2=>
   rw[hq] at hob1 m3;obtain ⟨rfl,cur,elem2,fr2,us2,hg,hsize2,hus2,hj2,hs2,hc2,hty2⟩:=hob1;obtain ⟨t1,t2,t3,_⟩:=hty2 (Nat.le_add_left ..);have t1:elem2=R.t 5:=Nat.add_right_cancel t1;subst t1 t2 t3;obtain ⟨_,cap,rfl,r1,r2,r3,r4,r5⟩:=m3;obtain ⟨_,_,r6⟩:=r5 (Nat.le_add_left ..)
   have r6:cap=size2:=by simpa using r6
   obtain ⟨hus2b,hfl⟩:=bytesX_rel e1 hus2;subst hus2b
   have hlen:xs.length=s.length:=by rw[hus2.length]; simp[Lib.byteCells]
   have hsize:arr.size=2:=hsize
   have harr:arr = #[va,.slice (some ⟨g,0,Option.none⟩) xs.length cap]:=by
    apply Array.ext_getElem?;intro i
    match i with
    | 0=>simpa using c0
    | 1=>simpa using c1
    | i + 2=>rw[Array.getElem?_eq_none (by rw[show arr.size=2 from hsize]; omega),Array.getElem?_eq_none (by simp)]
   have ha:args = #[.pointer (some ⟨b,0,Option.none⟩)]:=by rw[h2] at h1; exact Array.toList_inj.1 h1
   subst ha
   have hsize2:cur.size=cap:=by rw[hsize2,r6]
   have hlots:xs.length≤A5:=r4
   have hlm:s.length≤9223372036854775807:=by rw[← hlen]; unfold A5 at hlots; omega
   unfold JS
   refine (builder_string L X b g cap va cur s w (by intro h; rw[h] at hlen; have:xs.length=0:=hlen; omega) (by rw[hb,harr,hlen]) hg (by omega) hsize2 hlm (fun j x hx=>by
    have:=hc2 j (.int .u8 x.toNat) (by rw[hfl]; simp[Lib.byteCells,hx])
    simpa using this)).mono fun e w' he=>?_
   obtain ⟨rfl,rfl⟩:=he;obtain ⟨k1,k2,k3⟩:=hH.kill (.b 1);rw[ofList_kill1] at k1
   have hng:∀ l,¬ (O3 ρ (.b 1) .dead l).has g:=fun l hl=>by
    by_cases h:l = .b 1
    ·rw[h,q8] at hl; cases hl
    ·rw[r8 h] at hl;exact h (hH.inj l (.b 1) g hl (by rw[hq]; rfl))
   have hig:∀ o,H g o=Option.none:=fun o=>hH.sep (.b 1) g (by rw[hq]; rfl) o
   have hk:∀ i,i≠g→(w.drew.freeze ⟨g,0,Option.none⟩ s.length).heap[i]? = w.heap[i]?:=fun i hi=>by
    unfold World.freeze;split
    ·rfl
    ·simp only[Array.getElem?_modify,if_neg (Ne.symm hi)]
     try rfl
   have k4:=k1.free (w':=w.drew.freeze ⟨g,0,Option.none⟩ s.length) hng hig hk;refine ⟨_,_,O3 ρ (.b 1) .dead,H,rfl,⟨k4,⟨?_,?_,?_,?_,fun q hq' hl=>?_,fun l q hl=>?_⟩,k3,fun l hl=>?_,by simp⟩,?_⟩
   ·unfold World.freeze; split <;> rfl
   ·unfold World.freeze; split <;> rfl
   ·unfold World.freeze; split <;> rfl
   ·unfold World.freeze; split
    ·exact Nat.le_refl _
    ·simp
   ·have:q≠g:=fun h=>hl (.b 1) (by rw[hq,h]; rfl)
    exact ⟨hk q this,fun _=>rfl⟩
   ·by_cases h:l = .b 1
    ·rw[h,q8] at hl; cases hl
    ·rw[r8 h] at hl; exact .inr ⟨l,hl⟩
   ·by_cases h:l = .b 1
    ·exact ⟨1,h⟩
    ·rw[r8 h] at hl;obtain ⟨k,_,hk⟩:=honly l hl;exact ⟨k,hk⟩
   ·show Q6 H (.str s) _;exact ⟨rfl,by rw[← hlen]; exact Nat.le_trans hlots (by unfold A5 long; omega)⟩
  ·cases e
 ·cases e
end Go.Rf
namespace Go.Proofs.YtjlnfdabdhkgcaaGreatDoor.gs
open Go.ChangeShapes Go.WideShapes Go.ChangeAt Go.RowKit Go.Shelf Go.Lib Go.Rf
theorem own:ownKnob Tryz.prog.godebug=none:=by kernel_rfl
theorem laidOut:laidOutB Tryz.prog=true:=by kernel_rfl
def ren260:Shelf.Ren where
 f n:=match n with | 240=>156 | 169=>92 | 276=>233 | _=>305
 t n:=match n with | 37=>172 | 46=>307 | 70=>171 | 72=>174 | 119=>398 | 127=>276 | 138=>400 | 139=>401 | 164=>346 | n=>n
 g n:=match n with | 3=>0 | _=>1
theorem lays260:Go.Proofs.Lays.n260 Tryz.prog ren260 where
 mixed:=by kernel_rfl
 f260:=by kernel_rfl
 t0:=by kernel_rfl
 a0:=Tryz.isAgg0
 z0:=Tryz.sizeOf0
 v0:=Tryz.zeroValue0
 t3:=by kernel_rfl
 a3:=Tryz.isAgg3
 z3:=Tryz.sizeOf3
 v3:=Tryz.zeroValue3
 t4:=by kernel_rfl
 a4:=Tryz.isAgg4
 z4:=Tryz.sizeOf4
 v4:=Tryz.zeroValue4
 t5:=by kernel_rfl
 a5:=Tryz.isAgg5
 z5:=Tryz.sizeOf5
 v5:=Tryz.zeroValue5
 t9:=by kernel_rfl
 a9:=Tryz.isAgg9
 z9:=Tryz.sizeOf9
 v9:=Tryz.zeroValue9
 t21:=by kernel_rfl
 a21:=Tryz.isAgg21
 z21:=Tryz.sizeOf21
 v21:=Tryz.zeroValue21
 t46:=by kernel_rfl
 a46:=Tryz.isAgg307
 z46:=Tryz.sizeOf307
 v46:=Tryz.zeroValue307
 t119:=by kernel_rfl
 a119:=Tryz.isAgg398
 z119:=Tryz.sizeOf398
 t138:=by kernel_rfl
 a138:=Tryz.isAgg400
 z138:=Tryz.sizeOf400
 v138:=Tryz.zeroValue400
 t139:=by kernel_rfl
 a139:=Tryz.isAgg401
 z139:=Tryz.sizeOf401
 v139:=Tryz.zeroValue401
 g3:=by kernel_rfl
 g4:=by kernel_rfl
theorem lays240:Go.Proofs.Lays.n240 Tryz.prog ren260 where
 mixed:=by kernel_rfl
 f240:=by kernel_rfl
 f276:=by kernel_rfl
 t0:=by kernel_rfl
 a0:=Tryz.isAgg0
 z0:=Tryz.sizeOf0
 v0:=Tryz.zeroValue0
 t4:=by kernel_rfl
 a4:=Tryz.isAgg4
 z4:=Tryz.sizeOf4
 v4:=Tryz.zeroValue4
 t9:=by kernel_rfl
 a9:=Tryz.isAgg9
 z9:=Tryz.sizeOf9
 v9:=Tryz.zeroValue9
 t20:=by kernel_rfl
 a20:=Tryz.isAgg20
 z20:=Tryz.sizeOf20
 v20:=Tryz.zeroValue20
 t70:=by kernel_rfl
 a70:=Tryz.isAgg171
 z70:=Tryz.sizeOf171
 v70:=Tryz.zeroValue171
 t72:=by kernel_rfl
 a72:=Tryz.isAgg174
 z72:=Tryz.sizeOf174
 v72:=Tryz.zeroValue174
 t164:=by kernel_rfl
 a164:=Tryz.isAgg346
 z164:=Tryz.sizeOf346
 v164:=Tryz.zeroValue346
theorem lays169:Go.Proofs.Lays.n169 Tryz.prog ren260 where
 mixed:=by kernel_rfl
 f169:=by kernel_rfl
 t0:=by kernel_rfl
 a0:=Tryz.isAgg0
 z0:=Tryz.sizeOf0
 v0:=Tryz.zeroValue0
 t3:=by kernel_rfl
 a3:=Tryz.isAgg3
 z3:=Tryz.sizeOf3
 v3:=Tryz.zeroValue3
 t9:=by kernel_rfl
 a9:=Tryz.isAgg9
 z9:=Tryz.sizeOf9
 v9:=Tryz.zeroValue9
 t37:=by kernel_rfl
 a37:=Tryz.isAgg172
 z37:=Tryz.sizeOf172
 v37:=Tryz.zeroValue172
 t70:=by kernel_rfl
 a70:=Tryz.isAgg171
 z70:=Tryz.sizeOf171
 v70:=Tryz.zeroValue171
 t72:=by kernel_rfl
 a72:=Tryz.isAgg174
 z72:=Tryz.sizeOf174
 v72:=Tryz.zeroValue174
 t127:=by kernel_rfl
 a127:=Tryz.isAgg276
 z127:=Tryz.sizeOf276
 v127:=Tryz.zeroValue276
theorem x72:Builder.X72 Tryz.prog ren260 where
 sizeBuilder:=by kernel_rfl
 liesBuilder:=by kernel_rfl
theorem bextra:Builder.Extra Tryz.prog ren260 where
 toX72:=x72
 t5:=by kernel_rfl
 a5:=Tryz.isAgg5
 z5:=Tryz.sizeOf5
 v5:=Tryz.zeroValue5
 infoByte:=by kernel_rfl
 cellsByte:=by kernel_rfl
 sizeByte:=by kernel_rfl
 neB5:=by decide
theorem extra:U8Extra Tryz.prog ren260:=by constructor <;> kernel_rfl
theorem tabs {W:World} (h:laidMetH Tryz.prog Rows.graphShapesUptoRow.laid W):qrh (WF W) 0 1:=by
 rw[MakeChecks.laidMetH_plain _ _ _ (by kernel_rfl)] at h;have hT:Lib.Utf8Tabs (ren260.g 3) (ren260.g 4) W:=utf8Tabs_of_readsT (U8Types.of260 lays260) extra (Pinned.utf8First_eq ▸ Lib.laidMet.reads h (.tail _ (.head _))) (Lib.laidMet.reads h (.head _));exact ⟨hT.1,hT.2⟩
mutual
theorem bulk_eq {H:Type}:∀ d:DataW H,Rows.uptoBulk d=xY d
 | .lit l=>by cases l <;> rfl
 | .nil=>rfl
 | .ptr d=>by simp only[Rows.uptoBulk,xY,bulk_eq d]
 | .slice a b=>by simp only[Rows.uptoBulk,xY,bulks_eq a,bulks_eq b]
 | .agg a=>by simp only[Rows.uptoBulk,xY,bulks_eq a]
 | .iface _ d=>by simp only[Rows.uptoBulk,xY,bulk_eq d]
 | .map es=>by simp only[Rows.uptoBulk,xY,bulkEs_eq es]
 | .held _=>rfl
theorem bulks_eq {H:Type}:∀ d:List (DataW H),Rows.uptoBulkAll d=xe d
 | []=>rfl
 | d :: r=>by simp only[Rows.uptoBulkAll,xe,bulk_eq d,bulks_eq r]
theorem bulkEs_eq {H:Type}:∀ d:List (Lit × DataW H),Rows.uptoBulkEntries d=qi7 d
 | []=>rfl
 | x :: r=>by simp only[Rows.uptoBulkEntries,qi7,bulkE_eq x,bulkEs_eq r]
theorem bulkE_eq {H:Type}:∀ d:Lit × DataW H,Rows.uptoBulkEntry d=qx7 d
 | (l,d)=>by cases l <;> simp only[Rows.uptoBulkEntry,qx7,bulk_eq d]
end
set_option maxRecDepth 100000 in
theorem contract (H:Type) (enc:TypeId × Value→H) (W:World) (base:Nat) (args:Array Value) (ds gs:List (DataW H)) (before:List MemPlace)
 (hval:∀ (j:Nat) t v,Tryz.f14.params[j]? = some t→args[j]? = some v→Value.okWide Tryz.prog W .any base t v)
 (hW:DataW.Whole enc Tryz.prog Tryz.f14.params.toList Rows.graphShapesSpec.vars false W args.toList ds gs before) (hL:laidMetH Tryz.prog Rows.graphShapesUptoRow.laid W) (hb:Rows.uptoBulkAll (ds++gs)≤1048576) :
 Calls Tryz.prog 14 args W fun e W'=>∃ v,e = .returned v∧Rows.graphShapesSpec.post enc Tryz.prog Tryz.f14 false true false false W args v W':=by
 have hW':=hW;obtain ⟨p,q,hA0,hV,rfl,hfz,hnd⟩:=hW
 have hA:DataW.TrodAll enc Tryz.prog W 0 (fun _=>true) true [9] args.toList ds p:=by rw[Tryz.params14] at hA0; exact hA0
 rw[Tryz.params14] at hval;obtain ⟨rfl,rfl⟩:=trodVars_none hV;rw[List.append_nil,bulks_eq] at hb;have hr:=KW (f:=8) (ρ:=fun _=>.none) (r:=.any) (base:=base) _ _ _ _ hA (by intro t ht; simp only[List.mem_cons,List.not_mem_nil,or_false] at ht; rcases ht with rfl <;> kernel_rfl) (fun j t v h1 h2=>hval j t v (by simpa using h1) (by simpa using h2)) hb;obtain ⟨n,hn⟩:=q0w (enc:=enc) hA hb
 refine (qss okT0 okR0 (fun f e he=>?_) hr hn).mono fun e W' ⟨he,hw⟩=>?_
 ·unfold X0 at he;simp only at he;split at he
  ·cases he;rename_i hf;subst hf;exact q1e lays260 (by kernel_rfl) (tabs hL)
  ·split at he
   ·cases he;rename_i hf;subst hf;exact ccX_ok lays240 x72 (by kernel_rfl)
   ·split at he
    ·cases he;rename_i hf;subst hf;exact bsX_ok lays169 bextra (by kernel_rfl)
    ·cases he
 ·subst he
  have hlt:∀ x∈p,x.block < W.heap.size:=fun x hx=>by simpa using hW'.lt x (List.mem_append_left _ hx)
  have hback:=Kb laidOut hw [9] _ _ _ (by intro t ht; simp only[List.mem_cons,List.not_mem_nil,or_false] at ht; rcases ht with rfl <;> exact ⟨by kernel_rfl,of_decide_eq_true (by kernel_rfl)⟩) hA hlt
  obtain ⟨d0,rfl⟩:∃ d0,ds=[d0]:=by
   obtain ⟨v0,vs0,d0,ds0,p0,q0,_,rfl,_,_,r0⟩:=trodAll_cons hA;obtain ⟨_,rfl,_⟩:=trodAll_nil r0;exact ⟨d0,rfl⟩
  refine ⟨_,rfl,[d0],[],p++[],[],p,[],hW',trodAll_mk1 (shut_bool Tryz.underlying4 _),?_,rfl,hw.frame _,fun h=>by cases h⟩;rw[Tryz.params14];exact hback
theorem laid_met (os:Os):laidMet Tryz.prog Rows.graphShapesUptoRow.laid ((World.laidAll Tryz.prog os Rows.graphShapesUptoRow.laid).forCall (fun _ _=>0) ⟨#[],#[.string ⟨#[]⟩],[]⟩).memory:=
 laidMet_laidAll _ (by kernel_rfl) (by kernel_rfl)
theorem reads (os:Os) {H:Type} (enc:TypeId × Value→H):∃ places,DataW.whole enc Tryz.prog ((World.laidAll Tryz.prog os Rows.graphShapesUptoRow.laid).forCall (fun _ _=>0) ⟨#[],#[.string ⟨#[]⟩],[]⟩).memory Tryz.f14.params.toList Rows.graphShapesSpec.vars false #[(.string ⟨#[]⟩:Value)].toList 8=some ([.lit (.string [])],[],places):=
 ⟨[],by kernel_rfl⟩
set_option maxRecDepth 100000 in
theorem liftedUpto (os:Os) (started:os.Started) (H:Type) (enc:TypeId × Value→H) (F:Stop.Interp) :
 ReturnsInHanded {} Tryz.checked os 14 .any ((Rows.OpenSpec.upto Rows.graphShapesSpec).preRow enc Tryz.prog Tryz.f14 Rows.graphShapesUptoRow.domain false Rows.graphShapesUptoRow.laid) (((Rows.OpenSpec.upto Rows.graphShapesSpec).at F).post enc Tryz.prog Tryz.f14 false true false false):=by
 obtain ⟨places,hx⟩:=reads os enc
 refine returnsInHanded_of_row (C:=Tryz.checked) (s:=Rows.OpenSpec.upto Rows.graphShapesSpec) own started (by kernel_rfl) Tryz.func14
  (witness_row_at (enc:=enc) (C:=Tryz.checked) false (World.laidAll Tryz.prog os Rows.graphShapesUptoRow.laid) #[.string ⟨#[]⟩] (World.laidAll_os _ _ _) (by kernel_rfl) (by kernel_rfl) (by kernel_rfl)
   (OpenSpec.preRow_of_cond 8 hx (by kernel_rfl) (fun k hk=>by cases hk; kernel_rfl) (by kernel_rfl) (laid_met os))) ?_
 intro W base args ds gs before hval hW _ hcond _ hL _ _
 exact contract H enc W base args ds gs before hval hW hL (by
  have:=hcond _ rfl
  simpa only [Rows.uptoSmall,decide_eq_true_eq] using this)
theorem ai {a b:Bool} (h:a=true) (g:b=true):(a && b)=true:=by rw[h,g]; rfl
set_option maxHeartbeats 0 in
set_option maxRecDepth 100000 in
theorem closedUpto:joinedFacts Tryz.pinned.checked.prog 14 Tryz.f14 (Rows.OpenSpec.upto Rows.graphShapesSpec).bare Rows.graphShapesUptoRow=true:=by
 unfold joinedFacts
 repeat' with_reducible refine ai ?_ ?_
 all_goals (as_aux_lemma=>kernel_rfl)
theorem saidUpto:Rows.GraphShapesUptoSaid:=
 OpenClaim.holds_of_cond 14 Tryz.f14 rfl rfl rfl rfl rfl rfl rfl ⟨rfl,rfl,rfl,rfl,rfl⟩ rfl rfl rfl rfl rfl (by kernel_rfl) Tryz.func14 closedUpto
  (of_decide_eq_true (by kernel_rfl)) (by unfold Func.isWrapper; first | (rw[if_pos (by decide +kernel)]; kernel_rfl) | (rw[if_neg (by decide +kernel)]; exact ⟨rfl,rfl⟩))
  (fun os started H enc _ F=>by rw[OpenClaim.pre_eq_preRow]; exact liftedUpto os started H enc F)
theorem plain (f : FuncId) (fn : Func) (hf : Tryz.pinned.checked.prog.funcNamed "rafter/rafterlaw10.GraphShapes" = some f) (hfn : Tryz.pinned.checked.prog.funcs[f]? = some fn) :
 true=Tryz.pinned.checked.prog.looks [] ∧ ∀ (j:Nat) t,fn.params[j]? = some t→Tryz.pinned.checked.prog.wantsStandIn t=false:=by
 obtain rfl : f = 14 := Option.some.inj ((show Tryz.prog.funcNamed "rafter/rafterlaw10.GraphShapes" = some 14 by kernel_rfl).symm.trans hf) |>.symm;obtain rfl : fn = Tryz.f14 := (Option.some.inj (Tryz.func14.symm.trans hfn)).symm;refine ⟨by kernel_rfl, fun j t ht => ?_⟩;rw [Tryz.params14] at ht
 have hm:t∈([9]:List Nat):=by simpa using Array.mem_of_getElem? ht
 have hall:(([9]:List Nat).all fun u=>!Tryz.prog.wantsStandIn u)=true:=by kernel_rfl
 exact (show Tryz.prog.wantsStandIn t=false by simpa using List.all_eq_true.1 hall t hm)
theorem cardUpto:Rows.GraphShapesUptoCardSaid:=
 Claim7.holds_tied_plain_at .later [] _ _ _ _ saidUpto (fun _ h=>by cases h) (by kernel_rfl) (fun _ h=>by cases h) graphShapesUpto_row_tie rfl ⟨rfl,rfl⟩ (by kernel_rfl) rfl plain (by kernel_rfl)
#print axioms cardUpto
end Go.Proofs.YtjlnfdabdhkgcaaGreatDoor.gs
