/- Parts of the proof. -/
import Derived.Test.YtpaeaccmddffjaaGreatDoorRg10
import Derived.Shelf.Strings.Builder1
set_option linter.all false
set_option linter.unusedSectionVars false
namespace Go.Rf
variable [Prg]
variable {B:Ice}
theorem XA (o:Obj) (os:List Obj) (ho:o ≠ .dead):j5 (o :: os) (.b 0)=some o:=by
 unfold j5;simp only[List.getElem?_cons_zero];split
 ·rename_i e; cases e; exact absurd rfl ho
 ·rfl
theorem qln (o o':Obj) (os:List Obj) (ho:o' ≠ .dead):F5 (j5 (o :: os)) (.b 0) (some o')=j5 (o' :: os):=by
 funext l
 by_cases h:l = .b 0
 ·subst h; rw[m9,XA _ _ ho]
 ·rw[I4 h]
  cases l with
  | n i k=>rfl
  | b n=>
    cases n with
    | zero=>exact absurd rfl h
    | succ n=>rfl
theorem qil (o o':Obj) (os:List Obj):F5 (j5 (o :: o' :: os)) (.b 1) none=j5 (o :: .dead :: os):=by
 funext l
 by_cases h:l = .b 1
 ·subst h; rw[m9]; rfl
 ·rw[I4 h]
  cases l with
  | n i k=>rfl
  | b n=>
    match n with
    | 0=>rfl
    | 1=>exact absurd rfl h
    | n + 2=>rfl
theorem HRel.free {ρ:Map} {H:Ice} {h:Loc→Option Obj} {w w':World} (k:HRel ρ H h w) {g:Nat} (hg:∀ l,¬ (ρ l).has g) (hi:∀ o,H g o=none) (hk:∀ i,i≠g→w'.heap[i]? = w.heap[i]?):HRel ρ H h w' where
 ice:=fun b o v e=>by
  have hne:b≠g:=fun hb=>by rw[hb,hi o] at e; cases e
  exact (World.cell?_of_block (w:=w) (a:=⟨b,o,Option.none⟩) (w':=w') (hk b hne)).trans (k.ice b o v e)
 objs:=fun l o e=>(k.objs l o e).mono (j4.refl _) (fun _ _ _ e=>e) (fun b hb=>hk b (fun e=>hg l (e ▸ hb)))
 gone:=k.gone
 inj:=k.inj
 sep:=k.sep
theorem qd2 {ρ:Map} {H:Ice}:∀ {ys:List V} {us:List Value} {s:List UInt8},Wp ys=some s→f9 ρ H ys us→us=Lib.byteCells s∧flat us=us
 | [],us,s,e,k=>by cases e; cases k; exact ⟨rfl,rfl⟩
 | y :: ys,us,s,e,k=>by
   obtain ⟨u,us',rfl,k1,k2⟩:=k;unfold Wp at e;split at e
   ·rename_i h; cases h
   ·rename_i n l hy;cases hy;split at e
    ·rename_i hn;obtain ⟨s',e1,rfl⟩:=Option.map_eq_some_iff.1 e;obtain ⟨rfl,h3⟩:=qd2 e1 k2;have k1:u = .int .u8 n:=k1;subst k1
     have:((UInt8.ofNat n.toNat).toNat:Int)=n:=by
      rw[UInt8.toNat_ofNat',Nat.mod_eq_of_lt (by omega)];omega
     refine ⟨congrArg (· :: Lib.byteCells s') (congrArg (Value.int .u8) this.symm),?_⟩;simp only[flat,List.flatMap_cons] at h3 ⊢;rw[h3];rfl
    ·cases e
   ·cases e
open Go.Proofs Go.Shelf Go.RowKit in
theorem qzw {P:Program} {R:Shelf.Ren} (L:Go.Proofs.Lays.n240 P R) (X:Go.Proofs.Builder.X72 P R) (hf:S6 P (R.f 240)=true):qnx B P (R.f 240) (ccX (R.t 72 + 1000000)):=by
 refine ⟨hf,fun cf _ vs heap r e ρ H w args hB hH hv honly=>?_⟩
 have key:∀ (a rr:V) (rest:List Obj) (args:Array Value),HRel ρ H (j5 (.arr [.agg [a,rr]] ⟨2,R.t 72 + 1000000⟩ :: rest)) w→f9 ρ H [.ptr (.b 0) 0 0] args.toList→
  ∃ b arr va vr,ρ (.b 0) = .at_ b 0 ⟨2,R.t 72 + 1000000⟩ 2∧args = #[.pointer (some ⟨b,0,Option.none⟩)]∧w.heap[b]? = some (.cells arr (R.t 72) (0,0))∧arr.size=2∧j9 ρ H a va∧j9 ρ H rr vr∧arr[0]? = some va∧arr[1]? = some vr∧[a,rr].any J7=false:=by
  intro a rr rest args hH hv;have hobj:=hH.objs (.b 0) _ (XA _ _ (by intro h; cases h));obtain ⟨v,vs',h1,h2,h3⟩:=hv;cases h3;have h2:D8 (ρ (.b 0)) 0 0 v:=h2
  cases hp:ρ (.b 0) with
  | at_ b base s size=>
    rw[hp] at hobj h2;obtain ⟨rfl,arr,elem,fr,us,hb,hsize,hus,hj,hs,hc,hty⟩:=hobj;obtain ⟨t1,t2,t3,t4⟩:=hty (Nat.le_add_left ..);have t4:=t4 (show (2:Nat)≠1 by decide);have t1:elem=R.t 72:=Nat.add_right_cancel t1;subst t1 t2 t3 t4;obtain ⟨u,us',rfl,k1,k2⟩:=hus;cases k2;obtain ⟨cs,rfl,q1,q2⟩:=k1;obtain ⟨va,l1,rfl,m1,m2⟩:=q1;obtain ⟨vr,l2,rfl,m3,m4⟩:=m2;cases m4;have c0:=hc 0 va rfl;have c1:=hc 1 vr rfl;refine ⟨b,arr,va,vr,rfl,?_,hb,by simpa using hsize,m1,m3,by simpa using c0,by simpa using c1,q2⟩;have h2:v = .pointer (some ⟨b,0 + 0 * 2 + 0,Option.none⟩):=h2;rw[h2] at h1;exact Array.toList_inj.1 h1
  | none=>rw[hp] at h2; exact h2.elim
  | dead=>rw[hp] at hobj; exact hobj.elim
  | virt s=>rw[hp] at h2; exact h2.elim
  | blk q=>rw[hp] at h2; exact h2.elim
  | gl b1 b2 b3 b4 b5=>rw[hp] at hobj; exact hobj.elim
  | grw b1 b2 b3 b4 b5=>rw[hp] at hobj; exact hobj.elim
  | out _ _ _ _=>rw[hp] at hobj; exact hobj.elim
 unfold ccX at e;split at e
 ·rename_i rr k rest;split at e
  ·rename_i hk;subst hk;cases e;obtain ⟨b,arr,va,vr,hp,rfl,hb,hsz,m1,m3,c0,c1,hag⟩:=key _ _ _ _ hH hv;have m1:va = .pointer Option.none:=m1;subst m1;have hlt:b < w.heap.size:=(Array.getElem?_eq_some_iff.1 hb).1;unfold wu
   refine (Any.Builder_copyCheck_fresh L X b w (by simp only[World.cell?,hb]; simpa using c0) (by simp[World.shape?,hb,hsz]) (by simp[World.frozen?,hb])).mono fun e w' he=>?_
   obtain ⟨rfl,rfl⟩:=he
   have hw:(w.setCell ⟨b,0,Option.none⟩ (.pointer (some ⟨b,0,Option.none⟩))).heap[b]? = some (.cells (arr.setIfInBounds 0 (.pointer (some ⟨b,0,Option.none⟩))) (R.t 72) (0,0)):=by
    simp[World.setCell,Array.getElem?_modify,hb]
   obtain ⟨k1,k2⟩:=hH.write (w':=w.setCell ⟨b,0,Option.none⟩ (.pointer (some ⟨b,0,Option.none⟩))) (l:=.b 0) (b:=b) (by rw[hp]; rfl) (.arr [.agg [.ptr (.b 0) 0 0,rr]] ⟨2,R.t 72 + 1000000⟩) ⟨rfl,rfl,rfl,by simp[World.setCell]⟩
    (fun q hq=>by simp[World.setCell,Array.getElem?_modify,Ne.symm hq]) (by
     rw[hp];refine ⟨rfl,_,_,0,[.agg #[.pointer (some ⟨b,0,Option.none⟩),vr]],hw,by simp[hsz],⟨_,[],rfl,⟨_,rfl,⟨_,_,rfl,?_,_,_,rfl,m3,rfl⟩,?_⟩,rfl⟩,rfl,?_,?_,fun _=>⟨rfl,rfl,rfl,fun _=>rfl⟩⟩
     ·show D8 (ρ (.b 0)) 0 0 _;rw[hp]; rfl
     ·exact hag
     ·intro u hu;rw[List.mem_singleton.1 hu];rfl
     ·intro i v hi
      match i,hi with
      | 0,hi=>
        have:v = .pointer (some ⟨b,0,Option.none⟩):=(Option.some.inj hi).symm;subst this;simp[Array.getElem?_setIfInBounds,hsz]
      | 1,hi=>
        have:v=vr:=(Option.some.inj hi).symm;subst this
        simpa [Array.getElem?_setIfInBounds] using c1
      | i + 2,hi=>cases hi)
   rw[qln _ _ _ (by intro h; cases h)] at k1;exact ⟨[],_,ρ,H,rfl,⟨k1,k2,j4.refl _,fun l hl=>by obtain ⟨k,_,hk⟩:=honly l hl; exact ⟨k,hk⟩,by simp⟩,⟨[],rfl,rfl⟩⟩
  ·cases e
 ·rename_i rr k rest;split at e
  ·rename_i hk;subst hk;cases e;obtain ⟨b,arr,va,vr,hp,rfl,hb,hsz,m1,m3,c0,c1,hag⟩:=key _ _ _ _ hH hv;have m1:D8 (ρ (.b 0)) 0 0 va:=m1;rw[hp] at m1;have m1:va = .pointer (some ⟨b,0,Option.none⟩):=m1;subst m1;unfold wu
   refine (Any.Builder_copyCheck_used L X b w (by simp only[World.cell?,hb]; simpa using c0)).mono fun e w' he=>?_
   obtain ⟨rfl,rfl⟩:=he;exact ⟨[],_,ρ,H,rfl,⟨hH,Trans.refl ..,j4.refl _,fun l hl=>by obtain ⟨k,_,hk⟩:=honly l hl; exact ⟨k,hk⟩,by simp⟩,⟨[],rfl,rfl⟩⟩
  ·cases e
 ·cases e
open Go.Proofs Go.Shelf Go.RowKit in
set_option maxHeartbeats 1000000 in
set_option maxRecDepth 100000 in
theorem qd3 {P:Program} {R:Shelf.Ren} (L:Go.Proofs.Lays.n169 P R) (X:Go.Proofs.Builder.Extra P R) (b g cap:Nat) (p:Value) (cur:Array Value) (l:List UInt8) (w:World) (h0:l≠[]) (hbk:w.heap[b]? = some (.cells #[p,.slice (some ⟨g,0,Option.none⟩) l.length cap] (R.t 72) (0,0)))
 (hg:w.heap[g]? = some (.cells cur (R.t 5) (0,0))) (hnc:l.length≤cap) (hcs:cur.size=cap) (hcm:l.length≤9223372036854775807) (hcell:∀ (j:Nat) (x:UInt8),l[j]? = some x→cur[j]? = some (Value.int .u8 x.toNat)) :
 Calls P (R.f 169) #[.pointer (some ⟨b,0,Option.none⟩)] w fun e w'=>e = .returned (.string ⟨l.toArray⟩)∧w'=w.drew.freeze ⟨g,0,Option.none⟩ l.length:=by
 have hl0:l.length≠0:=by simpa using h0
 have c1:w.drew.cell? ⟨b,1,Option.none⟩=some (.slice (some ⟨g,0,Option.none⟩) l.length cap):=by
  have:w.drew.heap[b]? = some (.cells #[p,.slice (some ⟨g,0,Option.none⟩) l.length cap] (R.t 72) (0,0)):=hbk;rw[Lib.cell_of_heap this]; rfl
 have hSD:(Builtin.unsafeSliceData_ #[(R.t 37)] (R.t 127) #[.slice (some ⟨g,0,Option.none⟩) l.length cap]).run P w.drew = .ok (.pointer (some ⟨g,0,Option.none⟩)) w.drew:=
  Lib.run_unsafeSliceData_row _ _ _ _ _ _ (by omega)
 have hUS:(Builtin.unsafeString_ #[(R.t 127),(R.t 3)] (R.t 9) #[.pointer (some ⟨g,0,Option.none⟩),.int .i64 l.length]).run P w.drew = .ok (.string ⟨l.toArray⟩) (w.drew.freeze ⟨g,0,Option.none⟩ l.length):=by
  refine Lib.run_unsafeString_row w.drew (R.t 127) (R.t 3) (R.t 9) (R.t 5) L.t127 X.cellsByte g cur.size (by have hg':w.drew.heap[g]? = some (.cells cur (R.t 5) (0,0)):=hg; simp[World.shape?,hg']) l h0 (by omega) hcm ?_;intro j x hx;have hg':w.drew.heap[g]? = some (.cells cur (R.t 5) (0,0)):=hg
  have:w.drew.cell? ⟨g,j,Option.none⟩=some (.int .u8 x.toNat):=by rw[Lib.cell_of_heap hg']; exact hcell j x hx
  simp only[Addr.add];split
  ·rename_i hj; rw[hj] at this; exact this
  ·simpa using this
 have mixed:=L.mixed;have t72:=L.t72; have a72:=L.a72; have z72:=L.z72; have v72:=L.v72; have u72:=run_underlying L.t72;have t70:=L.t70; have a70:=L.a70; have z70:=L.z70; have v70:=L.v70; have u70:=run_underlying L.t70;have t37:=L.t37; have a37:=L.a37; have z37:=L.z37; have v37:=L.v37; have u37:=run_underlying L.t37;have t127:=L.t127; have a127:=L.a127; have z127:=L.z127; have v127:=L.v127; have u127:=run_underlying L.t127;have t3:=L.t3; have a3:=L.a3; have z3:=L.z3; have v3:=L.v3; have u3:=run_underlying L.t3;have t9:=L.t9; have a9:=L.a9; have z9:=L.z9; have v9:=L.v9; have u9:=run_underlying L.t9;have t5:=X.t5; have a5:=X.a5; have z5:=X.z5; have v5:=X.v5; have u5:=run_underlying X.t5
 go_enter L.f169,Body.n169_ntmps R
 go_wp2
 go_region_o
 all_goals (go_wp2; go_ret; exact ⟨rfl,rfl⟩)
open Go.Proofs Go.Shelf Go.RowKit in
theorem qzz {P:Program} {R:Shelf.Ren} (L:Go.Proofs.Lays.n169 P R) (X:Go.Proofs.Builder.Extra P R) (hf:S6 P (R.f 169)=true):qnx B P (R.f 169) (bsX (R.t 72 + 1000000) (R.t 5 + 1000000)):=by
 refine ⟨hf,fun cf _ vs heap r e ρ H w args hB hH hv honly=>?_⟩;unfold bsX at e;split at e
 ·rename_i a k5 n k xs k6 rest;split at e
  ·rename_i hc;obtain ⟨rfl,rfl,rfl,rfl,hpos⟩:=hc;obtain ⟨s,e1,e2⟩:=f7 e;cases e2;have hobj:=hH.objs (.b 0) _ (XA _ _ (by intro h; cases h));have hob1:w5 ρ H w (.arr xs ⟨1,R.t 5 + 1000000⟩) (ρ (.b 1)):=hH.objs (.b 1) _ rfl;obtain ⟨v,vs',h1,h2,h3⟩:=hv;cases h3;have h2:D8 (ρ (.b 0)) 0 0 v:=h2
   cases hp:ρ (.b 0) with
   | none=>rw[hp] at h2; exact h2.elim
   | dead=>rw[hp] at hobj; exact hobj.elim
   | virt s=>rw[hp] at h2; exact h2.elim
   | blk q=>rw[hp] at h2; exact h2.elim
   | gl b1 b2 b3 b4 b5=>rw[hp] at hobj; exact hobj.elim
   | grw b1 b2 b3 b4 b5=>rw[hp] at hobj; exact hobj.elim
   | out _ _ _ _=>rw[hp] at hobj; exact hobj.elim
   | at_ b base sz size=>
   rw[hp] at hobj h2;obtain ⟨rfl,arr,elem,fr,us,hb,hsize,hus,hj,hs,hc,hty⟩:=hobj;obtain ⟨t1,t2,t3,t4⟩:=hty (Nat.le_add_left ..);have t4:=t4 (show (2:Nat)≠1 by decide);have t1:elem=R.t 72:=Nat.add_right_cancel t1;subst t1 t2 t3 t4;obtain ⟨u,us',rfl,k1,k2⟩:=hus;cases k2;obtain ⟨cs,rfl,q1,q2⟩:=k1;obtain ⟨va,l1,rfl,m1,m2⟩:=q1;obtain ⟨vr,l2,rfl,m3,m4⟩:=m2;cases m4;have c0:=hc 0 va rfl;have c1:=hc 1 vr rfl;have h2:v = .pointer (some ⟨b,0 + 0 * 2 + 0,Option.none⟩):=h2;have m3:A3 (ρ (.b 1)) ⟨1,R.t 5 + 1000000⟩ 0 xs.length vr:=m3
   cases hq:ρ (.b 1) with
   | none=>rw[hq] at m3; exact m3.elim
   | dead=>rw[hq] at hob1; exact hob1.elim
   | virt s2=>rw[hq] at m3; obtain ⟨_,_,h,_⟩:=m3; omega
   | blk q=>rw[hq] at m3; exact m3.elim
   | gl b1 b2 b3 b4 b5=>rw[hq] at hob1; exact hob1.elim
   | grw b1 b2 b3 b4 b5=>rw[hq] at hob1; exact hob1.elim
   | out _ _ _ _=>rw[hq] at hob1; exact hob1.elim
   | at_ g base2 sz2 size2=>
   rw[hq] at hob1 m3;obtain ⟨rfl,cur,elem2,fr2,us2,hg,hsize2,hus2,hj2,hs2,hc2,hty2⟩:=hob1;obtain ⟨t1,t2,t3,_⟩:=hty2 (Nat.le_add_left ..);have t1:elem2=R.t 5:=Nat.add_right_cancel t1;subst t1 t2 t3;obtain ⟨_,cap,rfl,r1,r2,r3,r4,r5⟩:=m3;obtain ⟨_,_,r6⟩:=r5 (Nat.le_add_left ..)
   have r6:cap=size2:=by simpa using r6
   obtain ⟨hus2b,hfl⟩:=qd2 e1 hus2;subst hus2b
   have hlen:xs.length=s.length:=by rw[hus2.length]; simp[Lib.byteCells]
   have hsize:arr.size=2:=hsize
   have harr:arr = #[va,.slice (some ⟨g,0,Option.none⟩) xs.length cap]:=by
    apply Array.ext_getElem?;intro i
    match i with
    | 0=>simpa using c0
    | 1=>simpa using c1
    | i + 2=>rw[Array.getElem?_eq_none (by rw[show arr.size=2 from hsize]; omega),Array.getElem?_eq_none (by simp)]
   have ha:args = #[.pointer (some ⟨b,0,Option.none⟩)]:=by rw[h2] at h1; exact Array.toList_inj.1 h1
   subst ha
   have hsize2:cur.size=cap:=by rw[hsize2,r6]
   have hlots:xs.length≤w8:=r4
   have hlm:s.length≤9223372036854775807:=by rw[← hlen]; unfold w8 at hlots; omega
   unfold wu
   refine (qd3 L X b g cap va cur s w (by intro h; rw[h] at hlen; have:xs.length=0:=hlen; omega) (by rw[hb,harr,hlen]) hg (by omega) hsize2 hlm (fun j x hx=>by
    have:=hc2 j (.int .u8 x.toNat) (by rw[hfl]; simp[Lib.byteCells,hx])
    simpa using this)).mono fun e w' he=>?_
   obtain ⟨rfl,rfl⟩:=he;obtain ⟨k1,k2,k3⟩:=hH.kill (.b 1);rw[qil] at k1
   have hng:∀ l,¬ (B5 ρ (.b 1) .dead l).has g:=fun l hl=>by
    by_cases h:l = .b 1
    ·rw[h,m7] at hl; cases hl
    ·rw[n6 h] at hl;exact h (hH.inj l (.b 1) g hl (by rw[hq]; rfl))
   have hig:∀ o,H g o=Option.none:=fun o=>hH.sepA (.b 1) g (by rw[hq]; rfl) o
   have hk:∀ i,i≠g→(w.drew.freeze ⟨g,0,Option.none⟩ s.length).heap[i]? = w.heap[i]?:=fun i hi=>by
    unfold World.freeze;split
    ·rfl
    ·simp only[Array.getElem?_modify,if_neg (Ne.symm hi)]
     try rfl
   have k4:=k1.free (w':=w.drew.freeze ⟨g,0,Option.none⟩ s.length) hng hig hk;refine ⟨_,_,B5 ρ (.b 1) .dead,H,rfl,⟨k4,⟨?_,?_,?_,?_,fun q hq' hl=>?_,fun l q hl=>?_,fun _ _ _ e=>e⟩,k3,fun l hl=>?_,by simp⟩,?_⟩
   ·unfold World.freeze; split <;> rfl
   ·unfold World.freeze; split <;> rfl
   ·unfold World.freeze; split <;> rfl
   ·unfold World.freeze; split
    ·exact Nat.le_refl _
    ·simp
   ·have:q≠g:=fun h=>hl (.b 1) (by rw[hq,h]; rfl)
    exact ⟨hk q this,fun _=>rfl⟩
   ·by_cases h:l = .b 1
    ·rw[h,m7] at hl; cases hl
    ·rw[n6 h] at hl; exact .inr ⟨l,hl⟩
   ·by_cases h:l = .b 1
    ·exact ⟨1,h⟩
    ·rw[n6 h] at hl;obtain ⟨k,_,hk⟩:=honly l hl;exact ⟨k,hk⟩
   ·show I3 H (.str s) _;exact ⟨rfl,by rw[← hlen]; exact Nat.le_trans hlots (by unfold w8 long; omega)⟩
  ·cases e
 ·cases e
end Go.Rf
