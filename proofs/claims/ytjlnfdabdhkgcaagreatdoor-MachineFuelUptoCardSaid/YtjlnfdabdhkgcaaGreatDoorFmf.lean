/- MachineFuel, at most 1048576 values and letters: the law's card, out of what its abstract call comes to. -/
import Derived.Test.YtjlnfdabdhkgcaaGreatDoorRg9
import Derived.Test.YtjlnfdabdhkgcaaGreatDoorSp28
import Derived.Test.YtjlnfdabdhkgcaaGreatDoorCk
import Derived.Test.YtjlnfdabdhkgcaaGreatDoorChecked
import Derived.Test.YtjlnfdabdhkgcaaGreatDoorCards
import Derived.Test.YtjlnfdabdhkgcaaGreatDoorTie
import Derived.Deep.DeepHandedRow
import Derived.Lib.LaidU8T
import Derived.PinnedBridge
import Derived.Lay

set_option linter.unusedSimpArgs false
set_option linter.unusedVariables false
set_option linter.unnecessarySimpa false
set_option linter.unusedSectionVars false
set_option linter.all false
namespace Go.Rf
set_option maxHeartbeats 16000000
def fuT:List UInt8:=[118,97,114,115,59,32,119,104,105,108,101,32,48,32,61,32,48,32,123,32,125]
def lkF (g:Gb) (p:Int):List Int:=[(Mc.mk g p 0 0 [] []).look.k,(Mc.mk g p 0 0 [] []).look.e.t,(Mc.mk g p 0 0 [] []).look.e.k,(Mc.mk g p 0 0 [] []).look.c]
theorem fu_k:(jb fuT).map (fun g=>[lkF g 0,lkF g 1,lkF g 2,[(g.bs.length:Int)]])=some [[0,1,1,0],[0,2,6,0],[0,1,1,0],[0]]:=by decide +kernel
structure Fu (g:Gb) (m:Mc):Prop where
 e:m=⟨g,m.p,m.steps,0,[],[]⟩
 p:m.p=0∨m.p=1∨m.p=2
theorem qsh {g:Gb} (h0:lkF g 0=[0,1,1,0]) (h1:lkF g 1=[0,2,6,0]) (h2:lkF g 2=[0,1,1,0]) {m:Mc} (h:Fu g m):m.look.k=0∧Fu g m.step:=by
 obtain ⟨e,hp⟩:=h;generalize m.p=p at *;generalize m.steps=s at *;subst e
 have hl:∀ p,(Mc.mk g p s 0 [] []).look=(Mc.mk g p 0 0 [] []).look:=fun _=>rfl
 have key:∀ p t k:Int,lkF g p=[0,t,k,0]→¬ (2≤k∧k≤4)→(t=0∨t=1∨t=2)→(Mc.mk g p s 0 [] []).look.k=0∧Fu g (Mc.mk g p s 0 [] []).step:=fun p t k h hk ht=>by
  unfold lkF at h;simp only[List.cons.injEq,and_true] at h;obtain ⟨a1,a2,a3,a4⟩:=h;unfold Mc.step Mc.take;rw[hl];refine ⟨a1,?_,?_⟩
  ·simp only[a4,a3,if_neg hk];rfl
  ·simp only[a2];exact ht
 rcases hp with rfl | rfl | rfl
 ·exact key 0 1 1 h0 (by decide) (by decide)
 ·exact key 1 2 6 h1 (by decide) (by decide)
 ·exact key 2 1 1 h2 (by decide) (by decide)
theorem q4y {g:Gb} (h0:lkF g 0=[0,1,1,0]) (h1:lkF g 1=[0,2,6,0]) (h2:lkF g 2=[0,1,1,0]):∀ (n:Nat) (m:Mc),Fu g m→m.steps≤65536→((m.goF n).1:Int)=min (n:Int) (65536 - m.steps)∧Fu g (m.goF n).2
 | 0,m,h,hs=>⟨by simp only[Mc.goF]; omega,h⟩
 | n + 1,m,h,hs=>by
   obtain ⟨a,b⟩:=qsh h0 h1 h2 h;show (((if m.steps < 65536 then (if m.look.k=0 then ((m.step.goF n).1 + 1,(m.step.goF n).2) else (0,m)) else (0,m)):Nat × Mc).1:Int)=_∧Fu g ((if m.steps < 65536 then (if m.look.k=0 then ((m.step.goF n).1 + 1,(m.step.goF n).2) else (0,m)) else (0,m)):Nat × Mc).2
   by_cases hs:m.steps < 65536
   ·rw[if_pos hs,if_pos a];obtain ⟨c,d⟩:=q4y h0 h1 h2 n m.step b (by show m.steps + 1≤_; omega);have e:m.step.steps=m.steps + 1:=rfl;rw[e] at c;exact ⟨by simp only[]; omega,d⟩
   ·rw[if_neg hs];exact ⟨by simp only[]; omega,h⟩
theorem qzb (f:Int):d5 T0 X0 Qq [.d (.int .i64 f)] []=some (.ret [.d (.bool true)] []):=by
 have s0:=ji;have s1:=ja fuT (by decide);have k:=fu_k
 cases hb:jb fuT with
 | none=>rw[hb] at k; cases k
 | some g=>
   rw[hb] at k s1;have hg:=kH hb;simp only[Option.map_some,Option.some.injEq,List.cons.injEq,and_true] at k;obtain ⟨k0,k1,k2,k3⟩:=k
   have k0:lkF g 0=[0,1,1,0]:=by simpa using k0
   have hv:∀ x∈([]:List Int),-9223372036854775808≤x∧x≤9223372036854775807:=fun x hx=>by cases hx
   have I:=wF hg (ch:=[]) (by decide) hv;obtain ⟨b1,b2,b3⟩:=jM hg hv;have s2:=WR g [] (by omega) (fun b hb=>by have:=hg.bs b hb; omega) (by decide) hv
   have hf0:Fu g (Mc.begin g []):=by
    have:g.bs=[]:=List.length_eq_zero_iff.1 (by omega);unfold Mc.begin;rw[this];exact ⟨rfl,.inl rfl⟩
   generalize Mc.begin g []=m0 at *;have go:=q4y (g:=g) k0 k1 k2
   have lk:=fun m (h:Fu g m)=>(qsh k0 k1 k2 h).1
   have all:∀ F:Int,∃ (m1 m2 m3:Mc) (c1 c2 c3:Nat),(c1:Int)=max 0 (min F 65536)∧(c2:Int)=min 9 (65536 - c1)∧(c3:Int)=min 5 (65536 - c1 - c2)∧m1.steps=c1∧m3.steps=c1 + c2 + c3∧Mst m1∧Mst m3∧m1.look.k=0∧m3.look.k=0∧(d5 T0 X0 U5 [.ptr (.b 0) 0 0,.d (.int .i64 F)] (MH m0)=some (.ret [.d (.int .i64 c1)] (MH m1)))∧(d5 T0 X0 U5 [.ptr (.b 0) 0 0,.d (.int .i64 9)] (MH m1)=some (.ret [.d (.int .i64 c2)] (MH m2)))∧(d5 T0 X0 U5 [.ptr (.b 0) 0 0,.d (.int .i64 5)] (MH m2)=some (.ret [.d (.int .i64 c3)] (MH m3)))∧m1.st.length≤16∧m2.st.length≤16:=fun F=>by
    have i1:=jD I F.toNat m0 b1;have i2:=jD I 9 _ i1;have i3:=jD I 5 _ i2;have t1:=Wt I m0 b1 F;have t2:=Wt I _ i1 9;have t3:=Wt I _ i2 5;have z1:=zL F.toNat m0;have z2:=zL 9 (m0.goF F.toNat).2;have z3:=zL 5 ((m0.goF F.toNat).2.goF 9).2;obtain ⟨g1,f1⟩:=go F.toNat m0 hf0 (by omega);have y1:=qax F.toNat m0;obtain ⟨g2,f2⟩:=go 9 _ f1 (by omega);obtain ⟨g3,f3⟩:=go 5 _ f2 (by omega);have l1:=lk _ f1;have l3:=lk _ f3;rw[show (9:Int).toNat=9 from rfl] at t2;rw[show (5:Int).toNat=5 from rfl] at t3;generalize m0.goF F.toNat=r1 at *;generalize r1.2.goF 9=r2 at *;generalize r2.2.goF 5=r3 at *;exact ⟨r1.2,r2.2,r3.2,r1.1,r2.1,r3.1,by omega,by omega,by omega,by omega,by omega,wE I i1,wE I i3,l1,l3,t1,t2,t3,(wE I i1).n,(wE I i2).n⟩
   have hD:∃ D,g.d = .box D:=⟨_,rfl⟩;obtain ⟨D,hD⟩:=hD;rw[c8 (af:=D6) rfl rfl rfl];have hm0:=(wE I b1).n;clear go lk b1 I hf0 hg k0 k1 k2
   by_cases hc:300 < f∧f < 65534
   ·obtain ⟨m1,m2,m3,c1,c2,c3,q1,q2,q3,q4,q5,⟨_,_,t1,_⟩,_,l1,_,u1,_,_,n1,_⟩:=all 300
    have q1:(c1:Int)=300:=by omega
    simp only[MH,Mc.sd,Sd.cs,q4,q1,l1,oGb,hD,fuT,qrr] at s1 s2 t1 u1;simp (maxSteps:=4000000) -implicitDefEqProofs (disch:=omega) [D6,s0,s1,s2,t1,u1,hc]
   ·obtain ⟨m1,m2,m3,c1,c2,c3,q1,q2,q3,q4,q5,⟨_,_,t1,_⟩,⟨n3,_,t3,_⟩,l1,l3,u1,u2,u3,n1,n2⟩:=all f;have hw:max 0 (min f 65536)=(c1:Int):=q1.symm;simp only[MH,Mc.sd,Sd.cs,q4,l1,l3,oGb,hD,fuT,qrr] at s1 s2 t1 t3 u1 u2 u3
    by_cases hc1:(c1:Int)≤300
    ·simp (maxSteps:=4000000) -implicitDefEqProofs (disch:=omega) [D6,s0,s1,s2,t1,u1,hc,hw,hc1]
    ·have q2:(c2:Int)=65536 - c1:=by omega
     have q3:(c3:Int)=0:=by omega
     have q5:m3.steps=65536:=by omega
     simp only[q2,q3,q5] at t3 u2 u3;simp (maxSteps:=4000000) -implicitDefEqProofs (disch:=omega) [D6,s0,s1,s2,t1,t3,u1,u2,u3,hc,hw,hc1]
end Go.Rf

namespace Go.Rf
open Go.ChangeShapes Go.RowKit
theorem q1z {H:Type} {enc:TypeId × Value→H} {W:World} {args:List Value} {ds:List (DataW H)} {ps:List MemPlace} (h:DataW.TrodAll enc Go.Proofs.Tryz.prog W 0 (fun _=>true) true [3] args ds ps) (hb:D4 ds≤1048576) :
 ∃ n,call T0 X0 n 10 (ds.map fun d=>.d (toD d)) []=some (.ret [.d (.bool true)] []):=by
 obtain ⟨v0,vs0,d0,ds0,p0,q0,_,rfl,_,⟨f0,h0⟩,r0⟩:=trodAll_cons h;obtain ⟨_,rfl,_⟩:=trodAll_nil r0;simp only[D4] at hb;obtain ⟨a,e0,ha⟩:=jm Go.Proofs.Tryz.underlying3 h0;simp only[] at e0;have g:=qzb a
 have e:([d0].map fun d=>V.d (toD d))=[.d (.int .i64 a)]:=by
  simp only[List.map_cons,List.map_nil,e0]
 rw[e];exact V9 g
end Go.Rf

namespace Go.Proofs.YtjlnfdabdhkgcaaGreatDoor.mf
open Go.ChangeShapes Go.WideShapes Go.ChangeAt Go.RowKit Go.Shelf Go.Lib Go.Rf
theorem own:ownKnob Tryz.prog.godebug=none:=by kernel_rfl
theorem laidOut:laidOutB Tryz.prog=true:=by kernel_rfl
def ren260:Shelf.Ren where
 f n:=match n with | 240=>156 | 169=>92 | 276=>233 | _=>305
 t n:=match n with | 37=>172 | 46=>307 | 70=>171 | 72=>174 | 119=>398 | 127=>276 | 138=>400 | 139=>401 | 164=>346 | n=>n
 g n:=match n with | 3=>0 | _=>1
theorem lays260:Go.Proofs.Lays.n260 Tryz.prog ren260 where
 mixed:=by kernel_rfl
 f260:=by kernel_rfl
 t0:=by kernel_rfl
 a0:=Tryz.isAgg0
 z0:=Tryz.sizeOf0
 v0:=Tryz.zeroValue0
 t3:=by kernel_rfl
 a3:=Tryz.isAgg3
 z3:=Tryz.sizeOf3
 v3:=Tryz.zeroValue3
 t4:=by kernel_rfl
 a4:=Tryz.isAgg4
 z4:=Tryz.sizeOf4
 v4:=Tryz.zeroValue4
 t5:=by kernel_rfl
 a5:=Tryz.isAgg5
 z5:=Tryz.sizeOf5
 v5:=Tryz.zeroValue5
 t9:=by kernel_rfl
 a9:=Tryz.isAgg9
 z9:=Tryz.sizeOf9
 v9:=Tryz.zeroValue9
 t21:=by kernel_rfl
 a21:=Tryz.isAgg21
 z21:=Tryz.sizeOf21
 v21:=Tryz.zeroValue21
 t46:=by kernel_rfl
 a46:=Tryz.isAgg307
 z46:=Tryz.sizeOf307
 v46:=Tryz.zeroValue307
 t119:=by kernel_rfl
 a119:=Tryz.isAgg398
 z119:=Tryz.sizeOf398
 t138:=by kernel_rfl
 a138:=Tryz.isAgg400
 z138:=Tryz.sizeOf400
 v138:=Tryz.zeroValue400
 t139:=by kernel_rfl
 a139:=Tryz.isAgg401
 z139:=Tryz.sizeOf401
 v139:=Tryz.zeroValue401
 g3:=by kernel_rfl
 g4:=by kernel_rfl
theorem extra:U8Extra Tryz.prog ren260:=by constructor <;> kernel_rfl
theorem tabs {W:World} (h:laidMetH Tryz.prog Rows.machineFuelUptoRow.laid W):XM (XY W) 0 1:=by
 rw[MakeChecks.laidMetH_plain _ _ _ (by kernel_rfl)] at h;have hT:Lib.Utf8Tabs (ren260.g 3) (ren260.g 4) W:=utf8Tabs_of_readsT (U8Types.of260 lays260) extra (Pinned.utf8First_eq ▸ Lib.laidMet.reads h (.tail _ (.head _))) (Lib.laidMet.reads h (.head _));exact ⟨hT.1,hT.2⟩
mutual
theorem bulk_eq {H:Type}:∀ d:DataW H,Rows.uptoBulk d=D8 d
 | .lit l=>by cases l <;> rfl
 | .nil=>rfl
 | .ptr d=>by simp only[Rows.uptoBulk,D8,bulk_eq d]
 | .slice a b=>by simp only[Rows.uptoBulk,D8,bulks_eq a,bulks_eq b]
 | .agg a=>by simp only[Rows.uptoBulk,D8,bulks_eq a]
 | .iface _ d=>by simp only[Rows.uptoBulk,D8,bulk_eq d]
 | .map es=>by simp only[Rows.uptoBulk,D8,bulkEs_eq es]
 | .held _=>rfl
theorem bulks_eq {H:Type}:∀ d:List (DataW H),Rows.uptoBulkAll d=D4 d
 | []=>rfl
 | d :: r=>by simp only[Rows.uptoBulkAll,D4,bulk_eq d,bulks_eq r]
theorem bulkEs_eq {H:Type}:∀ d:List (Lit × DataW H),Rows.uptoBulkEntries d=jL d
 | []=>rfl
 | x :: r=>by simp only[Rows.uptoBulkEntries,jL,bulkE_eq x,bulkEs_eq r]
theorem bulkE_eq {H:Type}:∀ d:Lit × DataW H,Rows.uptoBulkEntry d=ZN d
 | (l,d)=>by cases l <;> simp only[Rows.uptoBulkEntry,ZN,bulk_eq d]
end
set_option maxRecDepth 100000 in
theorem contract (H:Type) (enc:TypeId × Value→H) (W:World) (base:Nat) (args:Array Value) (ds gs:List (DataW H)) (before:List MemPlace)
 (hval:∀ (j:Nat) t v,Tryz.f10.params[j]? = some t→args[j]? = some v→Value.okWide Tryz.prog W .any base t v)
 (hW:DataW.Whole enc Tryz.prog Tryz.f10.params.toList Rows.machineFuelSpec.vars false W args.toList ds gs before) (hL:laidMetH Tryz.prog Rows.machineFuelUptoRow.laid W) (hb:Rows.uptoBulkAll (ds++gs)≤1048576) :
 Calls Tryz.prog 10 args W fun e W'=>∃ v,e = .returned v∧Rows.machineFuelSpec.post enc Tryz.prog Tryz.f10 false true false false W args v W':=by
 have hW':=hW;obtain ⟨p,q,hA0,hV,rfl,hfz,hnd⟩:=hW
 have hA:DataW.TrodAll enc Tryz.prog W 0 (fun _=>true) true [3] args.toList ds p:=by rw[Tryz.params10] at hA0; exact hA0
 rw[Tryz.params10] at hval;obtain ⟨rfl,rfl⟩:=trodVars_none hV;rw[List.append_nil,bulks_eq] at hb;have hr:=Z4 (f:=8) (ρ:=fun _=>.none) (r:=.any) (base:=base) _ _ _ _ hA (by intro t ht; simp only[List.mem_cons,List.not_mem_nil,or_false] at ht; rcases ht with rfl <;> kernel_rfl) (fun j t v h1 h2=>hval j t v (by simpa using h1) (by simpa using h2)) hb;obtain ⟨n,hn⟩:=q1z (enc:=enc) hA hb
 refine (vC qt9 qua (fun f e he=>?_) hr hn).mono fun e W' ⟨he,hw⟩=>?_
 ·unfold X0 at he;simp only at he;split at he
  ·cases he;rename_i hf;subst hf;exact KH lays260 (by kernel_rfl) (tabs hL)
  ·cases he
 ·subst he
  have hlt:∀ x∈p,x.block < W.heap.size:=fun x hx=>by simpa using hW'.lt x (List.mem_append_left _ hx)
  have hback:=V4 laidOut hw [3] _ _ _ (by intro t ht; simp only[List.mem_cons,List.not_mem_nil,or_false] at ht; rcases ht with rfl <;> exact ⟨by kernel_rfl,of_decide_eq_true (by kernel_rfl)⟩) hA hlt
  obtain ⟨d0,rfl⟩:∃ d0,ds=[d0]:=by
   obtain ⟨v0,vs0,d0,ds0,p0,q0,_,rfl,_,_,r0⟩:=trodAll_cons hA;obtain ⟨_,rfl,_⟩:=trodAll_nil r0;exact ⟨d0,rfl⟩
  refine ⟨_,rfl,[d0],[],p++[],[],p,[],hW',trodAll_mk1 (shut_bool Tryz.underlying4 _),?_,rfl,hw.frame _,fun h=>by cases h⟩;rw[Tryz.params10];exact hback
theorem laid_met (os:Os):laidMet Tryz.prog Rows.machineFuelUptoRow.laid ((World.laidAll Tryz.prog os Rows.machineFuelUptoRow.laid).forCall (fun _ _=>0) ⟨#[],#[.int .i64 0],[]⟩).memory:=
 laidMet_laidAll _ (by kernel_rfl) (by kernel_rfl)
theorem reads (os:Os) {H:Type} (enc:TypeId × Value→H):∃ places,DataW.whole enc Tryz.prog ((World.laidAll Tryz.prog os Rows.machineFuelUptoRow.laid).forCall (fun _ _=>0) ⟨#[],#[.int .i64 0],[]⟩).memory Tryz.f10.params.toList Rows.machineFuelSpec.vars false #[(.int .i64 0:Value)].toList 8=some ([.lit (.int .i64 0)],[],places):=
 ⟨[],by kernel_rfl⟩
set_option maxRecDepth 100000 in
theorem liftedUpto (os:Os) (started:os.Started) (H:Type) (enc:TypeId × Value→H) (F:Stop.Interp) :
 ReturnsInHanded {} Tryz.checked os 10 .any ((Rows.OpenSpec.upto Rows.machineFuelSpec).preRow enc Tryz.prog Tryz.f10 Rows.machineFuelUptoRow.domain false Rows.machineFuelUptoRow.laid) (((Rows.OpenSpec.upto Rows.machineFuelSpec).at F).post enc Tryz.prog Tryz.f10 false true false false):=by
 obtain ⟨places,hx⟩:=reads os enc
 refine returnsInHanded_of_row (C:=Tryz.checked) (s:=Rows.OpenSpec.upto Rows.machineFuelSpec) own started (by kernel_rfl) Tryz.func10
  (witness_row_at (enc:=enc) (C:=Tryz.checked) false (World.laidAll Tryz.prog os Rows.machineFuelUptoRow.laid) #[.int .i64 0] (World.laidAll_os _ _ _) (by kernel_rfl) (by kernel_rfl) (by kernel_rfl)
   (OpenSpec.preRow_of_cond 8 hx (by kernel_rfl) (fun k hk=>by cases hk; kernel_rfl) (by kernel_rfl) (laid_met os))) ?_
 intro W base args ds gs before hval hW _ hcond _ hL _ _
 exact contract H enc W base args ds gs before hval hW hL (by
  have:=hcond _ rfl
  simpa only [Rows.uptoSmall,decide_eq_true_eq] using this)
theorem ai {a b:Bool} (h:a=true) (g:b=true):(a && b)=true:=by rw [h,g]; rfl
set_option maxHeartbeats 0 in
set_option maxRecDepth 100000 in
theorem closedUpto:joinedFacts Tryz.pinned.checked.prog 10 Tryz.f10 (Rows.OpenSpec.upto Rows.machineFuelSpec).bare Rows.machineFuelUptoRow=true:=by
 unfold joinedFacts
 repeat' with_reducible refine ai ?_ ?_
 all_goals (as_aux_lemma => kernel_rfl)
theorem saidUpto:Rows.MachineFuelUptoSaid:=
 OpenClaim.holds_of_cond 10 Tryz.f10 rfl rfl rfl rfl rfl rfl rfl ⟨rfl,rfl,rfl,rfl,rfl⟩ rfl rfl rfl rfl rfl (by kernel_rfl) Tryz.func10 closedUpto
  (of_decide_eq_true (by kernel_rfl)) (by unfold Func.isWrapper; first | (rw[if_pos (by decide +kernel)]; kernel_rfl) | (rw[if_neg (by decide +kernel)]; exact ⟨rfl,rfl⟩))
  (fun os started H enc _ F=>by rw[OpenClaim.pre_eq_preRow]; exact liftedUpto os started H enc F)
theorem plain (f : FuncId) (fn : Func) (hf : Tryz.pinned.checked.prog.funcNamed "rafter/rafterlaw11.MachineFuel" = some f) (hfn : Tryz.pinned.checked.prog.funcs[f]? = some fn) :
 true=Tryz.pinned.checked.prog.looks [] ∧ ∀ (j:Nat) t,fn.params[j]? = some t→Tryz.pinned.checked.prog.wantsStandIn t=false:=by
 obtain rfl : f = 10 := Option.some.inj ((show Tryz.prog.funcNamed "rafter/rafterlaw11.MachineFuel" = some 10 by kernel_rfl).symm.trans hf) |>.symm;obtain rfl : fn = Tryz.f10 := (Option.some.inj (Tryz.func10.symm.trans hfn)).symm;refine ⟨by kernel_rfl, fun j t ht => ?_⟩;rw [Tryz.params10] at ht
 have hm:t∈([3]:List Nat):=by simpa using Array.mem_of_getElem? ht
 have hall:(([3]:List Nat).all fun u=>!Tryz.prog.wantsStandIn u)=true:=by kernel_rfl
 exact (show Tryz.prog.wantsStandIn t=false by simpa using List.all_eq_true.1 hall t hm)
theorem cardUpto:Rows.MachineFuelUptoCardSaid:=
 Claim7.holds_tied_plain_at .later [] _ _ _ _ saidUpto (fun _ h=>by cases h) (by kernel_rfl) (fun _ h=>by cases h) machineFuelUpto_row_tie rfl ⟨rfl,rfl⟩ (by kernel_rfl) rfl plain (by kernel_rfl)
#print axioms cardUpto
end Go.Proofs.YtjlnfdabdhkgcaaGreatDoor.mf
