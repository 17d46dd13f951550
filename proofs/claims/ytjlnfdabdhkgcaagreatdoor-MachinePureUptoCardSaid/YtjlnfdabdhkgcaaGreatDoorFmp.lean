/- MachinePure, at most 1048576 values and letters: the law's card, out of what its abstract call comes to. -/
import Derived.Test.YtjlnfdabdhkgcaaGreatDoorRg9
import Derived.Test.YtjlnfdabdhkgcaaGreatDoorSp28
import Derived.Test.YtjlnfdabdhkgcaaGreatDoorCk
import Derived.Test.YtjlnfdabdhkgcaaGreatDoorChecked
import Derived.Test.YtjlnfdabdhkgcaaGreatDoorCards
import Derived.Test.YtjlnfdabdhkgcaaGreatDoorTie
import Derived.Deep.DeepHandedRow
import Derived.Lib.LaidU8T
import Derived.PinnedBridge
import Derived.Lay

set_option linter.unusedSimpArgs false
set_option linter.unusedVariables false
set_option linter.unnecessarySimpa false
set_option linter.unusedSectionVars false
set_option linter.all false
namespace Go.Rf
open Go.ChangeShapes Go.RowKit
theorem q1w {H:Type} {enc:TypeId × Value→H} {W:World} {args:List Value} {ds:List (DataW H)} {ps:List MemPlace} (h:DataW.TrodAll enc Go.Proofs.Tryz.prog W 0 (fun _=>true) true [9,49,3] args ds ps) (hb:D4 ds≤1048576) :
 ∃ n,call T0 X0 n 12 (ds.map fun d=>.d (toD d)) []=some (.ret [.d (.bool true)] []):=by
 obtain ⟨v0,vs0,d0,ds0,p0,q0,_,rfl,_,⟨f0,h0⟩,r0⟩:=trodAll_cons h;obtain ⟨v1,vs1,d1,ds1,p1,q1,_,rfl,_,⟨f1,h1⟩,r1⟩:=trodAll_cons r0;obtain ⟨v2,vs2,d2,ds2,p2,q2,_,rfl,_,⟨f2,h2⟩,r2⟩:=trodAll_cons r1;obtain ⟨_,rfl,_⟩:=trodAll_nil r2;simp only[D4] at hb;obtain ⟨s,e0,l0⟩:=vG Go.Proofs.Tryz.underlying9 h0;obtain ⟨ch,e1,l1,hch⟩:=kE Go.Proofs.Tryz.underlying49 Go.Proofs.Tryz.underlying3 h1;obtain ⟨a,e2,ha⟩:=jm Go.Proofs.Tryz.underlying3 h2;simp only[] at l0 l1 e0 e1 e2;have g:=qxj s ch a (by omega) (by omega) hch ha
 have e:([d0,d1,d2].map fun d=>V.d (toD d))=[.d (.str s),.d (.sl (LD inL ch)),.d (.int .i64 a)]:=by
  simp only[List.map_cons,List.map_nil,e0,e1,e2];rfl
 rw[e];exact V9 g
end Go.Rf

namespace Go.Proofs.YtjlnfdabdhkgcaaGreatDoor.mp
open Go.ChangeShapes Go.WideShapes Go.ChangeAt Go.RowKit Go.Shelf Go.Lib Go.Rf
theorem own:ownKnob Tryz.prog.godebug=none:=by kernel_rfl
theorem laidOut:laidOutB Tryz.prog=true:=by kernel_rfl
def ren260:Shelf.Ren where
 f n:=match n with | 240=>156 | 169=>92 | 276=>233 | _=>305
 t n:=match n with | 37=>172 | 46=>307 | 70=>171 | 72=>174 | 119=>398 | 127=>276 | 138=>400 | 139=>401 | 164=>346 | n=>n
 g n:=match n with | 3=>0 | _=>1
theorem lays260:Go.Proofs.Lays.n260 Tryz.prog ren260 where
 mixed:=by kernel_rfl
 f260:=by kernel_rfl
 t0:=by kernel_rfl
 a0:=Tryz.isAgg0
 z0:=Tryz.sizeOf0
 v0:=Tryz.zeroValue0
 t3:=by kernel_rfl
 a3:=Tryz.isAgg3
 z3:=Tryz.sizeOf3
 v3:=Tryz.zeroValue3
 t4:=by kernel_rfl
 a4:=Tryz.isAgg4
 z4:=Tryz.sizeOf4
 v4:=Tryz.zeroValue4
 t5:=by kernel_rfl
 a5:=Tryz.isAgg5
 z5:=Tryz.sizeOf5
 v5:=Tryz.zeroValue5
 t9:=by kernel_rfl
 a9:=Tryz.isAgg9
 z9:=Tryz.sizeOf9
 v9:=Tryz.zeroValue9
 t21:=by kernel_rfl
 a21:=Tryz.isAgg21
 z21:=Tryz.sizeOf21
 v21:=Tryz.zeroValue21
 t46:=by kernel_rfl
 a46:=Tryz.isAgg307
 z46:=Tryz.sizeOf307
 v46:=Tryz.zeroValue307
 t119:=by kernel_rfl
 a119:=Tryz.isAgg398
 z119:=Tryz.sizeOf398
 t138:=by kernel_rfl
 a138:=Tryz.isAgg400
 z138:=Tryz.sizeOf400
 v138:=Tryz.zeroValue400
 t139:=by kernel_rfl
 a139:=Tryz.isAgg401
 z139:=Tryz.sizeOf401
 v139:=Tryz.zeroValue401
 g3:=by kernel_rfl
 g4:=by kernel_rfl
theorem extra:U8Extra Tryz.prog ren260:=by constructor <;> kernel_rfl
theorem tabs {W:World} (h:laidMetH Tryz.prog Rows.machinePureUptoRow.laid W):XM (XY W) 0 1:=by
 rw[MakeChecks.laidMetH_plain _ _ _ (by kernel_rfl)] at h;have hT:Lib.Utf8Tabs (ren260.g 3) (ren260.g 4) W:=utf8Tabs_of_readsT (U8Types.of260 lays260) extra (Pinned.utf8First_eq ▸ Lib.laidMet.reads h (.tail _ (.head _))) (Lib.laidMet.reads h (.head _));exact ⟨hT.1,hT.2⟩
mutual
theorem bulk_eq {H:Type}:∀ d:DataW H,Rows.uptoBulk d=D8 d
 | .lit l=>by cases l <;> rfl
 | .nil=>rfl
 | .ptr d=>by simp only[Rows.uptoBulk,D8,bulk_eq d]
 | .slice a b=>by simp only[Rows.uptoBulk,D8,bulks_eq a,bulks_eq b]
 | .agg a=>by simp only[Rows.uptoBulk,D8,bulks_eq a]
 | .iface _ d=>by simp only[Rows.uptoBulk,D8,bulk_eq d]
 | .map es=>by simp only[Rows.uptoBulk,D8,bulkEs_eq es]
 | .held _=>rfl
theorem bulks_eq {H:Type}:∀ d:List (DataW H),Rows.uptoBulkAll d=D4 d
 | []=>rfl
 | d :: r=>by simp only[Rows.uptoBulkAll,D4,bulk_eq d,bulks_eq r]
theorem bulkEs_eq {H:Type}:∀ d:List (Lit × DataW H),Rows.uptoBulkEntries d=jL d
 | []=>rfl
 | x :: r=>by simp only[Rows.uptoBulkEntries,jL,bulkE_eq x,bulkEs_eq r]
theorem bulkE_eq {H:Type}:∀ d:Lit × DataW H,Rows.uptoBulkEntry d=ZN d
 | (l,d)=>by cases l <;> simp only[Rows.uptoBulkEntry,ZN,bulk_eq d]
end
set_option maxRecDepth 100000 in
theorem contract (H:Type) (enc:TypeId × Value→H) (W:World) (base:Nat) (args:Array Value) (ds gs:List (DataW H)) (before:List MemPlace)
 (hval:∀ (j:Nat) t v,Tryz.f12.params[j]? = some t→args[j]? = some v→Value.okWide Tryz.prog W .any base t v)
 (hW:DataW.Whole enc Tryz.prog Tryz.f12.params.toList Rows.machinePureSpec.vars false W args.toList ds gs before) (hL:laidMetH Tryz.prog Rows.machinePureUptoRow.laid W) (hb:Rows.uptoBulkAll (ds++gs)≤1048576) :
 Calls Tryz.prog 12 args W fun e W'=>∃ v,e = .returned v∧Rows.machinePureSpec.post enc Tryz.prog Tryz.f12 false true false false W args v W':=by
 have hW':=hW;obtain ⟨p,q,hA0,hV,rfl,hfz,hnd⟩:=hW
 have hA:DataW.TrodAll enc Tryz.prog W 0 (fun _=>true) true [9,49,3] args.toList ds p:=by rw[Tryz.params12] at hA0; exact hA0
 rw[Tryz.params12] at hval;obtain ⟨rfl,rfl⟩:=trodVars_none hV;rw[List.append_nil,bulks_eq] at hb;have hr:=Z4 (f:=8) (ρ:=fun _=>.none) (r:=.any) (base:=base) _ _ _ _ hA (by intro t ht; simp only[List.mem_cons,List.not_mem_nil,or_false] at ht; rcases ht with rfl | rfl | rfl <;> kernel_rfl) (fun j t v h1 h2=>hval j t v (by simpa using h1) (by simpa using h2)) hb;obtain ⟨n,hn⟩:=q1w (enc:=enc) hA hb
 refine (vC qt9 qua (fun f e he=>?_) hr hn).mono fun e W' ⟨he,hw⟩=>?_
 ·unfold X0 at he;simp only at he;split at he
  ·cases he;rename_i hf;subst hf;exact KH lays260 (by kernel_rfl) (tabs hL)
  ·cases he
 ·subst he
  have hlt:∀ x∈p,x.block < W.heap.size:=fun x hx=>by simpa using hW'.lt x (List.mem_append_left _ hx)
  have hback:=V4 laidOut hw [9,49,3] _ _ _ (by intro t ht; simp only[List.mem_cons,List.not_mem_nil,or_false] at ht; rcases ht with rfl | rfl | rfl <;> exact ⟨by kernel_rfl,of_decide_eq_true (by kernel_rfl)⟩) hA hlt
  obtain ⟨d0,d1,d2,rfl⟩:∃ d0 d1 d2,ds=[d0,d1,d2]:=by
   obtain ⟨v0,vs0,d0,ds0,p0,q0,_,rfl,_,_,r0⟩:=trodAll_cons hA;obtain ⟨v1,vs1,d1,ds1,p1,q1,_,rfl,_,_,r1⟩:=trodAll_cons r0;obtain ⟨v2,vs2,d2,ds2,p2,q2,_,rfl,_,_,r2⟩:=trodAll_cons r1;obtain ⟨_,rfl,_⟩:=trodAll_nil r2;exact ⟨d0,d1,d2,rfl⟩
  refine ⟨_,rfl,[d0,d1,d2],[],p++[],[],p,[],hW',trodAll_mk1 (shut_bool Tryz.underlying4 _),?_,rfl,hw.frame _,fun h=>by cases h⟩;rw[Tryz.params12];exact hback
theorem laid_met (os:Os):laidMet Tryz.prog Rows.machinePureUptoRow.laid ((World.laidAll Tryz.prog os Rows.machinePureUptoRow.laid).forCall (fun _ _=>0) ⟨#[],#[.string ⟨#[]⟩,.slice none 0 0,.int .i64 0],[]⟩).memory:=
 laidMet_laidAll _ (by kernel_rfl) (by kernel_rfl)
theorem reads (os:Os) {H:Type} (enc:TypeId × Value→H):∃ places,DataW.whole enc Tryz.prog ((World.laidAll Tryz.prog os Rows.machinePureUptoRow.laid).forCall (fun _ _=>0) ⟨#[],#[.string ⟨#[]⟩,.slice none 0 0,.int .i64 0],[]⟩).memory Tryz.f12.params.toList Rows.machinePureSpec.vars false #[(.string ⟨#[]⟩:Value),.slice none 0 0,.int .i64 0].toList 8=some ([.lit (.string []),.nil,.lit (.int .i64 0)],[],places):=
 ⟨[],by kernel_rfl⟩
set_option maxRecDepth 100000 in
theorem liftedUpto (os:Os) (started:os.Started) (H:Type) (enc:TypeId × Value→H) (F:Stop.Interp) :
 ReturnsInHanded {} Tryz.checked os 12 .any ((Rows.OpenSpec.upto Rows.machinePureSpec).preRow enc Tryz.prog Tryz.f12 Rows.machinePureUptoRow.domain false Rows.machinePureUptoRow.laid) (((Rows.OpenSpec.upto Rows.machinePureSpec).at F).post enc Tryz.prog Tryz.f12 false true false false):=by
 obtain ⟨places,hx⟩:=reads os enc
 refine returnsInHanded_of_row (C:=Tryz.checked) (s:=Rows.OpenSpec.upto Rows.machinePureSpec) own started (by kernel_rfl) Tryz.func12
  (witness_row_at (enc:=enc) (C:=Tryz.checked) false (World.laidAll Tryz.prog os Rows.machinePureUptoRow.laid) #[.string ⟨#[]⟩,.slice none 0 0,.int .i64 0] (World.laidAll_os _ _ _) (by kernel_rfl) (by kernel_rfl) (by kernel_rfl)
   (OpenSpec.preRow_of_cond 8 hx (by kernel_rfl) (fun k hk=>by cases hk; kernel_rfl) (by kernel_rfl) (laid_met os))) ?_
 intro W base args ds gs before hval hW _ hcond _ hL _ _
 exact contract H enc W base args ds gs before hval hW hL (by
  have:=hcond _ rfl
  simpa only [Rows.uptoSmall,decide_eq_true_eq] using this)
theorem ai {a b:Bool} (h:a=true) (g:b=true):(a && b)=true:=by rw [h,g]; rfl
set_option maxHeartbeats 0 in
set_option maxRecDepth 100000 in
theorem closedUpto:joinedFacts Tryz.pinned.checked.prog 12 Tryz.f12 (Rows.OpenSpec.upto Rows.machinePureSpec).bare Rows.machinePureUptoRow=true:=by
 unfold joinedFacts
 repeat' with_reducible refine ai ?_ ?_
 all_goals (as_aux_lemma => kernel_rfl)
theorem saidUpto:Rows.MachinePureUptoSaid:=
 OpenClaim.holds_of_cond 12 Tryz.f12 rfl rfl rfl rfl rfl rfl rfl ⟨rfl,rfl,rfl,rfl,rfl⟩ rfl rfl rfl rfl rfl (by kernel_rfl) Tryz.func12 closedUpto
  (of_decide_eq_true (by kernel_rfl)) (by unfold Func.isWrapper; first | (rw[if_pos (by decide +kernel)]; kernel_rfl) | (rw[if_neg (by decide +kernel)]; exact ⟨rfl,rfl⟩))
  (fun os started H enc _ F=>by rw[OpenClaim.pre_eq_preRow]; exact liftedUpto os started H enc F)
theorem plain (f : FuncId) (fn : Func) (hf : Tryz.pinned.checked.prog.funcNamed "rafter/rafterlaw11.MachinePure" = some f) (hfn : Tryz.pinned.checked.prog.funcs[f]? = some fn) :
 true=Tryz.pinned.checked.prog.looks [] ∧ ∀ (j:Nat) t,fn.params[j]? = some t→Tryz.pinned.checked.prog.wantsStandIn t=false:=by
 obtain rfl : f = 12 := Option.some.inj ((show Tryz.prog.funcNamed "rafter/rafterlaw11.MachinePure" = some 12 by kernel_rfl).symm.trans hf) |>.symm;obtain rfl : fn = Tryz.f12 := (Option.some.inj (Tryz.func12.symm.trans hfn)).symm;refine ⟨by kernel_rfl, fun j t ht => ?_⟩;rw [Tryz.params12] at ht
 have hm:t∈([9,49,3]:List Nat):=by simpa using Array.mem_of_getElem? ht
 have hall:(([9,49,3]:List Nat).all fun u=>!Tryz.prog.wantsStandIn u)=true:=by kernel_rfl
 exact (show Tryz.prog.wantsStandIn t=false by simpa using List.all_eq_true.1 hall t hm)
theorem cardUpto:Rows.MachinePureUptoCardSaid:=
 Claim7.holds_tied_plain_at .later [] _ _ _ _ saidUpto (fun _ h=>by cases h) (by kernel_rfl) (fun _ h=>by cases h) machinePureUpto_row_tie rfl ⟨rfl,rfl⟩ (by kernel_rfl) rfl plain (by kernel_rfl)
#print axioms cardUpto
end Go.Proofs.YtjlnfdabdhkgcaaGreatDoor.mp
