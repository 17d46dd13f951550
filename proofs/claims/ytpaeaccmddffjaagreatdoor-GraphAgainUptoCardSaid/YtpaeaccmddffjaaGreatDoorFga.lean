/- GraphAgain, at most 1048576 values and letters: the law's card, out of what its abstract call comes to. -/
import Derived.Test.YtpaeaccmddffjaaGreatDoorRg11
import Derived.Test.YtpaeaccmddffjaaGreatDoorRg10
import Derived.Test.YtpaeaccmddffjaaGreatDoorSp29
import Derived.Test.YtpaeaccmddffjaaGreatDoorCk
import Derived.Test.YtpaeaccmddffjaaGreatDoorChecked
import Derived.Test.YtpaeaccmddffjaaGreatDoorCards
import Derived.Test.YtpaeaccmddffjaaGreatDoorTie
import Derived.Deep.DeepHandedRow
import Derived.Lib.LaidU8T
import Derived.PinnedBridge
import Derived.Lay

set_option linter.all false
namespace Go.Rf
open Go.ChangeShapes Go.RowKit
noncomputable instance prg_ga:Prg:=⟨Go.Proofs.Tryz.prog⟩
theorem q2r {H:Type} {enc:TypeId × Value→H} {W:World} {args:List Value} {ds:List (DataW H)} {ps:List MemPlace} (h:DataW.TrodAll enc Go.Proofs.Tryz.prog W 0 (fun _=>true) true [9] args ds ps) (hb:X6 ds≤1048576) :
 ∃ n,call T0 X0 n 3 (ds.map fun d=>.d (toD d)) []=some (.ret [.d (.bool true)] []):=by
 obtain ⟨v0,vs0,d0,ds0,p0,q0,_,rfl,_,⟨f0,h0⟩,r0⟩:=trodAll_cons h;obtain ⟨_,rfl,_⟩:=trodAll_nil r0;simp only[X6] at hb;obtain ⟨s,e0,l0⟩:=Ka Go.Proofs.Tryz.underlying9 h0;simp only[] at l0 e0;have g:=qvg s (by omega)
 have e:([d0].map fun d=>V.d (toD d))=[.d (.str s)]:=by
  simp only[List.map_cons,List.map_nil,e0]
 rw[e];exact jG g
end Go.Rf

namespace Go.Proofs.YtpaeaccmddffjaaGreatDoor.ga
open Go.ChangeShapes Go.WideShapes Go.ChangeAt Go.RowKit Go.Shelf Go.Lib Go.Rf
theorem own:ownKnob Tryz.prog.godebug=none:=by kernel_rfl
theorem laidOut:laidOutB Tryz.prog=true:=by kernel_rfl
def ren260:Shelf.Ren where
 f n:=match n with | 240=>50 | 169=>32 | 276=>76 | _=>125
 t n:=match n with | 37=>77 | 46=>185 | 70=>76 | 72=>79 | 119=>216 | 127=>121 | 138=>218 | 139=>219 | 164=>153 | n=>n
 g n:=match n with | 3=>0 | _=>1
theorem lays260:Go.Proofs.Lays.n260 Tryz.prog ren260 where
 mixed:=by kernel_rfl
 f260:=by kernel_rfl
 t0:=by kernel_rfl
 a0:=Tryz.isAgg0
 z0:=Tryz.sizeOf0
 v0:=Tryz.zeroValue0
 t3:=by kernel_rfl
 a3:=Tryz.isAgg3
 z3:=Tryz.sizeOf3
 v3:=Tryz.zeroValue3
 t4:=by kernel_rfl
 a4:=Tryz.isAgg4
 z4:=Tryz.sizeOf4
 v4:=Tryz.zeroValue4
 t5:=by kernel_rfl
 a5:=Tryz.isAgg5
 z5:=Tryz.sizeOf5
 v5:=Tryz.zeroValue5
 t9:=by kernel_rfl
 a9:=Tryz.isAgg9
 z9:=Tryz.sizeOf9
 v9:=Tryz.zeroValue9
 t21:=by kernel_rfl
 a21:=Tryz.isAgg21
 z21:=Tryz.sizeOf21
 v21:=Tryz.zeroValue21
 t46:=by kernel_rfl
 a46:=Tryz.isAgg185
 z46:=Tryz.sizeOf185
 v46:=Tryz.zeroValue185
 t119:=by kernel_rfl
 a119:=Tryz.isAgg216
 z119:=Tryz.sizeOf216
 t138:=by kernel_rfl
 a138:=Tryz.isAgg218
 z138:=Tryz.sizeOf218
 v138:=Tryz.zeroValue218
 t139:=by kernel_rfl
 a139:=Tryz.isAgg219
 z139:=Tryz.sizeOf219
 v139:=Tryz.zeroValue219
 g3:=by kernel_rfl
 g4:=by kernel_rfl
theorem lays240:Go.Proofs.Lays.n240 Tryz.prog ren260 where
 mixed:=by kernel_rfl
 f240:=by kernel_rfl
 f276:=by kernel_rfl
 t0:=by kernel_rfl
 a0:=Tryz.isAgg0
 z0:=Tryz.sizeOf0
 v0:=Tryz.zeroValue0
 t4:=by kernel_rfl
 a4:=Tryz.isAgg4
 z4:=Tryz.sizeOf4
 v4:=Tryz.zeroValue4
 t9:=by kernel_rfl
 a9:=Tryz.isAgg9
 z9:=Tryz.sizeOf9
 v9:=Tryz.zeroValue9
 t20:=by kernel_rfl
 a20:=Tryz.isAgg20
 z20:=Tryz.sizeOf20
 v20:=Tryz.zeroValue20
 t70:=by kernel_rfl
 a70:=Tryz.isAgg76
 z70:=Tryz.sizeOf76
 v70:=Tryz.zeroValue76
 t72:=by kernel_rfl
 a72:=Tryz.isAgg79
 z72:=Tryz.sizeOf79
 v72:=Tryz.zeroValue79
 t164:=by kernel_rfl
 a164:=Tryz.isAgg153
 z164:=Tryz.sizeOf153
 v164:=Tryz.zeroValue153
theorem lays169:Go.Proofs.Lays.n169 Tryz.prog ren260 where
 mixed:=by kernel_rfl
 f169:=by kernel_rfl
 t0:=by kernel_rfl
 a0:=Tryz.isAgg0
 z0:=Tryz.sizeOf0
 v0:=Tryz.zeroValue0
 t3:=by kernel_rfl
 a3:=Tryz.isAgg3
 z3:=Tryz.sizeOf3
 v3:=Tryz.zeroValue3
 t9:=by kernel_rfl
 a9:=Tryz.isAgg9
 z9:=Tryz.sizeOf9
 v9:=Tryz.zeroValue9
 t37:=by kernel_rfl
 a37:=Tryz.isAgg77
 z37:=Tryz.sizeOf77
 v37:=Tryz.zeroValue77
 t70:=by kernel_rfl
 a70:=Tryz.isAgg76
 z70:=Tryz.sizeOf76
 v70:=Tryz.zeroValue76
 t72:=by kernel_rfl
 a72:=Tryz.isAgg79
 z72:=Tryz.sizeOf79
 v72:=Tryz.zeroValue79
 t127:=by kernel_rfl
 a127:=Tryz.isAgg121
 z127:=Tryz.sizeOf121
 v127:=Tryz.zeroValue121
theorem x72:Builder.X72 Tryz.prog ren260 where
 sizeBuilder:=by kernel_rfl
 liesBuilder:=by kernel_rfl
theorem bextra:Builder.Extra Tryz.prog ren260 where
 toX72:=x72
 t5:=by kernel_rfl
 a5:=Tryz.isAgg5
 z5:=Tryz.sizeOf5
 v5:=Tryz.zeroValue5
 infoByte:=by kernel_rfl
 cellsByte:=by kernel_rfl
 sizeByte:=by kernel_rfl
 neB5:=by decide
theorem extra:U8Extra Tryz.prog ren260:=by constructor <;> kernel_rfl
theorem tabs {W:World} (h:laidMetH Tryz.prog Rows.graphAgainUptoRow.laid W):qjz (Yk W) 0 1:=by
 rw[MakeChecks.laidMetH_plain _ _ _ (by kernel_rfl)] at h;have hT:Lib.Utf8Tabs (ren260.g 3) (ren260.g 4) W:=utf8Tabs_of_readsT (U8Types.of260 lays260) extra (Pinned.utf8First_eq ▸ Lib.laidMet.reads h (.tail _ (.head _))) (Lib.laidMet.reads h (.head _));exact ⟨hT.1,hT.2⟩
mutual
theorem bulk_eq {H:Type}:∀ d:DataW H,Rows.uptoBulk d=qj d
 | .lit l=>by cases l <;> rfl
 | .nil=>rfl
 | .ptr d=>by simp only[Rows.uptoBulk,qj,bulk_eq d]
 | .slice a b=>by simp only[Rows.uptoBulk,qj,bulks_eq a,bulks_eq b]
 | .agg a=>by simp only[Rows.uptoBulk,qj,bulks_eq a]
 | .iface _ d=>by simp only[Rows.uptoBulk,qj,bulk_eq d]
 | .map es=>by simp only[Rows.uptoBulk,qj,bulkEs_eq es]
 | .held _=>rfl
theorem bulks_eq {H:Type}:∀ d:List (DataW H),Rows.uptoBulkAll d=X6 d
 | []=>rfl
 | d :: r=>by simp only[Rows.uptoBulkAll,X6,bulk_eq d,bulks_eq r]
theorem bulkEs_eq {H:Type}:∀ d:List (Lit × DataW H),Rows.uptoBulkEntries d=Wq d
 | []=>rfl
 | x :: r=>by simp only[Rows.uptoBulkEntries,Wq,bulkE_eq x,bulkEs_eq r]
theorem bulkE_eq {H:Type}:∀ d:Lit × DataW H,Rows.uptoBulkEntry d=qnd d
 | (l,d)=>by cases l <;> simp only[Rows.uptoBulkEntry,qnd,bulk_eq d]
end
set_option maxRecDepth 100000 in
theorem contract (H:Type) (enc:TypeId × Value→H) (W:World) (base:Nat) (args:Array Value) (ds gs:List (DataW H)) (before:List MemPlace)
 (hval:∀ (j:Nat) t v,Tryz.f3.params[j]? = some t→args[j]? = some v→Value.okWide Tryz.prog W .any base t v)
 (hW:DataW.Whole enc Tryz.prog Tryz.f3.params.toList Rows.graphAgainSpec.vars false W args.toList ds gs before) (hL:laidMetH Tryz.prog Rows.graphAgainUptoRow.laid W) (hb:Rows.uptoBulkAll (ds++gs)≤1048576) :
 Calls Tryz.prog 3 args W fun e W'=>∃ v,e = .returned v∧Rows.graphAgainSpec.post enc Tryz.prog Tryz.f3 false true false false W args v W':=by
 have hW':=hW;obtain ⟨p,q,hA0,hV,rfl,hfz,hnd⟩:=hW
 have hA:DataW.TrodAll enc Tryz.prog W 0 (fun _=>true) true [9] args.toList ds p:=by rw[Tryz.params3] at hA0; exact hA0
 rw[Tryz.params3] at hval;obtain ⟨rfl,rfl⟩:=trodVars_none hV;rw[List.append_nil,bulks_eq] at hb;have hr:=QU (f:=8) (ρ:=fun _=>.none) (r:=.any) (base:=base) _ _ _ _ hA (by intro t ht; simp only[List.mem_cons,List.not_mem_nil,or_false] at ht; rcases ht with rfl <;> kernel_rfl) (fun j t v h1 h2=>hval j t v (by simpa using h1) (by simpa using h2)) hb;obtain ⟨n,hn⟩:=q2r (enc:=enc) hA hb
 refine (qgh rfl zhk zhl (fun f e he=>?_) hr hn).mono fun e W' ⟨he,hw⟩=>?_
 ·unfold X0 at he;simp only at he;split at he
  ·cases he;rename_i hf;subst hf;exact qsd lays260 (by kernel_rfl) (tabs hL)
  ·split at he
   ·cases he;rename_i hf;subst hf;exact qzw lays240 x72 (by kernel_rfl)
   ·split at he
    ·cases he;rename_i hf;subst hf;exact qzz lays169 bextra (by kernel_rfl)
    ·cases he
 ·subst he
  have hlt:∀ x∈p,x.block < W.heap.size:=fun x hx=>by simpa using hW'.lt x (List.mem_append_left _ hx)
  have hback:=vW laidOut hw [9] _ _ _ (by intro t ht; simp only[List.mem_cons,List.not_mem_nil,or_false] at ht; rcases ht with rfl <;> exact ⟨by kernel_rfl,of_decide_eq_true (by kernel_rfl)⟩) hA hlt
  obtain ⟨d0,rfl⟩:∃ d0,ds=[d0]:=by
   obtain ⟨v0,vs0,d0,ds0,p0,q0,_,rfl,_,_,r0⟩:=trodAll_cons hA;obtain ⟨_,rfl,_⟩:=trodAll_nil r0;exact ⟨d0,rfl⟩
  refine ⟨_,rfl,[d0],[],p++[],[],p,[],hW',trodAll_mk1 (shut_bool Tryz.underlying4 _),?_,rfl,hw.frame _,fun h=>by cases h⟩;rw[Tryz.params3];exact hback
theorem laid_met (os:Os):laidMet Tryz.prog Rows.graphAgainUptoRow.laid ((World.laidAll Tryz.prog os Rows.graphAgainUptoRow.laid).forCall (fun _ _=>0) ⟨#[],#[.string ⟨#[]⟩],[]⟩).memory:=
 laidMet_laidAll _ (by kernel_rfl) (by kernel_rfl)
theorem reads (os:Os) {H:Type} (enc:TypeId × Value→H):∃ places,DataW.whole enc Tryz.prog ((World.laidAll Tryz.prog os Rows.graphAgainUptoRow.laid).forCall (fun _ _=>0) ⟨#[],#[.string ⟨#[]⟩],[]⟩).memory Tryz.f3.params.toList Rows.graphAgainSpec.vars false #[(.string ⟨#[]⟩:Value)].toList 8=some ([.lit (.string [])],[],places):=
 ⟨[],by kernel_rfl⟩
set_option maxRecDepth 100000 in
theorem liftedUpto (os:Os) (started:os.Started) (H:Type) (enc:TypeId × Value→H) (F:Stop.Interp) :
 ReturnsInHanded {} Tryz.checked os 3 .any ((Rows.OpenSpec.upto Rows.graphAgainSpec).preRow enc Tryz.prog Tryz.f3 Rows.graphAgainUptoRow.domain false Rows.graphAgainUptoRow.laid) (((Rows.OpenSpec.upto Rows.graphAgainSpec).at F).post enc Tryz.prog Tryz.f3 false true false false):=by
 obtain ⟨places,hx⟩:=reads os enc
 refine returnsInHanded_of_row (C:=Tryz.checked) (s:=Rows.OpenSpec.upto Rows.graphAgainSpec) own started (by kernel_rfl) Tryz.func3
  (witness_row_at (enc:=enc) (C:=Tryz.checked) false (World.laidAll Tryz.prog os Rows.graphAgainUptoRow.laid) #[.string ⟨#[]⟩] (World.laidAll_os _ _ _) (by kernel_rfl) (by kernel_rfl) (by kernel_rfl)
   (OpenSpec.preRow_of_cond 8 hx (by kernel_rfl) (fun k hk=>by cases hk; kernel_rfl) (by kernel_rfl) (laid_met os))) ?_
 intro W base args ds gs before hval hW _ hcond _ hL _ _
 exact contract H enc W base args ds gs before hval hW hL (by
  have:=hcond _ rfl
  simpa only [Rows.uptoSmall,decide_eq_true_eq] using this)
theorem ai {a b:Bool} (h:a=true) (g:b=true):(a && b)=true:=by rw[h,g]; rfl
set_option maxHeartbeats 0 in
set_option maxRecDepth 100000 in
theorem closedUpto:joinedFacts Tryz.pinned.checked.prog 3 Tryz.f3 (Rows.OpenSpec.upto Rows.graphAgainSpec).bare Rows.graphAgainUptoRow=true:=by
 unfold joinedFacts
 repeat' with_reducible refine ai ?_ ?_
 all_goals (as_aux_lemma=>kernel_rfl)
theorem saidUpto:Rows.GraphAgainUptoSaid:=
 OpenClaim.holds_of_cond 3 Tryz.f3 rfl rfl rfl rfl rfl rfl rfl ⟨rfl,rfl,rfl,rfl,rfl⟩ rfl rfl rfl rfl rfl (by kernel_rfl) Tryz.func3 closedUpto
  (of_decide_eq_true (by kernel_rfl)) (by unfold Func.isWrapper; first | (rw[if_pos (by decide +kernel)]; kernel_rfl) | (rw[if_neg (by decide +kernel)]; exact ⟨rfl,rfl⟩))
  (fun os started H enc _ F=>by rw[OpenClaim.pre_eq_preRow]; exact liftedUpto os started H enc F)
theorem plain (f : FuncId) (fn : Func) (hf : Tryz.pinned.checked.prog.funcNamed "rafter/rafterlaw10.GraphAgain" = some f) (hfn : Tryz.pinned.checked.prog.funcs[f]? = some fn) :
 true=Tryz.pinned.checked.prog.looks [] ∧ ∀ (j:Nat) t,fn.params[j]? = some t→Tryz.pinned.checked.prog.wantsStandIn t=false:=by
 obtain rfl : f = 3 := Option.some.inj ((show Tryz.prog.funcNamed "rafter/rafterlaw10.GraphAgain" = some 3 by kernel_rfl).symm.trans hf) |>.symm;obtain rfl : fn = Tryz.f3 := (Option.some.inj (Tryz.func3.symm.trans hfn)).symm;refine ⟨by kernel_rfl, fun j t ht => ?_⟩;rw [Tryz.params3] at ht
 have hm:t∈([9]:List Nat):=by simpa using Array.mem_of_getElem? ht
 have hall:(([9]:List Nat).all fun u=>!Tryz.prog.wantsStandIn u)=true:=by kernel_rfl
 exact (show Tryz.prog.wantsStandIn t=false by simpa using List.all_eq_true.1 hall t hm)
theorem cardUpto:Rows.GraphAgainUptoCardSaid:=
 Claim7.holds_tied_plain_at .later [] _ _ _ _ saidUpto (fun _ h=>by cases h) (by kernel_rfl) (fun _ h=>by cases h) graphAgainUpto_row_tie rfl ⟨rfl,rfl⟩ (by kernel_rfl) rfl plain (by kernel_rfl)
#print axioms cardUpto
end Go.Proofs.YtpaeaccmddffjaaGreatDoor.ga
