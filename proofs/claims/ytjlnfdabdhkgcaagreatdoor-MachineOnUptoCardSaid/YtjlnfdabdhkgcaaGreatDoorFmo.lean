/- MachineOn, at most 1048576 values and letters: the law's card, out of what its abstract call comes to. -/
import Derived.Test.YtjlnfdabdhkgcaaGreatDoorRg9
import Derived.Test.YtjlnfdabdhkgcaaGreatDoorSp16
import Derived.Test.YtjlnfdabdhkgcaaGreatDoorSp28
import Derived.Test.YtjlnfdabdhkgcaaGreatDoorCk
import Derived.Test.YtjlnfdabdhkgcaaGreatDoorChecked
import Derived.Test.YtjlnfdabdhkgcaaGreatDoorCards
import Derived.Test.YtjlnfdabdhkgcaaGreatDoorTie
import Derived.Deep.DeepHandedRow
import Derived.Lib.LaidU8T
import Derived.PinnedBridge
import Derived.Lay

set_option linter.unusedSimpArgs false
set_option linter.unusedVariables false
set_option linter.unnecessarySimpa false
set_option linter.unusedSectionVars false
set_option linter.all false
namespace Go.Rf
set_option maxHeartbeats 16000000
theorem quu (g:Gb) (p:Int) (st ch:List Int) (hb:st.length≤1000) (hn:∀ n∈st,nl n≤512) (hc:ch.length≤1100000):∀ d i (e:List (Nat × V)),d + i=st.length→
 i9 T0 X0 0 qS (some (.nrm,⟨(0,.d g.d) :: (1,.d (.int .i64 p)) :: (2,.d (.sl (WL st))) :: (3,.d (.sl (LD inL ch))) :: (25,.d (.sl (WL st))) :: (26,.d (.int .i64 st.length)) :: (27,.d (.int .i64 i)) :: e,[]⟩)) =
  some (.exit 0,⟨[(0,.d g.d),(1,.d (.int .i64 p)),(2,.d (.sl (WL st))),(3,.d (.sl (LD inL ch)))],[]⟩):=by
 intro d
 induction d with
 | zero=>
   intro i e hi
   have:i=st.length:=by omega
   subst this;rw[c9 (l:=qS) rfl];simp -implicitDefEqProofs (disch:=omega) [jR]
 | succ d ih=>
   intro i e hi
   have hlt:i < st.length:=by omega
   have hget:=qk9 hlt;have hx:=kR hn i;have s1:=Je (m:=nth st i) (by omega);have s2:=ih (i + 1) [] (by omega);rw[c9 (l:=qS) rfl];generalize nth st i=b at *;push_cast at s2;simp (maxSteps:=4000000) -implicitDefEqProofs (disch:=omega) [jR,hget,s1,s2]
def Mc.from (g:Gb) (p:Int) (st ch:List Int):Mc:={ g:=g,p:=p,st:=st,ch:=ch }
theorem q9x (g:Gb) (p:Int) (st ch:List Int) (hp:0≤p∧p < g.out.length) (hg:g.out.length≤1000000) (hvs:g.vs.length≤1000) (hs:st.length=g.vs.length) (hn:∀ n∈st,nl n≤512) (hc:ch.length≤1100000) :
 d5 T0 X0 qeu [.d g.d,.d (.int .i64 p),.d (.sl (WL st)),.d (.sl (LD inL ch))] []=some (.ret [.ptr (.b 0) 0 0,.d (.int .i64 0)] (MH (Mc.from g p st ch))):=by
 have s1:=q4v g p hg;have s2:=q2k g (by omega);have s3:=quu g p st ch (by omega) hn hc st.length 0 [] rfl;have s4:=qe2 st (by omega) hn;rw[decide_eq_true hp] at s1;rw[c8 (af:=Qc) rfl rfl rfl];have hcg:(V.d g.d).cells=[.d g.d]:=rfl;have hnn:XS false (.d g.d)=some false:=rfl;unfold Mc.from;simp only[MH,Int.cast_ofNat_Int] at s3 ⊢;simp (maxSteps:=4000000) -implicitDefEqProofs (disch:=omega) [Qc,s1,s2,s3,s4,← hs,hnn,hcg,QV,R8]
end Go.Rf

namespace Go.Rf
set_option maxHeartbeats 16000000
theorem q7p (s:List UInt8) (ch:List Int) (a b:Int) (hs:s.length≤1100000) (hc:ch.length≤1100000) (hv:∀ x∈ch,-9223372036854775808≤x∧x≤9223372036854775807) :
 d5 T0 X0 ZG [.d (.str s),.d (.sl (LD inL ch)),.d (.int .i64 a),.d (.int .i64 b)] []=some (.ret [.d (.bool true)] []):=by
 have s0:=ji;have s1:=ja s hs
 have hg:=fun g=>kH (s:=s) (g:=g)
 rw[c8 (af:=O6) rfl rfl rfl];generalize jb s=o at *
 cases o with
 | none=>
   simp only[oGb] at s1;simp (maxSteps:=4000000) -implicitDefEqProofs (disch:=omega) [O6,s0,s1]
 | some g=>
   have hg:=hg g rfl;have I:=wF hg hc hv;obtain ⟨b1,b2,b3⟩:=jM hg hv;have hn:=hg.n;have hpt:=hg.pt;have s2:=WR g ch (by have:=hg.bl; omega) (fun b hb=>by have:=hg.bs b hb; omega) hc hv;have hx:=qcd a;have hy:=qcd b;have ea:(m62 a).tmod 200=T2 a:=rfl;have eb:(m62 b).tmod 200=T2 b:=rfl;generalize Mc.begin g ch=m0 at *;have t1:=Wt I m0 b1 (T2 a);have i1:=jD I (T2 a).toNat m0 b1;have t2:=wE I i1;have t3:=Wt I _ i1 (T2 b);have i2:=jD I (T2 b).toNat _ i1;have t4:=wE I i2;have q1:=zL (T2 a).toNat m0;have q2:=qax (T2 a).toNat m0;have q3:=qax (T2 b).toNat (m0.goF (T2 a).toNat).2;have q4:=zL (T2 b).toNat (m0.goF (T2 a).toNat).2;generalize m0.goF (T2 a).toNat=r1 at *;generalize T2 a=x at *;generalize T2 b=y at *;obtain ⟨c1,m1⟩:=r1;simp only[] at t1 t2 t3 t4 i1 i2 q1 q2 q3 q4
   have hv3:∀ x∈ch.drop m1.used,-9223372036854775808≤x∧x≤9223372036854775807:=fun x hx=>hv x (List.mem_of_mem_drop hx)
   have f1:=q9x g m1.p m1.st (ch.drop m1.used) i1.p (by omega) (by omega) i1.st i1.v (by simp; omega);have I3:=wF hg (ch:=ch.drop m1.used) (by simp; omega) hv3;have b3:Mi g (ch.drop m1.used) (Mc.from g m1.p m1.st (ch.drop m1.used)):=⟨rfl,rfl,i1.st,i1.v,i1.p,Int.le_refl _,Nat.zero_le _⟩;have lt:Late m1.steps m1.used m1 (Mc.from g m1.p m1.st (ch.drop m1.used)):=⟨i1.gg.symm,rfl,rfl,by show 0 + m1.steps=_; omega,by show 0 + m1.used=_; omega,by rw[i1.cc]; rfl⟩;have hu1:=i1.u;generalize Mc.from g m1.p m1.st (ch.drop m1.used)=n0 at *;obtain ⟨g1,g2⟩:=qnj (by have:=i1.s0; omega) y.toNat m1 n0 lt (by omega);have t5:=Wt I3 _ b3 y;have i5:=jD I3 y.toNat _ b3;have t6:=wE I3 i5;rw[g1] at t5;have lk:=g2.look;have g3:=g2.p;have g4:=g2.st;have g5:=g2.s;have g6:=g2.u;generalize m1.goF y.toNat=r2 at *;generalize (n0.goF y.toNat).2=n1 at *;obtain ⟨c2,m2⟩:=r2;simp only[] at t3 t4 t5 t6 i2 q3 q4 lk g3 g4 g5 g6;have tl1:=t2.t;have tl2:=t4.t;have tl3:=t6.t;have w1:=t2.n;have w2:=t4.n;have w3:=wa (f:=m2.st) (g:=m2.st) (by omega) (by omega) (qhc t4.v) (qhc t4.v);have hD:∃ D,g.d = .box D:=⟨_,rfl⟩;obtain ⟨D,hD⟩:=hD;have ht:(LD inL ch).drop m1.used=LD inL (ch.drop m1.used):=(List.map_drop ..).symm;have ht2:(LD inL (ch.drop m1.used)).take (ch.length - m1.used)=LD inL (ch.drop m1.used):=List.take_of_length_le (by simp)
   have hcl:(∀ x∈LD inL ch,x.cells.length=1)=True:=eq_true fun x hx=>by obtain ⟨n,_,rfl⟩:=List.mem_map.1 hx; rfl
   have e5:n1.steps=m2.steps - m1.steps:=by omega
   have e6:(n1.used:Int)=m2.used - m1.used:=by omega
   have s02:=i2.s0;have s01:=i1.s0
   have z2:m2.steps≤1000000:=by omega
   have u2:=i2.u;clear I I3 b1 b3 i1 i2 i5 lt g1 g2 t2 t4 t6 hg hv hv3;simp only[MH,Mc.sd,Sd.cs,oGb,hD,lk,g3,g4,e5,e6,decide_true] at s1 s2 t1 t3 t5 tl1 tl2 tl3 f1 w3 ⊢;simp (maxSteps:=4000000) -implicitDefEqProofs (disch:=omega) [qz8,ea,eb,O6,s0,s1,s2,t1,t3,t5,tl1,tl2,tl3,f1,w3,ht,ht2,hcl,g4]
end Go.Rf

namespace Go.Rf
open Go.ChangeShapes Go.RowKit
theorem q1x {H:Type} {enc:TypeId × Value→H} {W:World} {args:List Value} {ds:List (DataW H)} {ps:List MemPlace} (h:DataW.TrodAll enc Go.Proofs.Tryz.prog W 0 (fun _=>true) true [9,49,3,3] args ds ps) (hb:D4 ds≤1048576) :
 ∃ n,call T0 X0 n 13 (ds.map fun d=>.d (toD d)) []=some (.ret [.d (.bool true)] []):=by
 obtain ⟨v0,vs0,d0,ds0,p0,q0,_,rfl,_,⟨f0,h0⟩,r0⟩:=trodAll_cons h;obtain ⟨v1,vs1,d1,ds1,p1,q1,_,rfl,_,⟨f1,h1⟩,r1⟩:=trodAll_cons r0;obtain ⟨v2,vs2,d2,ds2,p2,q2,_,rfl,_,⟨f2,h2⟩,r2⟩:=trodAll_cons r1;obtain ⟨v3,vs3,d3,ds3,p3,q3,_,rfl,_,⟨f3,h3⟩,r3⟩:=trodAll_cons r2;obtain ⟨_,rfl,_⟩:=trodAll_nil r3;simp only[D4] at hb;obtain ⟨s,e0,l0⟩:=vG Go.Proofs.Tryz.underlying9 h0;obtain ⟨ch,e1,l1,hch⟩:=kE Go.Proofs.Tryz.underlying49 Go.Proofs.Tryz.underlying3 h1;obtain ⟨a,e2,ha⟩:=jm Go.Proofs.Tryz.underlying3 h2;obtain ⟨b,e3,hb⟩:=jm Go.Proofs.Tryz.underlying3 h3;simp only[] at l0 l1 e0 e1 e2 e3;have g:=q7p s ch a b (by omega) (by omega) hch
 have e:([d0,d1,d2,d3].map fun d=>V.d (toD d))=[.d (.str s),.d (.sl (LD inL ch)),.d (.int .i64 a),.d (.int .i64 b)]:=by
  simp only[List.map_cons,List.map_nil,e0,e1,e2,e3];rfl
 rw[e];exact V9 g
end Go.Rf

namespace Go.Proofs.YtjlnfdabdhkgcaaGreatDoor.mo
open Go.ChangeShapes Go.WideShapes Go.ChangeAt Go.RowKit Go.Shelf Go.Lib Go.Rf
theorem own:ownKnob Tryz.prog.godebug=none:=by kernel_rfl
theorem laidOut:laidOutB Tryz.prog=true:=by kernel_rfl
def ren260:Shelf.Ren where
 f n:=match n with | 240=>156 | 169=>92 | 276=>233 | _=>305
 t n:=match n with | 37=>172 | 46=>307 | 70=>171 | 72=>174 | 119=>398 | 127=>276 | 138=>400 | 139=>401 | 164=>346 | n=>n
 g n:=match n with | 3=>0 | _=>1
theorem lays260:Go.Proofs.Lays.n260 Tryz.prog ren260 where
 mixed:=by kernel_rfl
 f260:=by kernel_rfl
 t0:=by kernel_rfl
 a0:=Tryz.isAgg0
 z0:=Tryz.sizeOf0
 v0:=Tryz.zeroValue0
 t3:=by kernel_rfl
 a3:=Tryz.isAgg3
 z3:=Tryz.sizeOf3
 v3:=Tryz.zeroValue3
 t4:=by kernel_rfl
 a4:=Tryz.isAgg4
 z4:=Tryz.sizeOf4
 v4:=Tryz.zeroValue4
 t5:=by kernel_rfl
 a5:=Tryz.isAgg5
 z5:=Tryz.sizeOf5
 v5:=Tryz.zeroValue5
 t9:=by kernel_rfl
 a9:=Tryz.isAgg9
 z9:=Tryz.sizeOf9
 v9:=Tryz.zeroValue9
 t21:=by kernel_rfl
 a21:=Tryz.isAgg21
 z21:=Tryz.sizeOf21
 v21:=Tryz.zeroValue21
 t46:=by kernel_rfl
 a46:=Tryz.isAgg307
 z46:=Tryz.sizeOf307
 v46:=Tryz.zeroValue307
 t119:=by kernel_rfl
 a119:=Tryz.isAgg398
 z119:=Tryz.sizeOf398
 t138:=by kernel_rfl
 a138:=Tryz.isAgg400
 z138:=Tryz.sizeOf400
 v138:=Tryz.zeroValue400
 t139:=by kernel_rfl
 a139:=Tryz.isAgg401
 z139:=Tryz.sizeOf401
 v139:=Tryz.zeroValue401
 g3:=by kernel_rfl
 g4:=by kernel_rfl
theorem extra:U8Extra Tryz.prog ren260:=by constructor <;> kernel_rfl
theorem tabs {W:World} (h:laidMetH Tryz.prog Rows.machineOnUptoRow.laid W):XM (XY W) 0 1:=by
 rw[MakeChecks.laidMetH_plain _ _ _ (by kernel_rfl)] at h;have hT:Lib.Utf8Tabs (ren260.g 3) (ren260.g 4) W:=utf8Tabs_of_readsT (U8Types.of260 lays260) extra (Pinned.utf8First_eq ▸ Lib.laidMet.reads h (.tail _ (.head _))) (Lib.laidMet.reads h (.head _));exact ⟨hT.1,hT.2⟩
mutual
theorem bulk_eq {H:Type}:∀ d:DataW H,Rows.uptoBulk d=D8 d
 | .lit l=>by cases l <;> rfl
 | .nil=>rfl
 | .ptr d=>by simp only[Rows.uptoBulk,D8,bulk_eq d]
 | .slice a b=>by simp only[Rows.uptoBulk,D8,bulks_eq a,bulks_eq b]
 | .agg a=>by simp only[Rows.uptoBulk,D8,bulks_eq a]
 | .iface _ d=>by simp only[Rows.uptoBulk,D8,bulk_eq d]
 | .map es=>by simp only[Rows.uptoBulk,D8,bulkEs_eq es]
 | .held _=>rfl
theorem bulks_eq {H:Type}:∀ d:List (DataW H),Rows.uptoBulkAll d=D4 d
 | []=>rfl
 | d :: r=>by simp only[Rows.uptoBulkAll,D4,bulk_eq d,bulks_eq r]
theorem bulkEs_eq {H:Type}:∀ d:List (Lit × DataW H),Rows.uptoBulkEntries d=jL d
 | []=>rfl
 | x :: r=>by simp only[Rows.uptoBulkEntries,jL,bulkE_eq x,bulkEs_eq r]
theorem bulkE_eq {H:Type}:∀ d:Lit × DataW H,Rows.uptoBulkEntry d=ZN d
 | (l,d)=>by cases l <;> simp only[Rows.uptoBulkEntry,ZN,bulk_eq d]
end
set_option maxRecDepth 100000 in
theorem contract (H:Type) (enc:TypeId × Value→H) (W:World) (base:Nat) (args:Array Value) (ds gs:List (DataW H)) (before:List MemPlace)
 (hval:∀ (j:Nat) t v,Tryz.f13.params[j]? = some t→args[j]? = some v→Value.okWide Tryz.prog W .any base t v)
 (hW:DataW.Whole enc Tryz.prog Tryz.f13.params.toList Rows.machineOnSpec.vars false W args.toList ds gs before) (hL:laidMetH Tryz.prog Rows.machineOnUptoRow.laid W) (hb:Rows.uptoBulkAll (ds++gs)≤1048576) :
 Calls Tryz.prog 13 args W fun e W'=>∃ v,e = .returned v∧Rows.machineOnSpec.post enc Tryz.prog Tryz.f13 false true false false W args v W':=by
 have hW':=hW;obtain ⟨p,q,hA0,hV,rfl,hfz,hnd⟩:=hW
 have hA:DataW.TrodAll enc Tryz.prog W 0 (fun _=>true) true [9,49,3,3] args.toList ds p:=by rw[Tryz.params13] at hA0; exact hA0
 rw[Tryz.params13] at hval;obtain ⟨rfl,rfl⟩:=trodVars_none hV;rw[List.append_nil,bulks_eq] at hb;have hr:=Z4 (f:=8) (ρ:=fun _=>.none) (r:=.any) (base:=base) _ _ _ _ hA (by intro t ht; simp only[List.mem_cons,List.not_mem_nil,or_false] at ht; rcases ht with rfl | rfl | rfl | rfl <;> kernel_rfl) (fun j t v h1 h2=>hval j t v (by simpa using h1) (by simpa using h2)) hb;obtain ⟨n,hn⟩:=q1x (enc:=enc) hA hb
 refine (vC qt9 qua (fun f e he=>?_) hr hn).mono fun e W' ⟨he,hw⟩=>?_
 ·unfold X0 at he;simp only at he;split at he
  ·cases he;rename_i hf;subst hf;exact KH lays260 (by kernel_rfl) (tabs hL)
  ·cases he
 ·subst he
  have hlt:∀ x∈p,x.block < W.heap.size:=fun x hx=>by simpa using hW'.lt x (List.mem_append_left _ hx)
  have hback:=V4 laidOut hw [9,49,3,3] _ _ _ (by intro t ht; simp only[List.mem_cons,List.not_mem_nil,or_false] at ht; rcases ht with rfl | rfl | rfl | rfl <;> exact ⟨by kernel_rfl,of_decide_eq_true (by kernel_rfl)⟩) hA hlt
  obtain ⟨d0,d1,d2,d3,rfl⟩:∃ d0 d1 d2 d3,ds=[d0,d1,d2,d3]:=by
   obtain ⟨v0,vs0,d0,ds0,p0,q0,_,rfl,_,_,r0⟩:=trodAll_cons hA;obtain ⟨v1,vs1,d1,ds1,p1,q1,_,rfl,_,_,r1⟩:=trodAll_cons r0;obtain ⟨v2,vs2,d2,ds2,p2,q2,_,rfl,_,_,r2⟩:=trodAll_cons r1;obtain ⟨v3,vs3,d3,ds3,p3,q3,_,rfl,_,_,r3⟩:=trodAll_cons r2;obtain ⟨_,rfl,_⟩:=trodAll_nil r3;exact ⟨d0,d1,d2,d3,rfl⟩
  refine ⟨_,rfl,[d0,d1,d2,d3],[],p++[],[],p,[],hW',trodAll_mk1 (shut_bool Tryz.underlying4 _),?_,rfl,hw.frame _,fun h=>by cases h⟩;rw[Tryz.params13];exact hback
theorem laid_met (os:Os):laidMet Tryz.prog Rows.machineOnUptoRow.laid ((World.laidAll Tryz.prog os Rows.machineOnUptoRow.laid).forCall (fun _ _=>0) ⟨#[],#[.string ⟨#[]⟩,.slice none 0 0,.int .i64 0,.int .i64 0],[]⟩).memory:=
 laidMet_laidAll _ (by kernel_rfl) (by kernel_rfl)
theorem reads (os:Os) {H:Type} (enc:TypeId × Value→H):∃ places,DataW.whole enc Tryz.prog ((World.laidAll Tryz.prog os Rows.machineOnUptoRow.laid).forCall (fun _ _=>0) ⟨#[],#[.string ⟨#[]⟩,.slice none 0 0,.int .i64 0,.int .i64 0],[]⟩).memory Tryz.f13.params.toList Rows.machineOnSpec.vars false #[(.string ⟨#[]⟩:Value),.slice none 0 0,.int .i64 0,.int .i64 0].toList 8=some ([.lit (.string []),.nil,.lit (.int .i64 0),.lit (.int .i64 0)],[],places):=
 ⟨[],by kernel_rfl⟩
set_option maxRecDepth 100000 in
theorem liftedUpto (os:Os) (started:os.Started) (H:Type) (enc:TypeId × Value→H) (F:Stop.Interp) :
 ReturnsInHanded {} Tryz.checked os 13 .any ((Rows.OpenSpec.upto Rows.machineOnSpec).preRow enc Tryz.prog Tryz.f13 Rows.machineOnUptoRow.domain false Rows.machineOnUptoRow.laid) (((Rows.OpenSpec.upto Rows.machineOnSpec).at F).post enc Tryz.prog Tryz.f13 false true false false):=by
 obtain ⟨places,hx⟩:=reads os enc
 refine returnsInHanded_of_row (C:=Tryz.checked) (s:=Rows.OpenSpec.upto Rows.machineOnSpec) own started (by kernel_rfl) Tryz.func13
  (witness_row_at (enc:=enc) (C:=Tryz.checked) false (World.laidAll Tryz.prog os Rows.machineOnUptoRow.laid) #[.string ⟨#[]⟩,.slice none 0 0,.int .i64 0,.int .i64 0] (World.laidAll_os _ _ _) (by kernel_rfl) (by kernel_rfl) (by kernel_rfl)
   (OpenSpec.preRow_of_cond 8 hx (by kernel_rfl) (fun k hk=>by cases hk; kernel_rfl) (by kernel_rfl) (laid_met os))) ?_
 intro W base args ds gs before hval hW _ hcond _ hL _ _
 exact contract H enc W base args ds gs before hval hW hL (by
  have:=hcond _ rfl
  simpa only [Rows.uptoSmall,decide_eq_true_eq] using this)
theorem ai {a b:Bool} (h:a=true) (g:b=true):(a && b)=true:=by rw [h,g]; rfl
set_option maxHeartbeats 0 in
set_option maxRecDepth 100000 in
theorem closedUpto:joinedFacts Tryz.pinned.checked.prog 13 Tryz.f13 (Rows.OpenSpec.upto Rows.machineOnSpec).bare Rows.machineOnUptoRow=true:=by
 unfold joinedFacts
 repeat' with_reducible refine ai ?_ ?_
 all_goals (as_aux_lemma => kernel_rfl)
theorem saidUpto:Rows.MachineOnUptoSaid:=
 OpenClaim.holds_of_cond 13 Tryz.f13 rfl rfl rfl rfl rfl rfl rfl ⟨rfl,rfl,rfl,rfl,rfl⟩ rfl rfl rfl rfl rfl (by kernel_rfl) Tryz.func13 closedUpto
  (of_decide_eq_true (by kernel_rfl)) (by unfold Func.isWrapper; first | (rw[if_pos (by decide +kernel)]; kernel_rfl) | (rw[if_neg (by decide +kernel)]; exact ⟨rfl,rfl⟩))
  (fun os started H enc _ F=>by rw[OpenClaim.pre_eq_preRow]; exact liftedUpto os started H enc F)
theorem plain (f : FuncId) (fn : Func) (hf : Tryz.pinned.checked.prog.funcNamed "rafter/rafterlaw11.MachineOn" = some f) (hfn : Tryz.pinned.checked.prog.funcs[f]? = some fn) :
 true=Tryz.pinned.checked.prog.looks [] ∧ ∀ (j:Nat) t,fn.params[j]? = some t→Tryz.pinned.checked.prog.wantsStandIn t=false:=by
 obtain rfl : f = 13 := Option.some.inj ((show Tryz.prog.funcNamed "rafter/rafterlaw11.MachineOn" = some 13 by kernel_rfl).symm.trans hf) |>.symm;obtain rfl : fn = Tryz.f13 := (Option.some.inj (Tryz.func13.symm.trans hfn)).symm;refine ⟨by kernel_rfl, fun j t ht => ?_⟩;rw [Tryz.params13] at ht
 have hm:t∈([9,49,3,3]:List Nat):=by simpa using Array.mem_of_getElem? ht
 have hall:(([9,49,3,3]:List Nat).all fun u=>!Tryz.prog.wantsStandIn u)=true:=by kernel_rfl
 exact (show Tryz.prog.wantsStandIn t=false by simpa using List.all_eq_true.1 hall t hm)
theorem cardUpto:Rows.MachineOnUptoCardSaid:=
 Claim7.holds_tied_plain_at .later [] _ _ _ _ saidUpto (fun _ h=>by cases h) (by kernel_rfl) (fun _ h=>by cases h) machineOnUpto_row_tie rfl ⟨rfl,rfl⟩ (by kernel_rfl) rfl plain (by kernel_rfl)
#print axioms cardUpto
end Go.Proofs.YtjlnfdabdhkgcaaGreatDoor.mo
