/- MachineMore, at most 1048576 values and letters: the law's card, out of what its abstract call comes to. -/
import Derived.Test.YtjlnfdabdhkgcaaGreatDoorRg9
import Derived.Test.YtjlnfdabdhkgcaaGreatDoorSp28
import Derived.Test.YtjlnfdabdhkgcaaGreatDoorCk
import Derived.Test.YtjlnfdabdhkgcaaGreatDoorChecked
import Derived.Test.YtjlnfdabdhkgcaaGreatDoorCards
import Derived.Test.YtjlnfdabdhkgcaaGreatDoorTie
import Derived.Deep.DeepHandedRow
import Derived.Lib.LaidU8T
import Derived.PinnedBridge
import Derived.Lay

set_option linter.unusedSimpArgs false
set_option linter.unusedVariables false
set_option linter.unnecessarySimpa false
set_option linter.unusedSectionVars false
set_option linter.all false
namespace Go.Rf
set_option maxHeartbeats 16000000
def XA (bs:List Bg):Nat:=bs.countP Bg.any
theorem qrl (bs:List Bg) (hb:bs.length≤1000):∀ d i (e:List (Nat × V)),d + i=bs.length→
 i9 T0 X0 0 Q0 (some (.nrm,⟨(3,.d (.int .i64 (XA (bs.take i)))) :: (4,.d (.sl (LD bgL bs))) :: (5,.d (.int .i64 i)) :: e,[]⟩))=some (.exit 0,⟨[(3,.d (.int .i64 (XA bs)))],[]⟩):=by
 intro d
 induction d with
 | zero=>
   intro i e hi
   have:i=bs.length:=by omega
   subst this;rw[List.take_length,c9 (l:=Q0) rfl];simp -implicitDefEqProofs (disch:=omega) [Q1]
 | succ d ih=>
   intro i e hi
   have hlt:i < bs.length:=by omega
   have hget:=qfd hlt;have s2:=ih (i + 1) [] (by omega);have hcl:XA (bs.take i)≤i:=Nat.le_trans List.countP_le_length (by simp; omega)
   have hct:XA (bs.take (i + 1))=XA (bs.take i) + (if (bs[i]).any=true then 1 else 0):=by
    unfold XA;rw[List.take_succ_eq_append_getElem hlt,List.countP_append];simp[List.countP_cons]
   rw[hct] at s2;rw[c9 (l:=Q0) rfl];generalize bs[i]=b at *;generalize XA (bs.take i)=c at *;simp only[Bg.cs] at hget;push_cast at s2
   cases hba:b.any with
   | false=>
     simp only[hba] at hget s2;simp only[Bool.false_eq_true,if_false,Int.add_zero,Int.cast_ofNat_Int] at s2;simp (maxSteps:=4000000) -implicitDefEqProofs (disch:=omega) [Q1,hget,s2]
   | true=>
     simp only[hba] at hget s2;simp only[if_true,Int.cast_ofNat_Int] at s2;simp (maxSteps:=4000000) -implicitDefEqProofs (disch:=omega) [Q1,hget,s2]
theorem qrk (g:Gb) (hb:g.bs.length≤1000) (hn:∀ b∈g.bs,nl b.n≤40∧b.name.length≤1000000):d5 T0 X0 KS [.d g.d] []=some (.ret [.d (.int .i64 (XA g.bs))] []):=by
 have s1:=qhp g hb hn;have s2:=qrl g.bs hb g.bs.length 0 [] rfl;rw[c8 (af:=xl) rfl rfl rfl];simp only[List.take_zero,Int.cast_ofNat_Int,show XA []=0 from rfl] at s2;have hD:∃ D,g.d = .box D:=⟨_,rfl⟩;obtain ⟨D,hD⟩:=hD;rw[hD] at s1 ⊢;simp (maxSteps:=4000000) -implicitDefEqProofs (disch:=omega) [xl,s1,s2]
theorem qfe (ch:List Int):∀ (bs:List Bg) (m:Mc),m.used + XA bs≤m.ch.length→(∀ i,i < m.used + XA bs→m.ch[i]? = ch[i]?)→
 bs.foldl Mc.beg (m.with ch)=(bs.foldl Mc.beg m).with ch∧(bs.foldl Mc.beg m).used=m.used + XA bs
 | [],m,_,_=>⟨rfl,by simp[XA]⟩
 | b :: bs,m,hl,h=>by
   have hc:XA (b :: bs)=XA bs + (if b.any=true then 1 else 0):=by unfold XA; rw[List.countP_cons]
   rw[hc] at hl h ⊢;simp only[List.foldl_cons]
   cases hb:b.any with
   | false=>
     simp only[hb,Bool.false_eq_true,if_false,Nat.add_zero] at hl h ⊢
     have e1:m.beg b = { m with st:=m.st++[b.n] }:=by unfold Mc.beg; rw[if_neg (by simp[hb])]
     have e2:(m.with ch).beg b=(m.beg b).with ch:=by rw[e1]; unfold Mc.beg; rw[if_neg (by simp[hb])]; rfl
     rw[e2]
     have hu:(m.beg b).used=m.used:=by rw[e1]
     have hch:=qk5 m b;have ih:=qfe ch bs (m.beg b) (by rw[hu,hch]; exact hl) (by rw[hu,hch]; exact h);rw[hu] at ih;exact ih
   | true=>
     simp only[hb,if_true] at hl h ⊢
     have hlt:m.used < m.ch.length:=by omega
     have h0:=h m.used (by omega);rw[List.getElem?_eq_getElem hlt] at h0
     have e1:m.beg b = { m with st:=m.st++[m.ch[m.used]],used:=m.used + 1 }:=by unfold Mc.beg; rw[if_pos hb,List.getElem?_eq_getElem hlt]
     have e2:(m.with ch).beg b=(m.beg b).with ch:=by
      rw[e1];unfold Mc.beg;rw[if_pos hb];show (match ch[m.used]? with | some x=>_ | none=>_)=_;rw[← h0];rfl
     rw[e2]
     have hu:(m.beg b).used=m.used + 1:=by rw[e1]
     have hch:=qk5 m b;have ih:=qfe ch bs (m.beg b) (by rw[hu,hch]; omega) (by rw[hu,hch]; intro i hi; exact h i (by omega));rw[hu] at ih;exact ⟨ih.1,by rw[ih.2]; omega⟩
theorem qyc (s:List UInt8) (ch more:List Int) (f:Int) (hs:s.length≤1100000) (hc:ch.length + more.length≤1100000) (hv:∀ x∈ch,-9223372036854775808≤x∧x≤9223372036854775807) (hv2:∀ x∈more,-9223372036854775808≤x∧x≤9223372036854775807) (hf:-9223372036854775808≤f∧f≤9223372036854775807) :
 d5 T0 X0 Qp [.d (.str s),.d (.sl (LD inL ch)),.d (.sl (LD inL more)),.d (.int .i64 f)] []=some (.ret [.d (.bool true)] []):=by
 have s0:=ji;have s1:=ja s hs
 have hg:=fun g=>kH (s:=s) (g:=g)
 have s4:=qgr f hf;rw[c8 (af:=z6) rfl rfl rfl];generalize jb s=o at *
 cases o with
 | none=>
   simp only[oGb] at s1;simp (maxSteps:=4000000) -implicitDefEqProofs (disch:=omega) [z6,s0,s1]
 | some g=>
   have hg:=hg g rfl;have hn:=hg.n;have hbl:=hg.bl
   have hbs:∀ b∈g.bs,nl b.n≤40∧b.name.length≤1000000:=fun b hb=>by have:=hg.bs b hb; omega
   have s3:=qrk g (by omega) hbs;have hcb:XA g.bs≤g.bs.length:=List.countP_le_length;have hD:∃ D,g.d = .box D:=⟨_,rfl⟩;obtain ⟨D,hD⟩:=hD
   by_cases hcnt:ch.length < XA g.bs
   ·simp only[oGb,hD] at s1 s3;simp (maxSteps:=4000000) -implicitDefEqProofs (disch:=omega) [z6,s0,s1,s3,hcnt]
   have hva:∀ x∈ch++more,-9223372036854775808≤x∧x≤9223372036854775807:=fun x hx=>(List.mem_append.1 hx).elim (hv x) (hv2 x)
   have I:=wF hg (by omega) hv;obtain ⟨b1,b2,_⟩:=jM hg hv;have s2:=ql9 I g ch b1 (f.tmod 3000) (by omega) hbs (by omega) hv;have i2:=jD I (f.tmod 3000).toNat _ b1;have w0:=qei (ch++more) (f.tmod 3000).toNat (Mc.begin g ch)
   have w1:=fun U=>qei (ch.take U) (f.tmod 3000).toNat (Mc.begin g ch)
   have hst2:=zL (f.tmod 3000).toNat (Mc.begin g ch);have hus2:=qej (f.tmod 3000).toNat (Mc.begin g ch)
   have bw:=fun c'=>qfe c' g.bs { g:=g,ch:=ch } (by simp only[]; omega)
   have hbu:(Mc.begin g ch).used=XA g.bs:=by
    have:=(bw ch (fun i _=>rfl)).2
    simpa [Mc.begin] using this
   have t0:Mc.begin g (ch++more)=(Mc.begin g ch).with (ch++more):=(bw (ch++more) fun i hi=>by
    rw[List.getElem?_append_left (by simp only[Nat.zero_add] at hi; omega)]).1
   have k2:=I.ok _ i2;have hu:=i2.u;have hch2:=i2.cc;have hgl:=i2.gg;have hbc:(Mc.begin g ch).ch=ch:=b1.cc;generalize hr:(Mc.begin g ch).goF (f.tmod 3000).toNat=r at *;obtain ⟨c,m⟩:=r;simp only[] at s2 i2 w0 w1 hst2 hus2 k2 hu hch2 hgl
   have t1:Mc.begin g (ch.take m.used)=(Mc.begin g ch).with (ch.take m.used):=(bw (ch.take m.used) fun i hi=>by
    rw[List.getElem?_take_of_lt (by simp only[Nat.zero_add] at hi; omega)]).1
   have w0:=w0 fun i hi=>by rw[hbc,List.getElem?_append_left (by omega)]
   have w1:=w1 m.used fun i hi=>by rw[hbc,List.getElem?_take_of_lt hi]
   rw[← t0] at w0;rw[← t1] at w1;have I3:=wF hg (ch:=ch++more) (by simp; omega) hva;have I4:=wF hg (ch:=ch.take m.used) (by simp; omega) (fun x hx=>hv x (List.mem_of_mem_take hx));have s5:=ql9 I3 g (ch++more) (jM hg hva).1 c (by omega) hbs (by simp; omega) hva;have s6:=ql9 I4 g (ch.take m.used) (jM hg (fun x hx=>hv x (List.mem_of_mem_take hx))).1 c (by omega) hbs (by simp; omega) (fun x hx=>hv x (List.mem_of_mem_take hx));rw[Int.toNat_natCast,w0] at s5;rw[Int.toNat_natCast,w1] at s6
   have hsteps:m.steps=c:=by omega
   have hw:m.look.k≠2→m.look.k≠0→(m.with (ch++more)).look.k=m.look.k:=fun h2 h0=>by
    have:=qhj (q16 h0) h2 (ch++more) m.used m.steps;show (({ m with ch:=ch++more,used:=m.used,steps:=m.steps }:Mc).look).k=_;rw[this]
   have h7:=wa (f:=m.st) (g:=m.st) (by have:=k2.s.n; omega) (by have:=k2.s.n; omega) (qhc k2.s.v) (qhc k2.s.v);have hml:=k2.s.n;have ht1:(LD inL ch).take m.used=LD inL (ch.take m.used):=(List.map_take ..).symm;have ht3:LW inL ch++LW inL more=LW inL (ch++more):=(List.map_append ..).symm;have ht4:(ch++more).take (ch.length + more.length)=ch++more:=List.take_of_length_le (by simp)
   have hdc:(∀ x∈LD inL ch,x.cells.length=1)=True:=eq_true fun x hx=>by obtain ⟨n,_,rfl⟩:=List.mem_map.1 hx; rfl
   have ht2:LD inL ch++LD inL more=LD inL (ch++more):=(List.map_append ..).symm
   have hcl:c≤100000000:=by
    have:=qax (f.tmod 3000).toNat (Mc.begin g ch);rw[hr] at this;have:=Int.tmod_lt_of_pos f (b:=3000) (by decide);simp only[] at *;omega
   rw[qwu] at s2 s5 s6;simp only[Mc.sd,Sd.cs] at s2 s5 s6
   have z1:∀ c',(m.with c').p=m.p∧(m.with c').st=m.st∧(m.with c').steps=c∧(m.with c').used=m.used:=fun c'=>⟨rfl,rfl,hsteps,rfl⟩
   simp only[z1,hsteps] at s2 s5 s6;generalize (m.with (ch++more)).look.k=k5 at *;generalize (m.with (ch++more)).look.w=w5 at *;generalize (m.with (ch.take m.used)).look.k=k6 at *;generalize (m.with (ch.take m.used)).look.w=w6 at *;simp only[oGb,hD,decide_true] at s1 s2 s3 s5 s6 h7
   have hM:(LW inL ch).length≤1100000:=by simp; omega
   clear w0 w1 t0 t1 bw I I3 I4 k2 i2 b1 hg z1 hr;generalize f.tmod 3000=f2 at *
   by_cases h2:m.look.k=2
   ·simp only[h2] at s2;simp (maxSteps:=4000000) -implicitDefEqProofs (disch:=omega) [z6,s0,s1,s2,s3,s4,s5,s6,h7,hcnt,ht1,ht2,ht3,ht4,hdc,hu]
   by_cases h0:m.look.k=0
   ·simp only[h0] at s2;simp (maxSteps:=4000000) -implicitDefEqProofs (disch:=omega) [z6,s0,s1,s2,s3,s4,s5,s6,h7,hcnt,ht1,ht2,ht3,ht4,hdc,hu]
   have hk5:=hw h2 h0;subst hk5;simp (maxSteps:=4000000) -implicitDefEqProofs (disch:=omega) [z6,s0,s1,s2,s3,s4,s5,s6,h7,hcnt,ht1,ht2,ht3,ht4,hdc,hu,h2,h0]
end Go.Rf

namespace Go.Rf
open Go.ChangeShapes Go.RowKit
theorem q1y {H:Type} {enc:TypeId × Value→H} {W:World} {args:List Value} {ds:List (DataW H)} {ps:List MemPlace} (h:DataW.TrodAll enc Go.Proofs.Tryz.prog W 0 (fun _=>true) true [9,49,49,3] args ds ps) (hb:D4 ds≤1048576) :
 ∃ n,call T0 X0 n 9 (ds.map fun d=>.d (toD d)) []=some (.ret [.d (.bool true)] []):=by
 obtain ⟨v0,vs0,d0,ds0,p0,q0,_,rfl,_,⟨f0,h0⟩,r0⟩:=trodAll_cons h;obtain ⟨v1,vs1,d1,ds1,p1,q1,_,rfl,_,⟨f1,h1⟩,r1⟩:=trodAll_cons r0;obtain ⟨v2,vs2,d2,ds2,p2,q2,_,rfl,_,⟨f2,h2⟩,r2⟩:=trodAll_cons r1;obtain ⟨v3,vs3,d3,ds3,p3,q3,_,rfl,_,⟨f3,h3⟩,r3⟩:=trodAll_cons r2;obtain ⟨_,rfl,_⟩:=trodAll_nil r3;simp only[D4] at hb;obtain ⟨s,e0,l0⟩:=vG Go.Proofs.Tryz.underlying9 h0;obtain ⟨ch,e1,l1,hch⟩:=kE Go.Proofs.Tryz.underlying49 Go.Proofs.Tryz.underlying3 h1;obtain ⟨more,e2,l2,hmore⟩:=kE Go.Proofs.Tryz.underlying49 Go.Proofs.Tryz.underlying3 h2;obtain ⟨a,e3,ha⟩:=jm Go.Proofs.Tryz.underlying3 h3;simp only[] at l0 l1 l2 e0 e1 e2 e3;have g:=qyc s ch more a (by omega) (by omega) hch hmore ha
 have e:([d0,d1,d2,d3].map fun d=>V.d (toD d))=[.d (.str s),.d (.sl (LD inL ch)),.d (.sl (LD inL more)),.d (.int .i64 a)]:=by
  simp only[List.map_cons,List.map_nil,e0,e1,e2,e3];rfl
 rw[e];exact V9 g
end Go.Rf

namespace Go.Proofs.YtjlnfdabdhkgcaaGreatDoor.mm
open Go.ChangeShapes Go.WideShapes Go.ChangeAt Go.RowKit Go.Shelf Go.Lib Go.Rf
theorem own:ownKnob Tryz.prog.godebug=none:=by kernel_rfl
theorem laidOut:laidOutB Tryz.prog=true:=by kernel_rfl
def ren260:Shelf.Ren where
 f n:=match n with | 240=>156 | 169=>92 | 276=>233 | _=>305
 t n:=match n with | 37=>172 | 46=>307 | 70=>171 | 72=>174 | 119=>398 | 127=>276 | 138=>400 | 139=>401 | 164=>346 | n=>n
 g n:=match n with | 3=>0 | _=>1
theorem lays260:Go.Proofs.Lays.n260 Tryz.prog ren260 where
 mixed:=by kernel_rfl
 f260:=by kernel_rfl
 t0:=by kernel_rfl
 a0:=Tryz.isAgg0
 z0:=Tryz.sizeOf0
 v0:=Tryz.zeroValue0
 t3:=by kernel_rfl
 a3:=Tryz.isAgg3
 z3:=Tryz.sizeOf3
 v3:=Tryz.zeroValue3
 t4:=by kernel_rfl
 a4:=Tryz.isAgg4
 z4:=Tryz.sizeOf4
 v4:=Tryz.zeroValue4
 t5:=by kernel_rfl
 a5:=Tryz.isAgg5
 z5:=Tryz.sizeOf5
 v5:=Tryz.zeroValue5
 t9:=by kernel_rfl
 a9:=Tryz.isAgg9
 z9:=Tryz.sizeOf9
 v9:=Tryz.zeroValue9
 t21:=by kernel_rfl
 a21:=Tryz.isAgg21
 z21:=Tryz.sizeOf21
 v21:=Tryz.zeroValue21
 t46:=by kernel_rfl
 a46:=Tryz.isAgg307
 z46:=Tryz.sizeOf307
 v46:=Tryz.zeroValue307
 t119:=by kernel_rfl
 a119:=Tryz.isAgg398
 z119:=Tryz.sizeOf398
 t138:=by kernel_rfl
 a138:=Tryz.isAgg400
 z138:=Tryz.sizeOf400
 v138:=Tryz.zeroValue400
 t139:=by kernel_rfl
 a139:=Tryz.isAgg401
 z139:=Tryz.sizeOf401
 v139:=Tryz.zeroValue401
 g3:=by kernel_rfl
 g4:=by kernel_rfl
theorem extra:U8Extra Tryz.prog ren260:=by constructor <;> kernel_rfl
theorem tabs {W:World} (h:laidMetH Tryz.prog Rows.machineMoreUptoRow.laid W):XM (XY W) 0 1:=by
 rw[MakeChecks.laidMetH_plain _ _ _ (by kernel_rfl)] at h;have hT:Lib.Utf8Tabs (ren260.g 3) (ren260.g 4) W:=utf8Tabs_of_readsT (U8Types.of260 lays260) extra (Pinned.utf8First_eq ▸ Lib.laidMet.reads h (.tail _ (.head _))) (Lib.laidMet.reads h (.head _));exact ⟨hT.1,hT.2⟩
mutual
theorem bulk_eq {H:Type}:∀ d:DataW H,Rows.uptoBulk d=D8 d
 | .lit l=>by cases l <;> rfl
 | .nil=>rfl
 | .ptr d=>by simp only[Rows.uptoBulk,D8,bulk_eq d]
 | .slice a b=>by simp only[Rows.uptoBulk,D8,bulks_eq a,bulks_eq b]
 | .agg a=>by simp only[Rows.uptoBulk,D8,bulks_eq a]
 | .iface _ d=>by simp only[Rows.uptoBulk,D8,bulk_eq d]
 | .map es=>by simp only[Rows.uptoBulk,D8,bulkEs_eq es]
 | .held _=>rfl
theorem bulks_eq {H:Type}:∀ d:List (DataW H),Rows.uptoBulkAll d=D4 d
 | []=>rfl
 | d :: r=>by simp only[Rows.uptoBulkAll,D4,bulk_eq d,bulks_eq r]
theorem bulkEs_eq {H:Type}:∀ d:List (Lit × DataW H),Rows.uptoBulkEntries d=jL d
 | []=>rfl
 | x :: r=>by simp only[Rows.uptoBulkEntries,jL,bulkE_eq x,bulkEs_eq r]
theorem bulkE_eq {H:Type}:∀ d:Lit × DataW H,Rows.uptoBulkEntry d=ZN d
 | (l,d)=>by cases l <;> simp only[Rows.uptoBulkEntry,ZN,bulk_eq d]
end
set_option maxRecDepth 100000 in
theorem contract (H:Type) (enc:TypeId × Value→H) (W:World) (base:Nat) (args:Array Value) (ds gs:List (DataW H)) (before:List MemPlace)
 (hval:∀ (j:Nat) t v,Tryz.f9.params[j]? = some t→args[j]? = some v→Value.okWide Tryz.prog W .any base t v)
 (hW:DataW.Whole enc Tryz.prog Tryz.f9.params.toList Rows.machineMoreSpec.vars false W args.toList ds gs before) (hL:laidMetH Tryz.prog Rows.machineMoreUptoRow.laid W) (hb:Rows.uptoBulkAll (ds++gs)≤1048576) :
 Calls Tryz.prog 9 args W fun e W'=>∃ v,e = .returned v∧Rows.machineMoreSpec.post enc Tryz.prog Tryz.f9 false true false false W args v W':=by
 have hW':=hW;obtain ⟨p,q,hA0,hV,rfl,hfz,hnd⟩:=hW
 have hA:DataW.TrodAll enc Tryz.prog W 0 (fun _=>true) true [9,49,49,3] args.toList ds p:=by rw[Tryz.params9] at hA0; exact hA0
 rw[Tryz.params9] at hval;obtain ⟨rfl,rfl⟩:=trodVars_none hV;rw[List.append_nil,bulks_eq] at hb;have hr:=Z4 (f:=8) (ρ:=fun _=>.none) (r:=.any) (base:=base) _ _ _ _ hA (by intro t ht; simp only[List.mem_cons,List.not_mem_nil,or_false] at ht; rcases ht with rfl | rfl | rfl | rfl <;> kernel_rfl) (fun j t v h1 h2=>hval j t v (by simpa using h1) (by simpa using h2)) hb;obtain ⟨n,hn⟩:=q1y (enc:=enc) hA hb
 refine (vC qt9 qua (fun f e he=>?_) hr hn).mono fun e W' ⟨he,hw⟩=>?_
 ·unfold X0 at he;simp only at he;split at he
  ·cases he;rename_i hf;subst hf;exact KH lays260 (by kernel_rfl) (tabs hL)
  ·cases he
 ·subst he
  have hlt:∀ x∈p,x.block < W.heap.size:=fun x hx=>by simpa using hW'.lt x (List.mem_append_left _ hx)
  have hback:=V4 laidOut hw [9,49,49,3] _ _ _ (by intro t ht; simp only[List.mem_cons,List.not_mem_nil,or_false] at ht; rcases ht with rfl | rfl | rfl | rfl <;> exact ⟨by kernel_rfl,of_decide_eq_true (by kernel_rfl)⟩) hA hlt
  obtain ⟨d0,d1,d2,d3,rfl⟩:∃ d0 d1 d2 d3,ds=[d0,d1,d2,d3]:=by
   obtain ⟨v0,vs0,d0,ds0,p0,q0,_,rfl,_,_,r0⟩:=trodAll_cons hA;obtain ⟨v1,vs1,d1,ds1,p1,q1,_,rfl,_,_,r1⟩:=trodAll_cons r0;obtain ⟨v2,vs2,d2,ds2,p2,q2,_,rfl,_,_,r2⟩:=trodAll_cons r1;obtain ⟨v3,vs3,d3,ds3,p3,q3,_,rfl,_,_,r3⟩:=trodAll_cons r2;obtain ⟨_,rfl,_⟩:=trodAll_nil r3;exact ⟨d0,d1,d2,d3,rfl⟩
  refine ⟨_,rfl,[d0,d1,d2,d3],[],p++[],[],p,[],hW',trodAll_mk1 (shut_bool Tryz.underlying4 _),?_,rfl,hw.frame _,fun h=>by cases h⟩;rw[Tryz.params9];exact hback
theorem laid_met (os:Os):laidMet Tryz.prog Rows.machineMoreUptoRow.laid ((World.laidAll Tryz.prog os Rows.machineMoreUptoRow.laid).forCall (fun _ _=>0) ⟨#[],#[.string ⟨#[]⟩,.slice none 0 0,.slice none 0 0,.int .i64 0],[]⟩).memory:=
 laidMet_laidAll _ (by kernel_rfl) (by kernel_rfl)
theorem reads (os:Os) {H:Type} (enc:TypeId × Value→H):∃ places,DataW.whole enc Tryz.prog ((World.laidAll Tryz.prog os Rows.machineMoreUptoRow.laid).forCall (fun _ _=>0) ⟨#[],#[.string ⟨#[]⟩,.slice none 0 0,.slice none 0 0,.int .i64 0],[]⟩).memory Tryz.f9.params.toList Rows.machineMoreSpec.vars false #[(.string ⟨#[]⟩:Value),.slice none 0 0,.slice none 0 0,.int .i64 0].toList 8=some ([.lit (.string []),.nil,.nil,.lit (.int .i64 0)],[],places):=
 ⟨[],by kernel_rfl⟩
set_option maxRecDepth 100000 in
theorem liftedUpto (os:Os) (started:os.Started) (H:Type) (enc:TypeId × Value→H) (F:Stop.Interp) :
 ReturnsInHanded {} Tryz.checked os 9 .any ((Rows.OpenSpec.upto Rows.machineMoreSpec).preRow enc Tryz.prog Tryz.f9 Rows.machineMoreUptoRow.domain false Rows.machineMoreUptoRow.laid) (((Rows.OpenSpec.upto Rows.machineMoreSpec).at F).post enc Tryz.prog Tryz.f9 false true false false):=by
 obtain ⟨places,hx⟩:=reads os enc
 refine returnsInHanded_of_row (C:=Tryz.checked) (s:=Rows.OpenSpec.upto Rows.machineMoreSpec) own started (by kernel_rfl) Tryz.func9
  (witness_row_at (enc:=enc) (C:=Tryz.checked) false (World.laidAll Tryz.prog os Rows.machineMoreUptoRow.laid) #[.string ⟨#[]⟩,.slice none 0 0,.slice none 0 0,.int .i64 0] (World.laidAll_os _ _ _) (by kernel_rfl) (by kernel_rfl) (by kernel_rfl)
   (OpenSpec.preRow_of_cond 8 hx (by kernel_rfl) (fun k hk=>by cases hk; kernel_rfl) (by kernel_rfl) (laid_met os))) ?_
 intro W base args ds gs before hval hW _ hcond _ hL _ _
 exact contract H enc W base args ds gs before hval hW hL (by
  have:=hcond _ rfl
  simpa only [Rows.uptoSmall,decide_eq_true_eq] using this)
theorem ai {a b:Bool} (h:a=true) (g:b=true):(a && b)=true:=by rw [h,g]; rfl
set_option maxHeartbeats 0 in
set_option maxRecDepth 100000 in
theorem closedUpto:joinedFacts Tryz.pinned.checked.prog 9 Tryz.f9 (Rows.OpenSpec.upto Rows.machineMoreSpec).bare Rows.machineMoreUptoRow=true:=by
 unfold joinedFacts
 repeat' with_reducible refine ai ?_ ?_
 all_goals (as_aux_lemma => kernel_rfl)
theorem saidUpto:Rows.MachineMoreUptoSaid:=
 OpenClaim.holds_of_cond 9 Tryz.f9 rfl rfl rfl rfl rfl rfl rfl ⟨rfl,rfl,rfl,rfl,rfl⟩ rfl rfl rfl rfl rfl (by kernel_rfl) Tryz.func9 closedUpto
  (of_decide_eq_true (by kernel_rfl)) (by unfold Func.isWrapper; first | (rw[if_pos (by decide +kernel)]; kernel_rfl) | (rw[if_neg (by decide +kernel)]; exact ⟨rfl,rfl⟩))
  (fun os started H enc _ F=>by rw[OpenClaim.pre_eq_preRow]; exact liftedUpto os started H enc F)
theorem plain (f : FuncId) (fn : Func) (hf : Tryz.pinned.checked.prog.funcNamed "rafter/rafterlaw11.MachineMore" = some f) (hfn : Tryz.pinned.checked.prog.funcs[f]? = some fn) :
 true=Tryz.pinned.checked.prog.looks [] ∧ ∀ (j:Nat) t,fn.params[j]? = some t→Tryz.pinned.checked.prog.wantsStandIn t=false:=by
 obtain rfl : f = 9 := Option.some.inj ((show Tryz.prog.funcNamed "rafter/rafterlaw11.MachineMore" = some 9 by kernel_rfl).symm.trans hf) |>.symm;obtain rfl : fn = Tryz.f9 := (Option.some.inj (Tryz.func9.symm.trans hfn)).symm;refine ⟨by kernel_rfl, fun j t ht => ?_⟩;rw [Tryz.params9] at ht
 have hm:t∈([9,49,49,3]:List Nat):=by simpa using Array.mem_of_getElem? ht
 have hall:(([9,49,49,3]:List Nat).all fun u=>!Tryz.prog.wantsStandIn u)=true:=by kernel_rfl
 exact (show Tryz.prog.wantsStandIn t=false by simpa using List.all_eq_true.1 hall t hm)
theorem cardUpto:Rows.MachineMoreUptoCardSaid:=
 Claim7.holds_tied_plain_at .later [] _ _ _ _ saidUpto (fun _ h=>by cases h) (by kernel_rfl) (fun _ h=>by cases h) machineMoreUpto_row_tie rfl ⟨rfl,rfl⟩ (by kernel_rfl) rfl plain (by kernel_rfl)
#print axioms cardUpto
end Go.Proofs.YtjlnfdabdhkgcaaGreatDoor.mm
