/- Parts of the proof: SpQ3. -/
import Derived.Test.YtjlnfdabdhkgcaaGreatDoorRb2
import Derived.Test.YtjlnfdabdhkgcaaGreatDoorSp12

set_option linter.unusedSimpArgs false
set_option linter.unusedVariables false
set_option linter.unnecessarySimpa false
set_option linter.unusedSectionVars false
set_option linter.all false
namespace Go.Rf
set_option maxHeartbeats 8000000
@[simp] theorem wl_sl1 (xs:List D):wl [.sl xs]=24:=by simp[wl,wt]
def qmg:List (Int × Int)→Int→Int→List (Int × Int)
 | [],k,v=>[(k,v)]
 | (a,b) :: l,k,v=>if k=a then (a,v) :: l else (a,b) :: qmg l k v
theorem q7d (l k v):YW (Xk l) (.int .i64 k) (.d (.int .i64 v))=Xk (qmg l k v):=by
 induction l with
 | nil=>rfl
 | cons x l ih=>
   obtain ⟨a,b⟩:=x;show (if K3 (.int .i64 k) (.int .i64 a)=true then _ else _)=_
   by_cases h:k=a
   ·subst h; simp[K3,qmg,Xk]
   ·simp only[K3,qmg,if_neg h];rw[if_neg (by simp[h])];show _ :: YW (Xk l) _ _=_;rw[ih];rfl
attribute [simp] q7d
def Gb.mark (g:Gb) (s:List UInt8) (at_:Int):Gb:={ g with marks:=g.marks++[s],md:=g.md++[at_] }
def Gb.start (g:Gb) (b at_:Int):Gb:={ g with st:=qmg g.st b at_ }
def Gb.head (g:Gb) (b h:Int):Gb:={ g with hd:=qmg g.hd b h }
def wG (p:Pl) (j:Int):List Int→Gb→Gb
 | [],g=>g
 | e :: l,g=>wG p j l (g.edge { f:=e,t:=j,k:=1,at_:=p })
mutual
def Sm.bld (n:Nat):Sm→Gb→Int→Gb × Int
 | .set p v _ e,g,a=>match e with
   | none=>(g.point.edge { f:=a,t:=g.out.length,k:=3,v,at_:=p },g.out.length)
   | some x=>if (w8 n x).2=true then ({ g.point with long:=g.long || jj (w8 n x).1 }.edge { f:=a,t:=g.out.length,k:=2,v,row:=(w8 n x).1,at_:=p,x:=some x },g.out.length)
     else (g.point.edge { f:=a,t:=g.out.length,k:=4,v,at_:=p,x:=some x },g.out.length)
 | .skip p,g,a=>(g.point.edge { f:=a,t:=g.out.length,k:=1,at_:=p },g.out.length)
 | .stop _,g,_=>(g.point,g.out.length)
 | .mark _ s,g,a=>(g.mark s a,a)
 | .choose p bs,g,a=>let r:=Bls.bld n p a bs.length 0 bs g; (wG p r.1.out.length r.2 r.1.point,r.1.out.length)
 | .loop p b,g,a=>let h:Int:=g.out.length; let i:Int:=g.out.length + 1
   let r:=Sms.bld n b ((g.point.edge { f:=a,t:=h,k:=1,at_:=p }).point.edge { f:=h,t:=i,k:=5,tk:=1,mn:=2,at_:=p }) i
   let g1:=r.1.edge { f:=r.2,t:=h,k:=1,at_:=p }
   (g1.point.edge { f:=h,t:=g1.out.length,k:=5,tk:=0,mn:=2,at_:=p },g1.out.length)
 | .ifs p x y q b,g,a=>let i:Int:=g.out.length
   let r:=Sms.bld n b (g.point.edge (tEd n a i x y q true p)) i
   let two:Int:=r.1.out.length
   let g2:=r.1.point.edge (tEd n a two x y q false p)
   let j:Int:=g2.out.length
   ((g2.point.edge { f:=r.2,t:=j,k:=1,at_:=p }).edge { f:=two,t:=j,k:=1,at_:=p },j)
 | .ife p x y q b _ e,g,a=>let i:Int:=g.out.length
   let r:=Sms.bld n b (g.point.edge (tEd n a i x y q true p)) i
   let two:Int:=r.1.out.length
   let r2:=Sms.bld n e (r.1.point.edge (tEd n a two x y q false p)) two
   let j:Int:=r2.1.out.length
   ((r2.1.point.edge { f:=r.2,t:=j,k:=1,at_:=p }).edge { f:=r2.2,t:=j,k:=1,at_:=p },j)
 | .while p x y q b,g,a=>let h:Int:=g.out.length; let i:Int:=g.out.length + 1
   let r:=Sms.bld n b (((g.point.head p.b h).edge { f:=a,t:=h,k:=1,at_:=p }).point.edge (tEd n h i x y q true p)) i
   let g1:=r.1.edge { f:=r.2,t:=h,k:=1,at_:=p }
   (g1.point.edge (tEd n h g1.out.length x y q false p),g1.out.length)
def Sms.bld (n:Nat):List Sm→Gb→Int→Gb × Int
 | [],g,a=>(g,a)
 | s :: l,g,a=>Sms.bld n l (s.bld n (g.start s.at_.b a) a).1 (s.bld n (g.start s.at_.b a) a).2
def Bls.bld (n:Nat) (p:Pl) (f mn:Int):Int→List Bl→Gb→Gb × List Int
 | _,[],g=>(g,[])
 | i,.mk _ b :: l,g=>let r:=Sms.bld n b (g.point.edge { f,t:=g.out.length,k:=5,tk:=i,mn,at_:=p }) g.out.length
   let z:=Bls.bld n p f mn (i + 1) l r.1
   (z.1,r.2 :: z.2)
end
def Sm.fn:Sm→FuncId
 | .set ..=>J9
 | .skip ..=>G2
 | .stop ..=>G1
 | .mark ..=>G3
 | .choose ..=>D0
 | .loop ..=>G4
 | .ifs ..=>z7
 | .ife ..=>z7
 | .while ..=>E6
theorem qv3 (g:Gb) (s:Sm):d5 T0 X0 KX [.ptr (.b 0) 0 0,.d s.d] (GH g false false false)=some (.ret [.fn (s.fn + fB) [.ptr (.b 0) 0 0]] (GH g false false false)):=by
 rw[c8 (af:=xr) rfl rfl rfl]
 cases s <;> simp only[GH,j6,k8,List.cons_append,List.nil_append,List.append_nil,Sm.d,Sm.fn]
 all_goals
  simp (maxSteps:=4000000) -implicitDefEqProofs (disch:=omega) [xr,I5,kC,kZ,Qv,ZV,Qt,Qs,wX]
section
variable {g:Gb} {n N:Nat} (h:Gok g n N) (hN:N≤900000) {a:Int} (ha:0≤a∧a < g.out.length)
include h hN ha
theorem qje:g.point.out.length=g.out.length + 1:=by simp[Gb.point]
theorem qtq (p:Pl):d5 T0 X0 G2 [.ptr (.b 0) 0 0,.d (Sm.skip p).d,.d (.int .i64 a)] (GH g false false false)=some (.ret [.d (.int .i64 ((Sm.skip p).bld n g a).2)] (GH ((Sm.skip p).bld n g a).1 true true false)):=by
 have ho:=h.ol;have s1:=C0 g (by omega) h.il;have s2:=V6 h.point (by omega) (f:=a) (t:=g.out.length) (by rw[qje h hN ha]; omega) (by rw[qje h hN ha]; omega) 1 (.skip p);rw[c8 (af:=zA) rfl rfl rfl];simp only[Sm.bld,Sm.at_] at s2 ⊢;generalize (g.point.edge { f:=a,t:=g.out.length,k:=1,at_:=p })=g' at *;generalize g.point=g1 at *;simp only[GH,j6,k8,List.cons_append,List.nil_append,List.append_nil] at s1 s2 ⊢;simp (maxSteps:=4000000) -implicitDefEqProofs (disch:=omega) [zA,s1,s2]
theorem qtj (p:Pl):d5 T0 X0 G1 [.ptr (.b 0) 0 0,.d (Sm.stop p).d,.d (.int .i64 a)] (GH g false false false)=some (.ret [.d (.int .i64 ((Sm.stop p).bld n g a).2)] (GH ((Sm.stop p).bld n g a).1 true false false)):=by
 have ho:=h.ol;have s1:=C0 g (by omega) h.il;rw[c8 (af:=zy) rfl rfl rfl];simp only[Sm.bld];generalize g.point=g1 at *;simp only[GH,j6,k8,List.cons_append,List.nil_append,List.append_nil] at s1 ⊢;simp (maxSteps:=4000000) -implicitDefEqProofs (disch:=omega) [zy,s1]
theorem qqe (p:Pl) (s:List UInt8):d5 T0 X0 G3 [.ptr (.b 0) 0 0,.d (Sm.mark p s).d,.d (.int .i64 a)] (GH g false false false)=some (.ret [.d (.int .i64 ((Sm.mark p s).bld n g a).2)] (GH ((Sm.mark p s).bld n g a).1 false false true)):=by
 have h1:=h.ml;have h2:=h.dl;have htk:g.md.take g.marks.length=g.md:=List.take_of_length_le (by omega);rw[c8 (af:=zC) rfl rfl rfl];simp only[Sm.bld,Gb.mark,GH,j6,k8,List.cons_append,List.nil_append,List.append_nil,Sm.d];simp (maxSteps:=4000000) -implicitDefEqProofs (disch:=omega) [zC,h2,htk]
end
end Go.Rf
