/- Parts of the proof. -/
import Derived.Test.YtpaeaccmddffjaaGreatDoorRb2
import Derived.Test.YtpaeaccmddffjaaGreatDoorSp16
import Derived.Test.YtpaeaccmddffjaaGreatDoorSp11
set_option linter.all false
namespace Go.Rf
set_option maxHeartbeats 32000000
theorem qno (bs:List Bg) (hb:bs.length≤1000) (hn:∀ b∈bs,nl b.n≤32):∀ d i (e:List (Nat × V)),d + i=bs.length→
 j6 T0 X0 0 K1 (some (.nrm,⟨(3,.ref (.b 0) ⟨4,56⟩ 0 i) :: (9,.d (.sl (LD bgL bs))) :: (10,.d (.int .i64 bs.length)) :: (11,.d (.int .i64 i)) :: e,[.arr (LW bgL (bs.take i)) ⟨4,56⟩]⟩)) =
  some (.exit 0,⟨[(3,.ref (.b 0) ⟨4,56⟩ 0 bs.length)],[.arr (LW bgL bs) ⟨4,56⟩]⟩):=by
 intro d
 induction d with
 | zero=>
   intro i e hi
   have:i=bs.length:=by omega
   subst this;rw[List.take_length,d5 (l:=K1) rfl];simp -implicitDefEqProofs (disch:=omega) [S4]
 | succ d ih=>
   intro i e hi
   have hlt:i < bs.length:=by omega
   have hget:=qqs hlt;have s1:=QS (m:=(bs[i]).n) (by have:=hn _ (List.getElem_mem hlt); omega);have hnl:=hn _ (List.getElem_mem hlt);unfold nl at hnl
   have hnx:LW bgL (bs.take i)++[.d (.agg (bs[i]).cs)]=LW bgL (bs.take (i + 1)):=by
    rw[List.take_succ_eq_append_getElem hlt];exact wq bgL _ _
   have hlen:(bs.take i).length=i:=by simp; omega
   rw[← ih (i + 1) [] (by omega)];rw[d5 (l:=K1) rfl];rw[← hnx];generalize bs[i]=b at *;generalize bs.take i=ys at *;have htk:ys.take i=ys:=List.take_of_length_le (by omega);have happ:=Wy ys b;simp only[Bg.cs,Wd] at hget s1 happ ⊢;simp (maxSteps:=4000000) -implicitDefEqProofs (disch:=omega) [S4,hget,hlen,htk,s1,happ]
theorem qnn (g:Pg) (hb:g.bs.length≤1000) (hn:∀ b∈g.bs,nl b.n≤32):d6 T0 X0 Xa [g.d] []=some (.ret [.d (.sl (LD bgL g.bs))] []):=by
 have s1:=qno g.bs hb hn g.bs.length 0 [] rfl;rw[c9 (af:=Y8) rfl rfl rfl];unfold Pg.d Pg.cs;simp only[List.take_zero,qen,Int.cast_ofNat_Int] at s1;simp (maxSteps:=4000000) -implicitDefEqProofs (disch:=omega) [Y8,s1]
def LO (l:List (List Int)):List D:=l.map fun x=>.sl (LD inL x)
@[simp] theorem look_I (l:List (List Int)):(jC l).map GC.look=LO l:=by
  simp only[jC,LO,List.map_map]
  congr 1
  funext x
  cases x <;> rfl
theorem q3s (l:List (List Int)):wl (LO l)≤24:=by
 induction l with
 | nil=>decide
 | cons x l ih=>show max (wt (.sl _)) (wl (LO l))≤24; exact Nat.max_le.2 ⟨by simp[wt],ih⟩
@[simp] theorem wl_LOt (l):(wl (LO l)≤24)=True:=eq_true (q3s l)
def Gb.d (g:Gb):D:=.box (.agg [.sl (SL g.vs),.sl (LD bgL g.bs),.int .i64 g.ex,.sl (LD edL g.edges),.sl (LO g.out),.sl (LO g.inn),.sl (LD txL g.marks),.sl (LD inL g.md),.nilm,.nilm])
def GG (g:Gb):List Obj:=
 [.arr [.agg [.d (.sl (SL g.vs)),.d (.sl (LD bgL g.bs)),.d (.int .i64 g.ex),.ref (.b 1) ⟨15,160⟩ 0 g.edges.length,.ref (.b 2) ⟨1,24⟩ 0 g.out.length,.ref (.b 3) ⟨1,24⟩ 0 g.inn.length,.ref (.b 4) ⟨1,16⟩ 0 g.marks.length,.ref (.b 5) ⟨1,8⟩ 0 g.md.length,.map (.b 6),.map (.b 7)]] ⟨10,0⟩,
  .arr (LW edL g.edges) ⟨15,160⟩,.gl (jC g.out) ⟨1,24⟩,.gl (jC g.inn) ⟨1,24⟩,.arr (LW txL g.marks) ⟨1,16⟩,.arr (LW inL g.md) ⟨1,8⟩,.map (Zo g.st),.map (Zo g.hd)]
theorem qxp (g:Gb) (h:g.out.length≤1000000):d6 T0 X0 kq [.ptr (.b 0) 0 0] (GG g)=some (.ret [.d (.int .i64 g.out.length)] (GG g)):=by
 rw[c9 (af:=L0) rfl rfl rfl];simp only[GG];simp (maxSteps:=4000000) -implicitDefEqProofs (disch:=omega) [L0]
def G0 (vs:List (List UInt8)) (bs:List Bg):List Obj:=
 [.arr [.agg [.ptr (.b 1) 0 0,.d (.bool false)]] ⟨2,0⟩,
  .arr [.agg [.d (.sl (SL vs)),.d (.sl (LD bgL bs)),.d (.int .i64 0),.ref (.b 2) ⟨15,160⟩ 0 0,.ref (.b 3) ⟨1,24⟩ 0 0,.ref (.b 4) ⟨1,24⟩ 0 0,.ref (.b 5) ⟨1,16⟩ 0 0,.ref (.b 6) ⟨1,8⟩ 0 0,.map (.b 7),.map (.b 8)]] ⟨10,0⟩,
  .arr [] ⟨15,160⟩,.arr [] ⟨1,24⟩,.arr [] ⟨1,24⟩,.arr [] ⟨1,16⟩,.arr [] ⟨1,8⟩,.map [],.map []]
def gb0 (vs:List (List UInt8)) (bs:List Bg):Gb:={ vs,bs }
theorem qlb (vs:List (List UInt8)) (bs:List Bg):d6 T0 X0 J3 [.ptr (.b 0) 0 0] (G0 vs bs)=some (.ret [.d (.int .i64 0)] (GH (gb0 vs bs).point true false false)):=by
 rw[c9 (af:=J4) rfl rfl rfl];simp only[G0,GH,Gb.point,gb0,j3,j7,List.cons_append,List.nil_append,List.append_nil];simp (maxSteps:=4000000) -implicitDefEqProofs (disch:=omega) [J4,jC,gcI,Zo]
end Go.Rf
