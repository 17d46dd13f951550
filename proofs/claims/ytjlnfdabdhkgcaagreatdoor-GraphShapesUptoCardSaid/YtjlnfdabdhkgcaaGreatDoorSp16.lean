/- Parts of the proof: SpQ8, SpQA, SpQB, SpQC, SpV1, SpQD, SpQE, SpQF, SpQG. -/
import Derived.Test.YtjlnfdabdhkgcaaGreatDoorRb2
import Derived.Test.YtjlnfdabdhkgcaaGreatDoorSp15
import Derived.Test.YtjlnfdabdhkgcaaGreatDoorSp11
import Derived.Test.YtjlnfdabdhkgcaaGreatDoorSp8

set_option linter.unusedSimpArgs false
set_option linter.unusedVariables false
set_option linter.unnecessarySimpa false
set_option linter.unusedSectionVars false
set_option linter.all false
namespace Go.Rf
set_option maxHeartbeats 32000000
theorem qm6 (bs:List Bg) (hb:bs.length≤1000) (hn:∀ b∈bs,nl b.n≤32):∀ d i (e:List (Nat × V)),d + i=bs.length→
 j0 T0 X0 0 L2 (some (.nrm,⟨(3,.ref (.b 0) ⟨4,56⟩ 0 i) :: (9,.d (.sl (LD bgL bs))) :: (10,.d (.int .i64 bs.length)) :: (11,.d (.int .i64 i)) :: e,[.arr (LW bgL (bs.take i)) ⟨4,56⟩]⟩)) =
  some (.exit 0,⟨[(3,.ref (.b 0) ⟨4,56⟩ 0 bs.length)],[.arr (LW bgL bs) ⟨4,56⟩]⟩):=by
 intro d
 induction d with
 | zero=>
   intro i e hi
   have:i=bs.length:=by omega
   subst this;rw[List.take_length,c9 (l:=L2) rfl];simp -implicitDefEqProofs (disch:=omega) [U7]
 | succ d ih=>
   intro i e hi
   have hlt:i < bs.length:=by omega
   have hget:=qpw hlt;have s1:=Zb (m:=(bs[i]).n) (by have:=hn _ (List.getElem_mem hlt); omega);have hnl:=hn _ (List.getElem_mem hlt);unfold nl at hnl
   have hnx:LW bgL (bs.take i)++[.d (.agg (bs[i]).cs)]=LW bgL (bs.take (i + 1)):=by
    rw[List.take_succ_eq_append_getElem hlt];exact kA bgL _ _
   have hlen:(bs.take i).length=i:=by simp; omega
   rw[← ih (i + 1) [] (by omega)];rw[c9 (l:=L2) rfl];rw[← hnx];generalize bs[i]=b at *;generalize bs.take i=ys at *;have htk:ys.take i=ys:=List.take_of_length_le (by omega);have happ:=WU ys b;simp only[Bg.cs,Wd] at hget s1 happ ⊢;simp (maxSteps:=4000000) -implicitDefEqProofs (disch:=omega) [U7,hget,hlen,htk,s1,happ]
theorem qm5 (g:Pg) (hb:g.bs.length≤1000) (hn:∀ b∈g.bs,nl b.n≤32):d5 T0 X0 Xd [g.d] []=some (.ret [.d (.sl (LD bgL g.bs))] []):=by
 have s1:=qm6 g.bs hb hn g.bs.length 0 [] rfl;rw[a8 (af:=qo) rfl rfl rfl];unfold Pg.d Pg.cs;simp only[List.take_zero,qeg,Int.cast_ofNat_Int] at s1;simp (maxSteps:=4000000) -implicitDefEqProofs (disch:=omega) [qo,s1]
def LO (l:List (List Int)):List D:=l.map fun x=>.sl (LD inL x)
theorem q7u (l:List (List Int)):qh5 (xG l)=some (LO l):=by
 induction l with
 | nil=>rfl
 | cons x l ih=>
   show (if wl (LD inL x)≤8 then (qh5 (xG l)).map _ else none)=_;rw[if_pos (by simp),ih];rfl
attribute [simp] q7u
def Gb.d (g:Gb):D:=.box (.agg [.sl (SL g.vs),.sl (LD bgL g.bs),.int .i64 g.ex,.sl (LD edL g.edges),.sl (LO g.out),.sl (LO g.inn),.sl (LD txL g.marks),.sl (LD inL g.md),.nilm,.nilm])
def GG (g:Gb):List Obj:=
 [.arr [.agg [.d (.sl (SL g.vs)),.d (.sl (LD bgL g.bs)),.d (.int .i64 g.ex),.ref (.b 1) ⟨15,160⟩ 0 g.edges.length,.ref (.b 2) ⟨1,24⟩ 0 g.out.length,.ref (.b 3) ⟨1,24⟩ 0 g.inn.length,.ref (.b 4) ⟨1,16⟩ 0 g.marks.length,.ref (.b 5) ⟨1,8⟩ 0 g.md.length,.map (.b 6),.map (.b 7)]] ⟨10,0⟩,
  .arr (LW edL g.edges) ⟨15,160⟩,.lol (xG g.out),.lol (xG g.inn),.arr (LW txL g.marks) ⟨1,16⟩,.arr (LW inL g.md) ⟨1,8⟩,.map (Qm g.st),.map (Qm g.hd)]
theorem qvs (g:Gb) (h:g.out.length≤1000000):d5 T0 X0 kM [.ptr (.b 0) 0 0] (GG g)=some (.ret [.d (.int .i64 g.out.length)] (GG g)):=by
 rw[a8 (af:=M3) rfl rfl rfl];simp only[GG];simp (maxSteps:=4000000) -implicitDefEqProofs (disch:=omega) [M3]
def G0 (vs:List (List UInt8)) (bs:List Bg):List Obj:=
 [.arr [.agg [.ptr (.b 1) 0 0,.d (.bool false)]] ⟨2,0⟩,
  .arr [.agg [.d (.sl (SL vs)),.d (.sl (LD bgL bs)),.d (.int .i64 0),.ref (.b 2) ⟨15,160⟩ 0 0,.ref (.b 3) ⟨1,24⟩ 0 0,.ref (.b 4) ⟨1,24⟩ 0 0,.ref (.b 5) ⟨1,16⟩ 0 0,.ref (.b 6) ⟨1,8⟩ 0 0,.map (.b 7),.map (.b 8)]] ⟨10,0⟩,
  .arr [] ⟨15,160⟩,.arr [] ⟨1,24⟩,.arr [] ⟨1,24⟩,.arr [] ⟨1,16⟩,.arr [] ⟨1,8⟩,.map [],.map []]
def gb0 (vs:List (List UInt8)) (bs:List Bg):Gb:={ vs,bs }
theorem qkh (vs:List (List UInt8)) (bs:List Bg):d5 T0 X0 K0 [.ptr (.b 0) 0 0] (G0 vs bs)=some (.ret [.d (.int .i64 0)] (GH (gb0 vs bs).point true false false)):=by
 rw[a8 (af:=K2) rfl rfl rfl];simp only[G0,GH,Gb.point,gb0,j6,k8,List.cons_append,List.nil_append,List.append_nil];simp (maxSteps:=4000000) -implicitDefEqProofs (disch:=omega) [K2,xG,Qm]
end Go.Rf

namespace Go.Rf
set_option maxHeartbeats 8000000
def Gb.outN (g:Gb) (p:Int):List Int:=if 0≤p∧p < g.out.length then g.out.getD p.toNat [] else []
def Gb.inN (g:Gb) (p:Int):List Int:=if 0≤p∧p < g.inn.length then g.inn.getD p.toNat [] else []
@[simp] theorem LO_len (l):(LO l).length=l.length:=by simp[LO]
theorem qyq {l:List (List Int)} {i:Nat} (h:i < l.length):(LO l)[i]? = some (.sl (LD inL (l.getD i []))):=by simp[LO,h]
theorem q1z (l:List (List Int)):wl (LO l)≤24:=by
 induction l with
 | nil=>decide
 | cons x l ih=>show max (wt (.sl _)) (wl (LO l))≤24; exact Nat.max_le.2 ⟨by simp[wt],ih⟩
@[simp] theorem wl_LOt (l):(wl (LO l)≤24)=True:=eq_true (q1z l)
@[simp] theorem fit_LO {n:Nat} (l) (h:n≤1099511627776):(n * wl (LO l)≤A5)=True:=eq_true (Nat.le_trans (Nat.mul_le_mul h (q1z l)) (by decide))
@[simp] theorem fit_ed {n:Nat} (l) (h:n≤100000000):(n * wl (LD edL l)≤A5)=True:=eq_true (Nat.le_trans (Nat.mul_le_mul h (qbi edL l)) (by decide))
@[simp] theorem fit_tx {n:Nat} (l) (h:n≤1099511627776):(n * wl (LD txL l)≤A5)=True:=WG txL l (by decide) h
theorem Ye (g:Gb) (h:g.out.length≤1000000):d5 T0 X0 kM [.d g.d] []=some (.ret [.d (.int .i64 g.out.length)] []):=by
 rw[a8 (af:=M3) rfl rfl rfl];simp only[Gb.d];simp -implicitDefEqProofs (disch:=omega) [M3]
theorem qxl (g:Gb):d5 T0 X0 KI [.d g.d] []=some (.ret [.d (.int .i64 g.ex)] []):=by
 rw[a8 (af:=xO) rfl rfl rfl];simp only[Gb.d];simp -implicitDefEqProofs (disch:=omega) [xO]
theorem q3n (g:Gb) (p:Int) (h:g.out.length≤1000000):d5 T0 X0 YN [.d g.d,.d (.int .i64 p)] []=some (.ret [.d (.bool (decide (0≤p∧p < g.out.length)))] []):=by
 rw[a8 (af:=T6) rfl rfl rfl];simp only[Gb.d]
 by_cases h0:0≤p
 ·by_cases h1:p < g.out.length
  ·simp -implicitDefEqProofs (disch:=omega) [T6,h0,h1]
  ·simp -implicitDefEqProofs (disch:=omega) [T6,h0,h1]
 ·simp -implicitDefEqProofs (disch:=omega) [T6,h0]
theorem q2w (g:Gb) (p:Int) (h:g.out.length≤1000000) (hl:∀ i,(g.out.getD i []).length≤1000000):d5 T0 X0 YM [.d g.d,.d (.int .i64 p)] []=some (.ret [.d (.sl (LD inL (g.outN p)))] []):=by
 have s1:=q3n g p h;rw[a8 (af:=qG) rfl rfl rfl];unfold Gb.outN
 by_cases hp:0≤p∧p < g.out.length
 ·obtain ⟨k,rfl⟩:=Int.eq_ofNat_of_zero_le hp.1;rw[if_pos hp]
  have hk:k < g.out.length:=by omega
  have hget:=qyq hk;have:=hl k;simp only[Gb.d,hp,decide_true,Int.toNat_natCast] at s1 ⊢;generalize g.out.getD k []=xs at *;generalize LO g.out=lo at *;simp -implicitDefEqProofs (disch:=omega) [qG,s1,hget]
 ·rw[if_neg hp];simp only[Gb.d,hp,decide_false] at s1 ⊢;simp -implicitDefEqProofs (disch:=omega) [qG,s1]
theorem zj6 (g:Gb) (p:Int) (h:g.out.length≤1000000) (hi:g.inn.length=g.out.length) (hl:∀ i,(g.inn.getD i []).length≤1000000):d5 T0 X0 WK [.d g.d,.d (.int .i64 p)] []=some (.ret [.d (.sl (LD inL (g.inN p)))] []):=by
 have s1:=q3n g p h;rw[a8 (af:=zF) rfl rfl rfl];unfold Gb.inN;rw[hi]
 by_cases hp:0≤p∧p < g.out.length
 ·obtain ⟨k,rfl⟩:=Int.eq_ofNat_of_zero_le hp.1;rw[if_pos hp]
  have hk:k < g.inn.length:=by omega
  have hget:=qyq hk;have:=hl k;simp only[Gb.d,hp,decide_true,Int.toNat_natCast] at s1 ⊢;generalize g.inn.getD k []=xs at *;generalize LO g.inn=lo at *;simp -implicitDefEqProofs (disch:=omega) [zF,s1,hget]
 ·rw[if_neg hp];simp only[Gb.d,hp,decide_false] at s1 ⊢;simp -implicitDefEqProofs (disch:=omega) [zF,s1]
def Ed.a (e:Ed):List D:=[.int .i64 e.f,.int .i64 e.t,.int .i64 e.k,.int .i64 e.v,.int .i64 e.tk,.int .i64 e.mn,.sl (WL e.row),.int .i64 e.at_.b,.int .i64 e.at_.g,.int .i64 e.at_.l,.int .i64 e.at_.c]
theorem qxr {l:List Ed} {i:Nat} (h:i < l.length):(LD edL l)[i]? = some (.agg (l[i]).cs):=zU edL l h
end Go.Rf

namespace Go.Rf
set_option maxHeartbeats 16000000
@[simp] theorem fitC_oD (x:Option Nd):jQ (oD x)=true:=by cases x with
  | none=>rfl
  | some x=>cases x <;> rfl
theorem qpi (xs:List Int) (hb:xs.length≤1000000) (hn:∀ n∈xs,nl n≤512):∀ d i (e:List (Nat × V)),d + i=xs.length→
 j0 T0 X0 0 A4 (some (.nrm,⟨(1,.d (.fn Y5 [])) :: (5,.ref (.b 0) ⟨2,32⟩ 0 i) :: (11,.d (.sl (WL xs))) :: (12,.d (.int .i64 xs.length)) :: (13,.d (.int .i64 i)) :: e,[.arr (WV (xs.take i)) ⟨2,32⟩]⟩)) =
  some (.exit 0,⟨[(5,.ref (.b 0) ⟨2,32⟩ 0 xs.length)],[.arr (WV xs) ⟨2,32⟩]⟩):=by
 intro d
 induction d with
 | zero=>
   intro i e hi
   have:i=xs.length:=by omega
   subst this;rw[List.take_length,c9 (l:=A4) rfl];simp -implicitDefEqProofs (disch:=omega) [D7]
 | succ d ih=>
   intro i e hi
   have hlt:i < xs.length:=by omega
   have hget:=qyn hlt
   have hx:nth xs i=xs[i]:=by simp[nth,hlt]
   have s1:=Zb (m:=nth xs i) (by rw[hx]; have:=hn _ (List.getElem_mem hlt); omega);have hnl:=hn _ (List.getElem_mem hlt);rw[← hx] at hnl;unfold nl at hnl
   have hnx:WV (xs.take i)++[.d (Wd (nth xs i))]=WV (xs.take (i + 1)):=by
    rw[List.take_succ_eq_append_getElem hlt,hx];exact qrf _ _
   have hlen:(xs.take i).length=i:=by simp; omega
   rw[← ih (i + 1) [] (by omega)];rw[c9 (l:=A4) rfl];rw[← hnx];generalize nth xs i=b at *;generalize xs.take i=ys at *;have htk:ys.take i=ys:=List.take_of_length_le (by omega);have happ:=qrf ys b;simp only[Wd] at hget s1 happ ⊢;simp (maxSteps:=4000000) -implicitDefEqProofs (disch:=omega) [-qre,D7,hget,hlen,htk,s1,happ]
theorem qph (xs:List Int) (hb:xs.length≤1000000) (hn:∀ n∈xs,nl n≤512):d5 T0 X0 jp [.d (.sl (WL xs)),.d (.fn Y5 [])] []=some (.ret [.ref (.b 0) ⟨2,32⟩ 0 xs.length] [.arr (WV xs) ⟨2,32⟩]):=by
 have s1:=qpi xs hb hn xs.length 0 [] rfl;rw[a8 (af:=I6) rfl rfl rfl];simp only[List.take_zero,qyl,Int.cast_ofNat_Int] at s1;simp (maxSteps:=4000000) -implicitDefEqProofs (disch:=omega) [I6,s1]
theorem qmh (e:Ed) (hb:e.row.length≤1000000) (hn:∀ n∈e.row,nl n≤512):d5 T0 X0 C9 [.d (.agg e.cs)] []=some (.ret [.d (.agg e.a)] []):=by
 have s1:=qph e.row hb hn;rw[a8 (af:=qr) rfl rfl rfl];simp only[Ed.cs,Ed.a];simp (maxSteps:=4000000) -implicitDefEqProofs (disch:=omega) [qr,s1]
def eaL:Lst Ed:=⟨fun e=>.agg e.a,⟨11,104⟩,fun e=>by simp[wt,wts,Ed.a,IntKind.bits],fun e=>rfl,by decide⟩
@[simp] theorem q4t (l):(∀ x∈LW eaL l,x.cells.length=11)=True:=kT eaL l
@[simp] theorem wl_ea (l):(wl (LD eaL l)≤104)=True:=Xk eaL l
@[simp] theorem fit_ea {n:Nat} (l) (h:n≤100000000):(n * wl (LD eaL l)≤A5)=True:=eq_true (Nat.le_trans (Nat.mul_le_mul h (qbi eaL l)) (by decide))
theorem qpk (es:List Ed) (hb:es.length≤1000000) (hn:∀ e∈es,e.row.length≤1000000 ∧ ∀ n∈e.row,nl n≤512):∀ d i (e:List (Nat × V)),d + i=es.length→
 j0 T0 X0 0 A0 (some (.nrm,⟨(1,.d (.fn C9 [])) :: (5,.ref (.b 0) ⟨11,104⟩ 0 i) :: (11,.d (.sl (LD edL es))) :: (12,.d (.int .i64 es.length)) :: (13,.d (.int .i64 i)) :: e,[.arr (LW eaL (es.take i)) ⟨11,104⟩]⟩)) =
  some (.exit 0,⟨[(5,.ref (.b 0) ⟨11,104⟩ 0 es.length)],[.arr (LW eaL es) ⟨11,104⟩]⟩):=by
 intro d
 induction d with
 | zero=>
   intro i e hi
   have:i=es.length:=by omega
   subst this;rw[List.take_length,c9 (l:=A0) rfl];simp -implicitDefEqProofs (disch:=omega) [D6]
 | succ d ih=>
   intro i e hi
   have hlt:i < es.length:=by omega
   have hget:=qxr hlt;have hn1:=hn _ (List.getElem_mem hlt);have s1:=qmh es[i] hn1.1 hn1.2
   have hnx:LW eaL (es.take i)++[.d (.agg (es[i]).a)]=LW eaL (es.take (i + 1)):=by
    rw[List.take_succ_eq_append_getElem hlt];exact kA eaL _ _
   have hlen:(es.take i).length=i:=by simp; omega
   rw[← ih (i + 1) [] (by omega)];rw[c9 (l:=A0) rfl];rw[← hnx];generalize es[i]=b at *;generalize es.take i=ys at *;have htk:ys.take i=ys:=List.take_of_length_le (by omega);have happ:LW eaL ys++[.d (.agg b.a)]=LW eaL (ys++[b]):=kA eaL ys b;simp only[Ed.cs,Ed.a] at hget s1 happ ⊢;simp (maxSteps:=4000000) -implicitDefEqProofs (disch:=omega) [D6,hget,hlen,htk,s1,happ]
theorem qpj (es:List Ed) (hb:es.length≤1000000) (hn:∀ e∈es,e.row.length≤1000000 ∧ ∀ n∈e.row,nl n≤512):d5 T0 X0 jo [.d (.sl (LD edL es)),.d (.fn C9 [])] []=some (.ret [.d (.sl (LD eaL es))] []):=by
 have s1:=qpk es hb hn es.length 0 [] rfl;rw[a8 (af:=I5) rfl rfl rfl];simp only[List.take_zero,qeg,Int.cast_ofNat_Int] at s1;simp (maxSteps:=4000000) -implicitDefEqProofs (disch:=omega) [I5,s1]
theorem qiz (g:Gb) (hb:g.edges.length≤1000000) (hn:∀ e∈g.edges,e.row.length≤1000000 ∧ ∀ n∈e.row,nl n≤512):d5 T0 X0 Ka [.d g.d] []=some (.ret [.d (.sl (LD eaL g.edges))] []):=by
 have s1:=qpj g.edges hb hn;rw[a8 (af:=zS) rfl rfl rfl];simp only[Gb.d];simp (maxSteps:=4000000) -implicitDefEqProofs (disch:=omega) [zS,s1]
end Go.Rf

namespace Go.Rf
set_option maxHeartbeats 16000000
def Ed.pure (e:Ed):Bool:=decide (e.k≠4) && decide (e.k≠6)
def Gb.pure (g:Gb):Bool:=g.edges.all Ed.pure
theorem qsg (es:List Ed) (hb:es.length≤1000000):∀ d i (e:List (Nat × V)),d + i=es.length→
 j0 T0 X0 0 R7 (some (.nrm,⟨(8,.d (.sl (LD edL es))) :: (9,.d (.int .i64 es.length)) :: (10,.d (.int .i64 i)) :: e,[]⟩)) =
  some (if (es.drop i).all Ed.pure then (.exit 0,⟨[],[]⟩) else (.ret,⟨[(2,.d (.bool false))],[]⟩)):=by
 intro d
 induction d with
 | zero=>
   intro i e hi
   have:i=es.length:=by omega
   subst this;rw[List.drop_length,c9 (l:=R7) rfl];simp -implicitDefEqProofs (disch:=omega) [K3]
 | succ d ih=>
   intro i e hi
   have hlt:i < es.length:=by omega
   have hget:=qxr hlt;have hdr:es.drop i=es[i] :: es.drop (i + 1):=List.drop_eq_getElem_cons hlt;rw[hdr];rw[c9 (l:=R7) rfl];have s2:=ih (i + 1) [] (by omega);generalize es[i]=b at *;have hu:(b :: es.drop (i + 1)).all Ed.pure=(b.pure && (es.drop (i + 1)).all Ed.pure):=rfl;rw[hu];generalize (es.drop (i + 1)).all Ed.pure=q at *;simp only[Ed.cs] at hget;unfold Ed.pure;push_cast at s2
   by_cases h4:b.k=4
   ·simp (maxSteps:=4000000) -implicitDefEqProofs (disch:=omega) [K3,hget,h4]
   ·by_cases h6:b.k=6
    ·simp (maxSteps:=4000000) -implicitDefEqProofs (disch:=omega) [K3,hget,h4,h6]
    ·simp (maxSteps:=4000000) -implicitDefEqProofs (disch:=omega) [K3,hget,h4,h6,s2]
theorem qvq (g:Gb) (hb:g.edges.length≤1000000):d5 T0 X0 KH [.d g.d] []=some (.ret [.d (.bool g.pure)] []):=by
 have s1:=qsg g.edges hb g.edges.length 0 [] rfl;rw[a8 (af:=Z4) rfl rfl rfl];simp only[Gb.d];simp only[List.drop_zero,Int.cast_ofNat_Int] at s1;rw[show g.edges.all Ed.pure=g.pure from rfl] at s1
 cases hp:g.pure <;> simp only[hp,if_true,if_false,Bool.false_eq_true] at s1
 ·simp (maxSteps:=4000000) -implicitDefEqProofs (disch:=omega) [Z4,s1]
 ·simp (maxSteps:=4000000) -implicitDefEqProofs (disch:=omega) [Z4,s1]
end Go.Rf

namespace Go.Rf
end Go.Rf

namespace Go.Rf
set_option maxHeartbeats 16000000
@[simp] theorem fitV_oD (x:Option Nd):N6 (.d (oD x))=true:=by cases x with
  | none=>rfl
  | some x=>cases x <;> rfl
structure Ed.rOk (n:Nat) (e:Ed):Prop where
 x:e.k=4→∃ x,e.x=some x∧x.fine n∧x.w < 134217728
 l:e.k=6→∃ l,e.l=some l∧l.fine n∧l.w < 134217728
 r:e.k=6→∃ l,e.r=some l∧l.fine n∧l.w < 134217728
def qqc (ws:List RWh) (x:Option Nd):Int × Int:=match x with
 | some x=>ZZ (jT (stV ws) x)
 | none=>(0,1)
def zhv (a b:Int × Int):Int × Int × Int:=if a.2≠0 then (0,0,a.2) else if b.2≠0 then (0,0,b.2) else (a.1,b.1,0)
def Ed.reck (ws:List RWh) (e:Ed):Int × Int × Int:=
 if e.k=4 then ((qqc ws e.x).1,0,(qqc ws e.x).2)
 else if e.k=6 then zhv (qqc ws e.l) (qqc ws e.r)
 else (0,0,1)
def Gb.reck (g:Gb) (i:Int) (ws:List RWh):Int × Int × Int:=
 if 0≤i then if i < g.edges.length then if ws.length=g.vs.length then (match g.edges[i.toNat]? with | some e=>e.reck ws | none=>(0,0,1)) else (0,0,1) else (0,0,1) else (0,0,1)
end Go.Rf

namespace Go.Rf
structure Eok (n:Nat) (e:Ed):Prop where
 k:1≤e.k∧e.k≤6
 r:e.rOk n
 v:2≤e.k→e.k≤4→0≤e.v∧e.v < n
 l:e.row.length≤n + 1
 s:e.k=2→e.row.length=n + 1
 o:e.k≠2→∀ x∈e.row,nl x≤32
theorem P8 {n:Nat} {e:Ed} (k:e.k=1∨e.k=5) (r:e.row=[]):Eok n e where
 k:=by omega
 r:=⟨fun h=>by omega,fun h=>by omega,fun h=>by omega⟩
 v:=fun _ _=>by omega
 l:=by rw[r]; simp
 s:=fun h=>by omega
 o:=fun _ x hx=>by rw[r] at hx; cases hx
theorem qzx (n:Nat) (x y:Nd):∀ z∈(qhj n x y).1,nl z≤32:=by
 unfold qhj;split
 ·intro z hz;change z∈(QZ _).1 at hz;unfold QZ at hz;split at hz
  ·rename_i h
   simpa using List.all_eq_true.1 h z hz
  ·cases hz
 ·intro z hz; cases hz
theorem QX {vs:List (List UInt8)} {x y:Nd} (hx:Xok vs x) (hy:Xok vs y) (f t:Int) (q b:Bool) (p:Pl):Eok vs.length (tEd vs.length f t x y q b p) where
 k:=⟨show (1:Int)≤6 by decide,show (6:Int)≤6 by decide⟩
 r:=⟨fun h=>absurd (show (6:Int)=4 from h) (by decide),fun _=>⟨x,rfl,hx.fine,by have:=hx.w; omega⟩,fun _=>⟨y,rfl,hy.fine,by have:=hy.w; omega⟩⟩
 v:=fun _ h=>absurd (show (6:Int)≤4 from h) (by decide)
 l:=qke hx.fine hy.fine
 s:=fun h=>absurd (show (6:Int)=2 from h) (by decide)
 o:=fun _=>qzx _ x y
structure Keeps (n:Nat) (I:Gb→Prop):Prop where
 pt:∀ g,I g→I g.point
 ed:∀ g e,I g→Eok n e→0≤e.f→e.f < g.out.length→0≤e.t→e.t < g.out.length→(e.k=2→g.long=false→zX e.row=false)→I (g.edge e)
 lg:∀ g b,I g→I { g with long:=g.long || b }
 mr:∀ g s (a:Int),I g→0≤a→a < g.out.length→I (g.mark s a)
 st:∀ g b (a:Int),I g→0≤a→a < g.out.length→I (g.start b a)
 hd:∀ g b a,I g→I (g.head b a)
theorem qf9 {n:Nat} {I:Gb→Prop} (hI:Keeps n I) (p:Pl) (j:Int) (h0:0≤j):∀ (l:List Int) {g:Gb},I g→j < g.out.length→(∀ x∈l,0≤x∧x < g.out.length)→I (Y3 p j l g)
 | [],g,h,_,_=>h
 | e :: l,g,h,h1,hl=>by
   have he:=hl e (List.mem_cons_self ..)
   exact qf9 hI p j h0 l (hI.ed g _ h (P8 (.inl rfl) rfl) he.1 he.2 h0 h1 (fun h=>absurd h (by simp))) (by rw[eo]; exact h1) fun x hx=>by rw[eo]; exact hl x (List.mem_cons_of_mem _ hx)
section
variable {vs:List (List UInt8)} {I:Gb→Prop} (hI:Keeps vs.length I)
include hI
mutual
theorem q5p:∀ (s:Sm),s.fit vs→∀ {g:Gb} {a:Int} {N:Nat},Gok g vs.length N→I g→0≤a→a < g.out.length→I (s.bld vs.length g a).1
 | .set p v t e,hf,g,a,N,h,hi,h0,h1=>by
   have k:∀ (g':Gb) e,g'.out.length=g.out.length + 1→I g'→Eok vs.length e→e.f=a→e.t=g.out.length→(e.k=2→g'.long=false→zX e.row=false)→I (g'.edge e):=fun g' e hl hg he hfr ht hlg=>hI.ed _ _ hg he (by omega) (by omega) (by omega) (by omega) hlg
   have hv:0≤v∧v < vs.length:=⟨hf.2.2.1,by
    obtain ⟨j,hj,e,_⟩:=qg9 vs t _ _ (by rw[hf.2.1]; exact hf.2.2.1);rw[hf.2.1] at e
    omega⟩
   cases e with
   | none=>exact k _ _ (po g) (hI.pt _ hi) ⟨⟨by simp,by simp⟩,⟨fun h=>absurd h (by simp),fun h=>absurd h (by simp),fun h=>absurd h (by simp)⟩,fun _ _=>hv,by simp,fun h=>absurd h (by simp),fun _ x hx=>(by cases hx)⟩ rfl rfl fun h=>absurd h (by simp)
   | some x=>
     have hx:Xok vs x:=hf.2.2.2.2;simp only[Sm.bld];split
     ·rename_i hc;rcases kr vs.length x hx.fine with ⟨_,e⟩ | sh
      ·rw[e] at hc; cases hc
      exact k _ _ (po g) (hI.lg _ _ (hI.pt _ hi)) ⟨⟨by simp,by simp⟩,⟨fun h=>absurd h (by simp),fun h=>absurd h (by simp),fun h=>absurd h (by simp)⟩,fun _ _=>hv,by have:=sh.l; simp only[]; omega,fun _=>sh.l,fun h=>absurd rfl h⟩ rfl rfl fun _ h=>(Bool.or_eq_false_iff.1 h).2
     ·exact k _ _ (po g) (hI.pt _ hi) ⟨⟨by simp,by simp⟩,⟨fun _=>⟨x,rfl,hx.fine,by have:=hx.w; omega⟩,fun h=>absurd h (by simp),fun h=>absurd h (by simp)⟩,fun _ _=>hv,by simp,fun h=>absurd h (by simp),fun _ x hx=>(by cases hx)⟩ rfl rfl fun h=>absurd h (by simp)
 | .skip p,_,g,a,N,h,hi,h0,h1=>hI.ed _ _ (hI.pt _ hi) (P8 (.inl rfl) rfl) h0 (by rw[po]; simp only[]; omega) (by simp) (by rw[po]; simp only[]; omega) fun h=>absurd h (by simp)
 | .stop p,_,g,a,N,h,hi,h0,h1=>hI.pt _ hi
 | .mark p s,_,g,a,N,h,hi,h0,h1=>hI.mr _ _ _ hi h0 h1
 | .choose p bs,hf,g,a,N,h,hi,h0,h1=>by
   obtain ⟨k1,k2,k3,k4⟩:=qi8 vs.length p bs.length bs 0 h h0 h1;have ib:=qq7 p bs.length bs hf.2 0 h hi h0 h1;simp only[Sm.bld]
   exact qf9 hI p _ (by omega) _ (hI.pt _ ib) (by rw[po]; omega) fun x hx=>by have:=k4 x hx; rw[po]; omega
 | .loop p b,hf,g,a,N,h,hi,h0,h1=>by
   have i1:=hI.ed _ { f:=a,t:=g.out.length,k:=1,at_:=p } (hI.pt _ hi) (P8 (.inl rfl) rfl) h0 (by rw[po]; simp only[]; omega) (by simp) (by rw[po]; simp only[]; omega) (fun h=>absurd h (by simp));have i2:=hI.ed _ { f:=g.out.length,t:=g.out.length + 1,k:=5,tk:=1,mn:=2,at_:=p } (hI.pt _ i1) (P8 (.inr rfl) rfl) (by simp) (by simp only[po,eo]; omega) (by simp only[]; omega) (by simp only[po,eo]; omega) (fun h=>absurd h (by simp));have g1:=((h.point.edge { f:=a,t:=g.out.length,k:=1,at_:=p }).point).edge { f:=g.out.length,t:=g.out.length + 1,k:=5,tk:=1,mn:=2,at_:=p };have k:=U0 vs.length b g1 (a:=g.out.length + 1) (by omega) (by simp only[eo,po]; omega);have i3:=kp b hf g1 i2 (a:=g.out.length + 1) (by omega) (by simp only[eo,po]; omega);have le:=k.le;have ka0:=k.a0;have ka1:=k.a1;simp only[eo,po] at le;have i4:=hI.ed _ { f:=_,t:=g.out.length,k:=1,at_:=p } i3 (P8 (.inl rfl) rfl) k.a0 k.a1 (by simp) (by simp only[]; omega) (fun h=>absurd h (by simp));simp only[Sm.bld]
   exact hI.ed _ _ (hI.pt _ i4) (P8 (.inr rfl) rfl) (by simp) (by simp only[po,eo]; omega) (by simp) (by simp only[po,eo]; omega) fun h=>absurd h (by simp)
 | .ifs p x y q b,hf,g,a,N,h,hi,h0,h1=>by
   have i1:=hI.ed _ (tEd vs.length a g.out.length x y q true p) (hI.pt _ hi) (QX hf.1 hf.2.1 ..) h0 (by rw[po]; show a < _; omega) (Int.natCast_nonneg _) (by rw[po]; show (g.out.length:Int) < _; omega) (fun h=>absurd (show (6:Int)=2 from h) (by decide));have g1:=h.point.edge (tEd vs.length a g.out.length x y q true p);have k:=U0 vs.length b g1 (a:=g.out.length) (by omega) (by simp only[eo,po]; omega);have i3:=kp b hf.2.2 g1 i1 (a:=g.out.length) (by omega) (by simp only[eo,po]; omega);have le:=k.le;have ka0:=k.a0;have ka1:=k.a1;simp only[eo,po] at le;simp only[Sm.bld];generalize Sms.bld vs.length b (g.point.edge (tEd vs.length a g.out.length x y q true p)) g.out.length=r at *;have i4:=hI.ed _ (tEd vs.length a r.1.out.length x y q false p) (hI.pt _ i3) (QX hf.1 hf.2.1 ..) h0 (by rw[po]; show a < _; omega) (Int.natCast_nonneg _) (by rw[po]; show (r.1.out.length:Int) < _; omega) (fun h=>absurd (show (6:Int)=2 from h) (by decide));have i5:=hI.ed _ { f:=r.2,t:=(r.1.point.edge (tEd vs.length a r.1.out.length x y q false p)).out.length,k:=1,at_:=p } (hI.pt _ i4) (P8 (.inl rfl) rfl) ka0 (by simp only[po,eo]; omega) (by simp) (by simp only[po,eo]; omega) (fun h=>absurd h (by simp))
   exact hI.ed _ _ i5 (P8 (.inl rfl) rfl) (by simp) (by simp only[po,eo]; omega) (by simp) (by simp only[po,eo]; omega) fun h=>absurd h (by simp)
 | .ife p x y q b pe e,hf,g,a,N,h,hi,h0,h1=>by
   have i1:=hI.ed _ (tEd vs.length a g.out.length x y q true p) (hI.pt _ hi) (QX hf.1 hf.2.1 ..) h0 (by rw[po]; show a < _; omega) (Int.natCast_nonneg _) (by rw[po]; show (g.out.length:Int) < _; omega) (fun h=>absurd (show (6:Int)=2 from h) (by decide));have g1:=h.point.edge (tEd vs.length a g.out.length x y q true p);have k:=U0 vs.length b g1 (a:=g.out.length) (by omega) (by simp only[eo,po]; omega);have i3:=kp b hf.2.2.1 g1 i1 (a:=g.out.length) (by omega) (by simp only[eo,po]; omega);have le:=k.le;have ka0:=k.a0;have ka1:=k.a1;simp only[eo,po] at le;simp only[Sm.bld];generalize Sms.bld vs.length b (g.point.edge (tEd vs.length a g.out.length x y q true p)) g.out.length=r at *;have i4:=hI.ed _ (tEd vs.length a r.1.out.length x y q false p) (hI.pt _ i3) (QX hf.1 hf.2.1 ..) h0 (by rw[po]; show a < _; omega) (Int.natCast_nonneg _) (by rw[po]; show (r.1.out.length:Int) < _; omega) (fun h=>absurd (show (6:Int)=2 from h) (by decide));have g2:=k.ok.point.edge (tEd vs.length a r.1.out.length x y q false p);have k2:=U0 vs.length e g2 (a:=r.1.out.length) (by omega) (by simp only[eo,po]; omega);have i5:=kp e hf.2.2.2 g2 i4 (a:=r.1.out.length) (by omega) (by simp only[eo,po]; omega);have le2:=k2.le;have kb0:=k2.a0;have kb1:=k2.a1;simp only[eo,po] at le2;generalize Sms.bld vs.length e (r.1.point.edge (tEd vs.length a r.1.out.length x y q false p)) r.1.out.length=r2 at *;have i6:=hI.ed _ { f:=r.2,t:=r2.1.out.length,k:=1,at_:=p } (hI.pt _ i5) (P8 (.inl rfl) rfl) ka0 (by simp only[po,eo]; omega) (by simp) (by simp only[po,eo]; omega) (fun h=>absurd h (by simp))
   exact hI.ed _ _ i6 (P8 (.inl rfl) rfl) kb0 (by simp only[po,eo]; omega) (by simp) (by simp only[po,eo]; omega) fun h=>absurd h (by simp)
 | .while p x y q b,hf,g,a,N,h,hi,h0,h1=>by
   have hp:(g.point.head p.b g.out.length).out.length=g.out.length + 1:=po g;have i1:=hI.ed _ { f:=a,t:=g.out.length,k:=1,at_:=p } (hI.hd _ p.b g.out.length (hI.pt _ hi)) (P8 (.inl rfl) rfl) h0 (by rw[hp]; simp only[]; omega) (by simp) (by rw[hp]; simp only[]; omega) (fun h=>absurd h (by simp));have i2:=hI.ed _ (tEd vs.length g.out.length (g.out.length + 1) x y q true p) (hI.pt _ i1) (QX hf.1 hf.2.1 ..) (Int.natCast_nonneg _) (by rw[po,eo,hp]; show (g.out.length:Int) < _; omega) (by show (0:Int)≤g.out.length + 1; omega) (by rw[po,eo,hp]; show (g.out.length:Int) + 1 < _; omega) (fun h=>absurd (show (6:Int)=2 from h) (by decide));have g1:=(((h.point.head p.b g.out.length).edge { f:=a,t:=g.out.length,k:=1,at_:=p }).point).edge (tEd vs.length g.out.length (g.out.length + 1) x y q true p);have k:=U0 vs.length b g1 (a:=g.out.length + 1) (by omega) (by rw[eo,po,eo,hp]; omega);have i3:=kp b hf.2.2 g1 i2 (a:=g.out.length + 1) (by omega) (by rw[eo,po,eo,hp]; omega);have le:=k.le;have ka0:=k.a0;have ka1:=k.a1;rw[eo,po,eo,hp] at le;have i4:=hI.ed _ { f:=_,t:=g.out.length,k:=1,at_:=p } i3 (P8 (.inl rfl) rfl) k.a0 k.a1 (by simp) (by simp only[]; omega) (fun h=>absurd h (by simp));simp only[Sm.bld]
   exact hI.ed _ _ (hI.pt _ i4) (QX hf.1 hf.2.1 ..) (Int.natCast_nonneg _) (by rw[po,eo]; show (g.out.length:Int) < _; omega) (Int.natCast_nonneg _) (by rw[po]; show ((Gb.edge _ _).out.length:Int) < _; omega) fun h=>absurd (show (6:Int)=2 from h) (by decide)
theorem kp:∀ (l:List Sm),Sms.fit vs l→∀ {g:Gb} {a:Int} {N:Nat},Gok g vs.length N→I g→0≤a→a < g.out.length→I (Sms.bld vs.length l g a).1
 | [],_,g,a,N,h,hi,h0,h1=>hi
 | s :: l,hf,g,a,N,h,hi,h0,h1=>by
   have k:=qu0 vs.length s (h.start s.at_.b a) h0 h1;exact kp l hf.2 k.ok (q5p s hf.1 (h.start s.at_.b a) (hI.st _ _ _ hi h0 h1) h0 h1) k.a0 k.a1
theorem qq7 (p:Pl) (mn:Int):∀ (l:List Bl),Bls.fit vs l→∀ (i:Int) {g:Gb} {a:Int} {N:Nat},Gok g vs.length N→I g→0≤a→a < g.out.length→I (Bls.bld vs.length p a mn i l g).1
 | [],_,i,g,a,N,h,hi,h0,h1=>hi
 | .mk q b :: l,hf,i,g,a,N,h,hi,h0,h1=>by
   have g1:=h.point.edge { f:=a,t:=g.out.length,k:=5,tk:=i,mn,at_:=p };have i1:=hI.ed _ { f:=a,t:=g.out.length,k:=5,tk:=i,mn,at_:=p } (hI.pt _ hi) (P8 (.inr rfl) rfl) h0 (by rw[po]; simp only[]; omega) (by simp) (by rw[po]; simp only[]; omega) (fun h=>absurd h (by simp));have k:=U0 vs.length b g1 (a:=g.out.length) (by omega) (by simp only[eo,po]; omega);have le:=k.le;simp only[eo,po] at le;exact qq7 p mn l hf.2 (i + 1) k.ok (kp b hf.1 g1 i1 (by omega) (by simp only[eo,po]; omega)) h0 (by omega)
end
end
structure Gin (n:Nat) (g:Gb):Prop where
 ed:∀ e∈g.edges,Eok n e∧0≤e.f∧e.f < g.out.length∧0≤e.t∧e.t < g.out.length
 lg:g.long=false→∀ e∈g.edges,e.k=2→zX e.row=false
 o:∀ i,∀ j∈g.out.getD i [],0≤j∧j < g.edges.length
 i:∀ i,∀ j∈g.inn.getD i [],0≤j∧j < g.edges.length
theorem qaf {l:List (List Int)} {k i:Nat} {x j:Int} (h:j∈(l.set k (l.getD k []++[x])).getD i []):j∈l.getD i []∨j=x:=by
 simp only[List.getD_eq_getElem?_getD,List.getElem?_set] at h ⊢;split at h
 ·rename_i e;subst e;split at h
  ·simp only[Option.getD_some,List.mem_append,List.mem_singleton] at h;exact h
  ·simp at h
 ·exact .inl h
theorem wL (n:Nat):Keeps n (Gin n) where
 pt g h:=⟨fun e he=>by obtain ⟨a,b,c,d,f⟩:=h.ed e he; rw[po]; exact ⟨a,b,by omega,d,by omega⟩,h.lg,fun i j hj=>h.o i j (by simpa only [Gb.point,O4] using hj),fun i j hj=>h.i i j (by simpa only [Gb.point,O4] using hj)⟩
 ed g e h ok f0 f1 t0 t1 lg:=by
  have hl:(g.edge e).edges.length=g.edges.length + 1:=by simp[Gb.edge]
  refine ⟨fun x hx=>?_,fun hg x hx hk=>?_,fun i j hj=>?_,fun i j hj=>?_⟩
  ·rw[eo];rcases List.mem_append.1 hx with hx | hx
   ·exact h.ed x hx
   ·rw[List.mem_singleton.1 hx]; exact ⟨ok,f0,f1,t0,t1⟩
  ·rcases List.mem_append.1 hx with hx | hx
   ·exact h.lg hg x hx hk
   ·rw[List.mem_singleton.1 hx] at hk ⊢; exact lg hk hg
  ·rw[hl];rcases qaf hj with hj | rfl
   ·have:=h.o i j hj; omega
   ·omega
  ·rw[hl];rcases qaf hj with hj | rfl
   ·have:=h.i i j hj; omega
   ·omega
 lg g b h:=⟨h.ed,fun hg=>h.lg (Bool.or_eq_false_iff.1 hg).1,h.o,h.i⟩
 mr g s a h _ _:=⟨h.ed,h.lg,h.o,h.i⟩
 st g b a h _ _:=⟨h.ed,h.lg,h.o,h.i⟩
 hd g b a h:=⟨h.ed,h.lg,h.o,h.i⟩
end Go.Rf

namespace Go.Rf
set_option maxHeartbeats 4000000
def Lds (g:Gb) (x:Nat) (es:List Ed):Prop:=(g.out.getD x []).map (fun j=>g.edges[j.toNat]?)=es.map some
inductive FkE:List Ed→Prop
 | nil:FkE []
 | one {e:Ed}:1≤e.k→e.k≤4→FkE [e]
 | pick {es:List Ed}:es≠[]→(∀ e∈es,e.k=5∧e.mn=es.length)→(∀ w:Int,0≤w→w < es.length→(es.filter fun e=>e.tk == w).length=1)→(∀ e∈es,0≤e.tk∧e.tk < es.length)→FkE es
 | test {a b:Ed}:a.k=6→b.k=6→a.tk + b.tk=1→(a.tk=0∨a.tk=1)→a.row=b.row→a.l=b.l→a.r=b.r→FkE [a,b]
theorem j7 {g:Gb} {x:Nat} {es} (h:Lds g x es):Lds g.point x es:=by
 unfold Lds at *;simp only[Gb.point,O4];exact h
theorem Q8 {g:Gb} {x:Nat} (h:g.out.length≤x):Lds g x []:=by
 unfold Lds;simp[List.getD_eq_getElem?_getD,List.getElem?_eq_none h]
theorem qk2 {l:List Ed} {e:Ed} {o:List Int} {es:List Ed} (h:o.map (fun j=>l[j.toNat]?)=es.map some):o.map (fun j=>(l++[e])[j.toNat]?)=es.map some:=by
 rw[← h];apply List.map_congr_left;intro j hj
 have:l[j.toNat]? ∈ es.map some:=by rw[← h]; exact List.mem_map_of_mem hj
 obtain ⟨y,_,hy⟩:=List.mem_map.1 this;have hl:=(List.getElem?_eq_some_iff.1 hy.symm).1;exact List.getElem?_append_left hl
theorem G8 {g:Gb} {x:Nat} {es} (h:Lds g x es) (e:Ed) (hx:x≠e.f.toNat):Lds (g.edge e) x es:=by
 unfold Lds at *
 have:(g.edge e).out.getD x []=g.out.getD x []:=by
  simp only[Gb.edge,List.getD_eq_getElem?_getD,List.getElem?_set];rw[if_neg (Ne.symm hx)]
 rw[this];exact qk2 h
theorem Y2 {g:Gb} {x:Nat} {es} (h:Lds g x es) (e:Ed) (hx:e.f=x) (hl:x < g.out.length):Lds (g.edge e) x (es++[e]):=by
 unfold Lds at *
 have hx:e.f.toNat=x:=by omega
 have:(g.edge e).out.getD x []=g.out.getD x []++[(g.edges.length:Int)]:=by
  simp only[Gb.edge,List.getD_eq_getElem?_getD,List.getElem?_set];rw[if_pos hx,if_pos (by omega),hx];rfl
 rw[this,List.map_append,List.map_append]
 congr 1
 ·exact qk2 h
 ·simp[Gb.edge]
theorem vS {g g':Gb} (h1:g'.out=g.out) (h2:g'.edges=g.edges) {x es} (h:Lds g x es):Lds g' x es:=by
 unfold Lds at *;rw[h1,h2];exact h
structure Bd (g:Gb) (a:Nat) (r:Gb × Int):Prop where
 len:g.out.length≤r.1.out.length
 old:∀ x es,x < g.out.length→x≠a→Lds g x es→Lds r.1 x es
 b0:0≤r.2
 b1:r.2 < r.1.out.length
 bn:r.2=a∨(g.out.length:Int)≤r.2
 en:Lds r.1 r.2.toNat []
 fk:∀ x,x < r.1.out.length→(x=a∨g.out.length≤x)→(x:Int)≠r.2→∃ es,Lds r.1 x es∧FkE es
theorem Bd.trans {g:Gb} {a:Nat} {r r2:Gb × Int} (h:Bd g a r) (k:Bd r.1 r.2.toNat r2):Bd g a r2:=by
 have h0:=h.b0;have h1:=h.b1;have hn:=h.bn;have hl:=h.len;have kl:=k.len;have k0:=k.b0;have kn:=k.bn;refine ⟨by omega,fun x es hx ha hL=>k.old x es (by omega) (by omega) (h.old x es hx ha hL),k.b0,k.b1,by omega,k.en,fun x hx ha hne=>?_⟩
 by_cases hb:(x:Int)=r.2
 ·exact k.fk x hx (.inl (by omega)) hne
 ·by_cases hx1:x < r.1.out.length
  ·obtain ⟨es,hL,hF⟩:=h.fk x hx1 ha hb;exact ⟨es,k.old x es hx1 (by omega) hL,hF⟩
  ·exact k.fk x hx (.inr (by omega)) hne
theorem q4m {g:Gb} {a:Nat} (ha:a < g.out.length) (h:Lds g a []):Bd g a (g,a):=
 ⟨Nat.le_refl _,fun _ _ _ _ h=>h,by simp,by simpa using ha,.inl rfl,by simpa using h,fun x hx hor hne=>by simp only[] at hx hne; rcases hor with rfl | h <;> omega⟩
theorem qxi {a b:Ed} (h1:a.k=5) (h2:b.k=5) (m1:a.mn=2) (m2:b.mn=2) (t1:a.tk=1) (t2:b.tk=0):FkE [a,b]:=by
 refine .pick (by simp) (fun e he=>?_) (fun w w0 w1=>?_) fun e he=>?_
 ·rcases List.mem_cons.1 he with rfl | he
  ·exact ⟨h1,m1⟩
  ·rw[List.mem_singleton.1 he]; exact ⟨h2,m2⟩
 ·simp only[List.length_cons,List.length_nil] at w1
  have:w=0∨w=1:=by omega
  rcases this with rfl | rfl <;> simp[t1,t2]
 ·rcases List.mem_cons.1 he with rfl | he
  ·simp[t1]
  ·rw[List.mem_singleton.1 he]; simp[t2]
theorem qic {n:Nat} {f t f2 t2:Int} {x y:Nd} {q:Bool} {p p2:Pl}:FkE [tEd n f t x y q true p,tEd n f2 t2 x y q false p2]:=by
 refine .test rfl rfl ?_ ?_ rfl rfl rfl
 ·cases q <;> simp[tEd]
 ·cases q <;> simp[tEd]
theorem qxh {es:List Ed} {p:Pl} {f mn:Int} {ts:List Int} (h:es=ts.mapIdx fun i t=>{ f,t,k:=5,tk:=i,mn,at_:=p }) (hn:ts≠[]) (hm:mn=ts.length):FkE es:=by
 have hl:es.length=ts.length:=by rw[h]; simp
 refine .pick (fun e=>hn (List.length_eq_zero_iff.1 (by rw[← hl,e]; rfl))) (fun e he=>?_) (fun w w0 w1=>?_) fun e he=>?_
 ·rw[h] at he;obtain ⟨i,hi,rfl⟩:=List.mem_mapIdx.1 he;exact ⟨rfl,by simp only[]; omega⟩
 ·rw[hl] at w1;obtain ⟨k,rfl⟩:=Int.eq_ofNat_of_zero_le w0;rw[h,← List.countP_eq_length_filter];clear h hl hn hm
  have gen:∀ (ts:List Int) (off k:Nat),List.countP (fun e:Ed=>e.tk == (k:Int)) (ts.mapIdx fun i t=>{ f,t,k:=5,tk:=((off + i:Nat):Int),mn,at_:=p })=if off≤k∧k < off + ts.length then 1 else 0:=by
   intro ts
   induction ts with
   | nil=>intro off k; simp
   | cons t ts ih=>
     intro off k;rw[List.mapIdx_cons,List.countP_cons];have:=ih (off + 1) k
     have e:(List.mapIdx (fun i t=>({ f,t,k:=5,tk:=((off + (i + 1):Nat):Int),mn,at_:=p }:Ed)) ts)=List.mapIdx (fun i t=>({ f,t,k:=5,tk:=((off + 1 + i:Nat):Int),mn,at_:=p }:Ed)) ts:=by
      congr 1; funext i t; congr 2; omega
     rw[e,this];simp only[List.length_cons,Nat.add_zero,beq_iff_eq]
     by_cases h1:off=k
     ·subst h1;rw[if_neg (by omega),if_pos (by omega),if_pos (by omega)]
     ·rw[if_neg (show ¬ ((off:Int)=k) by omega)]
      by_cases h2:off + 1≤k∧k < off + 1 + ts.length
      ·rw[if_pos h2,if_pos (by omega)]
      ·rw[if_neg h2,if_neg (by omega)]
  have:=gen ts 0 k;simp only[Nat.zero_add] at this;rw[this,if_pos (by omega)]
 ·rw[h] at he;obtain ⟨i,hi,rfl⟩:=List.mem_mapIdx.1 he;exact ⟨by simp,by rw[hl]; simp only[]; omega⟩
end Go.Rf

namespace Go.Rf
set_option maxHeartbeats 4000000
theorem qi9 {g g':Gb} {a:Nat} (ha:a < g.out.length) (hL:Lds g a []) (h1:g'.out=g.point.out) (h2:g'.edges=g.edges) (e:Ed) (hf:e.f=a) (hk:1≤e.k∧e.k≤4):Bd g a (g'.edge e,(g.out.length:Int)):=by
 have hl:(g'.edge e).out.length=g.out.length + 1:=by rw[eo,h1,po]
 have up:∀ x es,Lds g x es→Lds g' x es:=fun x es h=>vS (g:=g.point) h1 h2 (j7 h)
 exact ⟨by simp only[]; omega,fun x es hx hne h=>G8 (up x es h) e (by omega),by simp,by simp only[]; omega,.inr (by simp),by
  simp only[Int.toNat_natCast]
  exact G8 (up _ _ (Q8 (Nat.le_refl _))) e (by omega),fun x hx hor hne=>by
  simp only[] at hx hne
  have:x=a:=by omega
  subst this
  exact ⟨[e],Y2 (up _ _ hL) e hf (by rw[h1,po]; omega),.one hk.1 hk.2⟩⟩
theorem qlh (p:Pl) (j:Int):∀ (l:List Int) {g:Gb},(∀ b∈l,0≤b∧b < g.out.length∧Lds g b.toNat [])→l.Pairwise (· < ·)→
 (Y3 p j l g).out.length=g.out.length∧(∀ b∈l,∃ es,Lds (Y3 p j l g) b.toNat es∧FkE es) ∧ ∀ (x:Nat) es,(x:Int) ∉ l→Lds g x es→Lds (Y3 p j l g) x es
 | [],g,_,_=>⟨rfl,fun b hb=>(by cases hb),fun _ _ _ h=>h⟩
 | b :: l,g,h,hp=>by
   obtain ⟨b0,b1,bL⟩:=h b (List.mem_cons_self ..);rw[List.pairwise_cons] at hp
   obtain ⟨i1,i2,i3⟩:=qlh p j l (g:=g.edge { f:=b,t:=j,k:=1,at_:=p }) (fun c hc=>by
    obtain ⟨c0,c1,cL⟩:=h c (List.mem_cons_of_mem _ hc);have:=hp.1 c hc
    exact ⟨c0,by rw[eo]; exact c1,G8 cL _ (by simp only[]; omega)⟩) hp.2
   refine ⟨i1.trans (eo ..),fun c hc=>?_,fun x es hx hL=>?_⟩
   ·rcases List.mem_cons.1 hc with rfl | hc
    ·have nm:((c.toNat:Nat):Int) ∉ l:=fun hm=>by have:=hp.1 _ hm; omega
     exact ⟨_,i3 _ _ nm (Y2 bL _ (by simp only[]; omega) (by omega)),.one (by simp) (by simp)⟩
    ·exact i2 c hc
   ·rw[List.mem_cons,not_or] at hx;exact i3 x es hx.2 (G8 hL _ (by simp only[]; omega))
mutual
theorem zg0 (n:Nat) {vs:List (List UInt8)}:∀ (s:Sm),s.fit vs→∀ {g:Gb} {a:Nat},a < g.out.length→Lds g a []→Bd g a (s.bld n g a)
 | .set p v t e,_,g,a,ha,hL=>by
   cases e with
   | none=>exact qi9 ha hL rfl rfl _ rfl ⟨by simp,by simp⟩
   | some x=>
     simp only[Sm.bld];split
     ·exact qi9 ha hL (g':={ g.point with long:=g.long || zX (r9 n x).1 }) rfl rfl _ rfl ⟨by simp,by simp⟩
     ·exact qi9 ha hL rfl rfl _ rfl ⟨by simp,by simp⟩
 | .skip p,_,g,a,ha,hL=>qi9 ha hL rfl rfl _ rfl ⟨by simp,by simp⟩
 | .stop p,_,g,a,ha,hL=>⟨by simp only[Sm.bld]; rw[po]; omega,fun x es _ _ h=>j7 h,by simp[Sm.bld],by simp only[Sm.bld]; rw[po]; omega,.inr (by simp[Sm.bld]),by simp only[Sm.bld,Int.toNat_natCast]; exact j7 (Q8 (Nat.le_refl _)),fun x hx hor hne=>by
   simp only[Sm.bld] at hx hne;rw[po] at hx
   have:x=a:=by omega
   subst this
   exact ⟨[],j7 hL,.nil⟩⟩
 | .mark p s,_,g,a,ha,hL=>by
   have h:=q4m (g:=g.mark s a) ha (vS rfl rfl hL);exact ⟨h.len,fun x es hx hne hh=>h.old x es hx hne (vS rfl rfl hh),h.b0,h.b1,h.bn,h.en,h.fk⟩
 | .choose p bs,hf,g,a,ha,hL=>by
   obtain ⟨ts,t1,t2,t3,t4,t5,t6,t7,t8⟩:=qyc n p bs.length bs hf.2 0 (g:=g) (a:=a) (es0:=[]) ha hL;simp only[Sm.bld];generalize Bls.bld n p a bs.length 0 bs g=z at *;obtain ⟨z1,z2⟩:=z;simp only[] at *
   obtain ⟨j1,j2,j3⟩:=qlh p z1.out.length z2 (g:=z1.point) (fun b hb=>by
    obtain ⟨c0,c1,c2⟩:=t6 b hb
    exact ⟨by omega,by rw[po]; omega,j7 c2⟩) t7
   rw[po] at j1
   have nj:∀ x:Nat,x < g.out.length∨z1.out.length≤x→(x:Int) ∉ z2:=fun x hx hm=>by have:=t6 _ hm; omega
   refine ⟨by simp only[]; omega,fun x es hx hne h=>j3 x es (nj x (.inl hx)) (j7 (t4 x es hx hne h)),by simp,by simp only[]; omega,.inr (by simp only[]; omega),?_,fun x hx hor hne=>?_⟩
   ·simp only[Int.toNat_natCast];exact j3 _ _ (nj _ (.inr (Nat.le_refl _))) (j7 (Q8 (Nat.le_refl _)))
   ·simp only[] at hx hne
    by_cases hm:(x:Int)∈z2
    ·have:=j2 _ hm
     simpa using this
    ·rcases hor with rfl | hge
     ·refine ⟨_,j3 x _ hm (j7 t2),qxh (f:=x) (mn:=bs.length) (p:=p) (ts:=ts) ?_ (fun e=>hf.1 (List.length_eq_zero_iff.1 (by rw[← t1,e]; rfl))) (by omega)⟩;simp
     ·obtain ⟨es,e1,e2⟩:=t5 x hge (by omega) hm;exact ⟨es,j3 x es hm (j7 e1),e2⟩
 | .loop p b,hf,g,a,ha,hL=>by
   simp only[Sm.bld]
   have l1:(g.point.edge { f:=a,t:=g.out.length,k:=1,at_:=p }).out.length=g.out.length + 1:=by rw[eo,po]
   have A1:=Y2 (j7 hL) { f:=a,t:=g.out.length,k:=1,at_:=p } rfl (by rw[po]; omega);have H1:=G8 (j7 (Q8 (g:=g) (Nat.le_refl _))) { f:=a,t:=g.out.length,k:=1,at_:=p } (by simp only[]; omega)
   have O1:∀ x es,x < g.out.length→x≠a→Lds g x es→Lds (g.point.edge { f:=a,t:=g.out.length,k:=1,at_:=p }) x es:=fun x es hx hne h=>G8 (j7 h) _ (by simp only[]; omega)
   generalize g.point.edge { f:=a,t:=g.out.length,k:=1,at_:=p } = g1 at *
   have l2:(g1.point.edge { f:=g.out.length,t:=g.out.length + 1,k:=5,tk:=1,mn:=2,at_:=p }).out.length=g.out.length + 2:=by rw[eo,po]; omega
   have A2:=G8 (j7 A1) { f:=g.out.length,t:=g.out.length + 1,k:=5,tk:=1,mn:=2,at_:=p } (by simp only[]; omega);have H2:=Y2 (j7 H1) { f:=g.out.length,t:=g.out.length + 1,k:=5,tk:=1,mn:=2,at_:=p } rfl (by rw[po]; omega);have I2:=G8 (j7 (Q8 (g:=g1) (x:=g.out.length + 1) (by omega))) { f:=g.out.length,t:=g.out.length + 1,k:=5,tk:=1,mn:=2,at_:=p } (by simp only[]; omega)
   have O2:∀ x es,x < g.out.length→Lds g1 x es→Lds (g1.point.edge { f:=g.out.length,t:=g.out.length + 1,k:=5,tk:=1,mn:=2,at_:=p }) x es:=fun x es hx h=>G8 (j7 h) _ (by simp only[]; omega)
   generalize g1.point.edge { f:=g.out.length,t:=g.out.length + 1,k:=5,tk:=1,mn:=2,at_:=p } = g2 at *;have k:=Zh n b hf (g:=g2) (a:=g.out.length + 1) (by omega) I2;rw[Int.natCast_add,show ((1:Nat):Int)=1 from rfl] at k;generalize Sms.bld n b g2 (g.out.length + 1)=r at *;obtain ⟨r1,r2⟩:=r;have kl:=k.len;have k0:=k.b0;have k1:=k.b1;have kn:=k.bn;have ke:=k.en;simp only[] at kl k0 k1 kn ke ⊢;have A3:=k.old a _ (by omega) (by omega) A2;have H3:=k.old g.out.length _ (by omega) (by omega) H2;have l4:(r1.edge { f:=r2,t:=g.out.length,k:=1,at_:=p }).out.length=r1.out.length:=eo ..;have R4:=Y2 ke { f:=r2,t:=g.out.length,k:=1,at_:=p } (by simp only[]; omega) (by omega)
   have N4:∀ (x:Nat) es,(x:Int)≠r2→Lds r1 x es→Lds (r1.edge { f:=r2,t:=g.out.length,k:=1,at_:=p }) x es:=fun x es hx h=>G8 h _ (by simp only[]; omega)
   generalize r1.edge { f:=r2,t:=g.out.length,k:=1,at_:=p } = g3 at *;have H5:=Y2 (j7 (N4 _ _ (by omega) H3)) { f:=g.out.length,t:=g3.out.length,k:=5,tk:=0,mn:=2,at_:=p } rfl (by rw[po]; omega)
   have N5:∀ x es,x≠g.out.length→Lds g3 x es→Lds (g3.point.edge { f:=g.out.length,t:=g3.out.length,k:=5,tk:=0,mn:=2,at_:=p }) x es:=fun x es hx h=>G8 (j7 h) _ (by simp only[]; omega)
   have l5:(g3.point.edge { f:=g.out.length,t:=g3.out.length,k:=5,tk:=0,mn:=2,at_:=p }).out.length=g3.out.length + 1:=by rw[eo,po]
   generalize g3.point.edge { f:=g.out.length,t:=g3.out.length,k:=5,tk:=0,mn:=2,at_:=p } = g4 at *;refine ⟨by simp only[]; omega,fun x es hx hne h=>N5 x es (by omega) (N4 x es (by omega) (k.old x es (by omega) (by omega) (O2 x es hx (O1 x es hx hne h)))),by simp,by simp only[]; omega,.inr (by simp only[]; omega),?_,fun x hx hor hne=>?_⟩
   ·simp only[Int.toNat_natCast];exact N5 _ _ (by omega) (Q8 (Nat.le_refl _))
   ·simp only[] at hx hne
    by_cases c1:x=a
    ·subst c1;exact ⟨_,N5 _ _ (by omega) (N4 _ _ (by omega) A3),.one (by simp) (by simp)⟩
    by_cases c2:x=g.out.length
    ·subst c2;exact ⟨_,H5,qxi rfl rfl rfl rfl rfl rfl⟩
    by_cases c3:(x:Int)=r2
    ·subst c3;rw[Int.toNat_natCast] at R4;exact ⟨_,N5 _ _ (by omega) R4,.one (by simp) (by simp)⟩
    obtain ⟨es,e1,e2⟩:=k.fk x (by simp only[]; omega) (by omega) c3;exact ⟨es,N5 _ _ c2 (N4 _ _ c3 e1),e2⟩
 | .ifs p x y q b,hf,g,a,ha,hL=>by
   simp only[Sm.bld]
   have l1:(g.point.edge (tEd n a g.out.length x y q true p)).out.length=g.out.length + 1:=by rw[eo,po]
   have A1:=Y2 (j7 hL) (tEd n a g.out.length x y q true p) rfl (by rw[po]; omega);have H1:=G8 (j7 (Q8 (g:=g) (Nat.le_refl _))) (tEd n a g.out.length x y q true p) (by show _≠(a:Int).toNat; omega)
   have O1:∀ z es,z < g.out.length→z≠a→Lds g z es→Lds (g.point.edge (tEd n a g.out.length x y q true p)) z es:=fun z es hx hne h=>G8 (j7 h) _ (by show _≠(a:Int).toNat; omega)
   generalize g.point.edge (tEd n a g.out.length x y q true p)=g1 at *;have k:=Zh n b hf.2.2 (g:=g1) (a:=g.out.length) (by omega) H1;generalize Sms.bld n b g1 g.out.length=r at *;obtain ⟨r1,r2⟩:=r;have kl:=k.len;have k0:=k.b0;have k1:=k.b1;have kn:=k.bn;have ke:=k.en;simp only[] at kl k0 k1 kn ke ⊢;have A2:Lds r1 a _:=k.old a _ (by omega) (by omega) A1
   have l3:(r1.point.edge (tEd n a r1.out.length x y q false p)).out.length=r1.out.length + 1:=by rw[eo,po]
   have A3:=Y2 (j7 A2) (tEd n a r1.out.length x y q false p) rfl (by rw[po]; omega)
   have N3:∀ z es,z≠a→Lds r1 z es→Lds (r1.point.edge (tEd n a r1.out.length x y q false p)) z es:=fun z es hx h=>G8 (j7 h) _ (by show _≠(a:Int).toNat; omega)
   generalize r1.point.edge (tEd n a r1.out.length x y q false p)=g2 at *
   have l4:(g2.point.edge { f:=r2,t:=g2.out.length,k:=1,at_:=p }).out.length=g2.out.length + 1:=by rw[eo,po]
   have R4:=Y2 (j7 (N3 _ _ (by omega) ke)) { f:=r2,t:=g2.out.length,k:=1,at_:=p } (by simp only[]; omega) (by rw[po]; omega)
   have N4:∀ (z:Nat) es,(z:Int)≠r2→Lds g2 z es→Lds (g2.point.edge { f:=r2,t:=g2.out.length,k:=1,at_:=p }) z es:=fun z es hx h=>G8 (j7 h) _ (by simp only[]; omega)
   generalize g2.point.edge { f:=r2,t:=g2.out.length,k:=1,at_:=p } = g3 at *;have T5:=Y2 (N4 r1.out.length _ (by omega) (N3 _ _ (by omega) (Q8 (Nat.le_refl _)))) { f:=r1.out.length,t:=g2.out.length,k:=1,at_:=p } rfl (by omega)
   have N5:∀ z es,z≠r1.out.length→Lds g3 z es→Lds (g3.edge { f:=r1.out.length,t:=g2.out.length,k:=1,at_:=p }) z es:=fun z es hx h=>G8 h _ (by simp only[]; omega)
   have l5:(g3.edge { f:=r1.out.length,t:=g2.out.length,k:=1,at_:=p }).out.length=g3.out.length:=eo ..;generalize g3.edge { f:=r1.out.length,t:=g2.out.length,k:=1,at_:=p } = g4 at *;refine ⟨by simp only[]; omega,fun z es hx hne h=>N5 _ _ (by omega) (N4 _ _ (by omega) (N3 _ _ hne (k.old z es (by omega) (by omega) (O1 z es hx hne h)))),by simp,by simp only[]; omega,.inr (by simp only[]; omega),?_,fun z hx hor hne=>?_⟩
   ·simp only[Int.toNat_natCast];exact N5 _ _ (by omega) (N4 _ _ (by omega) (Q8 (Nat.le_refl _)))
   ·simp only[] at hx hne
    by_cases c1:z=a
    ·subst c1;exact ⟨_,N5 _ _ (by omega) (N4 _ _ (by omega) A3),qic⟩
    by_cases c2:z=r1.out.length
    ·subst c2;exact ⟨_,T5,.one (by simp) (by simp)⟩
    by_cases c3:(z:Int)=r2
    ·subst c3;rw[Int.toNat_natCast] at R4;exact ⟨_,N5 _ _ c2 R4,.one (by simp) (by simp)⟩
    obtain ⟨es,e1,e2⟩:=k.fk z (by simp only[]; omega) (by omega) c3;exact ⟨es,N5 _ _ c2 (N4 _ _ c3 (N3 _ _ c1 e1)),e2⟩
 | .ife p x y q b pe e,hf,g,a,ha,hL=>by
   simp only[Sm.bld]
   have l1:(g.point.edge (tEd n a g.out.length x y q true p)).out.length=g.out.length + 1:=by rw[eo,po]
   have A1:=Y2 (j7 hL) (tEd n a g.out.length x y q true p) rfl (by rw[po]; omega);have H1:=G8 (j7 (Q8 (g:=g) (Nat.le_refl _))) (tEd n a g.out.length x y q true p) (by show _≠(a:Int).toNat; omega)
   have O1:∀ z es,z < g.out.length→z≠a→Lds g z es→Lds (g.point.edge (tEd n a g.out.length x y q true p)) z es:=fun z es hx hne h=>G8 (j7 h) _ (by show _≠(a:Int).toNat; omega)
   generalize g.point.edge (tEd n a g.out.length x y q true p)=g1 at *;have k:=Zh n b hf.2.2.1 (g:=g1) (a:=g.out.length) (by omega) H1;generalize Sms.bld n b g1 g.out.length=r at *;obtain ⟨r1,r2⟩:=r;have kl:=k.len;have k0:=k.b0;have k1:=k.b1;have kn:=k.bn;have ke:=k.en;simp only[] at kl k0 k1 kn ke ⊢;have A2:Lds r1 a _:=k.old a _ (by omega) (by omega) A1
   have l3:(r1.point.edge (tEd n a r1.out.length x y q false p)).out.length=r1.out.length + 1:=by rw[eo,po]
   have A3:=Y2 (j7 A2) (tEd n a r1.out.length x y q false p) rfl (by rw[po]; omega)
   have N3:∀ z es,z≠a→Lds r1 z es→Lds (r1.point.edge (tEd n a r1.out.length x y q false p)) z es:=fun z es hx h=>G8 (j7 h) _ (by show _≠(a:Int).toNat; omega)
   have T3:=N3 r1.out.length _ (by omega) (Q8 (Nat.le_refl _));generalize r1.point.edge (tEd n a r1.out.length x y q false p)=g2 at *;have w:=Zh n e hf.2.2.2 (g:=g2) (a:=r1.out.length) (by omega) T3;generalize Sms.bld n e g2 r1.out.length=s at *;obtain ⟨s1,s2⟩:=s;have wl:=w.len;have w0:=w.b0;have w1:=w.b1;have wn:=w.bn;have we:=w.en;simp only[] at wl w0 w1 wn we ⊢
   have l4:(s1.point.edge { f:=r2,t:=s1.out.length,k:=1,at_:=p }).out.length=s1.out.length + 1:=by rw[eo,po]
   have R4:=Y2 (j7 (w.old r2.toNat _ (by omega) (by omega) (N3 _ _ (by omega) ke))) { f:=r2,t:=s1.out.length,k:=1,at_:=p } (by simp only[]; omega) (by rw[po]; simp only[]; omega)
   have N4:∀ (z:Nat) es,(z:Int)≠r2→Lds s1 z es→Lds (s1.point.edge { f:=r2,t:=s1.out.length,k:=1,at_:=p }) z es:=fun z es hx h=>G8 (j7 h) _ (by simp only[]; omega)
   generalize s1.point.edge { f:=r2,t:=s1.out.length,k:=1,at_:=p } = g3 at *;have T5:=Y2 (N4 s2.toNat _ (by omega) we) { f:=s2,t:=s1.out.length,k:=1,at_:=p } (by simp only[]; omega) (by omega)
   have N5:∀ (z:Nat) es,(z:Int)≠s2→Lds g3 z es→Lds (g3.edge { f:=s2,t:=s1.out.length,k:=1,at_:=p }) z es:=fun z es hx h=>G8 h _ (by simp only[]; omega)
   have l5:(g3.edge { f:=s2,t:=s1.out.length,k:=1,at_:=p }).out.length=g3.out.length:=eo ..;generalize g3.edge { f:=s2,t:=s1.out.length,k:=1,at_:=p } = g4 at *;refine ⟨by simp only[]; omega,fun z es hx hne h=>N5 _ _ (by omega) (N4 _ _ (by omega) (w.old z es (by omega) (by omega) (N3 _ _ hne (k.old z es (by omega) (by omega) (O1 z es hx hne h))))),by simp,by simp only[]; omega,.inr (by simp only[]; omega),?_,fun z hx hor hne=>?_⟩
   ·simp only[Int.toNat_natCast];exact N5 _ _ (by omega) (N4 _ _ (by omega) (Q8 (Nat.le_refl _)))
   ·simp only[] at hx hne
    by_cases c1:z=a
    ·subst c1;exact ⟨_,N5 _ _ (by omega) (N4 _ _ (by omega) (w.old _ _ (by omega) (by omega) A3)),qic⟩
    by_cases c2:(z:Int)=s2
    ·subst c2;rw[Int.toNat_natCast] at T5;exact ⟨_,T5,.one (by simp) (by simp)⟩
    by_cases c3:(z:Int)=r2
    ·subst c3;rw[Int.toNat_natCast] at R4;exact ⟨_,N5 _ _ c2 R4,.one (by simp) (by simp)⟩
    by_cases c4:z < r1.out.length
    ·obtain ⟨es,e1,e2⟩:=k.fk z (by simp only[]; omega) (by omega) c3;exact ⟨es,N5 _ _ c2 (N4 _ _ c3 (w.old _ _ (by omega) (by omega) (N3 _ _ c1 e1))),e2⟩
    obtain ⟨es,e1,e2⟩:=w.fk z (by simp only[]; omega) (by omega) c2;exact ⟨es,N5 _ _ c2 (N4 _ _ c3 e1),e2⟩
 | .while p x y q b,hf,g,a,ha,hL=>by
   simp only[Sm.bld];have hp:(g.point.head p.b g.out.length).out.length=g.out.length + 1:=po g
   have hd:∀ z es,Lds g z es→Lds (g.point.head p.b g.out.length) z es:=fun z es h=>vS (g:=g.point) rfl rfl (j7 h)
   have l1:((g.point.head p.b g.out.length).edge { f:=a,t:=g.out.length,k:=1,at_:=p }).out.length=g.out.length + 1:=by rw[eo,hp]
   have A1:=Y2 (hd _ _ hL) { f:=a,t:=g.out.length,k:=1,at_:=p } rfl (by rw[hp]; omega);have H1:=G8 (hd _ _ (Q8 (g:=g) (Nat.le_refl _))) { f:=a,t:=g.out.length,k:=1,at_:=p } (by simp only[]; omega)
   have O1:∀ z es,z < g.out.length→z≠a→Lds g z es→Lds ((g.point.head p.b g.out.length).edge { f:=a,t:=g.out.length,k:=1,at_:=p }) z es:=fun z es hx hne h=>G8 (hd _ _ h) _ (by simp only[]; omega)
   generalize (g.point.head p.b g.out.length).edge { f:=a,t:=g.out.length,k:=1,at_:=p } = g1 at *
   have l2:(g1.point.edge (tEd n g.out.length (g.out.length + 1) x y q true p)).out.length=g.out.length + 2:=by rw[eo,po]; omega
   have A2:=G8 (j7 A1) (tEd n g.out.length (g.out.length + 1) x y q true p) (by show _≠(g.out.length:Int).toNat; omega);have H2:=Y2 (j7 H1) (tEd n g.out.length (g.out.length + 1) x y q true p) rfl (by rw[po]; omega);have I2:=G8 (j7 (Q8 (g:=g1) (x:=g.out.length + 1) (by omega))) (tEd n g.out.length (g.out.length + 1) x y q true p) (by show _≠(g.out.length:Int).toNat; omega)
   have O2:∀ z es,z < g.out.length→Lds g1 z es→Lds (g1.point.edge (tEd n g.out.length (g.out.length + 1) x y q true p)) z es:=fun z es hx h=>G8 (j7 h) _ (by show _≠(g.out.length:Int).toNat; omega)
   generalize g1.point.edge (tEd n g.out.length (g.out.length + 1) x y q true p)=g2 at *;have k:=Zh n b hf.2.2 (g:=g2) (a:=g.out.length + 1) (by omega) I2;rw[Int.natCast_add,show ((1:Nat):Int)=1 from rfl] at k;generalize Sms.bld n b g2 (g.out.length + 1)=r at *;obtain ⟨r1,r2⟩:=r;have kl:=k.len;have k0:=k.b0;have k1:=k.b1;have kn:=k.bn;have ke:=k.en;simp only[] at kl k0 k1 kn ke ⊢;have A3:=k.old a _ (by omega) (by omega) A2;have H3:=k.old g.out.length _ (by omega) (by omega) H2;have l4:(r1.edge { f:=r2,t:=g.out.length,k:=1,at_:=p }).out.length=r1.out.length:=eo ..;have R4:=Y2 ke { f:=r2,t:=g.out.length,k:=1,at_:=p } (by simp only[]; omega) (by omega)
   have N4:∀ (z:Nat) es,(z:Int)≠r2→Lds r1 z es→Lds (r1.edge { f:=r2,t:=g.out.length,k:=1,at_:=p }) z es:=fun z es hx h=>G8 h _ (by simp only[]; omega)
   generalize r1.edge { f:=r2,t:=g.out.length,k:=1,at_:=p } = g3 at *;have H5:=Y2 (j7 (N4 _ _ (by omega) H3)) (tEd n g.out.length g3.out.length x y q false p) rfl (by rw[po]; omega)
   have N5:∀ z es,z≠g.out.length→Lds g3 z es→Lds (g3.point.edge (tEd n g.out.length g3.out.length x y q false p)) z es:=fun z es hx h=>G8 (j7 h) _ (by show _≠(g.out.length:Int).toNat; omega)
   have l5:(g3.point.edge (tEd n g.out.length g3.out.length x y q false p)).out.length=g3.out.length + 1:=by rw[eo,po]
   generalize g3.point.edge (tEd n g.out.length g3.out.length x y q false p)=g4 at *;refine ⟨by simp only[]; omega,fun z es hx hne h=>N5 z es (by omega) (N4 z es (by omega) (k.old z es (by omega) (by omega) (O2 z es hx (O1 z es hx hne h)))),by simp,by simp only[]; omega,.inr (by simp only[]; omega),?_,fun z hx hor hne=>?_⟩
   ·simp only[Int.toNat_natCast];exact N5 _ _ (by omega) (Q8 (Nat.le_refl _))
   ·simp only[] at hx hne
    by_cases c1:z=a
    ·subst c1;exact ⟨_,N5 _ _ (by omega) (N4 _ _ (by omega) A3),.one (by simp) (by simp)⟩
    by_cases c2:z=g.out.length
    ·subst c2;exact ⟨_,H5,qic⟩
    by_cases c3:(z:Int)=r2
    ·subst c3;rw[Int.toNat_natCast] at R4;exact ⟨_,N5 _ _ (by omega) R4,.one (by simp) (by simp)⟩
    obtain ⟨es,e1,e2⟩:=k.fk z (by simp only[]; omega) (by omega) c3;exact ⟨es,N5 _ _ c2 (N4 _ _ c3 e1),e2⟩
theorem Zh (n:Nat) {vs:List (List UInt8)}:∀ (l:List Sm),Sms.fit vs l→∀ {g:Gb} {a:Nat},a < g.out.length→Lds g a []→Bd g a (Sms.bld n l g a)
 | [],_,g,a,ha,hL=>q4m ha hL
 | s :: l,hf,g,a,ha,hL=>by
   have h:=zg0 n s hf.1 (g:=g.start s.at_.b a) ha (vS rfl rfl hL);have h:Bd g a (s.bld n (g.start s.at_.b a) a):=⟨h.len,fun x es hx hne hh=>h.old x es hx hne (vS rfl rfl hh),h.b0,h.b1,h.bn,h.en,h.fk⟩;show Bd g a (Sms.bld n l (s.bld n (g.start s.at_.b a) a).1 (s.bld n (g.start s.at_.b a) a).2);have b0:=h.b0;have b1:=h.b1;have k:=Zh n l hf.2 (g:=(s.bld n (g.start s.at_.b a) a).1) (a:=(s.bld n (g.start s.at_.b a) a).2.toNat) (by omega) h.en;rw[Int.toNat_of_nonneg b0] at k;exact h.trans k
theorem qyc (n:Nat) (p:Pl) (mn:Int) {vs:List (List UInt8)}:∀ (l:List Bl),Bls.fit vs l→∀ (i:Int) {g:Gb} {a:Nat} {es0:List Ed},a < g.out.length→Lds g a es0→
 ∃ ts:List Int,ts.length=l.length∧Lds (Bls.bld n p a mn i l g).1 a (es0++ts.mapIdx fun k t=>{ f:=a,t,k:=5,tk:=i + k,mn,at_:=p })∧g.out.length≤(Bls.bld n p a mn i l g).1.out.length ∧
   (∀ x es,x < g.out.length→x≠a→Lds g x es→Lds (Bls.bld n p a mn i l g).1 x es) ∧
   (∀ x,g.out.length≤x→x < (Bls.bld n p a mn i l g).1.out.length→(x:Int) ∉ (Bls.bld n p a mn i l g).2→∃ es,Lds (Bls.bld n p a mn i l g).1 x es∧FkE es) ∧
   (∀ b∈(Bls.bld n p a mn i l g).2,(g.out.length:Int)≤b∧b < (Bls.bld n p a mn i l g).1.out.length∧Lds (Bls.bld n p a mn i l g).1 b.toNat [])∧(Bls.bld n p a mn i l g).2.Pairwise (· < ·)∧True
 | [],_,i,g,a,es0,ha,hL=>by
   simp only[Bls.bld];exact ⟨[],rfl,by simpa using hL,Nat.le_refl _,fun _ _ _ _ h=>h,fun x h1 h2=>absurd h1 (Nat.not_le.2 h2),fun b hb=>(by cases hb),List.Pairwise.nil,trivial⟩
 | .mk q b :: l,hf,i,g,a,es0,ha,hL=>by
   simp only[Bls.bld]
   have l1:(g.point.edge { f:=a,t:=g.out.length,k:=5,tk:=i,mn,at_:=p }).out.length=g.out.length + 1:=by rw[eo,po]
   have A1:=Y2 (j7 hL) { f:=a,t:=g.out.length,k:=5,tk:=i,mn,at_:=p } rfl (by rw[po]; omega);have H1:=G8 (j7 (Q8 (g:=g) (Nat.le_refl _))) { f:=a,t:=g.out.length,k:=5,tk:=i,mn,at_:=p } (by simp only[]; omega)
   have O1:∀ x es,x < g.out.length→x≠a→Lds g x es→Lds (g.point.edge { f:=a,t:=g.out.length,k:=5,tk:=i,mn,at_:=p }) x es:=fun x es hx hne h=>G8 (j7 h) _ (by simp only[]; omega)
   generalize g.point.edge { f:=a,t:=g.out.length,k:=5,tk:=i,mn,at_:=p } = g1 at *;have k:=Zh n b hf.1 (g:=g1) (a:=g.out.length) (by omega) H1;generalize Sms.bld n b g1 g.out.length=r at *;obtain ⟨r1,r2⟩:=r;have kl:=k.len;have k0:=k.b0;have k1:=k.b1;have kn:=k.bn;have ke:=k.en;simp only[] at kl k0 k1 kn ke ⊢;have A2:=k.old a _ (by omega) (by omega) A1;obtain ⟨ts,t1,t2,t3,t4,t5,t6,t7,_⟩:=qyc n p mn l hf.2 (i + 1) (g:=r1) (a:=a) (by omega) A2;generalize Bls.bld n p a mn (i + 1) l r1=z at *;obtain ⟨z1,z2⟩:=z;simp only[] at *;refine ⟨(g.out.length:Int) :: ts,by simp[t1],?_,by omega,fun x es hx hne h=>t4 x es (by omega) hne (k.old x es (by omega) (by omega) (O1 x es hx hne h)),fun x h1 h2 h3=>?_,fun c hc=>?_,?_,trivial⟩
   ·rw[List.append_assoc] at t2;rw[List.mapIdx_cons];simp only[List.cons_append,List.nil_append,Int.natCast_add,Int.cast_ofNat_Int,Int.add_zero] at t2 ⊢
    have e:(List.mapIdx (fun k t=>({ f:=a,t,k:=5,tk:=i + (k + 1),mn,at_:=p }:Ed)) ts)=List.mapIdx (fun k t=>({ f:=a,t,k:=5,tk:=i + 1 + k,mn,at_:=p }:Ed)) ts:=by
     congr 1; funext k t; congr 1; omega
    rw[e];exact t2
   ·rw[List.mem_cons,not_or] at h3
    by_cases c:x < r1.out.length
    ·obtain ⟨es,e1,e2⟩:=k.fk x c (by omega) h3.1;exact ⟨es,t4 x es c (by omega) e1,e2⟩
    ·exact t5 x (by omega) h2 h3.2
   ·rcases List.mem_cons.1 hc with rfl | hc
    ·exact ⟨by omega,by omega,t4 _ _ (by omega) (by omega) ke⟩
    ·obtain ⟨d1,d2,d3⟩:=t6 c hc;exact ⟨by omega,d2,d3⟩
   ·rw[List.pairwise_cons];exact ⟨fun c hc=>by have:=t6 c hc; omega,t7⟩
end
end Go.Rf
