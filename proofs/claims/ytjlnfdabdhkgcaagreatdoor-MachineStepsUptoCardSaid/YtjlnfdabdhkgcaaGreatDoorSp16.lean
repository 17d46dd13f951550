/- Parts of the proof: SpQ8, SpQA, SpQB, SpQC, SpV1, SpQD, SpZ1, SpZ2, SpZ3, SpZ4, SpZ5, SpZ6, SpZ7, SpZ8, SpZ9, SpZA, SpZB, SpZC, SpZD, SpZE, SpZF. -/
import Derived.Test.YtjlnfdabdhkgcaaGreatDoorRb2
import Derived.Test.YtjlnfdabdhkgcaaGreatDoorSp15
import Derived.Test.YtjlnfdabdhkgcaaGreatDoorSp11
import Derived.Test.YtjlnfdabdhkgcaaGreatDoorSp8

set_option linter.unusedSimpArgs false
set_option linter.unusedVariables false
set_option linter.unnecessarySimpa false
set_option linter.unusedSectionVars false
set_option linter.all false
namespace Go.Rf
set_option maxHeartbeats 32000000
theorem qot (bs:List Bg) (hb:bs.length≤1000) (hn:∀ b∈bs,nl b.n≤32):∀ d i (e:List (Nat × V)),d + i=bs.length→
 i9 T0 X0 0 M7 (some (.nrm,⟨(3,.ref (.b 0) ⟨4,56⟩ 0 i) :: (9,.d (.sl (LD bgL bs))) :: (10,.d (.int .i64 bs.length)) :: (11,.d (.int .i64 i)) :: e,[.arr (LW bgL (bs.take i)) ⟨4,56⟩]⟩)) =
  some (.exit 0,⟨[(3,.ref (.b 0) ⟨4,56⟩ 0 bs.length)],[.arr (LW bgL bs) ⟨4,56⟩]⟩):=by
 intro d
 induction d with
 | zero=>
   intro i e hi
   have:i=bs.length:=by omega
   subst this;rw[List.take_length,c9 (l:=M7) rfl];simp -implicitDefEqProofs (disch:=omega) [W3]
 | succ d ih=>
   intro i e hi
   have hlt:i < bs.length:=by omega
   have hget:=qfd hlt;have s1:=kN (m:=(bs[i]).n) (by have:=hn _ (List.getElem_mem hlt); omega);have hnl:=hn _ (List.getElem_mem hlt);unfold nl at hnl
   have hnx:LW bgL (bs.take i)++[.d (.agg (bs[i]).cs)]=LW bgL (bs.take (i + 1)):=by
    rw[List.take_succ_eq_append_getElem hlt];exact vz bgL _ _
   have hlen:(bs.take i).length=i:=by simp; omega
   rw[← ih (i + 1) [] (by omega)];rw[c9 (l:=M7) rfl];rw[← hnx];generalize bs[i]=b at *;generalize bs.take i=ys at *;have htk:ys.take i=ys:=List.take_of_length_le (by omega);have happ:=KM ys b;simp only[Bg.cs,Wd] at hget s1 happ ⊢;simp (maxSteps:=4000000) -implicitDefEqProofs (disch:=omega) [W3,hget,hlen,htk,s1,happ]
theorem qos (g:Pg) (hb:g.bs.length≤1000) (hn:∀ b∈g.bs,nl b.n≤32):d5 T0 X0 XZ [g.d] []=some (.ret [.d (.sl (LD bgL g.bs))] []):=by
 have s1:=qot g.bs hb hn g.bs.length 0 [] rfl;rw[c8 (af:=qI) rfl rfl rfl];unfold Pg.d Pg.cs;simp only[List.take_zero,qfr,Int.cast_ofNat_Int] at s1;simp (maxSteps:=4000000) -implicitDefEqProofs (disch:=omega) [qI,s1]
def LO (l:List (List Int)):List D:=l.map fun x=>.sl (LD inL x)
theorem q8l (l:List (List Int)):qjy (xV l)=some (LO l):=by
 induction l with
 | nil=>rfl
 | cons x l ih=>
   show (if wl (LD inL x)≤8 then (qjy (xV l)).map _ else none)=_;rw[if_pos (by simp),ih];rfl
attribute [simp] q8l
def Gb.d (g:Gb):D:=.box (.agg [.sl (SL g.vs),.sl (LD bgL g.bs),.int .i64 g.ex,.sl (LD edL g.edges),.sl (LO g.out),.sl (LO g.inn),.sl (LD txL g.marks),.sl (LD inL g.md),.nilm,.nilm])
def GG (g:Gb):List Obj:=
 [.arr [.agg [.d (.sl (SL g.vs)),.d (.sl (LD bgL g.bs)),.d (.int .i64 g.ex),.ref (.b 1) ⟨15,160⟩ 0 g.edges.length,.ref (.b 2) ⟨1,24⟩ 0 g.out.length,.ref (.b 3) ⟨1,24⟩ 0 g.inn.length,.ref (.b 4) ⟨1,16⟩ 0 g.marks.length,.ref (.b 5) ⟨1,8⟩ 0 g.md.length,.map (.b 6),.map (.b 7)]] ⟨10,0⟩,
  .arr (LW edL g.edges) ⟨15,160⟩,.lol (xV g.out),.lol (xV g.inn),.arr (LW txL g.marks) ⟨1,16⟩,.arr (LW inL g.md) ⟨1,8⟩,.map (Xk g.st),.map (Xk g.hd)]
theorem qxl (g:Gb) (h:g.out.length≤1000000):d5 T0 X0 JW [.ptr (.b 0) 0 0] (GG g)=some (.ret [.d (.int .i64 g.out.length)] (GG g)):=by
 rw[c8 (af:=zF) rfl rfl rfl];simp only[GG];simp (maxSteps:=4000000) -implicitDefEqProofs (disch:=omega) [zF]
def G0 (vs:List (List UInt8)) (bs:List Bg):List Obj:=
 [.arr [.agg [.ptr (.b 1) 0 0,.d (.bool false)]] ⟨2,0⟩,
  .arr [.agg [.d (.sl (SL vs)),.d (.sl (LD bgL bs)),.d (.int .i64 0),.ref (.b 2) ⟨15,160⟩ 0 0,.ref (.b 3) ⟨1,24⟩ 0 0,.ref (.b 4) ⟨1,24⟩ 0 0,.ref (.b 5) ⟨1,16⟩ 0 0,.ref (.b 6) ⟨1,8⟩ 0 0,.map (.b 7),.map (.b 8)]] ⟨10,0⟩,
  .arr [] ⟨15,160⟩,.arr [] ⟨1,24⟩,.arr [] ⟨1,24⟩,.arr [] ⟨1,16⟩,.arr [] ⟨1,8⟩,.map [],.map []]
def gb0 (vs:List (List UInt8)) (bs:List Bg):Gb:={ vs,bs }
theorem qmh (vs:List (List UInt8)) (bs:List Bg):d5 T0 X0 L3 [.ptr (.b 0) 0 0] (G0 vs bs)=some (.ret [.d (.int .i64 0)] (GH (gb0 vs bs).point true false false)):=by
 rw[c8 (af:=L5) rfl rfl rfl];simp only[G0,GH,Gb.point,gb0,j6,k8,List.cons_append,List.nil_append,List.append_nil];simp (maxSteps:=4000000) -implicitDefEqProofs (disch:=omega) [L5,xV,Xk]
end Go.Rf

namespace Go.Rf
set_option maxHeartbeats 8000000
def Gb.outN (g:Gb) (p:Int):List Int:=if 0≤p∧p < g.out.length then g.out.getD p.toNat [] else []
@[simp] theorem LO_len (l):(LO l).length=l.length:=by simp[LO]
theorem zb0 {l:List (List Int)} {i:Nat} (h:i < l.length):(LO l)[i]? = some (.sl (LD inL (l.getD i []))):=by simp[LO,h]
theorem zf1 (l:List (List Int)):wl (LO l)≤24:=by
 induction l with
 | nil=>decide
 | cons x l ih=>show max (wt (.sl _)) (wl (LO l))≤24; exact Nat.max_le.2 ⟨by simp[wt],ih⟩
@[simp] theorem fit_LO {n:Nat} (l) (h:n≤1099511627776):(n * wl (LO l)≤D2)=True:=eq_true (Nat.le_trans (Nat.mul_le_mul h (zf1 l)) (by decide))
@[simp] theorem fit_ed {n:Nat} (l) (h:n≤100000000):(n * wl (LD edL l)≤D2)=True:=eq_true (Nat.le_trans (Nat.mul_le_mul h (qv0 edL l)) (by decide))
theorem q4v (g:Gb) (p:Int) (h:g.out.length≤1000000):d5 T0 X0 WF [.d g.d,.d (.int .i64 p)] []=some (.ret [.d (.bool (decide (0≤p∧p < g.out.length)))] []):=by
 rw[c8 (af:=V1) rfl rfl rfl];simp only[Gb.d]
 by_cases h0:0≤p
 ·by_cases h1:p < g.out.length
  ·simp -implicitDefEqProofs (disch:=omega) [V1,h0,h1]
  ·simp -implicitDefEqProofs (disch:=omega) [V1,h0,h1]
 ·simp -implicitDefEqProofs (disch:=omega) [V1,h0]
theorem qr5 (g:Gb) (p:Int) (h:g.out.length≤1000000) (hl:∀ i,(g.out.getD i []).length≤1000000):d5 T0 X0 WE [.d g.d,.d (.int .i64 p)] []=some (.ret [.d (.sl (LD inL (g.outN p)))] []):=by
 have s1:=q4v g p h;rw[c8 (af:=qW) rfl rfl rfl];unfold Gb.outN
 by_cases hp:0≤p∧p < g.out.length
 ·obtain ⟨k,rfl⟩:=Int.eq_ofNat_of_zero_le hp.1;rw[if_pos hp]
  have hk:k < g.out.length:=by omega
  have hget:=zb0 hk;have:=hl k;simp only[Gb.d,hp,decide_true,Int.toNat_natCast] at s1 ⊢;generalize g.out.getD k []=xs at *;generalize LO g.out=lo at *;simp -implicitDefEqProofs (disch:=omega) [qW,s1,hget]
 ·rw[if_neg hp];simp only[Gb.d,hp,decide_false] at s1 ⊢;simp -implicitDefEqProofs (disch:=omega) [qW,s1]
def Ed.a (e:Ed):List D:=[.int .i64 e.f,.int .i64 e.t,.int .i64 e.k,.int .i64 e.v,.int .i64 e.tk,.int .i64 e.mn,.sl (WL e.row),.int .i64 e.at_.b,.int .i64 e.at_.g,.int .i64 e.at_.l,.int .i64 e.at_.c]
theorem qkx {l:List Ed} {i:Nat} (h:i < l.length):(LD edL l)[i]? = some (.agg (l[i]).cs):=Zl edL l h
theorem qa2 (g:Gb) {i:Nat} (hi:i < g.edges.length):d5 T0 X0 YG [.d g.d,.d (.int .i64 i)] []=some (.ret [.d (.agg (g.edges[i]).a)] []):=by
 have hget:=qkx hi;rw[c8 (af:=jg) rfl rfl rfl];simp only[Gb.d];generalize g.edges[i]=e at *;generalize LD edL g.edges=es at *;simp only[Ed.cs,Ed.a] at hget ⊢;simp -implicitDefEqProofs (disch:=omega) [jg,hget]
theorem q2k (g:Gb) (h:g.vs.length≤1000000):d5 T0 X0 YE [.d g.d] []=some (.ret [.d (.sl (SL g.vs))] []):=by
 rw[c8 (af:=jf) rfl rfl rfl];simp only[Gb.d];simp -implicitDefEqProofs (disch:=omega) [jf]
end Go.Rf

namespace Go.Rf
set_option maxHeartbeats 16000000
@[simp] theorem fitC_oD (x:Option Nd):JS (oD x)=true:=by cases x with
  | none=>rfl
  | some x=>cases x <;> rfl
theorem qq1 (xs:List Int) (hb:xs.length≤1000000) (hn:∀ n∈xs,nl n≤512):∀ d i (e:List (Nat × V)),d + i=xs.length→
 i9 T0 X0 0 m9 (some (.nrm,⟨(1,.d (.fn M5 [])) :: (5,.ref (.b 0) ⟨2,32⟩ 0 i) :: (11,.d (.sl (WL xs))) :: (12,.d (.int .i64 xs.length)) :: (13,.d (.int .i64 i)) :: e,[.arr (WV (xs.take i)) ⟨2,32⟩]⟩)) =
  some (.exit 0,⟨[(5,.ref (.b 0) ⟨2,32⟩ 0 xs.length)],[.arr (WV xs) ⟨2,32⟩]⟩):=by
 intro d
 induction d with
 | zero=>
   intro i e hi
   have:i=xs.length:=by omega
   subst this;rw[List.take_length,c9 (l:=m9) rfl];simp -implicitDefEqProofs (disch:=omega) [w4]
 | succ d ih=>
   intro i e hi
   have hlt:i < xs.length:=by omega
   have hget:=qk9 hlt
   have hx:nth xs i=xs[i]:=by simp[nth,hlt]
   have s1:=kN (m:=nth xs i) (by rw[hx]; have:=hn _ (List.getElem_mem hlt); omega);have hnl:=hn _ (List.getElem_mem hlt);rw[← hx] at hnl;unfold nl at hnl
   have hnx:WV (xs.take i)++[.d (Wd (nth xs i))]=WV (xs.take (i + 1)):=by
    rw[List.take_succ_eq_append_getElem hlt,hx];exact XL _ _
   have hlen:(xs.take i).length=i:=by simp; omega
   rw[← ih (i + 1) [] (by omega)];rw[c9 (l:=m9) rfl];rw[← hnx];generalize nth xs i=b at *;generalize xs.take i=ys at *;have htk:ys.take i=ys:=List.take_of_length_le (by omega);have happ:=XL ys b;simp only[Wd] at hget s1 happ ⊢;simp (maxSteps:=4000000) -implicitDefEqProofs (disch:=omega) [-WS,w4,hget,hlen,htk,s1,happ]
theorem qe2 (xs:List Int) (hb:xs.length≤1000000) (hn:∀ n∈xs,nl n≤512):d5 T0 X0 U7 [.d (.sl (WL xs)),.d (.fn M5 [])] []=some (.ret [.ref (.b 0) ⟨2,32⟩ 0 xs.length] [.arr (WV xs) ⟨2,32⟩]):=by
 have s1:=qq1 xs hb hn xs.length 0 [] rfl;rw[c8 (af:=A0) rfl rfl rfl];simp only[List.take_zero,qa9,Int.cast_ofNat_Int] at s1;simp (maxSteps:=4000000) -implicitDefEqProofs (disch:=omega) [A0,s1]
theorem qn7 (e:Ed) (hb:e.row.length≤1000000) (hn:∀ n∈e.row,nl n≤512):d5 T0 X0 E7 [.d (.agg e.cs)] []=some (.ret [.d (.agg e.a)] []):=by
 have s1:=qe2 e.row hb hn;rw[c8 (af:=qL) rfl rfl rfl];simp only[Ed.cs,Ed.a];simp (maxSteps:=4000000) -implicitDefEqProofs (disch:=omega) [qL,s1]
def eaL:Lst Ed:=⟨fun e=>.agg e.a,⟨11,104⟩,fun e=>by simp[wt,wts,Ed.a,IntKind.bits],fun e=>rfl,by decide⟩
@[simp] theorem wl_ea (l):(wl (LD eaL l)≤104)=True:=Yg eaL l
theorem qq5 (es:List Ed) (hb:es.length≤1000000) (hn:∀ e∈es,e.row.length≤1000000 ∧ ∀ n∈e.row,nl n≤512):∀ d i (e:List (Nat × V)),d + i=es.length→
 i9 T0 X0 0 B0 (some (.nrm,⟨(1,.d (.fn E7 [])) :: (5,.ref (.b 0) ⟨11,104⟩ 0 i) :: (11,.d (.sl (LD edL es))) :: (12,.d (.int .i64 es.length)) :: (13,.d (.int .i64 i)) :: e,[.arr (LW eaL (es.take i)) ⟨11,104⟩]⟩)) =
  some (.exit 0,⟨[(5,.ref (.b 0) ⟨11,104⟩ 0 es.length)],[.arr (LW eaL es) ⟨11,104⟩]⟩):=by
 intro d
 induction d with
 | zero=>
   intro i e hi
   have:i=es.length:=by omega
   subst this;rw[List.take_length,c9 (l:=B0) rfl];simp -implicitDefEqProofs (disch:=omega) [F3]
 | succ d ih=>
   intro i e hi
   have hlt:i < es.length:=by omega
   have hget:=qkx hlt;have hn1:=hn _ (List.getElem_mem hlt);have s1:=qn7 es[i] hn1.1 hn1.2
   have hnx:LW eaL (es.take i)++[.d (.agg (es[i]).a)]=LW eaL (es.take (i + 1)):=by
    rw[List.take_succ_eq_append_getElem hlt];exact vz eaL _ _
   have hlen:(es.take i).length=i:=by simp; omega
   rw[← ih (i + 1) [] (by omega)];rw[c9 (l:=B0) rfl];rw[← hnx];generalize es[i]=b at *;generalize es.take i=ys at *;have htk:ys.take i=ys:=List.take_of_length_le (by omega);have happ:LW eaL ys++[.d (.agg b.a)]=LW eaL (ys++[b]):=vz eaL ys b;simp only[Ed.cs,Ed.a] at hget s1 happ ⊢;simp (maxSteps:=4000000) -implicitDefEqProofs (disch:=omega) [F3,hget,hlen,htk,s1,happ]
theorem qq4 (es:List Ed) (hb:es.length≤1000000) (hn:∀ e∈es,e.row.length≤1000000 ∧ ∀ n∈e.row,nl n≤512):d5 T0 X0 jI [.d (.sl (LD edL es)),.d (.fn E7 [])] []=some (.ret [.d (.sl (LD eaL es))] []):=by
 have s1:=qq5 es hb hn es.length 0 [] rfl;rw[c8 (af:=J7) rfl rfl rfl];simp only[List.take_zero,qfr,Int.cast_ofNat_Int] at s1;simp (maxSteps:=4000000) -implicitDefEqProofs (disch:=omega) [J7,s1]
theorem q2z (g:Gb) (hb:g.edges.length≤1000000) (hn:∀ e∈g.edges,e.row.length≤1000000 ∧ ∀ n∈e.row,nl n≤512):d5 T0 X0 KY [.d g.d] []=some (.ret [.d (.sl (LD eaL g.edges))] []):=by
 have s1:=qq4 g.edges hb hn;rw[c8 (af:=xv) rfl rfl rfl];simp only[Gb.d];simp (maxSteps:=4000000) -implicitDefEqProofs (disch:=omega) [xv,s1]
end Go.Rf

namespace Go.Rf
set_option maxHeartbeats 16000000
def Ed.pure (e:Ed):Bool:=decide (e.k≠4) && decide (e.k≠6)
def Gb.pure (g:Gb):Bool:=g.edges.all Ed.pure
theorem qt5 (es:List Ed) (hb:es.length≤1000000):∀ d i (e:List (Nat × V)),d + i=es.length→
 i9 T0 X0 0 S9 (some (.nrm,⟨(8,.d (.sl (LD edL es))) :: (9,.d (.int .i64 es.length)) :: (10,.d (.int .i64 i)) :: e,[]⟩)) =
  some (if (es.drop i).all Ed.pure then (.exit 0,⟨[],[]⟩) else (.ret,⟨[(2,.d (.bool false))],[]⟩)):=by
 intro d
 induction d with
 | zero=>
   intro i e hi
   have:i=es.length:=by omega
   subst this;rw[List.drop_length,c9 (l:=S9) rfl];simp -implicitDefEqProofs (disch:=omega) [L6]
 | succ d ih=>
   intro i e hi
   have hlt:i < es.length:=by omega
   have hget:=qkx hlt;have hdr:es.drop i=es[i] :: es.drop (i + 1):=List.drop_eq_getElem_cons hlt;rw[hdr];rw[c9 (l:=S9) rfl];have s2:=ih (i + 1) [] (by omega);generalize es[i]=b at *;have hu:(b :: es.drop (i + 1)).all Ed.pure=(b.pure && (es.drop (i + 1)).all Ed.pure):=rfl;rw[hu];generalize (es.drop (i + 1)).all Ed.pure=q at *;simp only[Ed.cs] at hget;unfold Ed.pure;push_cast at s2
   by_cases h4:b.k=4
   ·simp (maxSteps:=4000000) -implicitDefEqProofs (disch:=omega) [L6,hget,h4]
   ·by_cases h6:b.k=6
    ·simp (maxSteps:=4000000) -implicitDefEqProofs (disch:=omega) [L6,hget,h4,h6]
    ·simp (maxSteps:=4000000) -implicitDefEqProofs (disch:=omega) [L6,hget,h4,h6,s2]
theorem q7e (g:Gb) (hb:g.edges.length≤1000000):d5 T0 X0 YF [.d g.d] []=some (.ret [.d (.bool g.pure)] []):=by
 have s1:=qt5 g.edges hb g.edges.length 0 [] rfl;rw[c8 (af:=ql) rfl rfl rfl];simp only[Gb.d];simp only[List.drop_zero,Int.cast_ofNat_Int] at s1;rw[show g.edges.all Ed.pure=g.pure from rfl] at s1
 cases hp:g.pure <;> simp only[hp,if_true,if_false,Bool.false_eq_true] at s1
 ·simp (maxSteps:=4000000) -implicitDefEqProofs (disch:=omega) [ql,s1]
 ·simp (maxSteps:=4000000) -implicitDefEqProofs (disch:=omega) [ql,s1]
theorem qk4 (b:Bg) (hn:nl b.n≤40):d5 T0 X0 D1 [.d (.agg b.cs)] []=some (.ret [.d (.agg b.cs)] []):=by
 have s1:=kN (m:=b.n) (by omega);unfold nl at hn;rw[c8 (af:=qo) rfl rfl rfl];simp only[Bg.cs,Wd] at s1 ⊢;simp (maxSteps:=4000000) -implicitDefEqProofs (disch:=omega) [qo,s1]
theorem qq7 (bs:List Bg) (hb:bs.length≤1000) (hn:∀ b∈bs,nl b.n≤40∧b.name.length≤1000000):∀ d i (e:List (Nat × V)),d + i=bs.length→
 i9 T0 X0 0 B1 (some (.nrm,⟨(1,.d (.fn D1 [])) :: (5,.ref (.b 0) ⟨4,56⟩ 0 i) :: (11,.d (.sl (LD bgL bs))) :: (12,.d (.int .i64 bs.length)) :: (13,.d (.int .i64 i)) :: e,[.arr (LW bgL (bs.take i)) ⟨4,56⟩]⟩)) =
  some (.exit 0,⟨[(5,.ref (.b 0) ⟨4,56⟩ 0 bs.length)],[.arr (LW bgL bs) ⟨4,56⟩]⟩):=by
 intro d
 induction d with
 | zero=>
   intro i e hi
   have:i=bs.length:=by omega
   subst this;rw[List.take_length,c9 (l:=B1) rfl];simp -implicitDefEqProofs (disch:=omega) [F4]
 | succ d ih=>
   intro i e hi
   have hlt:i < bs.length:=by omega
   have hget:=qfd hlt;have hn1:=hn _ (List.getElem_mem hlt);have s1:=qk4 bs[i] hn1.1
   have hnx:LW bgL (bs.take i)++[.d (.agg (bs[i]).cs)]=LW bgL (bs.take (i + 1)):=by
    rw[List.take_succ_eq_append_getElem hlt];exact vz bgL _ _
   have hlen:(bs.take i).length=i:=by simp; omega
   rw[← ih (i + 1) [] (by omega)];rw[c9 (l:=B1) rfl];rw[← hnx];generalize bs[i]=b at *;generalize bs.take i=ys at *;have htk:ys.take i=ys:=List.take_of_length_le (by omega);have happ:=KM ys b;have hlg:b.name.length≤long:=Nat.le_trans hn1.2 (by decide);have hn2:=hn1.1;unfold nl at hn2;simp only[Bg.cs] at hget s1 happ ⊢;simp (maxSteps:=4000000) -implicitDefEqProofs (disch:=omega) [F4,hget,hlen,htk,s1,happ,hlg]
theorem qq6 (bs:List Bg) (hb:bs.length≤1000) (hn:∀ b∈bs,nl b.n≤40∧b.name.length≤1000000):d5 T0 X0 jJ [.d (.sl (LD bgL bs)),.d (.fn D1 [])] []=some (.ret [.d (.sl (LD bgL bs))] []):=by
 have s1:=qq7 bs hb hn bs.length 0 [] rfl;rw[c8 (af:=J8) rfl rfl rfl];simp only[List.take_zero,qfr,Int.cast_ofNat_Int] at s1;simp (maxSteps:=4000000) -implicitDefEqProofs (disch:=omega) [J8,s1]
theorem qhp (g:Gb) (hb:g.bs.length≤1000) (hn:∀ b∈g.bs,nl b.n≤40∧b.name.length≤1000000):d5 T0 X0 JX [.d g.d] []=some (.ret [.d (.sl (LD bgL g.bs))] []):=by
 have s1:=qq6 g.bs hb hn;rw[c8 (af:=zG) rfl rfl rfl];simp only[Gb.d];simp (maxSteps:=4000000) -implicitDefEqProofs (disch:=omega) [zG,s1]
end Go.Rf

namespace Go.Rf
theorem qvk {ws:List RWh} (h:StOk ws) {f:List Int} (hf:∀ i,nl (nth f i)≤4194304) (hl:f.length=ws.length + 1) (hw:ws.length≤16) :
 d5 T0 X0 Kc [.d (.sl (WL f)),.d (.sl (RL ws))] []=some (.ret [.d (Wd (KP f (stV ws) ws.length + nth f ws.length)),.d (.int .i64 0)] []):=by
 have s1:=qwe h hf (by omega) hw (by omega);have hb:=qi1 hf (qcz h) ws.length;have hfl:=hf ws.length;have s2:=WW (m:=KP f (stV ws) ws.length) (n:=nth f ws.length) (by omega) (by omega);rw[c8 (af:=Qj) rfl rfl rfl];simp -implicitDefEqProofs (disch:=omega) [Qj,s1,s2,hl]
end Go.Rf

namespace Go.Rf
set_option maxHeartbeats 16000000
@[simp] theorem fitV_oD (x:Option Nd):P6 (.d (oD x))=true:=by cases x with
  | none=>rfl
  | some x=>cases x <;> rfl
structure Ed.rOk (n:Nat) (e:Ed):Prop where
 x:e.k=4→∃ x,e.x=some x∧x.fine n∧x.w < 134217728
 l:e.k=6→∃ l,e.l=some l∧l.fine n∧l.w < 134217728
 r:e.k=6→∃ l,e.r=some l∧l.fine n∧l.w < 134217728
def KZ (ws:List RWh) (x:Option Nd):Int × Int:=match x with
 | some x=>zc (C1 (stV ws) x)
 | none=>(0,1)
theorem Zt (ws x):nl (KZ ws x).1≤512:=by
 cases x with
 | none=>show nl 0≤512; decide
 | some x=>exact ZP _
def qmf (a b:Int × Int):Int × Int × Int:=if a.2≠0 then (0,0,a.2) else if b.2≠0 then (0,0,b.2) else (a.1,b.1,0)
def Ed.reck (ws:List RWh) (e:Ed):Int × Int × Int:=
 if e.k=4 then ((KZ ws e.x).1,0,(KZ ws e.x).2)
 else if e.k=6 then qmf (KZ ws e.l) (KZ ws e.r)
 else (0,0,1)
def Gb.reck (g:Gb) (i:Int) (ws:List RWh):Int × Int × Int:=
 if 0≤i then if i < g.edges.length then if ws.length=g.vs.length then (match g.edges[i.toNat]? with | some e=>e.reck ws | none=>(0,0,1)) else (0,0,1) else (0,0,1) else (0,0,1)
theorem Yp {ws:List RWh} (h:StOk ws) {x:Option Nd} (hx:∃ y,x=some y∧y.fine ws.length∧y.w < 134217728) :
 d5 T0 X0 M6 [.d (oD x),.d (.sl (RL ws))] []=some (.ret [.d (Wd (KZ ws x).1),.d (.int .i64 (KZ ws x).2)] []):=by
 obtain ⟨y,rfl,h1,h2⟩:=hx;exact qt1 h y h1 h2
theorem qqp (g:Gb) (i:Int) {ws:List RWh} (h:StOk ws) (hb:g.edges.length≤1000000) (hv:g.vs.length≤1000) (he:ws.length=g.vs.length→∀ e∈g.edges,e.rOk ws.length) :
 d5 T0 X0 wu [.d g.d,.d (.int .i64 i),.d (.sl (RL ws))] []=some (.ret [.d (Wd (g.reck i ws).1),.d (Wd (g.reck i ws).2.1),.d (.int .i64 (g.reck i ws).2.2)] []):=by
 have hwn:=h.n;rw[c8 (af:=v8) rfl rfl rfl];simp only[Gb.d];unfold Gb.reck
 by_cases h0:0≤i
 ·rw[if_pos h0]
  by_cases h1:i < g.edges.length
  ·rw[if_pos h1]
   by_cases h2:ws.length=g.vs.length
   ·rw[if_pos h2];obtain ⟨k,rfl⟩:=Int.eq_ofNat_of_zero_le h0
    have hk:k < g.edges.length:=by omega
    have hget:=qkx hk;have hok:=he h2 _ (List.getElem_mem hk)
    have hx:=fun p=>Yp h (hok.x p)
    have hl:=fun p=>Yp h (hok.l p)
    have hr:=fun p=>Yp h (hok.r p)
    have hge:g.edges[(k:Int).toNat]? = some g.edges[k]:=by rw[Int.toNat_natCast]; simp[hk]
    rw[hge];simp only[];generalize g.edges[k]=e at *;have n1:=Zt ws e.x;have n2:=Zt ws e.l;have n3:=Zt ws e.r;unfold Ed.reck;generalize KZ ws e.x=rx at *;generalize KZ ws e.l=rl at *;generalize KZ ws e.r=rr at *;obtain ⟨x1,x2⟩:=rx;obtain ⟨l1,l2⟩:=rl;obtain ⟨r1,r2⟩:=rr;simp only[Ed.cs] at hget
    by_cases h4:e.k=4
    ·have s1:=hx h4;rw[if_pos h4];simp (maxSteps:=4000000) -implicitDefEqProofs (disch:=omega) [v8,hget,h4,s1,h2]
    ·rw[if_neg h4]
     by_cases h6:e.k=6
     ·have s1:=hl h6;have s2:=hr h6;rw[if_pos h6];unfold qmf;simp only
      by_cases ha:l2=0
      ·subst ha
       by_cases hbb:r2=0
       ·subst hbb;simp (maxSteps:=4000000) -implicitDefEqProofs (disch:=omega) [v8,hget,h4,h6,s1,s2,h2]
       ·simp (maxSteps:=4000000) -implicitDefEqProofs (disch:=omega) [v8,hget,h4,h6,s1,s2,h2,hbb]
      ·simp (maxSteps:=4000000) -implicitDefEqProofs (disch:=omega) [v8,hget,h4,h6,s1,h2,ha]
     ·rw[if_neg h6];simp (maxSteps:=4000000) -implicitDefEqProofs (disch:=omega) [v8,hget,h4,h6,h2]
   ·rw[if_neg h2];simp (maxSteps:=4000000) -implicitDefEqProofs (disch:=omega) [v8,h1,h2]
  ·rw[if_neg h1];simp (maxSteps:=4000000) -implicitDefEqProofs (disch:=omega) [v8,h1]
 ·rw[if_neg h0];simp (maxSteps:=4000000) -implicitDefEqProofs (disch:=omega) [v8,h0]
end Go.Rf

namespace Go.Rf
set_option maxHeartbeats 16000000
structure Mc where
 g:Gb
 p:Int:=0
 steps:Int:=0
 used:Nat:=0
 st:List Int:=[]
 ch:List Int:=[]
def MH (m:Mc):List Obj:=
 [.arr [.agg [.d (.int .i64 m.p),.d (.int .i64 m.steps),.d (.int .i64 m.used),.ref (.b 1) ⟨2,32⟩ 0 m.st.length,.d m.g.d,.ref (.b 2) ⟨1,8⟩ 0 m.ch.length]] ⟨6,0⟩,
  .arr (WV m.st) ⟨2,32⟩,.arr (LW inL m.ch) ⟨1,8⟩]
def Mc.left (m:Mc):Bool:=decide (m.used < m.ch.length)
theorem KA (m:Mc) (h:m.ch.length≤1100000):d5 T0 X0 Xv [.ptr (.b 0) 0 0] (MH m)=some (.ret [.d (.bool m.left)] (MH m)):=by
 rw[c8 (af:=Q4) rfl rfl rfl];unfold Mc.left;simp only[MH]
 by_cases hl:m.used < m.ch.length
 ·simp (maxSteps:=4000000) -implicitDefEqProofs (disch:=omega) [Q4,hl]
 ·simp (maxSteps:=4000000) -implicitDefEqProofs (disch:=omega) [Q4,hl]
structure Lk where
 e:List D:=[.int .i64 0,.int .i64 0,.int .i64 0,.int .i64 0,.int .i64 0,.int .i64 0,.sl [],.int .i64 0,.int .i64 0,.int .i64 0,.int .i64 0]
 v:Int:=0
 c:Int:=0
 k:Int:=0
 w:Int:=0
def Lk.cs (l:Lk):List D:=l.e++[.bool (decide (l.v < 0)),.sl (L (d6 l.v.natAbs)),.int .i64 l.c,.int .i64 l.k,.int .i64 l.w]
def Lk.d (l:Lk):D:=.agg l.cs
@[simp] theorem zk4 (f cs):(V.d (.fn f cs)).cells=[.d (.fn f cs)]:=rfl
theorem qs7:d5 T0 X0 qet [] []=some (.ret [.d (.agg [.nilf,.fn C7 [],.fn E5 [],.fn A7 [],.fn C9 [],.fn C8 [],.fn C6 []])] []):=by
 rw[c8 (af:=Qb) rfl rfl rfl];simp (maxSteps:=4000000) -implicitDefEqProofs (disch:=omega) [Qb]
end Go.Rf

namespace Go.Rf
set_option maxHeartbeats 16000000
def ed0:Ed:={ f:=0,t:=0,k:=0,at_:=⟨0,0,0,0⟩ }
structure Look where
 e:Ed:=ed0
 v:Int:=0
 c:Int:=0
 k:Int:=0
 w:Int:=0
def Look.cs (l:Look):List D:=[.int .i64 l.e.f,.int .i64 l.e.t,.int .i64 l.e.k,.int .i64 l.e.v,.int .i64 l.e.tk,.int .i64 l.e.mn,.sl (WL l.e.row),.int .i64 l.e.at_.b,.int .i64 l.e.at_.g,.int .i64 l.e.at_.l,.int .i64 l.e.at_.c,.bool (decide (l.v < 0)),.sl (L (d6 l.v.natAbs)),.int .i64 l.c,.int .i64 l.k,.int .i64 l.w]
structure Outs (m:Mc) (i:Nat) (o:List Int):Prop where
 hi:i < m.g.edges.length
 hl:o.length≤1000000
 he:m.g.edges.length≤1000000
 hr:∀ e∈m.g.edges,e.row.length≤1000000
@[simp] theorem fitV_gd (g:Gb):P6 (.d g.d)=true:=rfl
theorem qi2 (w:Int):d5 T0 X0 qb5 [.d (.int .i64 w)] []=some (.ret [.d (.agg (Look.cs { k:=3,w:=w }))] []):=by
 rw[c8 (af:=wH) rfl rfl rfl];simp (maxSteps:=4000000) -implicitDefEqProofs (disch:=omega) [wH,Look.cs,ed0]
theorem q6p (m:Mc) {i:Nat} {r:List Int} (h:Outs m i ((i:Int) :: r)):d5 T0 X0 C7 [.ptr (.b 0) 0 0,.d (.sl (LD inL ((i:Int) :: r)))] (MH m)=some (.ret [.d (.agg (Look.cs { e:=m.g.edges[i]'h.hi }))] (MH m)):=by
 have s1:=qa2 m.g h.hi;have hr:=h.hr _ (List.getElem_mem h.hi);have hl:=h.hl;have h0:(LD inL ((i:Int) :: r))[0]? = some (.int .i64 i):=rfl;rw[c8 (af:=qe) rfl rfl rfl];generalize m.g.edges[i]'h.hi=e at *;simp only[MH,Ed.a,Look.cs] at s1 ⊢;simp (maxSteps:=4000000) -implicitDefEqProofs (disch:=omega) [qe,s1,h0]
theorem zbr (m:Mc) (hc:m.ch.length≤1100000) (o:List Int) (ho:o.length≤1000000) (hl:m.left=false):d5 T0 X0 A7 [.ptr (.b 0) 0 0,.d (.sl (LD inL o))] (MH m)=some (.ret [.d (.agg (Look.cs { k:=2 }))] (MH m)):=by
 have s1:=KA m hc;rw[hl] at s1;rw[c8 (af:=L4) rfl rfl rfl];simp only[MH,Look.cs,ed0] at s1 ⊢;simp (maxSteps:=4000000) -implicitDefEqProofs (disch:=omega) [L4,s1]
theorem qql {l:List Int} {i:Nat} (h:i < l.length):(LW inL l)[i]? = some (.d (.int .i64 l[i])):=by simp[LW,inL,h]
theorem zbq (m:Mc) (hc:m.ch.length≤1100000) {i:Nat} {r:List Int} (h:Outs m i ((i:Int) :: r)) (hl:m.used < m.ch.length) (hv:-9223372036854775808≤m.ch[m.used]∧m.ch[m.used]≤9223372036854775807) :
 d5 T0 X0 A7 [.ptr (.b 0) 0 0,.d (.sl (LD inL ((i:Int) :: r)))] (MH m)=some (.ret [.d (.agg (Look.cs { e:=m.g.edges[i]'h.hi,v:=m.ch[m.used],c:=1 }))] (MH m)):=by
 have s1:=KA m hc;rw[show m.left=true from decide_eq_true hl] at s1;have s2:=qa2 m.g h.hi;have s3:=kY hv;have hg:=qql hl;have hr:=h.hr _ (List.getElem_mem h.hi);have hol:=h.hl;have h0:(LD inL ((i:Int) :: r))[0]? = some (.int .i64 i):=rfl;rw[c8 (af:=L4) rfl rfl rfl];generalize m.g.edges[i]'h.hi=e at *;generalize m.ch[m.used]=x at *;simp only[MH,Ed.a,Look.cs,Wd] at s1 s2 s3 ⊢;simp (maxSteps:=4000000) -implicitDefEqProofs (disch:=omega) [L4,s1,s2,s3,h0,hg,hl]
theorem dz:decide ((0:Int) < 0)=false:=rfl
theorem lz:L (d6 ((Int.natAbs 0:Nat):Int))=[]:=rfl
def Y5 (g:Gb) (w:Int):Ed→List Int→Ed
 | l,[]=>l
 | _,i :: r=>match g.edges[i.toNat]? with
   | some e=>if e.tk=w then e else Y5 g w e r
   | none=>ed0
theorem qlt (m:Mc) (w:Int) (o:List Int) (hol:o.length≤1000000) (ho:∀ i∈o,0≤i∧i < m.g.edges.length) (hr:∀ e∈m.g.edges,e.row.length≤1000000):∀ d i (l:Ed) (e:List (Nat × V)),l.row.length≤1000000→d + i=o.length→
 i9 T0 X0 3 H7 (some (.nrm,⟨(0,.ptr (.b 0) 0 0) :: (2,.d (.int .i64 w)) :: (6,.ptr (.b 3) 0 0) :: (7,.ptr (.b 4) 0 0) :: (11,.d (.sl (LD inL o))) :: (12,.d (.int .i64 o.length)) :: (13,.d (.int .i64 i)) :: e,MH m++[.arr [.d (.agg (Look.cs {}))] ⟨16,0⟩,.arr [.d (.agg (Look.cs { e:=l }))] ⟨16,0⟩]⟩)) =
  some (.exit 0,⟨[(6,.ptr (.b 3) 0 0),(7,.ptr (.b 4) 0 0)],MH m++[.arr [.d (.agg (Look.cs {}))] ⟨16,0⟩,.arr [.d (.agg (Look.cs { e:=Y5 m.g w l (o.drop i) }))] ⟨16,0⟩]⟩):=by
 intro d
 induction d with
 | zero=>
   intro i l e hl hi
   have:i=o.length:=by omega
   subst this;rw[List.drop_length,c9 (l:=H7) rfl];simp only[Y5,MH,Look.cs,ed0,List.cons_append,List.nil_append];simp -implicitDefEqProofs (disch:=omega) [H8]
 | succ d ih=>
   intro i l e hl hi
   have hlt:i < o.length:=by omega
   obtain ⟨p0,p1⟩:=ho _ (List.getElem_mem hlt);have hdr:o.drop i=o[i] :: o.drop (i + 1):=List.drop_eq_getElem_cons hlt;have hget:(LD inL o)[i]? = some (.int .i64 o[i]):=Zl inL o hlt;rw[hdr];generalize o[i]=x at *;obtain ⟨k,rfl⟩:=Int.eq_ofNat_of_zero_le p0
   have hk:k < m.g.edges.length:=by omega
   have s1:=qa2 m.g hk;have hre:=hr _ (List.getElem_mem hk)
   have hge:m.g.edges[(k:Int).toNat]? = some m.g.edges[k]:=by rw[Int.toNat_natCast]; simp[hk]
   simp only[Y5,hge];have s2:=ih (i + 1) m.g.edges[k] [] hre (by omega);rw[c9 (l:=H7) rfl];generalize m.g.edges[k]=b at *
   by_cases hw:b.tk=w
   ·rw[if_pos hw];simp only[MH,Look.cs,Ed.a,ed0,List.cons_append,List.nil_append,dz,lz,Ql] at s1 s2 ⊢;simp (maxSteps:=4000000) -implicitDefEqProofs (disch:=omega) [H8,hget,s1,hw]
   ·rw[if_neg hw];push_cast at s2;simp only[MH,Look.cs,Ed.a,ed0,List.cons_append,List.nil_append,dz,lz,Ql] at s1 s2 ⊢;simp (maxSteps:=4000000) -implicitDefEqProofs (disch:=omega) [H8,hget,s1,hw,s2]
theorem qcv (m:Mc) (w:Int) (o:List Int) (hol:o.length≤1000000) (ho:∀ i∈o,0≤i∧i < m.g.edges.length) (hr:∀ e∈m.g.edges,e.row.length≤1000000) (hq:(Y5 m.g w ed0 o).row.length≤1000000) :
 d5 T0 X0 Zd [.ptr (.b 0) 0 0,.d (.sl (LD inL o)),.d (.int .i64 w)] (MH m)=some (.ret [.d (.agg (Look.cs { e:=Y5 m.g w ed0 o }))] (MH m)):=by
 have s1:=qlt m w o hol ho hr o.length 0 ed0 [] (by simp[ed0]) rfl;rw[c8 (af:=W2) rfl rfl rfl];rw[List.drop_zero] at s1;generalize Y5 m.g w ed0 o=b at *;simp only[MH,Look.cs,ed0,List.cons_append,List.nil_append,Int.cast_ofNat_Int,dz,lz,Ql] at s1 ⊢;simp (maxSteps:=4000000) -implicitDefEqProofs (disch:=omega) [W2,s1]
end Go.Rf

namespace Go.Rf
set_option maxHeartbeats 16000000
def Xb (n:Int):RWh:=(decide (n < 0),d6 n.natAbs)
theorem q0f (st:List Int):RL (st.map Xb)=WL st:=by
 unfold RL WL;rw[List.map_map];rfl
theorem qja (st:List Int) (i:Nat):rth (st.map Xb) i=Xb (nth st i):=by
 by_cases h:i < st.length
 ·simp[rth,nth,h]
 ·simp[rth,nth,h];rfl
theorem q0x (st:List Int):stV (st.map Xb)=nth st:=by
 funext i
 unfold stV;rw[qja];show sg (decide (nth st i < 0)) (nv (d6 (nth st i).natAbs))=_;rw[qD,vI]
theorem qly {st:List Int} (h:∀ i,nl (nth st i)≤1500) (hn:st.length≤1000):StOk (st.map Xb) where
 g i:=by rw[qja]; exact g8 _
 l i:=by rw[qja]; exact h i
 n:=by simp; omega
theorem kR {st:List Int} {k:Nat} (h:∀ n∈st,nl n≤k) (i:Nat):nl (nth st i)≤k:=by
 by_cases hi:i < st.length
 ·simp[nth,hi]; exact h _ (List.getElem_mem hi)
 ·simp[nth,hi]
theorem qz6 {st f:List Int} (h:∀ n∈st,nl n≤512) (hf:∀ n∈f,nl n≤512) (hl:f.length=st.length + 1) (hw:st.length≤16) :
 d5 T0 X0 Kc [.d (.sl (WL f)),.d (.sl (WL st))] []=some (.ret [.d (Wd (KP f (nth st) st.length + nth f st.length)),.d (.int .i64 0)] []):=by
 have s:=qvk (qly (fun i=>Nat.le_trans (kR h i) (by decide)) (by omega)) (f:=f) (fun i=>Nat.le_trans (kR hf i) (by decide)) (by simpa using hl) (by simpa using hw);rw[q0f,q0x,List.length_map] at s;exact s
theorem qcn (g:Gb) (i:Int) {st:List Int} (h:∀ n∈st,nl n≤512) (hs:st.length≤16) (hb:g.edges.length≤1000000) (hv:g.vs.length≤1000) (he:st.length=g.vs.length→∀ e∈g.edges,e.rOk st.length) :
 d5 T0 X0 wu [.d g.d,.d (.int .i64 i),.d (.sl (WL st))] []=some (.ret [.d (Wd (g.reck i (st.map Xb)).1),.d (Wd (g.reck i (st.map Xb)).2.1),.d (.int .i64 (g.reck i (st.map Xb)).2.2)] []):=by
 have s:=qqp g i (qly (fun i=>Nat.le_trans (kR h i) (by decide)) (by omega)) hb hv (by simpa using he);rw[q0f] at s;exact s
end Go.Rf

namespace Go.Rf
set_option maxHeartbeats 16000000
theorem qx2 (l:List Int):(WL l).all (fun x=>x.cells.all qbj)=true:=by
 induction l with
 | nil=>rfl
 | cons x l ih=>exact ih
attribute [simp] qx2
theorem q0y (n:Int):qaa (Wd n)=true:=by
 show (true && (qaa (.sl (L (d6 n.natAbs))) && true))=true
 have:∀ l:List Int,qaa (.sl (L l))=true:=fun l=>by
  induction l with
  | nil=>rfl
  | cons x l ih=>simpa [L,qaa] using ih
 rw[this];rfl
attribute [simp] q0y
theorem qv2 (n:Int):(V.d (Wd n)).cells=[.d (.bool (decide (n < 0))),.d (.sl (L (d6 n.natAbs)))]:=rfl
structure Sok (m:Mc):Prop where
 n:m.st.length≤16
 v:∀ n∈m.st,nl n≤512
 he:m.g.edges.length≤1000000
 hv:m.g.vs.length≤1000
def Ed.val (e:Ed) (st:List Int):Int:=KP e.row (nth st) st.length + nth e.row st.length
def qab (e:Ed) (st:List Int):Look:=if 512 < nl (e.val st) then { k:=3,w:=2 } else { e:=e,v:=e.val st }
theorem q52 {e:Ed} {st:List Int} (h:∀ n∈st,nl n≤512) (hf:∀ n∈e.row,nl n≤512) (hw:st.length≤16):nl (e.val st)≤90000000:=by
 have h1:=qi1 (f:=e.row) (st:=nth st) (fun i=>Nat.le_trans (kR hf i) (by decide)) (fun i=>Nat.le_trans (kR h i) (by decide)) st.length;have h2:=qao (k:=1 + st.length * 4200000) (m:=512) h1 (kR hf st.length) (by omega) (by omega);unfold Ed.val;omega
theorem zgh (m:Mc) (k:Sok m) {i:Nat} {r:List Int} (h:Outs m i ((i:Int) :: r)) (hl:(m.g.edges[i]'h.hi).row.length=m.st.length + 1) (hf:∀ n∈(m.g.edges[i]'h.hi).row,nl n≤512) :
 d5 T0 X0 E5 [.ptr (.b 0) 0 0,.d (.sl (LD inL ((i:Int) :: r)))] (MH m)=some (.ret [.d (.agg (Look.cs (qab (m.g.edges[i]'h.hi) m.st)))] (MH m)):=by
 have s1:=qa2 m.g h.hi;have hol:=h.hl;have hn:=k.n;have h0:(LD inL ((i:Int) :: r))[0]? = some (.int .i64 i):=rfl;rw[c8 (af:=S7) rfl rfl rfl];generalize m.g.edges[i]'h.hi=e at *;have s2:=qz6 k.v hf hl k.n;have hb:=q52 k.v hf k.n;unfold qab;rw[show KP e.row (nth m.st) m.st.length + nth e.row m.st.length=e.val m.st from rfl] at s2;generalize e.val m.st=x at *;have s3:=Je (m:=x) (by omega);have s4:=qi2 2
 by_cases hx:512 < nl x
 ·rw[if_pos hx];simp only[MH,Ed.a,Look.cs,ed0,dz,lz,Ql] at s1 s4 ⊢;simp (maxSteps:=4000000) -implicitDefEqProofs (disch:=omega) [S7,s1,s2,s3,s4,h0,hx]
 ·rw[if_neg hx];simp only[MH,Ed.a,Look.cs] at s1 ⊢;have s5:d5 T0 X0 Za [.d (.agg [.bool (decide (x < 0)),.sl (L (d6 x.natAbs))])] []=some (.ret [.d (.int .i64 (nl x))] []):=s3;have hlx:(d6 x.natAbs).length≤512:=Nat.not_lt.1 hx;simp (maxSteps:=4000000) -implicitDefEqProofs (disch:=omega) [S7,s1,s2,s3,s5,h0,hx,qv2]
end Go.Rf

namespace Go.Rf
set_option maxHeartbeats 16000000
theorem qxa {a b:Int × Int} (h1:nl a.1≤512) (h2:nl b.1≤512):nl (qmf a b).1≤512∧nl (qmf a b).2.1≤512:=by
 have z:nl 0≤512:=by decide
 unfold qmf;split
 ·exact ⟨z,z⟩
 ·split
  ·exact ⟨z,z⟩
  ·exact ⟨h1,h2⟩
theorem Gb.reck_nl (g:Gb) (i:Int) (ws):nl (g.reck i ws).1≤512∧nl (g.reck i ws).2.1≤512:=by
 have z:nl 0≤512:=by decide
 unfold Gb.reck;split
 ·split
  ·split
   ·split
    ·unfold Ed.reck;split
     ·exact ⟨Zt _ _,z⟩
     ·split
      ·exact qxa (Zt _ _) (Zt _ _)
      ·exact ⟨z,z⟩
    ·exact ⟨z,z⟩
   ·exact ⟨z,z⟩
  ·exact ⟨z,z⟩
 ·exact ⟨z,z⟩
def Mc.reck (m:Mc) (i:Int):Int × Int × Int:=m.g.reck i (m.st.map Xb)
def XT (m:Mc) (e:Ed) (i:Int):Look:=if (m.reck i).2.2≠0 then { k:=3,w:=(m.reck i).2.2 } else { e:=e,v:=(m.reck i).1 }
def XO (m:Mc) (o:List Int) (i:Int):Look:=if (m.reck i).2.2≠0 then { k:=3,w:=(m.reck i).2.2 } else { e:=Y5 m.g (if cmp (m.reck i).1 (m.reck i).2.1=0 then 1 else 0) ed0 o }
theorem q9l (m:Mc) (k:Sok m) (he:m.st.length=m.g.vs.length→∀ e∈m.g.edges,e.rOk m.st.length) {i:Nat} {r:List Int} (h:Outs m i ((i:Int) :: r)) :
 d5 T0 X0 C9 [.ptr (.b 0) 0 0,.d (.sl (LD inL ((i:Int) :: r)))] (MH m)=some (.ret [.d (.agg (Look.cs (XT m (m.g.edges[i]'h.hi) i)))] (MH m)):=by
 have s1:=qa2 m.g h.hi;have hol:=h.hl;have hn:=k.n;have hre:=h.hr _ (List.getElem_mem h.hi);have h0:(LD inL ((i:Int) :: r))[0]? = some (.int .i64 i):=rfl;have s2:=qcn m.g i k.v k.n k.he k.hv he;have hb:=Gb.reck_nl m.g i (m.st.map Xb);have s4:=qi2 (m.reck i).2.2;rw[c8 (af:=Q5) rfl rfl rfl];unfold XT;unfold Mc.reck at s4 ⊢;generalize m.g.edges[i]'h.hi=e at *;generalize m.g.reck i (m.st.map Xb)=x at *;obtain ⟨x,y,z⟩:=x;obtain ⟨h1,h2⟩:=hb;simp only at s2 s4 h1 h2 ⊢
 by_cases hx:z=0
 ·subst hx;have hlx:(d6 x.natAbs).length≤512:=h1;simp only[ne_eq,not_true_eq_false,if_false];simp only[MH,Ed.a,Look.cs] at s1 ⊢;simp (maxSteps:=4000000) -implicitDefEqProofs (disch:=omega) [Q5,s1,s2,h0,qv2]
 ·rw[if_pos hx];simp only[MH,Ed.a,Look.cs,ed0,dz,lz,Ql] at s1 s4 ⊢;simp (maxSteps:=4000000) -implicitDefEqProofs (disch:=omega) [Q5,s2,s4,h0,hx]
theorem q57 (m:Mc) (k:Sok m) (he:m.st.length=m.g.vs.length→∀ e∈m.g.edges,e.rOk m.st.length) {i:Nat} {r:List Int} (h:Outs m i ((i:Int) :: r))
 (ho:∀ j∈(i:Int) :: r,0≤j∧j < m.g.edges.length) (hq:∀ w,(Y5 m.g w ed0 ((i:Int) :: r)).row.length≤1000000) :
 d5 T0 X0 C6 [.ptr (.b 0) 0 0,.d (.sl (LD inL ((i:Int) :: r)))] (MH m)=some (.ret [.d (.agg (Look.cs (XO m ((i:Int) :: r) i)))] (MH m)):=by
 have hol:=h.hl;have hn:=k.n;have h0:(LD inL ((i:Int) :: r))[0]? = some (.int .i64 i):=rfl;have s2:=qcn m.g i k.v k.n k.he k.hv he;have hb:=Gb.reck_nl m.g i (m.st.map Xb);have s4:=qi2 (m.reck i).2.2;have s5:=qcv m 0 ((i:Int) :: r) h.hl ho h.hr (hq 0);have s6:=qcv m 1 ((i:Int) :: r) h.hl ho h.hr (hq 1);have q5:=hq 0;have q6:=hq 1;generalize (i:Int) :: r=oo at *;rw[c8 (af:=J3) rfl rfl rfl];unfold XO;unfold Mc.reck at s4 ⊢;generalize m.g.reck i (m.st.map Xb)=x at *;obtain ⟨x,y,z⟩:=x;obtain ⟨h1,h2⟩:=hb;simp only at s2 s4 h1 h2 ⊢
 by_cases hx:z=0
 ·subst hx;have s3:=qo8 (m:=x) (n:=y) (by omega) (by omega);simp only[ne_eq,not_true_eq_false,if_false]
  by_cases hc:cmp x y=0
  ·rw[if_pos hc];rw[hc] at s3;generalize Y5 m.g 1 ed0 oo=e at *;simp only[MH,Look.cs,ed0,dz,lz,Ql] at s6 ⊢;simp (maxSteps:=4000000) -implicitDefEqProofs (disch:=omega) [J3,s2,s3,s6,h0]
  ·rw[if_neg hc];generalize Y5 m.g 0 ed0 oo=e at *;simp only[MH,Look.cs,ed0,dz,lz,Ql] at s5 ⊢;simp (maxSteps:=4000000) -implicitDefEqProofs (disch:=omega) [J3,s2,s3,s5,h0,hc]
 ·rw[if_pos hx];simp only[MH,Look.cs,ed0,dz,lz,Ql] at s4 ⊢;simp (maxSteps:=4000000) -implicitDefEqProofs (disch:=omega) [J3,s2,s4,h0,hx]
end Go.Rf

namespace Go.Rf
set_option maxHeartbeats 16000000
def wd (x n:Int):Int:=x.tmod n % n
def wg (m:Mc) (o:List Int):Look:=match m.ch[m.used]? with
 | some x=>{ e:=Y5 m.g (wd x o.length) ed0 o,c:=1 }
 | none=>{ k:=2 }
theorem q7g (m:Mc) (hc:m.ch.length≤1100000) (o:List Int) (h1:1≤o.length) (ho:o.length≤1000000) (hi:∀ j∈o,0≤j∧j < m.g.edges.length) (hr:∀ e∈m.g.edges,e.row.length≤1000000) (hq:∀ w,(Y5 m.g w ed0 o).row.length≤1000000)
 (hv:∀ x∈m.ch,-9223372036854775808≤x∧x≤9223372036854775807) :
 d5 T0 X0 C8 [.ptr (.b 0) 0 0,.d (.sl (LD inL o))] (MH m)=some (.ret [.d (.agg (Look.cs (wg m o)))] (MH m)):=by
 have s1:=KA m hc;rw[c8 (af:=Q3) rfl rfl rfl];unfold wg
 by_cases hl:m.used < m.ch.length
 ·rw[show m.left=true from decide_eq_true hl] at s1;have hg:=qql hl;have hx:=hv _ (List.getElem_mem hl);rw[List.getElem?_eq_getElem hl];simp only;generalize m.ch[m.used]=x at *;have s2:=qcv m (wd x o.length) o ho hi hr (hq _);have q2:=hq (wd x o.length);generalize Y5 m.g (wd x o.length) ed0 o=e at *;unfold wd at s2
  have on:o≠[]:=by
   intro e;rw[e] at h1;simp at h1
  have n0:((o.length:Nat):Int)≠0:=by omega
  have b1:=Int.tmod_lt_of_pos x (b:=(o.length:Int)) (by omega)
  have b2:-(o.length:Int) < x.tmod o.length:=by
   have:=Int.lt_tmod_of_pos x (b:=(o.length:Int)) (by omega);omega
  simp only[MH,Look.cs,ed0,dz,lz,Ql] at s1 s2 ⊢;simp (maxSteps:=4000000) -implicitDefEqProofs (disch:=omega) [Q3,s1,s2,hg,hl,n0,on]
 ·rw[show m.left=false from decide_eq_false hl] at s1;rw[List.getElem?_eq_none (by omega)];simp only[MH,Look.cs,ed0,dz,lz,Ql] at s1 ⊢;simp (maxSteps:=4000000) -implicitDefEqProofs (disch:=omega) [Q3,s1]
end Go.Rf

namespace Go.Rf
set_option maxHeartbeats 16000000
def Mc.o (m:Mc):List Int:=m.g.outN m.p
structure Mok (m:Mc):Prop where
 s:Sok m
 r:m.st.length=m.g.vs.length
 e:∀ e∈m.g.edges,e.rOk m.st.length
 pt:m.g.out.length≤1000000
 ol:∀ i,(m.g.out.getD i []).length≤1000000
 oi:∀ j∈m.o,0≤j∧j < m.g.edges.length
 k:∀ e∈m.g.edges,1≤e.k∧e.k≤6
 row:∀ e∈m.g.edges,e.row.length≤1000000∧(e.k=2→e.row.length=m.st.length + 1 ∧ ∀ n∈e.row,nl n≤512)
 tk:∀ w,(Y5 m.g w ed0 m.o).row.length≤1000000
 ch:m.ch.length≤1100000
 cv:∀ x∈m.ch,-9223372036854775808≤x∧x≤9223372036854775807
def Kh (m:Mc) (e:Ed):Look:=match m.ch[m.used]? with
 | some x=>{ e:=e,v:=x,c:=1 }
 | none=>{ k:=2 }
def Mc.look (m:Mc):Look:=match m.o with
 | []=>{ k:=1 }
 | i :: r=>match m.g.edges[i.toNat]? with
   | none=>{}
   | some e=>if e.k=1 then { e:=e } else if e.k=2 then qab e m.st else if e.k=3 then Kh m e else if e.k=4 then XT m e i else if e.k=5 then wg m (i :: r) else XO m (i :: r) i
theorem zlp (m:Mc) (hc:m.ch.length≤1100000) {i:Nat} {r:List Int} (h:Outs m i ((i:Int) :: r)) (hv:∀ x∈m.ch,-9223372036854775808≤x∧x≤9223372036854775807) :
 d5 T0 X0 A7 [.ptr (.b 0) 0 0,.d (.sl (LD inL ((i:Int) :: r)))] (MH m)=some (.ret [.d (.agg (Look.cs (Kh m (m.g.edges[i]'h.hi))))] (MH m)):=by
 unfold Kh
 by_cases hl:m.used < m.ch.length
 ·rw[List.getElem?_eq_getElem hl];exact zbq m hc h hl (hv _ (List.getElem_mem hl))
 ·rw[List.getElem?_eq_none (by omega)];exact zbr m hc _ h.hl (decide_eq_false hl)
end Go.Rf

namespace Go.Rf
set_option maxHeartbeats 16000000
theorem qyi (m:Mc) (k:Mok m) (ho:m.o=[]):d5 T0 X0 I8 [.ptr (.b 0) 0 0] (MH m)=some (.ret [.d (.agg (Look.cs m.look))] (MH m)):=by
 have s1:=qr5 m.g m.p k.pt k.ol;rw[show m.g.outN m.p=[] from ho] at s1;rw[c8 (af:=J4) rfl rfl rfl];unfold Mc.look;rw[ho];simp only[MH,Look.cs,ed0,dz,lz,Ql] at s1 ⊢;simp (maxSteps:=4000000) -implicitDefEqProofs (disch:=omega) [J4,s1]
theorem Kx (m:Mc) (k:Mok m) {i:Nat} {r:List Int} (ho:m.o=(i:Int) :: r) (hi:i < m.g.edges.length) (hl:m.o.length≤1000000) {w:Nat} {f:FuncId} {l:Look} (hw:(m.g.edges[i]'hi).k=w)
 (hf:(w=1∧f=C7)∨(w=2∧f=E5)∨(w=3∧f=A7)∨(w=4∧f=C9)∨(w=5∧f=C8)∨(w=6∧f=C6))
 (lr:l.e.row.length≤1000000) (lv:nl l.v≤1000000) (s:d5 T0 X0 f [.ptr (.b 0) 0 0,.d (.sl (LD inL m.o))] (MH m)=some (.ret [.d (.agg (Look.cs l))] (MH m))) :
 d5 T0 X0 I8 [.ptr (.b 0) 0 0] (MH m)=some (.ret [.d (.agg (Look.cs l))] (MH m)):=by
 have s1:=qr5 m.g m.p k.pt k.ol;rw[show m.g.outN m.p=m.o from rfl] at s1;have s2:=qa2 m.g hi;have s3:=qs7;have hre:=(k.row _ (List.getElem_mem hi)).1
 have h0:(LD inL m.o)[0]? = some (.int .i64 i):=by rw[ho]; rfl
 have hn0:m.o≠[]:=by rw[ho]; simp
 rw[c8 (af:=J4) rfl rfl rfl];have hlv:(d6 l.v.natAbs).length≤1000000:=lv;generalize m.g.edges[i]'hi=e at *;clear ho;generalize m.o=o at *;simp only[MH,Look.cs,Ed.a] at s s1 s2 ⊢;rcases hf with ⟨rfl,rfl⟩ | ⟨rfl,rfl⟩ | ⟨rfl,rfl⟩ | ⟨rfl,rfl⟩ | ⟨rfl,rfl⟩ | ⟨rfl,rfl⟩
 all_goals
  simp (maxSteps:=4000000) -implicitDefEqProofs (disch:=omega) [J4,s,s1,s2,s3,h0,hn0,hw]
end Go.Rf

namespace Go.Rf
set_option maxHeartbeats 16000000
theorem qju {x:Int} (h:-9223372036854775808≤x∧x≤9223372036854775807):nl x≤2:=o5 (n:=x.natAbs) (k:=2) (by omega) (by simp only[pw]; omega)
theorem qyj (m:Mc) (k:Mok m):d5 T0 X0 I8 [.ptr (.b 0) 0 0] (MH m)=some (.ret [.d (.agg (Look.cs m.look))] (MH m)):=by
 cases ho:m.o with
 | nil=>exact qyi m k ho
 | cons j r=>
   have hj:=k.oi j (by rw[ho]; exact List.mem_cons_self ..);obtain ⟨i,rfl⟩:=Int.eq_ofNat_of_zero_le hj.1
   have hi:i < m.g.edges.length:=by omega
   have hol:m.o.length≤1000000:=by
    unfold Mc.o Gb.outN;split
    ·exact k.ol _
    ·simp
   have h:Outs m i ((i:Int) :: r):=⟨hi,by rw[← ho]; exact hol,k.s.he,fun e he=>(k.row e he).1⟩;have he:=List.getElem_mem hi;have kk:=k.k _ he;have kr:=k.row _ he
   have z:ed0.row.length≤1000000:=by simp[ed0]
   have zn:nl 0≤1000000:=by decide
   have hge:m.g.edges[(i:Int).toNat]? = some m.g.edges[i]:=by rw[Int.toNat_natCast]; simp[hi]
   unfold Mc.look;rw[ho];simp only[hge]
   by_cases h1:(m.g.edges[i]).k=1
   ·rw[if_pos h1];exact Kx m k ho hi hol (w:=1) h1 (.inl ⟨rfl,rfl⟩) kr.1 zn (by rw[ho]; exact q6p m h)
   rw[if_neg h1]
   by_cases h2:(m.g.edges[i]).k=2
   ·rw[if_pos h2];refine Kx m k ho hi hol (w:=2) h2 (.inr (.inl ⟨rfl,rfl⟩)) ?_ ?_ (by rw[ho]; exact zgh m k.s h (kr.2 h2).1 (kr.2 h2).2)
    ·unfold qab;split
     ·exact z
     ·exact kr.1
    ·unfold qab;split
     ·exact zn
     ·show nl ((m.g.edges[i]).val m.st)≤_;omega
   rw[if_neg h2]
   by_cases h3:(m.g.edges[i]).k=3
   ·rw[if_pos h3];refine Kx m k ho hi hol (w:=3) h3 (.inr (.inr (.inl ⟨rfl,rfl⟩))) ?_ ?_ (by rw[ho]; exact zlp m k.ch h k.cv)
    ·unfold Kh;split
     ·exact kr.1
     ·exact z
    ·unfold Kh;split
     ·rename_i x hx;have:=qju (k.cv x (List.mem_of_getElem? hx));show nl x≤_;omega
     ·exact zn
   rw[if_neg h3]
   by_cases h4:(m.g.edges[i]).k=4
   ·rw[if_pos h4];refine Kx m k ho hi hol (w:=4) h4 (.inr (.inr (.inr (.inl ⟨rfl,rfl⟩)))) ?_ ?_ (by rw[ho]; exact q9l m k.s (fun _=>k.e) h)
    ·unfold XT;split
     ·exact z
     ·exact kr.1
    ·unfold XT;split
     ·exact zn
     ·have:=(Gb.reck_nl m.g i (m.st.map Xb)).1;show nl (m.g.reck i (m.st.map Xb)).1≤_;omega
   rw[if_neg h4]
   have ho1:∀ j∈(i:Int) :: r,0≤j∧j < m.g.edges.length:=by rw[← ho]; exact k.oi
   have htk:∀ w,(Y5 m.g w ed0 ((i:Int) :: r)).row.length≤1000000:=by rw[← ho]; exact k.tk
   by_cases h5:(m.g.edges[i]).k=5
   ·rw[if_pos h5];refine Kx m k ho hi hol (w:=5) h5 (.inr (.inr (.inr (.inr (.inl ⟨rfl,rfl⟩))))) ?_ ?_ (by rw[ho]; exact q7g m k.ch _ (by simp) h.hl ho1 h.hr htk k.cv)
    ·unfold wg;split
     ·exact htk _
     ·exact z
    ·unfold wg;split
     ·exact zn
     ·exact zn
   ·rw[if_neg h5]
    have h6:(m.g.edges[i]).k=6:=by omega
    refine Kx m k ho hi hol (w:=6) h6 (.inr (.inr (.inr (.inr (.inr ⟨rfl,rfl⟩))))) ?_ ?_ (by rw[ho]; exact q57 m k.s (fun _=>k.e) h ho1 htk)
    ·unfold XO;split
     ·exact z
     ·exact htk _
    ·unfold XO;split
     ·exact zn
     ·exact zn
end Go.Rf

namespace Go.Rf
set_option maxHeartbeats 16000000
def Mc.take (m:Mc) (l:Look):Mc:={ m with p:=l.e.t,steps:=m.steps + 1,used:=m.used + l.c.toNat,st:=if 2≤l.e.k∧l.e.k≤4 then m.st.set l.e.v.toNat l.v else m.st }
def Mc.step (m:Mc):Mc:=m.take m.look
structure Lok (m:Mc) (l:Look):Prop where
 c:0≤l.c∧l.c≤1
 k:l.k=0
 v:2≤l.e.k→l.e.k≤4→0≤l.e.v∧l.e.v < m.st.length
 r:l.e.row.length≤1000000
 n:nl l.v≤1000000
theorem q9m (m:Mc) (n i:Int) (hi:i < n) (h0:0≤i) (hi2:i≤m.steps) (hs:m.steps < 65536) (hs0:0≤m.steps) (hu:m.used≤1100000) (hm:m.st.length≤16) {l:Look} (hl:Lok m l)
 (s1:d5 T0 X0 I8 [.ptr (.b 0) 0 0] (MH m)=some (.ret [.d (.agg (Look.cs l))] (MH m))) (e:List (Nat × V)) :
 i9 T0 X0 3 o8 (some (.nrm,⟨(0,.ptr (.b 0) 0 0) :: (1,.d (.int .i64 n)) :: (5,.d (.int .i64 i)) :: e,MH m⟩)) =
  some (.nrm,⟨[(0,.ptr (.b 0) 0 0),(1,.d (.int .i64 n)),(5,.d (.int .i64 (i + 1)))],MH (m.take l)⟩):=by
 obtain ⟨hc,hk,hv,hr,hnl⟩:=hl;obtain ⟨c,hc2⟩:=Int.eq_ofNat_of_zero_le hc.1;have hlv:(d6 l.v.natAbs).length≤1000000:=hnl;obtain ⟨le,lv,lc,lk,lw⟩:=l;simp only at hc hk hv hr hnl hc2 hlv s1 ⊢;subst hc2;subst hk;unfold Mc.take;simp only[MH,Look.cs,Int.toNat_natCast] at s1 ⊢
 have hsp:∀ a,S5 (.d (Wd a)) 0 (.d (.agg [.bool (decide (lv < 0)),.sl (L (d6 lv.natAbs))]))=some (.d (.agg [.bool (decide (lv < 0)),.sl (L (d6 lv.natAbs))])):=fun a=>qc1 a lv
 by_cases h2:le.k=2
 ·obtain ⟨v0,v1⟩:=hv (by omega) (by omega);obtain ⟨v,hv2⟩:=Int.eq_ofNat_of_zero_le v0
  have hvl:v < m.st.length:=by omega
  have hset:(WV m.st).set v (.d (.agg [.bool (decide (lv < 0)),.sl (L (d6 lv.natAbs))]))=WV (m.st.set v lv):=qk8 m.st v lv;rw[if_pos (by omega)];simp only[hv2,h2,Int.toNat_natCast] at s1 ⊢;simp (maxSteps:=4000000) -implicitDefEqProofs (disch:=omega) [o8,s1,hset,hsp]
 by_cases h3:le.k=3
 ·obtain ⟨v0,v1⟩:=hv (by omega) (by omega);obtain ⟨v,hv2⟩:=Int.eq_ofNat_of_zero_le v0
  have hvl:v < m.st.length:=by omega
  have hset:(WV m.st).set v (.d (.agg [.bool (decide (lv < 0)),.sl (L (d6 lv.natAbs))]))=WV (m.st.set v lv):=qk8 m.st v lv;rw[if_pos (by omega)];simp only[hv2,h3,Int.toNat_natCast] at s1 ⊢;simp (maxSteps:=4000000) -implicitDefEqProofs (disch:=omega) [o8,s1,hset,hsp]
 by_cases h4:le.k=4
 ·obtain ⟨v0,v1⟩:=hv (by omega) (by omega);obtain ⟨v,hv2⟩:=Int.eq_ofNat_of_zero_le v0
  have hvl:v < m.st.length:=by omega
  have hset:(WV m.st).set v (.d (.agg [.bool (decide (lv < 0)),.sl (L (d6 lv.natAbs))]))=WV (m.st.set v lv):=qk8 m.st v lv;rw[if_pos (by omega)];simp only[hv2,h4,Int.toNat_natCast] at s1 ⊢;simp (maxSteps:=4000000) -implicitDefEqProofs (disch:=omega) [o8,s1,hset,hsp]
 ·rw[if_neg (by omega)];simp (maxSteps:=4000000) -implicitDefEqProofs (disch:=omega) [o8,s1,h2,h3,h4]
end Go.Rf

namespace Go.Rf
set_option maxHeartbeats 16000000
def Mc.goF:Nat→Mc→Nat × Mc
 | 0,m=>(0,m)
 | n + 1,m=>if m.steps < 65536 then (if m.look.k=0 then ((m.step.goF n).1 + 1,(m.step.goF n).2) else (0,m)) else (0,m)
structure Inv (I:Mc→Prop):Prop where
 ok:∀ m,I m→Mok m
 s0:∀ m,I m→0≤m.steps
 u:∀ m,I m→m.used≤1100000
 l:∀ m,I m→m.look.e.row.length≤1000000∧nl m.look.v≤1000000
 k:∀ m,I m→m.steps < 65536→m.look.k=0→Lok m m.look∧I m.step
theorem qqq (m:Mc) (n i:Int) (h0:0≤i) (hm:m.st.length≤16) (e:List (Nat × V))
 (hs:i < n→m.steps < 65536→m.look.k≠0∧m.look.e.row.length≤1000000∧nl m.look.v≤1000000∧d5 T0 X0 I8 [.ptr (.b 0) 0 0] (MH m)=some (.ret [.d (.agg (Look.cs m.look))] (MH m))) :
 i9 T0 X0 3 o8 (some (.nrm,⟨(0,.ptr (.b 0) 0 0) :: (1,.d (.int .i64 n)) :: (5,.d (.int .i64 i)) :: e,MH m⟩))=some (.exit 0,⟨[(5,.d (.int .i64 i))],MH m⟩):=by
 by_cases hi:i < n
 ·by_cases h1:m.steps < 65536
  ·obtain ⟨hk,hr,hv,s1⟩:=hs hi h1;have hlv:(d6 m.look.v.natAbs).length≤1000000:=hv;generalize m.look=l at *;simp only[MH,Look.cs] at s1 ⊢;simp (maxSteps:=4000000) -implicitDefEqProofs (disch:=omega) [o8,s1,hi,h1,hk]
  ·simp only[MH];simp (maxSteps:=4000000) -implicitDefEqProofs (disch:=omega) [o8,hi,h1]
 ·simp only[MH];simp (maxSteps:=4000000) -implicitDefEqProofs (disch:=omega) [o8,hi]
theorem qj3 (m:Mc) (n i:Int) (e:List (Nat × V)):qmu (kG 3 [0,1,5] ((0,.ptr (.b 0) 0 0) :: (1,.d (.int .i64 n)) :: (5,.d (.int .i64 i)) :: e) (n7 (MH m)))=some (.nrm,⟨[(0,.ptr (.b 0) 0 0),(1,.d (.int .i64 n)),(5,.d (.int .i64 i))],MH m⟩):=by
 simp only[MH];simp -implicitDefEqProofs (disch:=omega)
theorem q2l {I:Mc→Prop} (hI:Inv I) (n:Int):∀ d (m:Mc) (i:Int) (e:List (Nat × V)),I m→0≤i→i≤m.steps→(n - i).toNat=d→
 i9 T0 X0 3 B9 (some (.nrm,⟨(0,.ptr (.b 0) 0 0) :: (1,.d (.int .i64 n)) :: (5,.d (.int .i64 i)) :: e,MH m⟩)) =
  some (.exit 0,⟨[(5,.d (.int .i64 (i + (m.goF d).1)))],MH (m.goF d).2⟩):=by
 intro d
 induction d with
 | zero=>
   intro m i e hm h0 hi2 hd;have k:=hI.ok m hm;have s:=qqq m n i h0 k.s.n [] (fun hi=>by omega);rw[c9 (l:=B9) rfl];dsimp only;rw[qj3,s];simp[Mc.goF]
 | succ d ih=>
   intro m i e hm h0 hi2 hd;have k:=hI.ok m hm;have s1:=qyj m k;have hl:=hI.l m hm;unfold Mc.goF
   by_cases h1:m.steps < 65536
   ·rw[if_pos h1]
    by_cases hk:m.look.k=0
    ·rw[if_pos hk];obtain ⟨lo,hm2⟩:=hI.k m hm h1 hk;have s:=q9m m n i (by omega) h0 hi2 h1 (hI.s0 m hm) (hI.u m hm) k.s.n lo s1 [];have s2:=ih m.step (i + 1) [] hm2 (by omega) (by show i + 1≤m.steps + 1; omega) (by omega);rw[show m.take m.look=m.step from rfl] at s;rw[c9 (l:=B9) rfl];dsimp only;rw[qj3,s];simp only[s2];simp[Int.add_assoc,Int.add_comm]
    ·rw[if_neg hk];have s:=qqq m n i h0 k.s.n [] (fun _ _=>⟨hk,hl.1,hl.2,s1⟩);rw[c9 (l:=B9) rfl];dsimp only;rw[qj3,s];simp
   ·rw[if_neg h1];have s:=qqq m n i h0 k.s.n [] (fun _ h=>absurd h h1);rw[c9 (l:=B9) rfl];dsimp only;rw[qj3,s];simp
theorem Wt {I:Mc→Prop} (hI:Inv I) (m:Mc) (hm:I m) (n:Int):d5 T0 X0 U5 [.ptr (.b 0) 0 0,.d (.int .i64 n)] (MH m)=some (.ret [.d (.int .i64 (m.goF n.toNat).1)] (MH (m.goF n.toNat).2)):=by
 have s1:=q2l hI n n.toNat m 0 [] hm (by omega) (hI.s0 m hm) (by omega);rw[c8 (af:=zq) rfl rfl rfl];generalize m.goF n.toNat=r at *;obtain ⟨c,m2⟩:=r;simp only[MH,Int.zero_add] at s1 ⊢;simp (maxSteps:=4000000) -implicitDefEqProofs (disch:=omega) [zq,s1]
end Go.Rf

namespace Go.Rf
set_option maxHeartbeats 16000000
theorem qq3 (xs:List Int) (hb:xs.length≤1000000) (hn:∀ n∈xs,nl n≤512):∀ d i (e:List (Nat × V)),d + i=xs.length→
 i9 T0 X0 1 m9 (some (.nrm,⟨(1,.d (.fn M5 [])) :: (5,.ref (.b 1) ⟨2,32⟩ 0 i) :: (11,.ref (.b 0) ⟨2,32⟩ 0 xs.length) :: (12,.d (.int .i64 xs.length)) :: (13,.d (.int .i64 i)) :: e,[.arr (WV xs) ⟨2,32⟩,.arr (WV (xs.take i)) ⟨2,32⟩]⟩)) =
  some (.exit 0,⟨[(5,.ref (.b 1) ⟨2,32⟩ 0 xs.length)],[.arr (WV xs) ⟨2,32⟩,.arr (WV xs) ⟨2,32⟩]⟩):=by
 intro d
 induction d with
 | zero=>
   intro i e hi
   have:i=xs.length:=by omega
   subst this;rw[List.take_length,c9 (l:=m9) rfl];simp -implicitDefEqProofs (disch:=omega) [w4]
 | succ d ih=>
   intro i e hi
   have hlt:i < xs.length:=by omega
   have hget:=qba hlt
   have hx:nth xs i=xs[i]:=by simp[nth,hlt]
   have s1:=kN (m:=nth xs i) (by rw[hx]; have:=hn _ (List.getElem_mem hlt); omega);have hnl:=hn _ (List.getElem_mem hlt);rw[← hx] at hnl
   have hnx:WV (xs.take i)++[.d (Wd (nth xs i))]=WV (xs.take (i + 1)):=by
    rw[List.take_succ_eq_append_getElem hlt,hx];exact XL _ _
   have hlen:(xs.take i).length=i:=by simp; omega
   rw[← ih (i + 1) [] (by omega)];rw[c9 (l:=m9) rfl];rw[← hnx];generalize nth xs i=b at *;generalize xs.take i=ys at *;have htk:ys.take i=ys:=List.take_of_length_le (by omega);simp (maxSteps:=4000000) -implicitDefEqProofs (disch:=omega) [w4,hget,hlen,htk,s1]
theorem qq2 (xs:List Int) (hb:xs.length≤1000000) (hn:∀ n∈xs,nl n≤512):d5 T0 X0 U7 [.ref (.b 0) ⟨2,32⟩ 0 xs.length,.d (.fn M5 [])] [.arr (WV xs) ⟨2,32⟩]=some (.ret [.ref (.b 1) ⟨2,32⟩ 0 xs.length] [.arr (WV xs) ⟨2,32⟩,.arr (WV xs) ⟨2,32⟩]):=by
 have s1:=qq3 xs hb hn xs.length 0 [] rfl;rw[c8 (af:=A0) rfl rfl rfl];simp only[List.take_zero,qa9,Int.cast_ofNat_Int] at s1;simp (maxSteps:=4000000) -implicitDefEqProofs (disch:=omega) [A0,s1]
def Mc.tell (m:Mc):List D:=[.int .i64 m.p,.sl (WL m.st),.int .i64 m.steps,.int .i64 m.used,.int .i64 m.look.k,.int .i64 m.look.w]
theorem qv9 (m:Mc) (k:Mok m) (hl:m.look.e.row.length≤1000000∧nl m.look.v≤1000000):d5 T0 X0 jG [.ptr (.b 0) 0 0] (MH m)=some (.ret [.d (.agg m.tell)] (MH m)):=by
 have s1:=qyj m k;have s2:=qq2 m.st (by have:=k.s.n; omega) k.s.v;have hm:=k.s.n;rw[c8 (af:=qf) rfl rfl rfl];unfold Mc.tell;obtain ⟨hr,hv⟩:=hl;have hlv:(d6 m.look.v.natAbs).length≤1000000:=hv;generalize m.look=l at *;simp only[MH,Look.cs] at s1 ⊢;simp (maxSteps:=4000000) -implicitDefEqProofs (disch:=omega) [qf,s1,s2]
end Go.Rf

namespace Go.Rf
set_option maxHeartbeats 16000000
def Mc.beg (m:Mc) (b:Bg):Mc:=if b.any=true then (match m.ch[m.used]? with
 | some x=>{ m with st:=m.st++[x],used:=m.used + 1 }
 | none=>{ m with st:=m.st++[b.n] }) else { m with st:=m.st++[b.n] }
theorem qvh (m:Mc) (bs:List Bg) (hb:bs.length≤1000) (i:Nat) (hi:i < bs.length) (hn:nl (bs[i]).n≤40) (hnm:(bs[i]).name.length≤1000000) (hc:m.ch.length≤1100000) (hs:m.st.length≤1000) (hu:m.used≤1100000) (hv:∀ x∈m.ch,-9223372036854775808≤x∧x≤9223372036854775807) (e:List (Nat × V)) :
 i9 T0 X0 0 M0 (some (.nrm,⟨(6,.ptr (.b 0) 0 0) :: (18,.d (.sl (LD bgL bs))) :: (19,.d (.int .i64 bs.length)) :: (20,.d (.int .i64 i)) :: e,MH m⟩)) =
  some (.nrm,⟨[(6,.ptr (.b 0) 0 0),(18,.d (.sl (LD bgL bs))),(19,.d (.int .i64 bs.length)),(20,.d (.int .i64 (i + 1)))],MH (m.beg bs[i])⟩):=by
 have s1:=KA m hc;have hget:=qfd hi;have hlg:(bs[i]).name.length≤long:=Nat.le_trans hnm (by decide);generalize bs[i]=b at *;have hln:(d6 b.n.natAbs).length≤40:=hn;have happ:=XL m.st b.n;unfold Mc.beg;simp only[Bg.cs] at hget
 cases ha:b.any with
 | false=>
   rw[if_neg (by simp)];simp only[ha] at hget;simp only[MH,Wd] at s1 happ ⊢;simp (maxSteps:=4000000) -implicitDefEqProofs (disch:=omega) [-WS,M0,hget,happ]
 | true=>
   rw[if_pos rfl];simp only[ha] at hget
   by_cases hl:m.used < m.ch.length
   ·rw[show m.left=true from decide_eq_true hl] at s1;have hg:=qql hl;have s3:=kY (hv _ (List.getElem_mem hl));have h2:=qju (hv _ (List.getElem_mem hl));rw[List.getElem?_eq_getElem hl];simp only;generalize m.ch[m.used]=x at *;have hlx:(d6 x.natAbs).length≤2:=h2;have happ2:=XL m.st x;simp only[MH,Wd] at s1 s3 happ2 ⊢;simp (maxSteps:=4000000) -implicitDefEqProofs (disch:=omega) [-WS,M0,hget,happ2,s1,s3,hg,hl]
   ·rw[show m.left=false from decide_eq_false hl] at s1;rw[List.getElem?_eq_none (by omega)];simp only[MH,Wd] at s1 happ ⊢;simp (maxSteps:=4000000) -implicitDefEqProofs (disch:=omega) [-WS,M0,hget,happ,s1]
end Go.Rf

namespace Go.Rf
set_option maxHeartbeats 16000000
theorem qk5 (m:Mc) (b):(m.beg b).ch=m.ch:=by
 unfold Mc.beg;split
 ·split <;> rfl
 ·rfl
theorem zlg (m:Mc) (b):(m.beg b).g=m.g:=by
 unfold Mc.beg;split
 ·split <;> rfl
 ·rfl
theorem qz3 (m:Mc) (b):(m.beg b).st.length=m.st.length + 1:=by
 unfold Mc.beg;split
 ·split <;> simp
 ·simp
theorem qz2 (m:Mc) (b):(m.beg b).used≤m.used + 1:=by
 unfold Mc.beg;split
 ·split <;> simp
 ·simp
theorem zbl (m:Mc) (bs:List Bg) (i:Nat) (e:List (Nat × V)):qmu (kG 0 [6,18,19,20] ((6,.ptr (.b 0) 0 0) :: (18,.d (.sl (LD bgL bs))) :: (19,.d (.int .i64 bs.length)) :: (20,.d (.int .i64 i)) :: e) (n7 (MH m)))=some (.nrm,⟨[(6,.ptr (.b 0) 0 0),(18,.d (.sl (LD bgL bs))),(19,.d (.int .i64 bs.length)),(20,.d (.int .i64 i))],MH m⟩):=by
 simp only[MH];simp -implicitDefEqProofs (disch:=omega)
theorem qrm (bs:List Bg) (hb:bs.length≤1000) (hn:∀ b∈bs,nl b.n≤40∧b.name.length≤1000000):∀ d (m:Mc) i (e:List (Nat × V)),d + i=bs.length→m.st.length≤i→m.used≤i→m.ch.length≤1100000→(∀ x∈m.ch,-9223372036854775808≤x∧x≤9223372036854775807)→
 i9 T0 X0 0 qg (some (.nrm,⟨(6,.ptr (.b 0) 0 0) :: (18,.d (.sl (LD bgL bs))) :: (19,.d (.int .i64 bs.length)) :: (20,.d (.int .i64 i)) :: e,MH m⟩)) =
  some (.exit 0,⟨[(6,.ptr (.b 0) 0 0)],MH ((bs.drop i).foldl Mc.beg m)⟩):=by
 intro d
 induction d with
 | zero=>
   intro m i e hi hs hu hc hv
   have:i=bs.length:=by omega
   subst this;rw[List.drop_length,List.foldl_nil,c9 (l:=qg) rfl];simp only[MH];simp -implicitDefEqProofs (disch:=omega) [M0]
 | succ d ih=>
   intro m i e hi hs hu hc hv
   have hlt:i < bs.length:=by omega
   have hn1:=hn _ (List.getElem_mem hlt);have s:=qvh m bs hb i hlt hn1.1 hn1.2 hc (by omega) (by omega) hv [];have c:=qk5 m bs[i];have s2:=ih (m.beg bs[i]) (i + 1) [] (by omega) (by rw[qz3]; omega) (by have:=qz2 m bs[i]; omega) (by rw[c]; exact hc) (by rw[c]; exact hv);rw[List.drop_eq_getElem_cons hlt,List.foldl_cons,← s2];rw[c9 (l:=qg) rfl];dsimp only;rw[zbl,s];rfl
def Mc.begin (g:Gb) (ch:List Int):Mc:=g.bs.foldl Mc.beg { g:=g,ch:=ch }
theorem WR (g:Gb) (ch:List Int) (hb:g.bs.length≤1000) (hn:∀ b∈g.bs,nl b.n≤40∧b.name.length≤1000000) (hc:ch.length≤1100000) (hv:∀ x∈ch,-9223372036854775808≤x∧x≤9223372036854775807) :
 d5 T0 X0 qb6 [.d g.d,.d (.sl (LD inL ch))] []=some (.ret [.ptr (.b 0) 0 0,.d (.int .i64 0)] (MH (Mc.begin g ch))):=by
 have s1:=qhp g hb hn;have s2:=qrm g.bs hb hn g.bs.length { g:=g,ch:=ch } 0 [] rfl (Nat.zero_le _) (Nat.zero_le _) hc hv;rw[c8 (af:=wI) rfl rfl rfl];rw[List.drop_zero] at s2;rw[show g.bs.foldl Mc.beg { g:=g,ch:=ch } = Mc.begin g ch from rfl] at s2;generalize Mc.begin g ch=m at *;have hcg:(V.d g.d).cells=[.d g.d]:=rfl;have hnn:XS false (.d g.d)=some false:=rfl;simp only[MH,qa9,List.length_nil,Int.cast_ofNat_Int] at s2 ⊢;simp (maxSteps:=4000000) -implicitDefEqProofs (disch:=omega) [wI,s1,s2,hnn,hcg,QV,R8]
end Go.Rf

namespace Go.Rf
set_option maxHeartbeats 16000000
theorem jD {I:Mc→Prop} (hI:Inv I):∀ n m,I m→I (m.goF n).2:=by
 intro n
 induction n with
 | zero=>intro m h; exact h
 | succ n ih=>
   intro m h;unfold Mc.goF
   by_cases h1:m.steps < 65536
   ·rw[if_pos h1]
    by_cases h2:m.look.k=0
    ·rw[if_pos h2];exact ih _ (hI.k m h h1 h2).2
    ·rw[if_neg h2];exact h
   ·rw[if_neg h1];exact h
theorem ql9 {I:Mc→Prop} (hI:Inv I) (g:Gb) (ch:List Int) (h0:I (Mc.begin g ch)) (n:Int) (hb:g.bs.length≤1000) (hn:∀ b∈g.bs,nl b.n≤40∧b.name.length≤1000000) (hc:ch.length≤1100000) (hv:∀ x∈ch,-9223372036854775808≤x∧x≤9223372036854775807) :
 d5 T0 X0 qf6 [.d g.d,.d (.sl (LD inL ch)),.d (.int .i64 n)] []=some (.ret [.d (.agg ((Mc.begin g ch).goF n.toNat).2.tell),.d (.int .i64 0)] []):=by
 have s1:=WR g ch hb hn hc hv;have s2:=Wt hI _ h0 n;have i2:=jD hI n.toNat _ h0;have s3:=qv9 _ (hI.ok _ i2) (hI.l _ i2);have hst:=(hI.ok _ i2).s.n;rw[c8 (af:=Zf) rfl rfl rfl];generalize Mc.begin g ch=m at *;generalize m.goF n.toNat=r at *;obtain ⟨c,m2⟩:=r;simp only at s2 s3 hst ⊢;generalize hq:m2.look=l at *;simp only[MH,Mc.tell,hq] at s1 s2 s3 ⊢;simp (maxSteps:=4000000) -implicitDefEqProofs (disch:=omega) [Zf,s1,s2,s3]
end Go.Rf
