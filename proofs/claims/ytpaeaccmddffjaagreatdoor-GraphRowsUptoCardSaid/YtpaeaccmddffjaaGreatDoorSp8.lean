/- Parts of the proof. -/
import Derived.Test.YtpaeaccmddffjaaGreatDoorRb2
import Derived.Test.YtpaeaccmddffjaaGreatDoorSp5
import Derived.Test.YtpaeaccmddffjaaGreatDoorSp7
import Derived.Test.YtpaeaccmddffjaaGreatDoorSp6
set_option linter.all false
namespace Go.Rf
def WL (l:List Int):List D:=l.map Wd
def WV (l:List Int):List V:=l.map fun n=>.d (Wd n)
@[simp] theorem WL_len (l):(WL l).length=l.length:=by simp[WL]
@[simp] theorem WV_len (l):(WV l).length=l.length:=by simp[WV]
@[simp] theorem qz9:WV []=[]:=rfl
@[simp] theorem WV_take (l n):(WV l).take n=WV (l.take n):=by simp[WV,List.map_take]
@[simp] theorem WL_take (l n):(WL l).take n=WL (l.take n):=by simp[WL,List.map_take]
@[simp] theorem qsy (l:List Int) (n:Int):WV l++[.d (Wd n)]=WV (l++[n]):=by simp[WV]
@[simp] theorem WV_set (l:List Int) (i:Nat) (n:Int):(WV l).set i (.d (Wd n))=WV (l.set i n):=by simp[WV,List.map_set]
@[simp] theorem WV_rep (n:Nat) (y:Int):List.replicate n (V.d (Wd y))=WV (List.replicate n y):=by simp[WV]
theorem Wd_0:Wd 0 = .agg [.bool false,.sl []]:=rfl
@[simp] theorem qsx:V.d (.agg [.bool false,.sl []])=V.d (Wd 0):=rfl
@[simp] theorem zbl (l):(WL l).map V.d=WV l:=by simp[WL,WV,Function.comp_def]
@[simp] theorem rens_WV (al:Loc→Bool) (l:List Int) (m:List Loc):qo al (WV l) m=(WV l,m):=by rw[← zbl]; exact wF ..
@[simp] theorem zih (f:Loc→Loc) (l:List Int):X5 f (WV l)=WV l:=by
  induction l with
  | nil=>rfl
  | cons x xs ih=>
    show V.mapL f (.d _) :: X5 f (WV xs)=_;rw[ih];rfl
@[simp] theorem frzL_WV (h:Loc→Option Obj) (k:Nat) (l:List Int):ju (frz h (k + 1)) (WV l)=some (WL l,[]):=by
  induction l with
  | nil=>rfl
  | cons x xs ih=>
    show ju (frz h (k + 1)) (.d _ :: WV xs)=_;simp only[ju,ih];rfl
theorem q3q (l:List Int):wl (WL l)≤32:=by
 induction l with
 | nil=>simp[WL,wl]
 | cons x xs ih=>
   show max (wt (Wd x)) (wl (WL xs))≤32;have:wt (Wd x)=25:=rfl;omega
@[simp] theorem wl_WL32 (l):(wl (WL l)≤32)=True:=eq_true (q3q l)
@[simp] theorem fit_WL {n:Nat} {l:List Int} (h:n≤1099511627):(n * wl (WL l)≤w8)=True:=eq_true (Nat.le_trans (Nat.mul_le_mul h (q3q l)) (by unfold w8; omega))
@[simp] theorem zlj (l):(∀ x∈WL l,x.cells.length=2)=True:=eq_true (by
  intro x hx;obtain ⟨n,_,rfl⟩:=List.mem_map.1 hx
  rfl)
theorem q0a {l:List Int} {i:Nat} (h:i < l.length):(WL l)[i]? = some (Wd (nth l i)):=by simp[WL,nth,h]
theorem qeh {l:List Int} {i:Nat} (h:i < l.length):(WV l)[i]? = some (.d (Wd (nth l i))):=by simp[WV,nth,h]
attribute [simp] q0a qeh
@[simp] theorem zkz (n:Int):(Wd n).cells.length=2:=rfl
@[simp] theorem zbu (n:Int):(V.cells (.d (Wd n))).length=2:=rfl
@[simp] theorem zf3 (n):List.take 2 (V.d (Wd n)).cells=(V.d (Wd n)).cells:=rfl
@[simp] theorem zlh (n):qvf (V.d (Wd n)).cells (qE (V.d (Wd n)).cells) = .d (Wd n):=rfl
theorem q2u {n:Int} (h:nl n < 1099511627776):S1 (.d (Wd n))=true:=by
 have:wl (L (d7 n.natAbs))≤4:=JY _;have h2:(d7 n.natAbs).length * wl (L (d7 n.natAbs))≤1099511627776 * 4:=Nat.mul_le_mul (Nat.le_of_lt h) this;simp[Wd,S1,XS];unfold w8; omega
attribute [simp] q2u
@[simp] theorem nl_0:nl 0=0:=rfl
@[simp] theorem nl_1:nl 1=1:=rfl
@[simp] theorem nl_m1:nl (-1)=1:=rfl
@[simp] theorem zju:S1 (.d (Wd 0))=true:=rfl
@[simp] theorem zjt:S1 (.d (Wd 1))=true:=rfl
@[simp] theorem zd1:S1 (.d (Wd (-1)))=true:=rfl
@[simp] theorem zir (h n):qw h 2 true (.d (.box (Wd n)))=val (.d (Wd n)):=by simp[Wd]
@[simp] theorem q62 (x n:Int):zO (.d (Wd x)) 0 (.d (Wd n))=some (.d (Wd n)):=by simp[Wd,zO]
theorem qod (k:Int) (f:List Int) (hf:f.length≤1000) (hk:nl k < 1073741824) (hb:∀ i,i < f.length→nl (nth f i) < 1073741824):∀ d i (out:List Int) (e:List (Nat × V)),d + i=f.length→out.length=i→
 j6 T0 X0 0 zk (some (.nrm,⟨(3,.ptr (.b 0) 0 0) :: (5,.ref (.b 1) ⟨2,32⟩ 0 i) :: (8,.d (.sl (WL f))) :: (9,.d (.int .i64 f.length)) :: (10,.d (.int .i64 i)) :: e,[.arr [.d (Wd k)] ⟨2,0⟩,.arr (WV out) ⟨2,32⟩]⟩)) =
  some (.exit 0,⟨[(5,.ref (.b 0) ⟨2,32⟩ 0 f.length)],[.arr (WV (out++(f.map (· * k)).drop i)) ⟨2,32⟩]⟩):=by
 intro d
 induction d with
 | zero=>
   intro i out e hd ho;rw[d5 (l:=zk) rfl];have h1:(f.map (· * k)).drop i=[]:=List.drop_eq_nil_of_le (by simp; omega)
   have h2:i=f.length:=by omega
   subst h2;have h3:(f.map (· * k)).drop f.length=[]:=h1;simp -implicitDefEqProofs (disch:=omega) [jL,h3]
 | succ d ih=>
   intro i out e hd ho;rw[d5 (l:=zk) rfl]
   have hi:i < f.length:=by omega
   have h1:(f.map (· * k)).drop i=(nth f i * k) :: (f.map (· * k)).drop (i + 1):=by rw[List.drop_eq_getElem_cons (by simpa using hi)]; simp[nth,hi]
   have hbi:=hb i hi;have s1:=qn3 (m:=nth f i) (n:=k) (hb i hi) hk
   have s2:=fun e=>ih (i + 1) (out++[nth f i * k]) e (by omega) (by simp[ho])
   have ht:out.take i=out:=by rw[← ho]; exact List.take_length
   simp only[Int.natCast_add,Int.cast_ofNat_Int] at s2;rw[h1];simp -implicitDefEqProofs (disch:=omega) [jL,s1,s2,ht]
theorem QX {k:Int} {f:List Int} (hf:f.length≤1000) (hk:nl k < 1073741824) (hb:∀ i,i < f.length→nl (nth f i) < 1073741824) :
 d6 T0 X0 qe8 [.d (.sl (WL f)),.d (Wd k)] []=some (.ret [.d (.sl (WL (f.map (· * k))))] []):=by
 rw[c9 (af:=Qn) rfl rfl rfl]
 have h:=fun e=>qod k f hf hk hb f.length 0 [] e rfl rfl
 simp only[Int.cast_ofNat_Int,List.length_nil,qz9,List.nil_append,List.drop_zero] at h
 have ht:(f.map (· * k)).take f.length=f.map (· * k):=by rw[List.take_of_length_le]; simp
 simp -implicitDefEqProofs (disch:=omega) [Qn,h,ht]
theorem qfe (f g:List Int) (n:Nat) (hf:n≤1000) (hb:∀ i,i < n→nl (nth g i) < 1073741824) (hn:g.length=n):∀ d i (e:List (Nat × V)),d + i=n→
 j6 T0 X0 0 S9 (some (.nrm,⟨(0,.d (.sl (WL f))) :: (2,.ptr (.b 0) 0 0) :: (4,.d (.int .i64 n)) :: (12,.d (.sl (WL g))) :: (13,.d (.int .i64 n)) :: (14,.d (.int .i64 i)) :: e,[.arr [.d (Wd 0)] ⟨2,0⟩]⟩)) =
  some (if g.drop i=List.replicate d 0 then (.exit 0,⟨[(0,.d (.sl (WL f))),(2,.ptr (.b 0) 0 0),(4,.d (.int .i64 n))],[.arr [.d (Wd 0)] ⟨2,0⟩]⟩) else (.ret,⟨[(2,.ptr (.b 0) 0 0),(3,.d (.bool false))],[.arr [.d (Wd 0)] ⟨2,0⟩]⟩)):=by
 intro d
 induction d with
 | zero=>
   intro i e hd;rw[d5 (l:=S9) rfl];have h1:g.drop i=[]:=List.drop_eq_nil_of_le (by omega);rw[h1];simp only[List.replicate_zero,if_pos];simp -implicitDefEqProofs (disch:=omega) [T1]
 | succ d ih=>
   intro i e hd;rw[d5 (l:=S9) rfl]
   have hi:i < n:=by omega
   have h1:g.drop i=nth g i :: g.drop (i + 1):=by rw[List.drop_eq_getElem_cons (by omega)]; simp[nth,hn ▸ hi]
   have s1:=KC (m:=nth g i) (hb i hi)
   have s2:=fun e=>ih (i + 1) e (by omega)
   simp only[Int.natCast_add,Int.cast_ofNat_Int] at s2;have hbi:=hb i hi;rw[h1]
   by_cases hz:nth g i=0
   ·simp only[hz,List.replicate_succ,List.cons.injEq,true_and,Int.sign_zero] at s1 ⊢;simp -implicitDefEqProofs (disch:=omega) [T1,hz,s1,s2]
   ·rw[if_neg (by simp[List.replicate_succ,hz])]
    have h2:(nth g i).sign≠0:=by simpa using hz
    simp -implicitDefEqProofs (disch:=omega) [T1,s1,h2]
def F6 (f:List Int):Int × Bool:=if f.take (f.length - 1)=List.replicate (f.length - 1) 0 then (nth f (f.length - 1),true) else (0,false)
theorem JW {f:List Int} (hf:f.length≤1000) (h0:0 < f.length) (hb:∀ i,i < f.length→nl (nth f i) < 1073741824) :
 d6 T0 X0 Wm [.d (.sl (WL f))] []=some (.ret [.d (Wd (F6 f).1),.d (.bool (F6 f).2)] []):=by
 obtain ⟨n,hn⟩:∃ n,f.length=n + 1:=⟨f.length - 1,by omega⟩;rw[c9 (af:=zl) rfl rfl rfl]
 have hg:∀ i,i < n→nth (f.take n) i=nth f i:=fun i hi=>by simp[nth,hi]
 have h:=fun e=>qfe f (f.take n) n (by omega) (fun i hi=>by rw[hg i hi]; exact hb i (by omega)) (by simp; omega) n 0 e (by omega)
 simp only[Int.cast_ofNat_Int,List.drop_zero] at h;unfold F6;rw[hn,Nat.add_sub_cancel]
 by_cases c:f.take n=List.replicate n 0
 ·simp only[if_pos c] at h ⊢;simp -implicitDefEqProofs (disch:=omega) [zl,h,hn]
 ·simp only[if_neg c] at h ⊢;simp -implicitDefEqProofs (disch:=omega) [zl,h,hn]
@[simp] theorem WL_nil:WL []=[]:=rfl
theorem qhe (l r:List Int) (N:Nat) (hN:N≤1000) (hl:l.length=N) (hr:r.length=N) (bl:∀ i,i < N→nl (nth l i) < 1073741824) (br:∀ i,i < N→nl (nth r i) < 1073741824):∀ d i (out:List Int) (e:List (Nat × V)),d + i=N→out.length=N→
 j6 T0 X0 0 xd (some (.nrm,⟨(1,.d (.sl (WL l))) :: (2,.d (.sl (WL r))) :: (12,.ref (.b 0) ⟨2,32⟩ 0 N) :: (41,.d (.int .i64 N)) :: (42,.d (.int .i64 i)) :: e,[.arr (WV out) ⟨2,32⟩]⟩)) =
  some (.exit 1,⟨[(12,.ref (.b 0) ⟨2,32⟩ 0 N)],[.arr (WV (out.take i++(List.zipWith (· + ·) l r).drop i)) ⟨2,32⟩]⟩):=by
 intro d
 induction d with
 | zero=>
   intro i out e hd ho;rw[d5 (l:=xd) rfl];have h1:(List.zipWith (· + ·) l r).drop i=[]:=List.drop_eq_nil_of_le (by simp; omega);have h2:out.take i=out:=List.take_of_length_le (by omega);rw[h1,h2];simp -implicitDefEqProofs (disch:=omega) [kM]
 | succ d ih=>
   intro i out e hd ho;rw[d5 (l:=xd) rfl]
   have hi:i < N:=by omega
   have h1:(List.zipWith (· + ·) l r).drop i=(nth l i + nth r i) :: (List.zipWith (· + ·) l r).drop (i + 1):=by
    rw[List.drop_eq_getElem_cons (by simp; omega)];simp[nth,hl,hr,hi]
   have hbl:=bl i hi;have hbr:=br i hi;have s1:=qn6 hbl hbr
   have s2:=fun e=>ih (i + 1) (out.set i (nth l i + nth r i)) e (by omega) (by simp[ho])
   have h3:(out.set i (nth l i + nth r i)).take (i + 1)=out.take i++[nth l i + nth r i]:=by
    rw[jP (by simp; omega),List.take_set_of_le (Nat.le_refl _),S7 (by omega),if_pos rfl]
   rw[h1];rw[List.append_cons,← h3];generalize nth l i + nth r i=x at *;simp only[Int.natCast_add,Int.cast_ofNat_Int] at s2;simp -implicitDefEqProofs (disch:=omega) [kM,s1,s2]
def YC (op:Int) (l r:List Int):List Int × Bool:=
 if op=43 then (List.zipWith (· + ·) l r,true)
 else if op=45 then (List.zipWith (· + ·) l (r.map (· * -1)),true)
 else if op=42 then (if (F6 l).2=true then (r.map (· * (F6 l).1),true) else (l.map (· * (F6 r).1),(F6 r).2))
 else if (F6 l).2=true∧(F6 r).2=true∧(F6 r).1≠0 then
  ((List.replicate l.length 0).set (l.length - 1) (if op=37 then (F6 l).1 % (F6 r).1 else (F6 l).1 / (F6 r).1),true)
 else ([],false)
theorem qg6 {f:List Int} {k:Nat} (hb:∀ i,i < f.length→nl (nth f i) < k) (h0:0 < k) (h1:0 < f.length):nl (F6 f).1 < k:=by
 unfold F6;split
 ·exact hb _ (by omega)
 ·exact h0
theorem qa1 {f:List Int} (g:Int→Int) {i:Nat} (h:i < f.length):nth (f.map g) i=g (nth f i):=by simp[nth,h]
theorem qpn (n:Int):nl (-n)=nl n:=by unfold nl; rw[Int.natAbs_neg]
theorem qu6 {op:Int} {l r:List Int} {N:Nat} (hN:N≤1000) (h0:0 < N) (hl:l.length=N) (hr:r.length=N) (bl:∀ i,i < N→nl (nth l i) < 134217728) (br:∀ i,i < N→nl (nth r i) < 134217728) :
 d6 T0 X0 qjh [.d (.int .u8 op),.d (.sl (WL l)),.d (.sl (WL r))] []=some (.ret [.d (.sl (WL (YC op l r).1)),.d (.bool (YC op l r).2)] []):=by
 subst hl;have cl:=qg6 bl (by omega) h0;have cr:=qg6 (f:=r) (fun i hi=>br i (by omega)) (by omega) (by omega);have s1:=JW (f:=l) hN h0 (fun i hi=>by have:=bl i hi; omega);have s2:=JW (f:=r) (by omega) (by omega) (fun i hi=>by have:=br i (by omega); omega);rw[c9 (af:=H5) rfl rfl rfl];unfold YC
 by_cases o1:op=43
 ·rw[if_pos o1]
  have lp:=fun e=>qhe l r l.length hN rfl hr (fun i hi=>by have:=bl i hi; omega) (fun i hi=>by have:=br i hi; omega) l.length 0 (List.replicate l.length 0) e (by omega) (by simp)
  simp only[Int.cast_ofNat_Int,List.drop_zero,List.take_zero,List.nil_append] at lp;have ht:(List.zipWith (· + ·) l r).take l.length=List.zipWith (· + ·) l r:=List.take_of_length_le (by simp; omega);subst o1;simp -implicitDefEqProofs (disch:=omega) [H5,s1,s2,lp,ht]
 ·rw[if_neg o1]
  by_cases o2:op=45
  ·rw[if_pos o2];have s3:=QX (f:=r) (k:=-1) (by omega) (by decide) (fun i hi=>by have:=br i (by omega); omega);have s4:=Xf (n:=-1) (by omega)
   have lp:=fun e=>qhe l (r.map (· * -1)) l.length hN rfl (by simpa using hr) (fun i hi=>by have:=bl i hi; omega) (fun i hi=>by
    rw[qa1 _ (by omega),Int.mul_neg,Int.mul_one,qpn]
    have:=br i hi; omega) l.length 0 (List.replicate l.length 0) e (by omega) (by simp)
   simp only[Int.cast_ofNat_Int,List.drop_zero,List.take_zero,List.nil_append] at lp;have ht:(List.zipWith (· + ·) l (r.map (· * -1))).take l.length=List.zipWith (· + ·) l (r.map (· * -1)):=List.take_of_length_le (by simp; omega)
   have hr':(r.map (· * -1)).length=l.length:=by simpa using hr
   generalize r.map (· * -1)=r' at *;subst o2;simp -implicitDefEqProofs (disch:=omega) [H5,s1,s2,s3,s4,lp,ht]
  ·rw[if_neg o2]
   by_cases o3:op=42
   ·rw[if_pos o3];subst o3
    cases hc:(F6 l).2 with
    | true=>
      rw[hc] at s1;rw[if_pos rfl];have s3:=QX (f:=r) (k:=(F6 l).1) (by omega) (by omega) (fun i hi=>by have:=br i (by omega); omega);simp -implicitDefEqProofs (disch:=omega) [H5,s1,s2,s3]
    | false=>
      rw[hc] at s1;rw[if_neg (by decide)];have s3:=QX (f:=l) (k:=(F6 r).1) (by omega) (by omega) (fun i hi=>by have:=bl i (by omega); omega);simp -implicitDefEqProofs (disch:=omega) [H5,s1,s2,s3]
   ·rw[if_neg o3];have s3:=YE (m:=(F6 l).1) (n:=(F6 r).1) (by omega) (by omega);generalize hc1:(F6 l).2=c1 at *;generalize hc2:(F6 r).2=c2 at *;generalize hx:(F6 l).1=x at *;generalize hy:(F6 r).1=y at *
    by_cases hz:y=0
    ·rw[if_neg (by simp[hz])];rw[if_pos hz] at s3;subst hz
     cases c1 <;> cases c2 <;> simp -implicitDefEqProofs (disch:=omega) [H5,s1,s2,s3,o1,o2,o3]
    ·rw[if_neg hz] at s3
     cases c1 with
     | false=>
       rw[if_neg (by simp)];simp -implicitDefEqProofs (disch:=omega) [H5,s1,s2,s3,o1,o2,o3]
     | true=>
       cases c2 with
       | false=>
         rw[if_neg (by simp)];simp -implicitDefEqProofs (disch:=omega) [H5,s1,s2,s3,o1,o2,o3]
       | true=>
         rw[if_pos ⟨rfl,rfl,hz⟩];generalize x / y=q at *;generalize x % y=m at *
         have ht:∀ v:Int,((List.replicate l.length 0).set (l.length - 1) v).take l.length=(List.replicate l.length 0).set (l.length - 1) v:=fun v=>List.take_of_length_le (by simp)
         have hg1:(WV (List.replicate l.length 0))[l.length - 1]? = some (.d (Wd 0)):=by rw[qeh (by simp; omega)]; simp[nth,List.getD_eq_getElem?_getD,List.getElem?_replicate,h0]; rw[if_pos (by omega)]; rfl
         have hg2:∀ v:Int,(WV ((List.replicate l.length 0).set (l.length - 1) v))[l.length - 1]? = some (.d (Wd v)):=fun v=>by rw[qeh (by simp; omega),S7 (by simp; omega),if_pos rfl]
         by_cases o4:op=37
         ·rw[if_pos o4];subst o4;simp -implicitDefEqProofs (disch:=omega) [H5,s1,s2,s3,ht,hg1,hg2]
         ·rw[if_neg o4];simp -implicitDefEqProofs (disch:=omega) [H5,s1,s2,s3,ht,hg1,o1,o2,o3,o4]
def q8 (n:Nat):Nd→List Int × Bool
 | .num k=>((List.replicate (n + 1) 0).set n k,true)
 | .name v _=>((List.replicate (n + 1) 0).set v.toNat 1,true)
 | .minus x=>((q8 n x).1.map (· * -1),(q8 n x).2)
 | .two op x y=>if (q8 n x).2=true∧(q8 n y).2=true then YC op (q8 n x).1 (q8 n y).1 else ([],false)
def Nd.w:Nd→Nat
 | .num k=>nl k + 1
 | .name _ _=>1
 | .minus x=>x.w
 | .two _ x y=>x.w + y.w
def Nd.fine (n:Nat):Nd→Prop
 | .num _=>True
 | .name v s=>0≤v∧v < n∧s.length≤1100000
 | .minus x=>x.fine n
 | .two op x y=>(op=43∨op=45∨op=42∨op=47∨op=37)∧x.fine n∧y.fine n
theorem Nd.w_pos:∀ x:Nd,0 < x.w
 | .num k=>by unfold Nd.w; omega
 | .name _ _=>by unfold Nd.w; omega
 | .minus x=>by unfold Nd.w; exact x.w_pos
 | .two _ x y=>by unfold Nd.w; have:=x.w_pos; omega
theorem qfy {k:Nat} (h:0 < k):4294967296≤pw k:=by
 have:=Qz (m:=1) (n:=k) h
 simpa [pw] using this
theorem qya {a b:Int} {k m:Nat} (ha:nl a≤k) (hb:nl b≤m) (hk:0 < k) (hm:0 < m):nl (a + b)≤k + m:=by
 have h1:=WM a;have h2:=WM b;have p1:=Qz ha;have p2:=Qz hb;have q1:=qfy hk;have q2:=qfy hm;have e:pw (k + m)=pw k * pw m:=Zf m k;have e1:pw k * 4294967296≤pw k * pw m:=Int.mul_le_mul_of_nonneg_left q2 (by omega);have e2:4294967296 * pw m≤pw k * pw m:=Int.mul_le_mul_of_nonneg_right q1 (by omega);exact qga (by omega) (by omega)
theorem qx8 {a b:Int} {k m:Nat} (ha:nl a≤k) (hb:nl b≤m):nl (a * b)≤k + m:=by
 have h1:=WM a;have h2:=WM b;have p1:=Qz ha;have p2:=Qz hb;have e:pw (k + m)=pw k * pw m:=Zf m k
 have e1:((a * b).natAbs:Int) < pw k * pw m:=by
  rw[Int.natAbs_mul,Int.natCast_mul];exact Int.lt_of_le_of_lt (Int.mul_le_mul_of_nonneg_left (Int.le_of_lt (Int.lt_of_lt_of_le h2 p2)) (by omega)) (Int.mul_lt_mul_of_pos_right (by omega) (T4 m))
 exact qga (by omega) (by omega)
theorem qx9 {a b:Int} (h:a.natAbs≤b.natAbs):nl a≤nl b:=by
 have:=WM b;exact qga (by omega) (by omega)
theorem q77 (a b:Int):nl (a / b)≤nl a + 1:=by
 have h1:=WM a
 have h2:(a / b).natAbs≤a.natAbs + 1:=by
  by_cases hb:b=0
  ·subst hb; simp
  ·obtain ⟨e1,e2,e3⟩:=qr0 a b hb
   by_cases hr:r0 a b < 0
   ·by_cases hn:b < 0
    ·rw[(Jy (m:=a) (n:=b) (q:=q0 a b + 1) (r:=r0 a b - b) hb (by rw[Int.add_mul,Int.one_mul]; omega) (by omega) (by omega)).1];omega
    ·rw[(Jy (m:=a) (n:=b) (q:=q0 a b - 1) (r:=r0 a b + b) hb (by rw[Int.sub_mul,Int.one_mul]; omega) (by omega) (by omega)).1];omega
   ·rw[(Jy (m:=a) (n:=b) (q:=q0 a b) (r:=r0 a b) hb e1 (by omega) (by omega)).1];omega
 have:=T4 (nl a);exact qga (by rw[vB]; omega) (by rw[vB]; omega)
theorem q76 (a b:Int) (h:b≠0):nl (a % b)≤nl b:=by
 have m0:=Int.emod_nonneg a h;have m1:=Int.emod_lt a h;exact qx9 (by omega)
theorem qip (n i:Nat):nth (List.replicate n 0) i=0:=by
 simp only[nth,List.getD_eq_getElem?_getD,List.getElem?_replicate]
 split <;> rfl
theorem XB {n k:Nat} (h:k < n) (v:Int) (i:Nat):nth ((List.replicate n 0).set k v) i=if i=k then v else 0:=by
 rw[S7 (by simpa using h)];split
 ·rfl
 ·exact qip ..
structure Sh (n w:Nat) (f:List Int):Prop where
 l:f.length=n + 1
 b:∀ i,i < n + 1→nl (nth f i)≤w
theorem qm3 {n w:Nat} {f:List Int} (h:Sh n w f):nl (F6 f).1≤w:=by
 unfold F6;split
 ·exact h.b _ (by have:=h.l; omega)
 ·show nl 0≤w;simp
theorem q3f {n a b:Nat} {f g:List Int} (op:Int) (ha:0 < a) (hb:0 < b) (hf:Sh n a f) (hg:Sh n b g):(YC op f g).1=[]∧(YC op f g).2=false∨Sh n (a + b) (YC op f g).1:=by
 have l1:=hf.l;have l2:=hg.l;have cf:=qm3 hf;have cg:=qm3 hg;unfold YC;split
 ·refine .inr ⟨by simp[l1,l2],fun i hi=>?_⟩
  have e:nth (List.zipWith (· + ·) f g) i=nth f i + nth g i:=by simp[nth,l1,l2,hi]
  rw[e];exact qya (hf.b i hi) (hg.b i hi) ha hb
 split
 ·refine .inr ⟨by simp[l1,l2],fun i hi=>?_⟩
  have e:nth (List.zipWith (· + ·) f (g.map (· * -1))) i=nth f i + nth g i * -1:=by simp[nth,l1,l2,hi]
  rw[e];exact qya (hf.b i hi) (by rw[Int.mul_neg,Int.mul_one,qpn]; exact hg.b i hi) ha hb
 split
 ·split
  ·refine .inr ⟨by simp[l2],fun i hi=>?_⟩;rw[qa1 _ (by omega)];rw[Nat.add_comm];exact qx8 (hg.b i hi) cf
  ·refine .inr ⟨by simp[l1],fun i hi=>?_⟩;rw[qa1 _ (by omega)];exact qx8 (hf.b i hi) cg
 split
 ·rename_i c;refine .inr ⟨by simp[l1],fun i hi=>?_⟩;rw[XB (by omega)];split
  ·split
   ·have:=q76 (F6 f).1 _ c.2.2;omega
   ·have:=q77 (F6 f).1 (F6 g).1;omega
  ·simp
 ·exact .inl ⟨rfl,rfl⟩
theorem jR (n:Nat):∀ x:Nd,x.fine n→(q8 n x).1=[]∧(q8 n x).2=false∨Sh n x.w (q8 n x).1
 | .num k,_=>by
   refine .inr ⟨by simp[q8],fun i hi=>?_⟩;unfold q8 Nd.w;rw[XB (by omega)]
   split <;> simp
 | .name v s,h=>by
   unfold Nd.fine at h;refine .inr ⟨by simp[q8],fun i hi=>?_⟩;unfold q8 Nd.w;rw[XB (by omega)]
   split <;> simp
 | .minus x,h=>by
   unfold q8 Nd.w;rcases jR n x h with ⟨e,f⟩ | c
   ·exact .inl ⟨by simp[e],f⟩
   ·have:=c.l;refine .inr ⟨by simpa using c.l,fun i hi=>?_⟩;rw[qa1 _ (by omega),Int.mul_neg,Int.mul_one,qpn];exact c.b i hi
 | .two op x y,h=>by
   unfold q8 Nd.w;split
   ·rename_i c;rcases jR n x h.2.1 with ⟨e,f⟩ | c1
    ·rw[f] at c; cases c.1
    rcases jR n y h.2.2 with ⟨e,f⟩ | c2
    ·rw[f] at c; cases c.2
    exact q3f op x.w_pos y.w_pos c1 c2
   ·exact .inl ⟨rfl,rfl⟩
@[simp] theorem q0r:(zG=xi)=False:=eq_false (by decide)
@[simp] theorem q0f:(jX=zG)=False:=eq_false (by decide)
@[simp] theorem q6m:(jX=xi)=False:=eq_false (by decide)
@[simp] theorem qwd:(xB=zG)=False:=eq_false (by decide)
@[simp] theorem q0s:(xB=jX)=False:=eq_false (by decide)
@[simp] theorem q30:(xB=xi)=False:=eq_false (by decide)
@[simp] theorem q0q:(xi=zG)=False:=eq_false (by decide)
@[simp] theorem q6l:(xi=jX)=False:=eq_false (by decide)
@[simp] theorem q3z:(xi=xB)=False:=eq_false (by decide)
@[simp] theorem fitV_nd (x:Nd):S1 (.d x.d)=true:=by cases x <;> rfl
theorem qbi {n w:Nat} {f:List Int} (h:f=[]∨Sh n w f) (hn:n≤16) (hw:w < 134217728):f.length≤1000 ∧ ∀ i,i < f.length→nl (nth f i) < 1073741824:=by
 rcases h with h | h
 ·subst h;exact ⟨by simp,fun i hi=>by simp at hi⟩
 ·have:=h.l;refine ⟨by omega,fun i hi=>?_⟩;have:=h.b i (by omega);omega
theorem qzd (n:Nat) (hn:n≤16) (k:Int) (hw:nl k < 134217728):d6 T0 X0 R0 [.d (Nd.num k).d,.d (.int .i64 n)] []=some (.ret [.d (.sl (WL (q8 n (.num k)).1)),.d (.bool (q8 n (.num k)).2)] []):=by
 have s1:=QS (m:=k) (by omega)
 have ht:∀ v:Int,((List.replicate (n + 1) 0).set n v).take (n + 1)=(List.replicate (n + 1) 0).set n v:=fun v=>List.take_of_length_le (by simp)
 have hg1:(WV (List.replicate (n + 1) 0))[n]? = some (.d (Wd 0)):=by rw[qeh (by simp),qip]
 rw[c9 (af:=K2) rfl rfl rfl];simp only[Nd.d,q8];simp -implicitDefEqProofs (disch:=omega) [K2,s1,ht,hg1]
theorem qum (n:Nat) (hn:n≤16) (v:Nat) (s:List UInt8) (hv:v < n) (hs:s.length≤1100000):d6 T0 X0 R0 [.d (Nd.name v s).d,.d (.int .i64 n)] []=some (.ret [.d (.sl (WL (q8 n (.name v s)).1)),.d (.bool (q8 n (.name v s)).2)] []):=by
 have s1:=Xf (n:=1) (by omega)
 have ht:∀ k (w:Int),((List.replicate (n + 1) 0).set k w).take (n + 1)=(List.replicate (n + 1) 0).set k w:=fun k w=>List.take_of_length_le (by simp)
 have hg1:(WV (List.replicate (n + 1) 0))[v]? = some (.d (Wd 0)):=by rw[qeh (by simp; omega),qip]
 rw[c9 (af:=K2) rfl rfl rfl];simp only[Nd.d,q8,Int.toNat_natCast];simp -implicitDefEqProofs (disch:=omega) [K2,s1,ht,hg1]
theorem qp3 (n:Nat) (hn:n≤16) (x:Nd) (hx:x.fine n) (hw:x.w < 134217728) (ih:d6 T0 X0 R0 [.d x.d,.d (.int .i64 n)] []=some (.ret [.d (.sl (WL (q8 n x).1)),.d (.bool (q8 n x).2)] [])) :
 d6 T0 X0 R0 [.d (Nd.minus x).d,.d (.int .i64 n)] []=some (.ret [.d (.sl (WL (q8 n (.minus x)).1)),.d (.bool (q8 n (.minus x)).2)] []):=by
 have s1:=Xf (n:=-1) (by omega);obtain ⟨t1,t2⟩:=qbi ((jR n x hx).imp And.left id) hn hw;have s2:=QX (f:=(q8 n x).1) (k:=-1) t1 (by decide) t2;rw[c9 (af:=K2) rfl rfl rfl];simp only[Nd.d,q8];generalize (q8 n x).1.map (· * -1)=g at *;simp -implicitDefEqProofs (disch:=omega) [K2,s1,s2,ih]
theorem qzc (n:Nat) (hn:n≤16) (op:Int) (x y:Nd) (hx:x.fine n) (hy:y.fine n) (hw:x.w + y.w < 134217728) (ih:d6 T0 X0 R0 [.d x.d,.d (.int .i64 n)] []=some (.ret [.d (.sl (WL (q8 n x).1)),.d (.bool (q8 n x).2)] []))
 (ih2:d6 T0 X0 R0 [.d y.d,.d (.int .i64 n)] []=some (.ret [.d (.sl (WL (q8 n y).1)),.d (.bool (q8 n y).2)] [])) :
 d6 T0 X0 R0 [.d (Nd.two op x y).d,.d (.int .i64 n)] []=some (.ret [.d (.sl (WL (q8 n (.two op x y)).1)),.d (.bool (q8 n (.two op x y)).2)] []):=by
 have f1:=jR n x hx;have f2:=jR n y hy;rw[c9 (af:=K2) rfl rfl rfl];simp only[Nd.d,q8];generalize q8 n x=fx at *;generalize q8 n y=fy at *;obtain ⟨fx,b1⟩:=fx;obtain ⟨fy,b2⟩:=fy;simp only[] at *;obtain ⟨t1,t2⟩:=qbi (f1.imp And.left id) hn (by omega);obtain ⟨t3,t4⟩:=qbi (f2.imp And.left id) hn (by omega)
 by_cases hb:b1=true∧b2=true
 ·rw[if_pos hb];obtain ⟨rfl,rfl⟩:=hb
  have f1:Sh n x.w fx:=by rcases f1 with ⟨_,h⟩ | h; cases h; exact h
  have f2:Sh n y.w fy:=by rcases f2 with ⟨_,h⟩ | h; cases h; exact h
  have s1:=qu6 (op:=op) (l:=fx) (r:=fy) (N:=n + 1) (by omega) (by omega) f1.l f2.l (fun i hi=>by have:=f1.b i hi; omega) (fun i hi=>by have:=f2.b i hi; omega);generalize YC op fx fy=z at *;obtain ⟨z,b3⟩:=z;simp -implicitDefEqProofs (disch:=omega) [K2,s1,ih,ih2]
 ·rw[if_neg hb]
  cases b1 <;> cases b2 <;> simp at hb <;> simp -implicitDefEqProofs (disch:=omega) [K2,ih,ih2]
theorem QI (n:Nat) (hn:n≤16):∀ x:Nd,x.fine n→x.w < 134217728→d6 T0 X0 R0 [.d x.d,.d (.int .i64 n)] []=some (.ret [.d (.sl (WL (q8 n x).1)),.d (.bool (q8 n x).2)] [])
 | .num k,_,hw=>qzd n hn k (by unfold Nd.w at hw; omega)
 | .name v s,h,_=>by
   obtain ⟨v,rfl⟩:=Int.eq_ofNat_of_zero_le h.1;exact qum n hn v s (by have:=h.2.1; omega) h.2.2
 | .minus x,h,hw=>qp3 n hn x h hw (QI n hn x h hw)
 | .two op x y,h,hw=>by
   unfold Nd.w at hw;exact qzc n hn op x y h.2.1 h.2.2 hw (QI n hn x h.2.1 (by omega)) (QI n hn y h.2.2 (by omega))
abbrev RWh:=Bool × List Int
def rv (w:RWh):Int:=sg w.1 (nv w.2)
def rth (ws:List RWh) (i:Nat):RWh:=ws.getD i (false,[])
def wide (r:Int × Int):Int × Int:=if r.2=0 then (if 512 < nl r.1 then (0,2) else r) else (0,r.2)
def jv (st:Nat→Int):Nd→Int × Int
 | .num k=>(k,0)
 | .name v _=>(st v.toNat,0)
 | .minus x=>(-(wide (jv st x)).1,(wide (jv st x)).2)
 | .two op x y=>
   if (wide (jv st x)).2≠0 then wide (jv st x)
   else if (wide (jv st y)).2≠0 then wide (jv st y)
   else if op=43 then ((wide (jv st x)).1 + (wide (jv st y)).1,0)
   else if op=45 then ((wide (jv st x)).1 - (wide (jv st y)).1,0)
   else if op=42 then ((wide (jv st x)).1 * (wide (jv st y)).1,0)
   else if (wide (jv st y)).1=0 then (0,20)
   else if op=47 then ((wide (jv st x)).1 / (wide (jv st y)).1,0)
   else ((wide (jv st x)).1 % (wide (jv st y)).1,0)
def stV (ws:List RWh) (i:Nat):Int:=rv (rth ws i)
def zf5 (f:List Int) (st:Nat→Int):Nat→Int
 | 0=>0
 | n + 1=>zf5 f st n + nth f n * st n
theorem qsi (T X p a st):x5 T X p a st=j6 T X p a (some (.nrm,st)):=rfl
section
variable (p:Nat) (res:List (ARes × Bool))
@[simp] theorem zhd (k st):qid p res k (some (.nrm,st))=k st:=rfl
@[simp] theorem zhc (k st):qid p res k (some (.ret,st))=qz p res st:=rfl
@[simp] theorem zi8 (env st):qpx p res env (some (.nrm,st))=qz p res { env,heap:=st.heap }:=rfl
@[simp] theorem zk6 (k st):zbg k (some (.ret,st))=k (.d .nili) st.heap:=rfl
@[simp] theorem zk7 (k t x st):zbg k (some (.pan (.d (.iface t x)),st))=k (.d (.iface t x)) st.heap:=rfl
end
def rd0 (ts:List Tok) (vs:List (List UInt8)):Rd:=⟨ts,0,vs,0,some (.sl (SL vs)),[]⟩
theorem q1m:∀ n m r e p r',rd n m r = .bad e p r'→e≠0:=by
 intro n
 induction n with
 | zero=>intro m r e p r' h; unfold rd at h; cases h; decide
 | succ n ih=>
   intro m r e p r' h
   have bnd:∀ (x:Rs) (f:Nd→Rd→Rs),(∀ e p r',x = .bad e p r'→e≠0)→(∀ y r e p r',f y r = .bad e p r'→e≠0)→x.bind f = .bad e p r'→e≠0:=by
    intro x f h1 h2 h3
    cases x with
    | ok y r=>exact h2 _ _ _ _ _ h3
    | bad e' p' r2=>cases h3; exact h1 _ _ _ rfl
   cases m with
   | u=>
     unfold rd at h;split at h
     ·exact bnd _ _ (ih _ _) (fun y r e p r' h=>by cases h) h
     split at h
     ·cases h
     split at h
     ·split at h
      ·cases h
      ·cases h; decide
     split at h
     ·rename_i e' he;cases h;unfold Rd.into at he;split at he
      ·split at he
       ·cases he
       ·cases he; decide
      ·cases he; decide
     ·refine bnd _ _ (ih _ _) (fun y r e p r' h=>?_) h;split at h
      ·cases h
      ·cases h; decide
   | p=>unfold rd at h; exact bnd _ _ (ih _ _) (fun y r=>ih _ _) h
   | s=>unfold rd at h; exact bnd _ _ (ih _ _) (fun y r=>ih _ _) h
   | lp x=>
     unfold rd at h;split at h
     ·exact bnd _ _ (ih _ _) (fun y r=>ih _ _) h
     split at h
     ·exact bnd _ _ (ih _ _) (fun y r=>ih _ _) h
     split at h
     ·exact bnd _ _ (ih _ _) (fun y r=>ih _ _) h
     cases h
   | ls x=>
     unfold rd at h;split at h
     ·exact bnd _ _ (ih _ _) (fun y r=>ih _ _) h
     split at h
     ·exact bnd _ _ (ih _ _) (fun y r=>ih _ _) h
     cases h
theorem q74 {s:List UInt8} (h:qi s):nl (qW s) + 1≤457:=by
 have hn:=Jt h.1;have:(d7 (qW s)).length≤456:=o6 hn.1 (by have:=(kW 456).2; have:=h.1; omega);unfold nl;rw[Int.natAbs_of_nonneg hn.1];omega
def qej (r:Rd) (a:Nat):Rs→Prop
 | .ok x r'=>Kept r r'∧x.fine r.vs.length∧x.w + 457 * r.i≤a + 457 * r'.i
 | .bad _ _ _=>True
theorem qej.bind {r r0:Rd} {a c:Nat} {b:Rs} {f:Nd→Rd→Rs} (h:qej r0 a b) (g:∀ x r',Kept r0 r'→x.fine r0.vs.length→x.w + 457 * r0.i≤a + 457 * r'.i→qej r c (f x r')):qej r c (b.bind f):=by
 cases b with
 | bad e p r'=>trivial
 | ok x r'=>exact g x r' h.1 h.2.1 h.2.2
theorem qej.from {r r':Rd} {a c:Nat} {b:Rs} (h:qej r' c b) (k:Kept r r') (hw:c + 457 * r.i≤a + 457 * r'.i):qej r a b:=by
 cases b with
 | bad e p r2=>trivial
 | ok x r2=>
   obtain ⟨h1,h2,h3⟩:=h;exact ⟨k.trans h1,by rw[← k.vs]; exact h2,by omega⟩
def Md.w:Md→Nat
 | .lp x=>x.w
 | .ls x=>x.w
 | _=>0
def Md.fine (k:Nat):Md→Prop
 | .lp x=>x.fine k
 | .ls x=>x.fine k
 | _=>True
theorem qxi:∀ n m r,Rd.ok r→(∀ t∈r.ts,t.kind=2→qi t.text)→m.fine r.vs.length→qej r m.w (rd n m r):=by
 intro n
 induction n with
 | zero=>intro m r _ _ _; trivial
 | succ n ih=>
   intro m r h hnum hm;have hno:=r.next_op;have kn:=Kept.next h
   have two:∀ (op:Int) (x:Nd) (md:Md) (m2:Nd→Md),(op=43∨op=45∨op=42∨op=47∨op=37)→r.tok.kind≠0→md.w=0→md.fine r.vs.length→x.fine r.vs.length→(∀ y,(m2 y).w=y.w ∧ ∀ k,y.fine k→(m2 y).fine k)→
    qej r x.w ((rd n md r.next).bind fun y r=>rd n (m2 (.two op x y)) r):=by
    intro op x md m2 hop hk h0 hf hx h2;have hi:=F8 hk;have a:=ih md r.next (Rd.next_ok h) (by rw[hno.2.1]; exact hnum) (by rw[hno.2.2]; exact hf);rw[h0] at a
    refine a.bind fun y r' k1 fy wy=>?_
    have k2:=kn.trans k1;have b:=ih (m2 (.two op x y)) r' k1.ok (by rw[k2.ts]; exact hnum) ((h2 _).2 _ (by rw[k2.vs]; exact ⟨hop,hx,by rw[← hno.2.2]; exact fy⟩));rw[(h2 _).1] at b;exact b.from k2 (by show x.w + y.w + _≤_; omega)
   have seq:∀ (md:Md) (m2:Nd→Md),md.w=0→md.fine r.vs.length→(∀ y,(m2 y).w=y.w ∧ ∀ k,y.fine k→(m2 y).fine k)→qej r 0 ((rd n md r).bind fun y r=>rd n (m2 y) r):=by
    intro md m2 h0 hf h2;have a:=ih md r h hnum hf;rw[h0] at a
    refine a.bind fun y r' k1 fy wy=>?_
    have b:=ih (m2 y) r' k1.ok (by rw[k1.ts]; exact hnum) ((h2 _).2 _ (by rw[k1.vs]; exact fy));rw[(h2 _).1] at b;exact b.from k1 (by omega)
   have self:∀ x:Nd,x.fine r.vs.length→qej r x.w (.ok x r):=fun x hx=>⟨Kept.refl h,hx,Nat.le_refl _⟩
   cases m with
   | p=>unfold rd; exact seq .u .lp rfl trivial (fun _=>⟨rfl,fun _ h=>h⟩)
   | s=>unfold rd; exact seq .p .ls rfl trivial (fun _=>⟨rfl,fun _ h=>h⟩)
   | lp x=>
     unfold rd;split
     ·rename_i c; exact two 42 x .u .lp (by omega) (A4 c) rfl trivial hm (fun _=>⟨rfl,fun _ h=>h⟩)
     split
     ·rename_i c; exact two 47 x .u .lp (by omega) (A4 c) rfl trivial hm (fun _=>⟨rfl,fun _ h=>h⟩)
     split
     ·rename_i c; exact two 37 x .u .lp (by omega) (A4 c) rfl trivial hm (fun _=>⟨rfl,fun _ h=>h⟩)
     exact self x hm
   | ls x=>
     unfold rd;split
     ·rename_i c; exact two 43 x .p .ls (by omega) (A4 c) rfl trivial hm (fun _=>⟨rfl,fun _ h=>h⟩)
     split
     ·rename_i c; exact two 45 x .p .ls (by omega) (A4 c) rfl trivial hm (fun _=>⟨rfl,fun _ h=>h⟩)
     exact self x hm
   | u=>
     unfold rd;split
     ·rename_i c;have hi:=F8 (A4 c);have a:=ih .u r.next (Rd.next_ok h) (by rw[hno.2.1]; exact hnum) trivial
      refine a.bind fun y r' k1 fy wy=>?_
      refine ⟨kn.trans k1,by rw[← hno.2.2]; exact fy,?_⟩;show y.w + _≤_;have:Md.w .u=0:=rfl;omega
     split
     ·rename_i c;have hi:=F8 (r:=r) (by omega);have:=q74 (hnum _ (QV h) c);refine ⟨kn,trivial,?_⟩;show nl _ + 1 + _≤0 + _;omega
     split
     ·rename_i c
      have hk:r.tok.kind=1:=by
       unfold Rd.isName at c;simp only[Bool.and_eq_true,decide_eq_true_eq] at c;exact c.1
      have hi:=F8 (r:=r) (by omega);split
      ·rename_i c2;have hv:=qat r.vs r.tok.text r.vs.length 0 (by omega);refine ⟨kn,⟨c2,by unfold Rd.var; omega,Q3 h⟩,?_⟩;show 1 + _≤0 + _;omega
      ·trivial
     split
     ·trivial
     ·rename_i hin
      have hop:r.op < 16:=by
       unfold Rd.into at hin;split at hin
       ·split at hin
        ·assumption
        ·cases hin
       ·cases hin
      have ho:=Rd.opened_ok h hop;have kn2:=Kept.next ho;have hno2:=r.opened.next_op;have a:=ih .s r.opened.next (Rd.next_ok ho) (by rw[hno2.2.1]; exact hnum) trivial
      refine a.bind fun y r' k1 fy wy=>?_
      have k3:=kn2.trans k1;split
      ·have kn4:=Kept.next k3.ok
       have hpos:0 < r'.next.op:=by
        rw[kn4.op,k3.op];have:=h.op;show 0 < r.op + 1;omega
       have hi4:=kn4.i;have hi5:r.i≤r.opened.next.i:=kn2.i;have hi6:=k1.i;refine ⟨⟨Rd.closed_ok kn4.ok hpos,?_,?_,?_,?_,kn4.ly.trans k3.ly,kn4.ms.trans k3.ms⟩,?_,?_⟩
       ·exact kn4.ts.trans k3.ts
       ·exact kn4.vs.trans k3.vs
       ·show r'.next.op - 1=r.op;rw[kn4.op,k3.op];show r.op + 1 - 1=r.op;omega
       ·show r.i≤r'.next.i;omega
       ·have:r.opened.next.vs=r.vs:=hno2.2.2;rw[← this]; exact fy
       ·have:Md.w .s=0:=rfl;show y.w + _≤0 + 457 * r'.next.i;omega
      ·trivial
theorem qbk:∀ f (s:Sc) (out:List Tok) e p,E4 f s out=(none,e,p)→e≠0
 | 0,s,out,e,p,h=>by unfold E4 at h; cases h
 | f + 1,s,out,e,p,h=>by
   unfold E4 at h;split at h
   ·rename_i c; cases h; exact c
   ·split at h
    ·cases h
    ·exact qbk f _ _ _ _ h
theorem qfo {s:List UInt8} {e p} (h:wD s=(none,e,p)):e≠0:=by
 unfold wD at h;split at h
 ·cases h; decide
 ·exact qbk _ _ _ _ _ h
structure TsOk (ts:List Tok):Prop where
 rd:∀ vs:List (List UInt8),vs.length≤16→(∀ k,(tx vs k).length≤1100000)→(rd0 ts vs).ok
 n:ts.length≤5000
 num:∀ t∈ts,t.kind=2→qi t.text
theorem jz {s:List UInt8} {ts e p} (h:wD s=(some ts,e,p)):e=0∧TsOk ts:=by
 unfold wD at h;split at h
 ·cases h
 rename_i hl;have hok:Sc.ok ⟨s,start,0,g9⟩:=⟨by show s.length≤4096; omega,by show Pl.small start s.length; unfold Pl.small start; simp only[]; omega⟩;obtain ⟨o,t,rfl,hp,hk,ht,he⟩:=qkr _ _ _ _ _ _ hok (by show s.length < s.length + 1; omega) ⟨(fun t h=>by cases h),(fun t h=>by cases h),(fun t h=>by cases h)⟩ h;have hn:=YL _ _ _ _ _ _ hok h;simp only[List.length_append,List.length_cons,List.length_nil] at hn;refine ⟨he,⟨fun vs hv ht2=>⟨?_,?_,?_,?_,hv,⟨by show (0:Int)≤0; omega,by show (0:Int)≤16; omega⟩,?_,ht2,fun x h=>.inl (by cases h; rfl)⟩,by simp; omega,?_⟩⟩
 ·show 0 < (o++[t]).length;simp
 ·show (o++[t]).length≤5000;simp; omega
 ·intro j hj
  have hj:j < o.length:=by
   have:(rd0 (o++[t]) vs).ts.length=o.length + 1:=by simp[rd0]
   omega
  show ((o++[t]).getD j ⟨0,[],g9⟩).kind≠0;rw[List.getD_eq_getElem?_getD,List.getElem?_append_left hj,List.getElem?_eq_getElem hj];exact hp.k _ (List.getElem_mem hj)
 ·intro j hj
  have hj:j=o.length:=by
   have:(rd0 (o++[t]) vs).ts.length=o.length + 1:=by simp[rd0]
   omega
  subst hj;show ((o++[t]).getD o.length ⟨0,[],g9⟩).kind=0;simp[hk]
 ·intro t' hm;rcases List.mem_append.1 (show t'∈o++[t] from hm) with h | h
  ·exact hp.tx _ h
  ·rw[List.mem_singleton.1 h]; exact ht
 ·intro t' hm h2;rcases List.mem_append.1 hm with h | h
  ·exact hp.nm _ h h2
  ·rw[List.mem_singleton.1 h] at h2;omega
def oD:Option Nd→D
 | none=>.nili
 | some x=>x.d
@[simp] theorem zie (f l a b):qt8 f [.ptr l a b] = .fn f [.ptr l a b]:=rfl
abbrev Tk:=Int × List UInt8
mutual
inductive Un (vs:List (List UInt8)):Nat→List Tk→Nd→Prop where
 | num {e w}:Un vs e [(2,w)] (.num (qW w))
 | name {e w v}:zF vs w vs.length 0=v→0≤v→Y2 w=false→Un vs e [(1,w)] (.name v w)
 | minus {e l x}:Un vs e l x→Un vs e ((3,[45]) :: l) (.minus x)
 | par {e l x}:Su vs e l x→Un vs (e + 1) ((3,[40]) :: (l++[(3,[41])])) x
 | weak {e l x}:Un vs e l x→Un vs (e + 1) l x
inductive Pr (vs:List (List UInt8)):Nat→List Tk→Nd→Prop where
 | one {e l x}:Un vs e l x→Pr vs e l x
 | mul {e l l' x y c op}:Pr vs e l x→Un vs e l' y→(c=42∧op=42∨c=47∧op=47∨c=37∧op=37)→Pr vs e (l++(3,[c]) :: l') (.two op x y)
inductive Su (vs:List (List UInt8)):Nat→List Tk→Nd→Prop where
 | one {e l x}:Pr vs e l x→Su vs e l x
 | add {e l l' x y c op}:Su vs e l x→Pr vs e l' y→(c=43∧op=43∨c=45∧op=45)→Su vs e (l++(3,[c]) :: l') (.two op x y)
end
def Rd.kts (r:Rd):List Tk:=(r.ts.drop r.i).map kt
theorem G1 {r:Rd} (h:r.ok) {k:Int} {w:List UInt8} {l:List Tk} (e:r.kts=(k,w) :: l):r.tok.kind=k∧r.tok.text=w∧(k≠0→r.next.kts=l∧r.next.i=r.i + 1):=by
 have hi:=h.i
 have e2:r.ts.drop r.i=r.tok :: r.ts.drop (r.i + 1):=by
  rw[List.drop_eq_getElem_cons hi];unfold Rd.tok;simp[hi]
 unfold Rd.kts at e;rw[e2] at e;simp only[List.map_cons,List.cons.injEq,kt,Prod.mk.injEq] at e;refine ⟨e.1.1,e.1.2,fun hk=>?_⟩
 have hn:r.next = { r with i:=r.i + 1 }:=by
  unfold Rd.next;rw[if_neg (by rw[e.1.1]; exact hk)]
 rw[hn];exact ⟨e.2,rfl⟩
theorem V8 {r:Rd} {k:Int} {w:List UInt8} (hk:r.tok.kind=k) (hw:r.tok.text=w) (s:List UInt8):r.isT s=decide (w=s∧(k=3∨k=1)):=by
 unfold Rd.isT;rw[hk,hw]
def nm:List Tk→Prop
 | (k,w) :: _=>¬ ((k=3∨k=1)∧(w=[42]∨w=[47]∨w=[37]))
 | []=>True
def ns:List Tk→Prop
 | (k,w) :: _=>¬ ((k=3∨k=1)∧(w=[43]∨w=[45]))
 | []=>True
theorem zh4 {c:UInt8} {l:List Tk} (h:c≠42∧c≠47∧c≠37):nm ((3,[c]) :: l):=fun ⟨_,hw⟩=>by
 rcases hw with e | e | e <;> simp only[List.cons.injEq,and_true] at e
 ·exact h.1 e
 ·exact h.2.1 e
 ·exact h.2.2 e
theorem ns_c {c:UInt8} {l:List Tk} (h:c≠43∧c≠45):ns ((3,[c]) :: l):=fun ⟨_,hw⟩=>by
 rcases hw with e | e <;> simp only[List.cons.injEq,and_true] at e
 ·exact h.1 e
 ·exact h.2 e
theorem qyj {r:Rd} (h:r.ok) {x:Nd} {n:Nat} (hn:1≤n) (hm:nm r.kts):rd n (.lp x) r = .ok x r:=by
 obtain ⟨n,rfl⟩:∃ m,n=m + 1:=⟨n - 1,by omega⟩
 cases hk:r.kts with
 | nil=>
   have:=h.i
   have:r.kts.length=r.ts.length - r.i:=by simp[Rd.kts]
   rw[hk] at this;simp at this;omega
 | cons p l=>
   obtain ⟨k,w⟩:=p;obtain ⟨a,b,_⟩:=G1 h hk;rw[hk] at hm;unfold nm at hm;unfold rd;rw[V8 a b,V8 a b,V8 a b];rw[if_neg (fun hd=>hm ⟨(of_decide_eq_true hd).2,.inl (of_decide_eq_true hd).1⟩),if_neg (fun hd=>hm ⟨(of_decide_eq_true hd).2,.inr (.inl (of_decide_eq_true hd).1)⟩),if_neg (fun hd=>hm ⟨(of_decide_eq_true hd).2,.inr (.inr (of_decide_eq_true hd).1)⟩)]
theorem qyi {r:Rd} (h:r.ok) {x:Nd} {n:Nat} (hn:1≤n) (hm:ns r.kts):rd n (.ls x) r = .ok x r:=by
 obtain ⟨n,rfl⟩:∃ m,n=m + 1:=⟨n - 1,by omega⟩
 cases hk:r.kts with
 | nil=>
   have:=h.i
   have:r.kts.length=r.ts.length - r.i:=by simp[Rd.kts]
   rw[hk] at this;simp at this;omega
 | cons p l=>
   obtain ⟨k,w⟩:=p;obtain ⟨a,b,_⟩:=G1 h hk;rw[hk] at hm;unfold ns at hm;unfold rd;rw[V8 a b,V8 a b];rw[if_neg (fun hd=>hm ⟨(of_decide_eq_true hd).2,.inl (of_decide_eq_true hd).1⟩),if_neg (fun hd=>hm ⟨(of_decide_eq_true hd).2,.inr (of_decide_eq_true hd).1⟩)]
def GoU (l:List Tk) (x:Nd) (e:Nat) (vs:List (List UInt8)):Prop:=∀ (r:Rd) (rest:List Tk) (n:Nat),r.ok→r.vs=vs→r.kts=l++rest→r.op + e≤16→4 * (r.ts.length - r.i) + 1≤n→
 ∃ r',rd n .u r = .ok x r'∧Kept r r'∧r.i < r'.i∧r'.kts=rest
def GoP (l:List Tk) (x:Nd) (e:Nat) (vs:List (List UInt8)):Prop:=∀ (r:Rd) (rest:List Tk) (n:Nat),r.ok→r.vs=vs→r.kts=l++rest→r.op + e≤16→4 * (r.ts.length - r.i) + 2≤n→
 ∃ n' r',rd n .p r=rd n' (.lp x) r'∧Kept r r'∧r.i < r'.i∧r'.kts=rest∧4 * (r'.ts.length - r'.i) + 1≤n'
def GoS (l:List Tk) (x:Nd) (e:Nat) (vs:List (List UInt8)):Prop:=∀ (r:Rd) (rest:List Tk) (n:Nat),r.ok→r.vs=vs→r.kts=l++rest→r.op + e≤16→nm rest→4 * (r.ts.length - r.i) + 3≤n→
 ∃ n' r',rd n .s r=rd n' (.ls x) r'∧Kept r r'∧r.i < r'.i∧r'.kts=rest∧4 * (r'.ts.length - r'.i) + 1≤n'
theorem q2m {l:List Tk} {x:Nd} {e:Nat} {vs:List (List UInt8)} (h:GoU l x e vs):GoP l x e vs:=by
 intro r rest n hr hv hk ho hn;obtain ⟨n,rfl⟩:∃ m,n=m + 1:=⟨n - 1,by omega⟩;obtain ⟨r',h1,h2,h3,h4⟩:=h r rest n hr hv hk ho (by omega);have hi:=h2.ok.i;refine ⟨n,r',?_,h2,h3,h4,by rw[h2.ts] at hi ⊢; omega⟩
 conv=>lhs; unfold rd
 rw[h1];rfl
theorem q2n {l l':List Tk} {x y:Nd} {e:Nat} {vs:List (List UInt8)} {c:UInt8} {op:Int} (hc:c=42∧op=42∨c=47∧op=47∨c=37∧op=37) (h:GoP l x e vs) (h':GoU l' y e vs):GoP (l++(3,[c]) :: l') (.two op x y) e vs:=by
 intro r rest n hr hv hk ho hn;obtain ⟨n1,r1,a1,a2,a3,a4,a5⟩:=h r ((3,[c]) :: (l'++rest)) n hr hv (by rw[hk]; simp) ho hn;obtain ⟨m,rfl⟩:∃ m,n1=m + 1:=⟨n1 - 1,by omega⟩;obtain ⟨k1,k2,k3⟩:=G1 a2.ok a4;obtain ⟨k3,k4⟩:=k3 (by decide);have kn:=Kept.next a2.ok;have hi1:=kn.ok.i;obtain ⟨r2,b1,b2,b3,b4⟩:=h' r1.next rest m kn.ok (by rw[kn.vs,a2.vs,hv]) k3 (by rw[kn.op,a2.op]; exact ho) (by rw[kn.ts] at hi1 ⊢; omega);have hi2:=b2.ok.i;refine ⟨m,r2,?_,a2.trans (kn.trans b2),by omega,b4,by rw[b2.ts,kn.ts] at hi2 ⊢; rw[kn.ts] at hi1; omega⟩;rw[a1]
 conv=>lhs; unfold rd
 rw[V8 k1 k2,V8 k1 k2,V8 k1 k2];rcases hc with ⟨rfl,rfl⟩ | ⟨rfl,rfl⟩ | ⟨rfl,rfl⟩
 ·rw[if_pos (by decide),b1]; rfl
 ·rw[if_neg (by decide),if_pos (by decide),b1]; rfl
 ·rw[if_neg (by decide),if_neg (by decide),if_pos (by decide),b1]; rfl
theorem q2k {l:List Tk} {x:Nd} {e:Nat} {vs:List (List UInt8)} (h:GoP l x e vs):GoS l x e vs:=by
 intro r rest n hr hv hk ho hm hn;obtain ⟨n,rfl⟩:∃ m,n=m + 1:=⟨n - 1,by omega⟩;obtain ⟨n1,r1,a1,a2,a3,a4,a5⟩:=h r rest n hr hv hk ho (by omega);have hi:=a2.ok.i;refine ⟨n,r1,?_,a2,a3,a4,by rw[a2.ts] at hi ⊢; omega⟩
 conv=>lhs; unfold rd
 rw[a1,qyj a2.ok (by omega) (by rw[a4]; exact hm)];rfl
theorem q2l {l l':List Tk} {x y:Nd} {e:Nat} {vs:List (List UInt8)} {c:UInt8} {op:Int} (hc:c=43∧op=43∨c=45∧op=45) (h:GoS l x e vs) (h':GoP l' y e vs):GoS (l++(3,[c]) :: l') (.two op x y) e vs:=by
 intro r rest n hr hv hk ho hm hn
 obtain ⟨n1,r1,a1,a2,a3,a4,a5⟩:=h r ((3,[c]) :: (l'++rest)) n hr hv (by rw[hk]; simp) ho (by
  rcases hc with ⟨rfl,_⟩ | ⟨rfl,_⟩ <;> exact zh4 (by decide)) hn
 obtain ⟨m,rfl⟩:∃ m,n1=m + 1:=⟨n1 - 1,by omega⟩;obtain ⟨k1,k2,k3⟩:=G1 a2.ok a4;obtain ⟨k3,k4⟩:=k3 (by decide);have kn:=Kept.next a2.ok;have hi1:=kn.ok.i;obtain ⟨n2,r2,b1,b2,b3,b4,b5⟩:=h' r1.next rest m kn.ok (by rw[kn.vs,a2.vs,hv]) k3 (by rw[kn.op,a2.op]; exact ho) (by rw[kn.ts] at hi1 ⊢; omega);have hi2:=b2.ok.i;refine ⟨m,r2,?_,a2.trans (kn.trans b2),by omega,b4,by rw[b2.ts,kn.ts] at hi2 ⊢; rw[kn.ts] at hi1; omega⟩;rw[a1]
 conv=>lhs; unfold rd
 rw[V8 k1 k2,V8 k1 k2];have e2:=qyj (x:=y) b2.ok (show 1≤n2 by omega) (by rw[b4]; exact hm);rcases hc with ⟨rfl,rfl⟩ | ⟨rfl,rfl⟩
 ·rw[if_pos (by decide),b1,e2]; rfl
 ·rw[if_neg (by decide),if_pos (by decide),b1,e2]; rfl
theorem q2i {l:List Tk} {x:Nd} {e:Nat} {vs:List (List UInt8)} (h:GoS l x e vs):GoU ((3,[40]) :: (l++[(3,[41])])) x (e + 1) vs:=by
 intro r rest n hr hv hk ho hn;obtain ⟨n,rfl⟩:∃ m,n=m + 1:=⟨n - 1,by omega⟩;obtain ⟨k1,k2,k3⟩:=G1 hr (show r.kts=(3,[40]) :: (l++(3,[41]) :: rest) by rw[hk]; simp);obtain ⟨k3,k4⟩:=k3 (by decide)
 have hop:r.op < 16:=by omega
 have ho':=Rd.opened_ok hr hop;have kn:=Kept.next ho'
 have hk3:r.opened.next.kts=l++(3,[41]) :: rest∧r.opened.next.i=r.i + 1:=by
  have e0:r.opened.kts=(3,[40]) :: (l++(3,[41]) :: rest):=by
   show r.kts=_;rw[hk]; simp
  exact (G1 ho' e0).2.2 (by decide)
 have hi1:=kn.ok.i;have hts:r.opened.next.ts=r.ts:=kn.ts;obtain ⟨n1,r1,a1,a2,a3,a4,a5⟩:=h r.opened.next ((3,[41]) :: rest) n kn.ok (by rw[kn.vs]; exact hv) hk3.1 (by rw[kn.op]; show r.op + 1 + e≤16; omega) (zh4 (by decide)) (by rw[hts] at hi1 ⊢; omega);obtain ⟨q1,q2,q3⟩:=G1 a2.ok a4;obtain ⟨q3,q4⟩:=q3 (by decide);have kn4:=Kept.next a2.ok
 have hpos:0 < r1.next.op:=by
  rw[kn4.op,a2.op,kn.op];have:=hr.op;show 0 < r.op + 1;omega
 have hts2:=kn4.ts.trans (a2.ts.trans hts);refine ⟨r1.next.closed,?_,⟨Rd.closed_ok kn4.ok hpos,hts2,kn4.vs.trans (a2.vs.trans kn.vs),?_,?_,kn4.ly.trans (a2.ly.trans kn.ly),kn4.ms.trans (a2.ms.trans kn.ms)⟩,?_,q3⟩
 ·unfold rd;rw[V8 k1 k2,if_neg (by decide),if_neg (by rw[k1]; decide)]
  have hnn:r.isName=false:=by
   unfold Rd.isName;rw[k1];rfl
  rw[if_neg (by rw[hnn]; decide)]
  have hin:r.into [40]=none:=by
   unfold Rd.into;rw[if_pos ⟨k1,k2⟩,if_pos hop]
  rw[hin];simp only[];rw[a1,qyi a2.ok (by omega) (by rw[a4]; exact ns_c (by decide))];show (if r1.isT [41]=true then Rs.ok x r1.next.closed else _)=_;rw[V8 q1 q2,if_pos (by decide)]
 ·show r1.next.op - 1=r.op;rw[kn4.op,a2.op,kn.op];show r.op + 1 - 1=r.op;omega
 ·show r.i≤r1.next.i;omega
 ·show r.i < r1.next.i;omega
theorem quk {l:List Tk} {x:Nd} {e:Nat} {vs:List (List UInt8)} (h:GoU l x e vs):GoU ((3,[45]) :: l) (.minus x) e vs:=by
 intro r rest n hr hv hk ho hn;obtain ⟨n,rfl⟩:∃ m,n=m + 1:=⟨n - 1,by omega⟩;obtain ⟨k1,k2,k3⟩:=G1 hr (show r.kts=(3,[45]) :: (l++rest) by rw[hk]; simp);obtain ⟨k3,k4⟩:=k3 (by decide);have kn:=Kept.next hr;have hi1:=kn.ok.i;obtain ⟨r1,a1,a2,a3,a4⟩:=h r.next rest n kn.ok (by rw[kn.vs,hv]) k3 (by rw[kn.op]; exact ho) (by rw[kn.ts] at hi1 ⊢; omega);refine ⟨r1,?_,kn.trans a2,by omega,a4⟩;unfold rd;rw[V8 k1 k2,if_pos (by decide),a1];rfl
theorem q2j {w:List UInt8} {e:Nat} {vs:List (List UInt8)}:GoU [(2,w)] (.num (qW w)) e vs:=by
 intro r rest n hr hv hk ho hn;obtain ⟨n,rfl⟩:∃ m,n=m + 1:=⟨n - 1,by omega⟩;obtain ⟨k1,k2,k3⟩:=G1 hr (show r.kts=(2,w) :: rest by rw[hk]; rfl);obtain ⟨k3,k4⟩:=k3 (by decide);refine ⟨r.next,?_,Kept.next hr,by omega,k3⟩;unfold rd;rw[V8 k1 k2,if_neg (by simp),if_pos k1,k2]
theorem qza {w:List UInt8} {v:Int} {e:Nat} {vs:List (List UInt8)} (h1:zF vs w vs.length 0=v) (h2:0≤v) (h3:Y2 w=false) (hw:w≠[45]):GoU [(1,w)] (.name v w) e vs:=by
 intro r rest n hr hv hk ho hn;obtain ⟨n,rfl⟩:∃ m,n=m + 1:=⟨n - 1,by omega⟩;obtain ⟨k1,k2,k3⟩:=G1 hr (show r.kts=(1,w) :: rest by rw[hk]; rfl);obtain ⟨k3,k4⟩:=k3 (by decide);refine ⟨r.next,?_,Kept.next hr,by omega,k3⟩
 have hvar:r.var w=v:=by unfold Rd.var; rw[hv,h1]
 have hnn:r.isName=true:=by
  unfold Rd.isName;rw[k1,k2,h3];rfl
 unfold rd;rw[V8 k1 k2,if_neg (by simp[hw]),if_neg (by rw[k1]; decide),if_pos hnn,k2,hvar,if_pos h2]
mutual
theorem qrz {vs:List (List UInt8)} (hvs:∀ w,zF vs w vs.length 0 ≥ 0→w≠[45]):∀ {e l x},Un vs e l x→GoU l x e vs
 | _,_,_,.num=>q2j
 | _,_,_,.name h1 h2 h3=>qza h1 h2 h3 (hvs _ (by rw[h1]; exact h2))
 | _,_,_,.minus h=>quk (qrz hvs h)
 | _,_,_,.par h=>q2i (qy8 hvs h)
 | _,_,_,.weak h=>fun r rest n hr hv hk ho hn=>qrz hvs h r rest n hr hv hk (by omega) hn
theorem qy9 {vs:List (List UInt8)} (hvs:∀ w,zF vs w vs.length 0 ≥ 0→w≠[45]):∀ {e l x},Pr vs e l x→GoP l x e vs
 | _,_,_,.one h=>q2m (qrz hvs h)
 | _,_,_,.mul h h' hc=>q2n hc (qy9 hvs h) (qrz hvs h')
theorem qy8 {vs:List (List UInt8)} (hvs:∀ w,zF vs w vs.length 0 ≥ 0→w≠[45]):∀ {e l x},Su vs e l x→GoS l x e vs
 | _,_,_,.one h=>q2k (qy9 hvs h)
 | _,_,_,.add h h' hc=>q2l hc (qy8 hvs h) (qy9 hvs h')
end
theorem qas (vs:List (List UInt8)) (s:List UInt8):∀ d i,0≤zF vs s d i→∃ j,j < i + d∧zF vs s d i=(j:Int)∧tx vs j=s
 | 0,i,h=>by exact absurd h (by show ¬ (0:Int) ≤ -1; decide)
 | d + 1,i,h=>by
   unfold zF at h ⊢;split at h
   ·rename_i c;rw[if_pos c];exact ⟨i,by omega,rfl,c.symm⟩
   ·rename_i c;rw[if_neg c];obtain ⟨j,a,b,e⟩:=qas vs s d (i + 1) h;exact ⟨j,by omega,b,e⟩
def C2 (op:Int):Bool:=op == 43 || op == 45
def Nd.adds:Nd→Bool
 | .two op _ _=>C2 op
 | _=>false
def Nd.single:Nd→Bool
 | .two _ _ _=>false
 | _=>true
def opc (op:Int):UInt8:=UInt8.ofNat op.toNat
def wrB (b:Bool) (w:List UInt8):List UInt8:=if b then 40 :: (w++[41]) else w
def ptB (b:Bool) (l:List Tk):List Tk:=if b then (3,[40]) :: (l++[(3,[41])]) else l
def dpB (b:Bool) (d:Nat):Nat:=if b then d + 1 else d
def wr:Nd→List UInt8
 | .num k=>B2 456 k
 | .name _ s=>s
 | .minus x=>45 :: wrB (!x.single) (wr x)
 | .two op x y=>wrB (!C2 op && x.adds) (wr x)++32 :: opc op :: 32 :: wrB (C2 op && y.adds || !C2 op && !y.single) (wr y)
def pt:Nd→List Tk
 | .num k=>[(2,B2 456 k)]
 | .name _ s=>[(1,s)]
 | .minus x=>(3,[45]) :: ptB (!x.single) (pt x)
 | .two op x y=>ptB (!C2 op && x.adds) (pt x)++(3,[opc op]) :: ptB (C2 op && y.adds || !C2 op && !y.single) (pt y)
def dp:Nd→Nat
 | .num _=>0
 | .name _ _=>0
 | .minus x=>dpB (!x.single) (dp x)
 | .two op x y=>max (dpB (!C2 op && x.adds) (dp x)) (dpB (C2 op && y.adds || !C2 op && !y.single) (dp y))
def Nd.pr (vs:List (List UInt8)):Nd→Prop
 | .num k=>0≤k∧(d7 k).length≤32
 | .name v s=>NameOk s∧zF vs s vs.length 0=v∧0≤v∧Y2 s=false
 | .minus x=>x.pr vs
 | .two op x y=>(op=43∨op=45∨op=42∨op=47∨op=37)∧x.pr vs∧y.pr vs
theorem qqz {vs:List (List UInt8)} {e l x} (h:Un vs e l x):∀ k,Un vs (e + k) l x
 | 0=>h
 | k + 1=>.weak (qqz h k)
theorem qrc {vs:List (List UInt8)} (k:Nat):∀ {e l x},Pr vs e l x→Pr vs (e + k) l x
 | _,_,_,.one h=>.one (qqz h k)
 | _,_,_,.mul h h' hc=>.mul (qrc k h) (qqz h' k) hc
theorem q31 {vs:List (List UInt8)} (k:Nat):∀ {e l x},Su vs e l x→Su vs (e + k) l x
 | _,_,_,.one h=>.one (qrc k h)
 | _,_,_,.add h h' hc=>.add (q31 k h) (qrc k h') hc
theorem zfv {vs:List (List UInt8)} {e f:Nat} {l x} (h:Un vs e l x) (hf:e≤f):Un vs f l x:=by
 have:=qqz h (f - e)
 rwa [show e + (f - e)=f by omega] at this
theorem q4g {vs:List (List UInt8)} {e f:Nat} {l x} (h:Pr vs e l x) (hf:e≤f):Pr vs f l x:=by
 have:=qrc (f - e) h
 rwa [show e + (f - e)=f by omega] at this
theorem zf6 {vs:List (List UInt8)} {e f:Nat} {l x} (h:Su vs e l x) (hf:e≤f):Su vs f l x:=by
 have:=q31 (f - e) h
 rwa [show e + (f - e)=f by omega] at this
theorem qxy {op:Int} (h:op=43∨op=45∨op=42∨op=47∨op=37):opc op∈qkm∧(C2 op=true→(opc op=43∧op=43∨opc op=45∧op=45))∧(C2 op=false→(opc op=42∧op=42∨opc op=47∧op=47∨opc op=37∧op=37)):=by
 rcases h with rfl | rfl | rfl | rfl | rfl <;> decide
structure PtOk (vs:List (List UInt8)) (x:Nd):Prop where
 s:Su vs (dp x) (pt x) x
 p:x.adds=false→Pr vs (dp x) (pt x) x
 u:x.single=true→Un vs (dp x) (pt x) x
theorem PtOk.ub {vs x} (h:PtOk vs x) (b:Bool) (hb:b = !x.single):Un vs (dpB b (dp x)) (ptB b (pt x)) x:=by
 subst hb
 cases hs:x.single with
 | true=>exact h.u hs
 | false=>exact .par h.s
theorem PtOk.pb {vs x} (h:PtOk vs x) (b:Bool) (hb:b=x.adds):Pr vs (dpB b (dp x)) (ptB b (pt x)) x:=by
 subst hb
 cases hs:x.adds with
 | true=>exact .one (.par h.s)
 | false=>exact h.p hs
theorem qq9 {vs:List (List UInt8)}:∀ x:Nd,x.pr vs→PtOk vs x
 | .num k,h=>by
   have hv:=(QE h.1 (Zp h.1 h.2)).2
   have hu:Un vs 0 [(2,B2 456 k)] (.num k):=by
    conv=>arg 4; rw[← hv]
    exact .num
   exact ⟨.one (.one hu),fun _=>.one hu,fun _=>hu⟩
 | .name v s,h=>by
   have hu:Un vs 0 [(1,s)] (.name v s):=.name h.2.1 h.2.2.1 h.2.2.2;exact ⟨.one (.one hu),fun _=>.one hu,fun _=>hu⟩
 | .minus x,h=>by
   have ih:=qq9 x h;have hu:Un vs (dp (.minus x)) (pt (.minus x)) (.minus x):=.minus (ih.ub _ rfl);exact ⟨.one (.one hu),fun _=>.one hu,fun _=>hu⟩
 | .two op x y,h=>by
   have i1:=qq9 x h.2.1;have i2:=qq9 y h.2.2;obtain ⟨_,o1,o2⟩:=qxy h.1
   cases hs:C2 op with
   | true=>
     have e1:(!C2 op && x.adds)=false:=by rw[hs]; rfl
     have e2:(C2 op && y.adds || !C2 op && !y.single)=y.adds:=by rw[hs]; simp
     have hsu:Su vs (dp (.two op x y)) (pt (.two op x y)) (.two op x y):=by
      unfold dp pt;rw[e1,e2];exact .add (zf6 i1.s (Nat.le_max_left ..)) (q4g (i2.pb _ rfl) (Nat.le_max_right ..)) (o1 hs)
     refine ⟨hsu,fun ha=>?_,fun ha=>?_⟩
     ·have ha:C2 op=false:=ha;rw[hs] at ha; cases ha
     ·cases ha
   | false=>
     have e1:(!C2 op && x.adds)=x.adds:=by rw[hs]; rfl
     have e2:(C2 op && y.adds || !C2 op && !y.single) = !y.single:=by rw[hs]; simp
     have hp:Pr vs (dp (.two op x y)) (pt (.two op x y)) (.two op x y):=by
      unfold dp pt;rw[e1,e2];exact .mul (q4g (i1.pb _ rfl) (Nat.le_max_left ..)) (zfv (i2.ub _ rfl) (Nat.le_max_right ..)) (o2 hs)
     exact ⟨.one hp,fun _=>hp,fun ha=>by cases ha⟩
def Tl (t:List UInt8):Prop:=Jn x7 t∧Jn z8 t
theorem X4 (t):Tl (32 :: t):=⟨⟨by decide,by decide⟩,⟨by decide,by decide⟩⟩
theorem qv8 (t):Tl (41 :: t):=⟨⟨by decide,by decide⟩,⟨by decide,by decide⟩⟩
theorem qaq {m:List UInt8} {L:List Tk} {vs:List (List UInt8)}:∀ x:Nd,x.pr vs→∀ (t:List UInt8) (l:List Tk),Tl t→RendX m L t l→RendX m L (wr x++t) (pt x++l):=by
 have brk:∀ (b:Bool) (w:List UInt8) (q:List Tk),(∀ t l,Tl t→RendX m L t l→RendX m L (w++t) (q++l))→∀ t l,Tl t→RendX m L t l→RendX m L (wrB b w++t) (ptB b q++l):=by
  intro b w q h t l ht hr
  cases b with
  | false=>exact h t l ht hr
  | true=>
    have h1:=h (41 :: t) ((3,[41]) :: l) (qv8 t) (.sign (by decide) hr);have h2:=RendX.sign (c:=40) (by decide) h1
    simpa [wrB,ptB] using h2
 intro x
 induction x with
 | num k=>intro h t l ht hr; exact qbv h.1 h.2 ht.2 hr
 | name v s=>intro h t l ht hr; exact wz h.1 ht.1 hr
 | minus x ih=>
   intro h t l ht hr;have h1:=brk (!x.single) (wr x) (pt x) (ih h) t l ht hr;exact .sign (by decide) h1
 | two op x y ih1 ih2=>
   intro h t l ht hr;obtain ⟨o0,_,_⟩:=qxy h.1;have h2:=brk (C2 op && y.adds || !C2 op && !y.single) (wr y) (pt y) (ih2 h.2.2) t l ht hr;have h1:=brk (!C2 op && x.adds) (wr x) (pt x) (ih1 h.2.1) _ _ (X4 _) (.space (.sign o0 (.space h2)))
   simpa [wr,pt] using h1
end Go.Rf
