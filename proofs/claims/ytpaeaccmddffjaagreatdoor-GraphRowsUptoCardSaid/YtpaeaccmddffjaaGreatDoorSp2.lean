/- Parts of the proof. -/
import Derived.Test.YtpaeaccmddffjaaGreatDoorRb2
import Derived.Test.YtpaeaccmddffjaaGreatDoorSp1
set_option linter.all false
namespace Go.Rf
theorem qzq {p:Prop} [Decidable p] (h:p):decide p=true:=decide_eq_true h
theorem quw {p:Prop} [Decidable p] (h:¬ p):decide p=false:=decide_eq_false h
theorem qsu (a b:Int):(a == b)=decide (a=b):=rfl
theorem q3g (a b:Int):(a != b)=decide (a≠b):=by
 show (!(a == b))=_;rw[qsu]
 by_cases h:a=b <;> simp[h]
theorem qvt {n:Int} (h:-9223372036854775808≤n∧n≤9223372036854775807):IntKind.wrap .i64 n=n:=by
 simp only[IntKind.wrap,IntKind.bits,IntKind.signed,Bool.true_and,decide_eq_true_eq,ge_iff_le]
 split <;> omega
theorem qvu {n:Int} (h:-2147483648≤n∧n≤2147483647):IntKind.wrap .i32 n=n:=by
 simp only[IntKind.wrap,IntKind.bits,IntKind.signed,Bool.true_and,decide_eq_true_eq,ge_iff_le]
 split <;> omega
theorem qbb {n:Int} (h:0≤n∧n < 18446744073709551616):IntKind.wrap .u64 n=n:=by
 simp only[IntKind.wrap,IntKind.bits,IntKind.signed,Bool.false_and,Bool.false_eq_true,if_false];omega
theorem qvs {n:Int} (h:0≤n∧n < 4294967296):IntKind.wrap .u32 n=n:=by
 simp only[IntKind.wrap,IntKind.bits,IntKind.signed,Bool.false_and,Bool.false_eq_true,if_false];omega
theorem q0k {n:Int} (h:0≤n∧n < 256):IntKind.wrap .u8 n=n:=by
 simp only[IntKind.wrap,IntKind.bits,IntKind.signed,Bool.false_and,Bool.false_eq_true,if_false];omega
theorem qhl (n:Int):IntKind.wrap .u32 n=n % 4294967296:=by
 simp only[IntKind.wrap,IntKind.bits,IntKind.signed,Bool.false_and,Bool.false_eq_true,if_false];rfl
theorem xA (n:Int):IntKind.wrap .u64 n=n % 18446744073709551616:=by
 simp only[IntKind.wrap,IntKind.bits,IntKind.signed,Bool.false_and,Bool.false_eq_true,if_false];rfl
def nth (xs:List Int) (i:Nat):Int:=xs.getD i 0
def L (xs:List Int):List D:=xs.map fun n=>.int .u32 n
@[simp] theorem L_len (xs:List Int):(L xs).length=xs.length:=by simp[L]
@[simp] theorem L_take (xs:List Int) (i:Nat):(L xs).take i=L (xs.take i):=by simp[L,List.map_take]
@[simp] theorem kz:L []=[]:=rfl
@[simp] theorem zE (x:Int) (xs:List Int):L (x :: xs) = .int .u32 x :: L xs:=rfl
theorem zlp {xs:List Int} {i:Nat} (h:i < xs.length):(L xs)[i]? = some (.int .u32 (nth xs i)):=by
 simp[L,nth,h]
def LV (xs:List Int):List V:=xs.map fun n=>.d (.int .u32 n)
@[simp] theorem LV_len (xs:List Int):(LV xs).length=xs.length:=by simp[LV]
@[simp] theorem q3o (xs:List Int) (i:Nat):(LV xs).take i=LV (xs.take i):=by simp[LV,List.map_take]
@[simp] theorem qqv:LV []=[]:=rfl
@[simp] theorem LV_app1 (xs:List Int) (y:Int):LV xs++[.d (.int .u32 y)]=LV (xs++[y]):=by simp[LV]
theorem zbq {xs:List Int} {i:Nat} (h:i < xs.length):(LV xs)[i]? = some (.d (.int .u32 (nth xs i))):=by
 simp[LV,nth,h]
@[simp] theorem LV_set (xs:List Int) (i:Nat) (y:Int):(LV xs).set i (.d (.int .u32 y))=LV (xs.set i y):=by simp[LV,List.map_set]
@[simp] theorem zlo (xs:List Int):(L xs).map V.d=LV xs:=by simp[L,LV,Function.comp_def]
@[simp] theorem rens_LV (al:Loc→Bool) (xs:List Int) (m:List Loc):qo al (LV xs) m=(LV xs,m):=by
  rw[← zlo]; exact wF ..
@[simp] theorem zik (f:Loc→Loc) (xs:List Int):X5 f (LV xs)=LV xs:=by
  induction xs with
  | nil=>rfl
  | cons x xs ih=>
    show V.mapL f (.d _) :: X5 f (LV xs)=_;rw[ih];rfl
@[simp] theorem frzL_LV (h:Loc→Option Obj) (k:Nat) (xs:List Int):ju (frz h (k + 1)) (LV xs)=some (L xs,[]):=by
  induction xs with
  | nil=>rfl
  | cons x xs ih=>
    show ju (frz h (k + 1)) (.d _ :: LV xs)=_;simp only[ju,ih];rfl
@[simp] theorem LV_rep (n:Nat) (y:Int):List.replicate n (V.d (D.int .u32 y))=LV (List.replicate n y):=by simp[LV]
theorem JY (xs:List Int):wl (L xs)≤4:=by
 induction xs with
 | nil=>simp[wl]
 | cons x xs ih=>simp only[zE,wl,wt,IntKind.bits]; omega
@[simp] theorem wl_L4 (xs:List Int):(wl (L xs)≤4)=True:=eq_true (JY xs)
theorem qzv (xs:List Int):(LV xs).all (fun v=>v.cells.length == 1)=true:=by
 simp[LV,V.cells]
@[simp] theorem fit_L' {n:Nat} {xs:List Int} (h:n≤1099511627776):(n * wl (L xs)≤w8)=True:=eq_true (Nat.le_trans (Nat.mul_le_mul h (JY xs)) (by unfold w8; omega))
@[simp] theorem le_lots {n:Nat} (h:n≤1099511627776 * 64):(n≤w8)=True:=eq_true (by unfold w8; omega)
attribute [simp] qsu q3g
attribute [simp] qzq quw qvt qvu qbb qvs q0k zlp zbq qzv
attribute [simp] j3 j7
@[simp] theorem lget0 {α:Type} (a:α) (l:List α):(a :: l)[0]? = some a:=rfl
@[simp] theorem L_cells (xs:List Int):(∀ x∈L xs,x.cells.length=1)=True:=eq_true (by
  intro x hx;obtain ⟨n,_,rfl⟩:=List.mem_map.1 hx
  rfl)
theorem qy1 {α:Type} {c:Prop} [Decidable c] {a b:α} (h:c):(if c then a else b)=a:=if_pos h
theorem qy2 {α:Type} {c:Prop} [Decidable c] {a b:α} (h:¬ c):(if c then a else b)=b:=if_neg h
attribute [simp] qy1 qy2 qhl
@[simp] theorem range2:List.range 2=[0,1]:=rfl
@[simp] theorem range3:List.range 3=[0,1,2]:=rfl
@[simp] theorem range8:List.range 8=[0,1,2,3,4,5,6,7]:=rfl
@[simp] theorem range9:List.range 9=[0,1,2,3,4,5,6,7,8]:=rfl
@[simp] theorem range5:List.range 5=[0,1,2,3,4]:=rfl
@[simp] theorem range6:List.range 6=[0,1,2,3,4,5]:=rfl
@[simp] theorem zk3:IntKind.bits .u64=64:=rfl
@[simp] theorem zk4:IntKind.bits .u32=32:=rfl
theorem qzf {a b:Int} (h:0≤b):a.fdiv b=a / b:=Int.fdiv_eq_ediv_of_nonneg a h
attribute [simp] qzf
@[simp] theorem min2:min 63 64=63:=rfl
@[simp] theorem p32:(2:Int) ^ (32:Nat)=4294967296:=rfl
@[simp] theorem p63:(2:Int) ^ (63:Nat)=9223372036854775808:=rfl
@[simp] theorem p16:(2:Int) ^ (16:Nat)=65536:=rfl
@[simp] theorem p8:(2:Int) ^ (8:Nat)=256:=rfl
@[simp] theorem zb2 {α:Type} (xs:List α) (y:α):(xs++[y]).take (xs.length + 1)=xs++[y]:=List.take_of_length_le (by simp)
@[simp] theorem q35 (k k' x y):zO (.d (.int k x)) 0 (.d (.int k' y))=some (.d (.int k' y)):=rfl
@[simp] theorem zf0 (a b:Nat):((a:Int) + (b:Int)).toNat=a + b:=by omega
@[simp] theorem zb0 (a b:Nat):((a:Int) + (b:Int) - 2).toNat=a + b - 2:=by omega
@[simp] theorem q6h (a b:Nat):((a:Int) + (b:Int) + 1).toNat=a + b + 1:=by omega
@[simp] theorem zb1 (a:Nat):((a:Int) - 2).toNat=a - 2:=by omega
@[simp] theorem q0w (cs off x):zO (.d (.agg cs)) off x=if off + x.cells.length≤(V.cells (.d (.agg cs))).length then some (wJ (jZ (V.cells (.d (.agg cs))) off x.cells)) else none:=rfl
@[simp] theorem q36 (cs off x):zO (.agg cs) off x=if off + x.cells.length≤(V.cells (.agg cs)).length then some (wJ (jZ (V.cells (.agg cs)) off x.cells)) else none:=rfl
@[simp] theorem zcm {α β:Type} (x:α) (d:β) (f:α→β):onO (some x) d f=f x:=rfl
theorem qwa {a b:Int} (h:0≤a):a.tdiv b=a / b:=Int.tdiv_eq_ediv_of_nonneg h
theorem qv5 {a b:Int} (h:0≤a):a.tmod b=a % b:=Int.tmod_eq_emod_of_nonneg h
attribute [simp] qwa qv5
@[simp] theorem le_long {n:Nat} (h:n≤1099511627776):(n≤long)=True:=eq_true (Nat.le_trans h (by unfold long; omega))
def zhb (x:D) (o:Option (List V × List Obj × List Loc)):Option (Ex × St):=bnd o fun b=>some (.pan (.d x),{ env:=[],heap:=b.2.1 })
@[simp] theorem zcl (x vs os m):zhb x (some (vs,os,m))=some (.pan (.d x),{ env:=[],heap:=os }):=rfl
@[simp] theorem endP_d (pin x h):qmw pin (.d x) h=zhb x (XD (Kj pin) [] (O9 h [])):=rfl
theorem qr6 {g:FuncId} (h:g < fB):vo g=g:=if_pos h
theorem qgr {α:Type} {g:FuncId} (h:g < fB) (vs cs:List α):M6 g vs cs=vs++cs:=if_pos h
def nv:List Int→Int
 | []=>0
 | x :: xs=>x + 4294967296 * nv xs
def n9 (xs:List Int):Prop:=∀ x∈xs,0≤x∧x < 4294967296
def pw:Nat→Int
 | 0=>1
 | n + 1=>4294967296 * pw n
theorem T4:∀ n,0 < pw n
 | 0=>by decide
 | n + 1=>by have:=T4 n; simp only[pw]; omega
theorem Zf (m:Nat):∀ n,pw (n + m)=pw n * pw m
 | 0=>by simp[pw]
 | n + 1=>by rw[Nat.add_right_comm]; simp only[pw,Zf m n,Int.mul_assoc]
theorem Qz {m n:Nat} (h:m≤n):pw m≤pw n:=by
 induction h with
 | refl=>exact Int.le_refl _
 | step _ ih=>have:=T4 ‹_›; simp only[Nat.succ_eq_add_one,pw]; omega
theorem n9.nil:n9 []:=fun x h=>by cases h
theorem T6 {x:Int} {xs:List Int}:n9 (x :: xs)↔(0≤x∧x < 4294967296)∧n9 xs:=by simp[n9]
theorem qc6 {xs ys:List Int}:n9 (xs++ys)↔n9 xs∧n9 ys:=by
 simp only[n9,List.mem_append];exact ⟨fun h=>⟨fun x hx=>h x (.inl hx),fun x hx=>h x (.inr hx)⟩,fun h x hx=>hx.elim (h.1 x) (h.2 x)⟩
theorem n9.take {xs:List Int} (h:n9 xs) (n:Nat):n9 (xs.take n):=fun x hx=>h x (List.mem_of_mem_take hx)
theorem n9.drop {xs:List Int} (h:n9 xs) (n:Nat):n9 (xs.drop n):=fun x hx=>h x (List.mem_of_mem_drop hx)
theorem n9.nth {xs:List Int} (h:n9 xs) (i:Nat):0≤nth xs i∧nth xs i < 4294967296:=by
 unfold Rf.nth
 by_cases hi:i < xs.length
 ·rw[List.getD_eq_getElem?_getD,List.getElem?_eq_getElem hi];exact h _ (List.getElem_mem hi)
 ·rw[List.getD_eq_getElem?_getD,List.getElem?_eq_none (by omega)];simp
theorem qio:∀ xs ys:List Int,nv (xs++ys)=nv xs + pw xs.length * nv ys
 | [],ys=>by simp[nv,pw]
 | x :: xs,ys=>by
   simp only[List.cons_append,nv,qio xs ys,List.length_cons,pw,Int.mul_add,Int.mul_assoc];omega
theorem d8:∀ {xs:List Int},n9 xs→0≤nv xs∧nv xs < pw xs.length
 | [],_=>by decide
 | x :: xs,h=>by
   obtain ⟨h1,h2⟩:=T6.1 h;obtain ⟨k1,k2⟩:=d8 h2;simp only[nv,List.length_cons,pw];omega
def Zr:Nat→Nat→List Int
 | 0,_=>[]
 | f + 1,n=>if n=0 then [] else ((n % 4294967296:Nat):Int) :: Zr f (n / 4294967296)
def d7 (n:Int):List Int:=Zr n.toNat n.toNat
theorem WO:∀ f n,n9 (Zr f n)
 | 0,_=>n9.nil
 | f + 1,n=>by
   unfold Zr;split
   ·exact n9.nil
   ·refine T6.2 ⟨?_,WO f _⟩;have:=Nat.mod_lt n (show 0 < 4294967296 by decide);omega
theorem We:∀ f n,n≤f→nv (Zr f n)=n
 | 0,n,h=>by
   have:n=0:=by omega
   subst this;rfl
 | f + 1,n,h=>by
   unfold Zr;split
   ·rename_i h0; subst h0; rfl
   ·have:n / 4294967296≤f:=by omega
    simp only[nv,We f _ this];omega
theorem g8 (n:Int):n9 (d7 n):=WO _ _
theorem o9 {n:Int} (h:0≤n):nv (d7 n)=n:=by
 unfold d7;rw[We _ _ (Nat.le_refl _)];omega
def Can (xs:List Int):Prop:=xs=[]∨pw (xs.length - 1)≤nv xs
theorem qcy:∀ f n,n≤f→Can (Zr f n)
 | 0,_,_=>.inl rfl
 | f + 1,n,h=>by
   unfold Zr;split
   ·exact .inl rfl
   ·rename_i h0;right
    have hb:n / 4294967296≤f:=by omega
    have hv:=We f _ hb;rcases qcy f (n / 4294967296) hb with hc | hc
    ·rw[hc] at hv ⊢;simp only[nv] at hv ⊢;simp only[List.length_singleton,Nat.sub_self,pw];omega
    ·simp only[List.length_cons,Nat.add_sub_cancel,nv]
     cases hl:(Zr f (n / 4294967296)).length with
     | zero=>
       have hnil:=List.eq_nil_of_length_eq_zero hl;rw[hnil] at hv ⊢;simp only[nv] at hv ⊢;simp only[pw];omega
     | succ k=>
       rw[hl] at hc;simp only[Nat.add_sub_cancel] at hc;simp only[pw];omega
theorem Q1 (n:Int):Can (d7 n):=qcy _ _ (Nat.le_refl _)
theorem qd0:∀ {xs ys:List Int},n9 xs→n9 ys→Can xs→Can ys→nv xs=nv ys→xs=ys
 | [],[],_,_,_,_,_=>rfl
 | [],y :: ys,_,hg,_,hc,h=>by
   exfalso
   rcases hc with hc | hc
   ·cases hc
   ·have:=T4 ((y :: ys).length - 1);simp only[nv] at h hc;omega
 | x :: xs,[],hg,_,hc,_,h=>by
   exfalso
   rcases hc with hc | hc
   ·cases hc
   ·have:=T4 ((x :: xs).length - 1);simp only[nv] at h hc;omega
 | x :: xs,y :: ys,hg,hg',hc,hc',h=>by
   obtain ⟨h1,h2⟩:=T6.1 hg;obtain ⟨h3,h4⟩:=T6.1 hg';simp only[nv] at h
   have hxy:x=y:=by omega
   subst hxy
   have hn:nv xs=nv ys:=by omega
   have low:∀ {x:Int} {xs:List Int},(0≤x∧x < 4294967296)→n9 xs→Can (x :: xs)→Can xs:=by
    intro x xs hx hg hc;rcases hc with hc | hc
    ·cases hc
    ·cases xs with
     | nil=>exact .inl rfl
     | cons z zs=>
       right;simp only[List.length_cons,Nat.add_sub_cancel] at hc ⊢;simp only[pw] at hc;rw[nv] at hc;have:=(d8 hg).1;omega
   rw[qd0 h2 h4 (low h1 h2 hc) (low h1 h4 hc') hn]
theorem Ye {xs:List Int} (hg:n9 xs) (hc:Can xs):xs=d7 (nv xs):=
 qd0 hg (g8 _) hc (Q1 _) (o9 (d8 hg).1).symm
theorem za7 {xs:List Int} (hg:n9 xs) (hc:Can xs) {k:Nat} (h:nv xs < pw k):xs.length≤k:=by
 rcases hc with hc | hc
 ·rw[hc]; exact Nat.zero_le _
 ·by_cases hk:xs.length≤k
  ·exact hk
  ·exfalso
   have:=Qz (show k≤xs.length - 1 by omega);omega
theorem o6 {n:Int} (h0:0≤n) {k:Nat} (h:n < pw k):(d7 n).length≤k:=za7 (g8 n) (Q1 n) (by rw[o9 h0]; exact h)
@[simp] theorem wM:d7 0=[]:=rfl
theorem xp {n:Int} (h:0≤n):d7 n=[]↔n=0:=⟨fun e=>by have:=o9 h; rw[e] at this; simpa [nv] using this.symm,fun e=>by rw[e]; rfl⟩
theorem vZ (x:Int) (xs:List Int):nth (x :: xs) 0=x:=rfl
theorem Qa (x:Int) (xs:List Int) (i:Nat):nth (x :: xs) (i + 1)=nth xs i:=by simp[nth]
theorem jP {xs:List Int} {i:Nat} (h:i < xs.length):xs.take (i + 1)=xs.take i++[nth xs i]:=by
 rw[List.take_add_one,List.getElem?_eq_getElem h];simp[nth,h]
theorem qV {xs:List Int} {i:Nat} (h:i < xs.length):nv (xs.take (i + 1))=nv (xs.take i) + pw i * nth xs i:=by
 rw[jP h,qio,List.length_take,Nat.min_eq_left (by omega)];simp[nv]
theorem qa0 (xs:List Int) (x:Int):nv (xs++[x])=nv xs + pw xs.length * x:=by rw[qio]; simp[nv]
end Go.Rf
