/- Parts of the proof: RfTac, RfNum. -/
import Derived.Test.YtjlnfdabdhkgcaaGreatDoorRb2
import Derived.Test.YtjlnfdabdhkgcaaGreatDoorSp1

set_option linter.unusedSimpArgs false
set_option linter.unusedVariables false
set_option linter.unnecessarySimpa false
set_option linter.unusedSectionVars false
set_option linter.all false
namespace Go.Rf
theorem qzp {p:Prop} [Decidable p] (h:p):decide p=true:=decide_eq_true h
theorem qu4 {p:Prop} [Decidable p] (h:¬ p):decide p=false:=decide_eq_false h
theorem qsz (a b:Int):(a == b)=decide (a=b):=rfl
theorem q3b (a b:Int):(a != b)=decide (a≠b):=by
 show (!(a == b))=_;rw[qsz]
 by_cases h:a=b <;> simp[h]
theorem qvv {n:Int} (h:-9223372036854775808≤n∧n≤9223372036854775807):IntKind.wrap .i64 n=n:=by
 simp only[IntKind.wrap,IntKind.bits,IntKind.signed,Bool.true_and,decide_eq_true_eq,ge_iff_le]
 split <;> omega
theorem qvw {n:Int} (h:-2147483648≤n∧n≤2147483647):IntKind.wrap .i32 n=n:=by
 simp only[IntKind.wrap,IntKind.bits,IntKind.signed,Bool.true_and,decide_eq_true_eq,ge_iff_le]
 split <;> omega
theorem qcr {n:Int} (h:0≤n∧n < 18446744073709551616):IntKind.wrap .u64 n=n:=by
 simp only[IntKind.wrap,IntKind.bits,IntKind.signed,Bool.false_and,Bool.false_eq_true,if_false];omega
theorem qvu {n:Int} (h:0≤n∧n < 4294967296):IntKind.wrap .u32 n=n:=by
 simp only[IntKind.wrap,IntKind.bits,IntKind.signed,Bool.false_and,Bool.false_eq_true,if_false];omega
theorem q0p {n:Int} (h:0≤n∧n < 256):IntKind.wrap .u8 n=n:=by
 simp only[IntKind.wrap,IntKind.bits,IntKind.signed,Bool.false_and,Bool.false_eq_true,if_false];omega
theorem qiq (n:Int):IntKind.wrap .u32 n=n % 4294967296:=by
 simp only[IntKind.wrap,IntKind.bits,IntKind.signed,Bool.false_and,Bool.false_eq_true,if_false];rfl
theorem U2 (n:Int):IntKind.wrap .u64 n=n % 18446744073709551616:=by
 simp only[IntKind.wrap,IntKind.bits,IntKind.signed,Bool.false_and,Bool.false_eq_true,if_false];rfl
def nth (xs:List Int) (i:Nat):Int:=xs.getD i 0
def L (xs:List Int):List D:=xs.map fun n=>.int .u32 n
@[simp] theorem L_len (xs:List Int):(L xs).length=xs.length:=by simp[L]
@[simp] theorem L_take (xs:List Int) (i:Nat):(L xs).take i=L (xs.take i):=by simp[L,List.map_take]
@[simp] theorem wC:L []=[]:=rfl
@[simp] theorem xw (x:Int) (xs:List Int):L (x :: xs) = .int .u32 x :: L xs:=rfl
theorem zl2 {xs:List Int} {i:Nat} (h:i < xs.length):(L xs)[i]? = some (.int .u32 (nth xs i)):=by
 simp[L,nth,h]
def LV (xs:List Int):List V:=xs.map fun n=>.d (.int .u32 n)
@[simp] theorem LV_len (xs:List Int):(LV xs).length=xs.length:=by simp[LV]
@[simp] theorem q3f (xs:List Int) (i:Nat):(LV xs).take i=LV (xs.take i):=by simp[LV,List.map_take]
@[simp] theorem qlb:LV []=[]:=rfl
@[simp] theorem LV_app1 (xs:List Int) (y:Int):LV xs++[.d (.int .u32 y)]=LV (xs++[y]):=by simp[LV]
theorem zby {xs:List Int} {i:Nat} (h:i < xs.length):(LV xs)[i]? = some (.d (.int .u32 (nth xs i))):=by
 simp[LV,nth,h]
@[simp] theorem LV_set (xs:List Int) (i:Nat) (y:Int):(LV xs).set i (.d (.int .u32 y))=LV (xs.set i y):=by simp[LV,List.map_set]
@[simp] theorem zl1 (xs:List Int):(L xs).map V.d=LV xs:=by simp[L,LV,Function.comp_def]
@[simp] theorem rens_LV (al:Loc→Bool) (xs:List Int) (m:List Loc):ze al (LV xs) m=(LV xs,m):=by
  rw[← zl1]; exact vJ ..
@[simp] theorem zio (f:Loc→Loc) (xs:List Int):zi f (LV xs)=LV xs:=by
  induction xs with
  | nil=>rfl
  | cons x xs ih=>
    show V.mapL f (.d _) :: zi f (LV xs)=_;rw[ih];rfl
@[simp] theorem frzL_LV (h:Loc→Option Obj) (k:Nat) (xs:List Int):kv (frz h (k + 1)) (LV xs)=some (L xs,[]):=by
  induction xs with
  | nil=>rfl
  | cons x xs ih=>
    show kv (frz h (k + 1)) (.d _ :: LV xs)=_;simp only[kv,ih];rfl
@[simp] theorem LV_rep (n:Nat) (y:Int):List.replicate n (V.d (D.int .u32 y))=LV (List.replicate n y):=by simp[LV]
theorem KO (xs:List Int):wl (L xs)≤4:=by
 induction xs with
 | nil=>simp[wl]
 | cons x xs ih=>simp only[xw,wl,wt,IntKind.bits]; omega
@[simp] theorem wl_L4 (xs:List Int):(wl (L xs)≤4)=True:=eq_true (KO xs)
theorem qzv (xs:List Int):(LV xs).all (fun v=>v.cells.length == 1)=true:=by
 simp[LV,V.cells]
@[simp] theorem fit_L' {n:Nat} {xs:List Int} (h:n≤1099511627776):(n * wl (L xs)≤D2)=True:=eq_true (Nat.le_trans (Nat.mul_le_mul h (KO xs)) (by unfold D2; omega))
@[simp] theorem le_lots {n:Nat} (h:n≤1099511627776 * 64):(n≤D2)=True:=eq_true (by unfold D2; omega)
attribute [simp] qsz q3b
attribute [simp] qzp qu4 qvv qvw qcr qvu q0p zl2 zby qzv
attribute [simp] j6 k8
@[simp] theorem lget0 {α:Type} (a:α) (l:List α):(a :: l)[0]? = some a:=rfl
@[simp] theorem L_cells (xs:List Int):(∀ x∈L xs,x.cells.length=1)=True:=eq_true (by
  intro x hx;obtain ⟨n,_,rfl⟩:=List.mem_map.1 hx
  rfl)
theorem qy4 {α:Type} {c:Prop} [Decidable c] {a b:α} (h:c):(if c then a else b)=a:=if_pos h
theorem qy5 {α:Type} {c:Prop} [Decidable c] {a b:α} (h:¬ c):(if c then a else b)=b:=if_neg h
attribute [simp] qy4 qy5 qiq
@[simp] theorem range2:List.range 2=[0,1]:=rfl
@[simp] theorem range3:List.range 3=[0,1,2]:=rfl
@[simp] theorem range4:List.range 4=[0,1,2,3]:=rfl
@[simp] theorem range7:List.range 7=[0,1,2,3,4,5,6]:=rfl
@[simp] theorem range8:List.range 8=[0,1,2,3,4,5,6,7]:=rfl
@[simp] theorem range9:List.range 9=[0,1,2,3,4,5,6,7,8]:=rfl
@[simp] theorem range5:List.range 5=[0,1,2,3,4]:=rfl
@[simp] theorem range6:List.range 6=[0,1,2,3,4,5]:=rfl
@[simp] theorem zld:IntKind.bits .u64=64:=rfl
@[simp] theorem zle:IntKind.bits .u32=32:=rfl
theorem qzg {a b:Int} (h:0≤b):a.fdiv b=a / b:=Int.fdiv_eq_ediv_of_nonneg a h
attribute [simp] qzg
@[simp] theorem min2:min 63 64=63:=rfl
@[simp] theorem p32:(2:Int) ^ (32:Nat)=4294967296:=rfl
@[simp] theorem p63:(2:Int) ^ (63:Nat)=9223372036854775808:=rfl
@[simp] theorem p16:(2:Int) ^ (16:Nat)=65536:=rfl
@[simp] theorem p8:(2:Int) ^ (8:Nat)=256:=rfl
@[simp] theorem zce {α:Type} (xs:List α) (y:α):(xs++[y]).take (xs.length + 1)=xs++[y]:=List.take_of_length_le (by simp)
@[simp] theorem q3s (k k' x y):S5 (.d (.int k x)) 0 (.d (.int k' y))=some (.d (.int k' y)):=rfl
@[simp] theorem zf8 (a b:Nat):((a:Int) + (b:Int)).toNat=a + b:=by omega
@[simp] theorem zcc (a b:Nat):((a:Int) + (b:Int) - 2).toNat=a + b - 2:=by omega
@[simp] theorem q56 (a b:Nat):((a:Int) + (b:Int) + 1).toNat=a + b + 1:=by omega
@[simp] theorem zcd (a:Nat):((a:Int) - 2).toNat=a - 2:=by omega
@[simp] theorem q00 (cs off x):S5 (.d (.agg cs)) off x=if off + x.cells.length≤(V.cells (.d (.agg cs))).length then some (vM (wb (V.cells (.d (.agg cs))) off x.cells)) else none:=rfl
@[simp] theorem q3t (cs off x):S5 (.agg cs) off x=if off + x.cells.length≤(V.cells (.agg cs)).length then some (vM (wb (V.cells (.agg cs)) off x.cells)) else none:=rfl
@[simp] theorem zcy {α β:Type} (x:α) (d:β) (f:α→β):onO (some x) d f=f x:=rfl
theorem qwa {a b:Int} (h:0≤a):a.tdiv b=a / b:=Int.tdiv_eq_ediv_of_nonneg h
theorem qv7 {a b:Int} (h:0≤a):a.tmod b=a % b:=Int.tmod_eq_emod_of_nonneg h
attribute [simp] qwa qv7
@[simp] theorem le_long {n:Nat} (h:n≤1099511627776):(n≤long)=True:=eq_true (Nat.le_trans h (by unfold long; omega))
def zhf (x:D) (o:Option (List V × List Obj × List Loc)):Option (Ex × St):=bnd o fun b=>some (.pan (.d x),{ env:=[],heap:=b.2.1 })
@[simp] theorem zcx (x vs os m):zhf x (some (vs,os,m))=some (.pan (.d x),{ env:=[],heap:=os }):=rfl
@[simp] theorem endP_d (pin x h):qn5 pin (.d x) h=zhf x (JC (Yr pin) [] (S4 h [])):=rfl
theorem qsj {g:FuncId} (h:g < fB):jE g=g:=if_pos h
theorem qhq {α:Type} {g:FuncId} (h:g < fB) (vs cs:List α):F7 g vs cs=vs++cs:=if_pos h
end Go.Rf

namespace Go.Rf
def nv:List Int→Int
 | []=>0
 | x :: xs=>x + 4294967296 * nv xs
def n6 (xs:List Int):Prop:=∀ x∈xs,0≤x∧x < 4294967296
def pw:Nat→Int
 | 0=>1
 | n + 1=>4294967296 * pw n
theorem X3:∀ n,0 < pw n
 | 0=>by decide
 | n + 1=>by have:=X3 n; simp only[pw]; omega
theorem Xc (m:Nat):∀ n,pw (n + m)=pw n * pw m
 | 0=>by simp[pw]
 | n + 1=>by rw[Nat.add_right_comm]; simp only[pw,Xc m n,Int.mul_assoc]
theorem Qy {m n:Nat} (h:m≤n):pw m≤pw n:=by
 induction h with
 | refl=>exact Int.le_refl _
 | step _ ih=>have:=X3 ‹_›; simp only[Nat.succ_eq_add_one,pw]; omega
theorem n6.nil:n6 []:=fun x h=>by cases h
theorem U0 {x:Int} {xs:List Int}:n6 (x :: xs)↔(0≤x∧x < 4294967296)∧n6 xs:=by simp[n6]
theorem Ws {xs ys:List Int}:n6 (xs++ys)↔n6 xs∧n6 ys:=by
 simp only[n6,List.mem_append];exact ⟨fun h=>⟨fun x hx=>h x (.inl hx),fun x hx=>h x (.inr hx)⟩,fun h x hx=>hx.elim (h.1 x) (h.2 x)⟩
theorem n6.take {xs:List Int} (h:n6 xs) (n:Nat):n6 (xs.take n):=fun x hx=>h x (List.mem_of_mem_take hx)
theorem n6.drop {xs:List Int} (h:n6 xs) (n:Nat):n6 (xs.drop n):=fun x hx=>h x (List.mem_of_mem_drop hx)
theorem n6.nth {xs:List Int} (h:n6 xs) (i:Nat):0≤nth xs i∧nth xs i < 4294967296:=by
 unfold Rf.nth
 by_cases hi:i < xs.length
 ·rw[List.getD_eq_getElem?_getD,List.getElem?_eq_getElem hi];exact h _ (List.getElem_mem hi)
 ·rw[List.getD_eq_getElem?_getD,List.getElem?_eq_none (by omega)];simp
theorem qjs:∀ xs ys:List Int,nv (xs++ys)=nv xs + pw xs.length * nv ys
 | [],ys=>by simp[nv,pw]
 | x :: xs,ys=>by
   simp only[List.cons_append,nv,qjs xs ys,List.length_cons,pw,Int.mul_add,Int.mul_assoc];omega
theorem d7:∀ {xs:List Int},n6 xs→0≤nv xs∧nv xs < pw xs.length
 | [],_=>by decide
 | x :: xs,h=>by
   obtain ⟨h1,h2⟩:=U0.1 h;obtain ⟨k1,k2⟩:=d7 h2;simp only[nv,List.length_cons,pw];omega
def Xm:Nat→Nat→List Int
 | 0,_=>[]
 | f + 1,n=>if n=0 then [] else ((n % 4294967296:Nat):Int) :: Xm f (n / 4294967296)
def d6 (n:Int):List Int:=Xm n.toNat n.toNat
theorem qbp:∀ f n,n6 (Xm f n)
 | 0,_=>n6.nil
 | f + 1,n=>by
   unfold Xm;split
   ·exact n6.nil
   ·refine U0.2 ⟨?_,qbp f _⟩;have:=Nat.mod_lt n (show 0 < 4294967296 by decide);omega
theorem qat:∀ f n,n≤f→nv (Xm f n)=n
 | 0,n,h=>by
   have:n=0:=by omega
   subst this;rfl
 | f + 1,n,h=>by
   unfold Xm;split
   ·rename_i h0; subst h0; rfl
   ·have:n / 4294967296≤f:=by omega
    simp only[nv,qat f _ this];omega
theorem g8 (n:Int):n6 (d6 n):=qbp _ _
theorem x4 {n:Int} (h:0≤n):nv (d6 n)=n:=by
 unfold d6;rw[qat _ _ (Nat.le_refl _)];omega
def Can (xs:List Int):Prop:=xs=[]∨pw (xs.length - 1)≤nv xs
theorem qec:∀ f n,n≤f→Can (Xm f n)
 | 0,_,_=>.inl rfl
 | f + 1,n,h=>by
   unfold Xm;split
   ·exact .inl rfl
   ·rename_i h0;right
    have hb:n / 4294967296≤f:=by omega
    have hv:=qat f _ hb;rcases qec f (n / 4294967296) hb with hc | hc
    ·rw[hc] at hv ⊢;simp only[nv] at hv ⊢;simp only[List.length_singleton,Nat.sub_self,pw];omega
    ·simp only[List.length_cons,Nat.add_sub_cancel,nv]
     cases hl:(Xm f (n / 4294967296)).length with
     | zero=>
       have hnil:=List.eq_nil_of_length_eq_zero hl;rw[hnil] at hv ⊢;simp only[nv] at hv ⊢;simp only[pw];omega
     | succ k=>
       rw[hl] at hc;simp only[Nat.add_sub_cancel] at hc;simp only[pw];omega
theorem T9 (n:Int):Can (d6 n):=qec _ _ (Nat.le_refl _)
theorem qe6:∀ {xs ys:List Int},n6 xs→n6 ys→Can xs→Can ys→nv xs=nv ys→xs=ys
 | [],[],_,_,_,_,_=>rfl
 | [],y :: ys,_,hg,_,hc,h=>by
   exfalso
   rcases hc with hc | hc
   ·cases hc
   ·have:=X3 ((y :: ys).length - 1);simp only[nv] at h hc;omega
 | x :: xs,[],hg,_,hc,_,h=>by
   exfalso
   rcases hc with hc | hc
   ·cases hc
   ·have:=X3 ((x :: xs).length - 1);simp only[nv] at h hc;omega
 | x :: xs,y :: ys,hg,hg',hc,hc',h=>by
   obtain ⟨h1,h2⟩:=U0.1 hg;obtain ⟨h3,h4⟩:=U0.1 hg';simp only[nv] at h
   have hxy:x=y:=by omega
   subst hxy
   have hn:nv xs=nv ys:=by omega
   have low:∀ {x:Int} {xs:List Int},(0≤x∧x < 4294967296)→n6 xs→Can (x :: xs)→Can xs:=by
    intro x xs hx hg hc;rcases hc with hc | hc
    ·cases hc
    ·cases xs with
     | nil=>exact .inl rfl
     | cons z zs=>
       right;simp only[List.length_cons,Nat.add_sub_cancel] at hc ⊢;simp only[pw] at hc;rw[nv] at hc;have:=(d7 hg).1;omega
   rw[qe6 h2 h4 (low h1 h2 hc) (low h1 h4 hc') hn]
theorem Wl {xs:List Int} (hg:n6 xs) (hc:Can xs):xs=d6 (nv xs):=
 qe6 hg (g8 _) hc (T9 _) (x4 (d7 hg).1).symm
theorem zba {xs:List Int} (hg:n6 xs) (hc:Can xs) {k:Nat} (h:nv xs < pw k):xs.length≤k:=by
 rcases hc with hc | hc
 ·rw[hc]; exact Nat.zero_le _
 ·by_cases hk:xs.length≤k
  ·exact hk
  ·exfalso
   have:=Qy (show k≤xs.length - 1 by omega);omega
theorem o5 {n:Int} (h0:0≤n) {k:Nat} (h:n < pw k):(d6 n).length≤k:=zba (g8 n) (T9 n) (by rw[x4 h0]; exact h)
@[simp] theorem vP:d6 0=[]:=rfl
theorem jk {n:Int} (h:0≤n):d6 n=[]↔n=0:=⟨fun e=>by have:=x4 h; rw[e] at this; simpa [nv] using this.symm,fun e=>by rw[e]; rfl⟩
theorem QW (x:Int) (xs:List Int):nth (x :: xs) 0=x:=rfl
theorem QX (x:Int) (xs:List Int) (i:Nat):nth (x :: xs) (i + 1)=nth xs i:=by simp[nth]
theorem kO {xs:List Int} {i:Nat} (h:i < xs.length):xs.take (i + 1)=xs.take i++[nth xs i]:=by
 rw[List.take_add_one,List.getElem?_eq_getElem h];simp[nth,h]
theorem zK {xs:List Int} {i:Nat} (h:i < xs.length):nv (xs.take (i + 1))=nv (xs.take i) + pw i * nth xs i:=by
 rw[kO h,qjs,List.length_take,Nat.min_eq_left (by omega)];simp[nv]
theorem qcg (xs:List Int) (x:Int):nv (xs++[x])=nv xs + pw xs.length * x:=by rw[qjs]; simp[nv]
end Go.Rf
