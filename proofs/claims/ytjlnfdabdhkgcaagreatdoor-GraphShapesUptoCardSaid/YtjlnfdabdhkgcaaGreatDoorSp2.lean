/- Parts of the proof: RfTac, RfNum. -/
import Derived.Test.YtjlnfdabdhkgcaaGreatDoorRb2
import Derived.Test.YtjlnfdabdhkgcaaGreatDoorSp1

set_option linter.unusedSimpArgs false
set_option linter.unusedVariables false
set_option linter.unnecessarySimpa false
set_option linter.unusedSectionVars false
set_option linter.all false
namespace Go.Rf
theorem qxw {p:Prop} [Decidable p] (h:p):decide p=true:=decide_eq_true h
theorem qtb {p:Prop} [Decidable p] (h:¬ p):decide p=false:=decide_eq_false h
theorem qrb (a b:Int):(a == b)=decide (a=b):=rfl
theorem q1n (a b:Int):(a != b)=decide (a≠b):=by
 show (!(a == b))=_;rw[qrb]
 by_cases h:a=b <;> simp[h]
theorem qt3 {n:Int} (h:-9223372036854775808≤n∧n≤9223372036854775807):IntKind.wrap .i64 n=n:=by
 simp only[IntKind.wrap,IntKind.bits,IntKind.signed,Bool.true_and,decide_eq_true_eq,ge_iff_le]
 split <;> omega
theorem qt4 {n:Int} (h:-2147483648≤n∧n≤2147483647):IntKind.wrap .i32 n=n:=by
 simp only[IntKind.wrap,IntKind.bits,IntKind.signed,Bool.true_and,decide_eq_true_eq,ge_iff_le]
 split <;> omega
theorem qbh {n:Int} (h:0≤n∧n < 18446744073709551616):IntKind.wrap .u64 n=n:=by
 simp only[IntKind.wrap,IntKind.bits,IntKind.signed,Bool.false_and,Bool.false_eq_true,if_false];omega
theorem qt2 {n:Int} (h:0≤n∧n < 4294967296):IntKind.wrap .u32 n=n:=by
 simp only[IntKind.wrap,IntKind.bits,IntKind.signed,Bool.false_and,Bool.false_eq_true,if_false];omega
theorem qy0 {n:Int} (h:0≤n∧n < 256):IntKind.wrap .u8 n=n:=by
 simp only[IntKind.wrap,IntKind.bits,IntKind.signed,Bool.false_and,Bool.false_eq_true,if_false];omega
theorem qg7 (n:Int):IntKind.wrap .u32 n=n % 4294967296:=by
 simp only[IntKind.wrap,IntKind.bits,IntKind.signed,Bool.false_and,Bool.false_eq_true,if_false];rfl
theorem ja (n:Int):IntKind.wrap .u64 n=n % 18446744073709551616:=by
 simp only[IntKind.wrap,IntKind.bits,IntKind.signed,Bool.false_and,Bool.false_eq_true,if_false];rfl
def nth (xs:List Int) (i:Nat):Int:=xs.getD i 0
def L (xs:List Int):List D:=xs.map fun n=>.int .u32 n
@[simp] theorem L_len (xs:List Int):(L xs).length=xs.length:=by simp[L]
@[simp] theorem L_take (xs:List Int) (i:Nat):(L xs).take i=L (xs.take i):=by simp[L,List.map_take]
@[simp] theorem L_drop (xs:List Int) (i:Nat):(L xs).drop i=L (xs.drop i):=by simp[L,List.map_drop]
@[simp] theorem kS:L []=[]:=rfl
@[simp] theorem zT (x:Int) (xs:List Int):L (x :: xs) = .int .u32 x :: L xs:=rfl
theorem zna {xs:List Int} {i:Nat} (h:i < xs.length):(L xs)[i]? = some (.int .u32 (nth xs i)):=by
 simp[L,nth,h]
def LV (xs:List Int):List V:=xs.map fun n=>.d (.int .u32 n)
@[simp] theorem LV_len (xs:List Int):(LV xs).length=xs.length:=by simp[LV]
@[simp] theorem q1t (xs:List Int) (i:Nat):(LV xs).take i=LV (xs.take i):=by simp[LV,List.map_take]
@[simp] theorem LV_drop (xs:List Int) (i:Nat):(LV xs).drop i=LV (xs.drop i):=by simp[LV,List.map_drop]
@[simp] theorem qpz:LV []=[]:=rfl
@[simp] theorem LV_app (xs ys:List Int):LV xs++LV ys=LV (xs++ys):=by simp[LV]
@[simp] theorem LV_app1 (xs:List Int) (y:Int):LV xs++[.d (.int .u32 y)]=LV (xs++[y]):=by simp[LV]
theorem zbj {xs:List Int} {i:Nat} (h:i < xs.length):(LV xs)[i]? = some (.d (.int .u32 (nth xs i))):=by
 simp[LV,nth,h]
@[simp] theorem LV_set (xs:List Int) (i:Nat) (y:Int):(LV xs).set i (.d (.int .u32 y))=LV (xs.set i y):=by simp[LV,List.map_set]
@[simp] theorem zm9 (xs:List Int):(L xs).map V.d=LV xs:=by simp[L,LV,Function.comp_def]
@[simp] theorem allD_LV (xs:List Int):S9 (LV xs)=some (L xs):=by
  induction xs with
  | nil=>rfl
  | cons x xs ih=>
    show S9 (.d _ :: LV xs)=_;simp only[S9,ih];rfl
@[simp] theorem rens_LV (al:Loc→Bool) (xs:List Int) (m:List Loc):qN al (LV xs) m=(LV xs,m):=by
  rw[← zm9]; exact wQ ..
@[simp] theorem zjl (f:Loc→Loc) (xs:List Int):Q1 f (LV xs)=LV xs:=by
  induction xs with
  | nil=>rfl
  | cons x xs ih=>
    show V.mapL f (.d _) :: Q1 f (LV xs)=_;rw[ih];rfl
@[simp] theorem frzL_LV (h:Loc→Option Obj) (k:Nat) (xs:List Int):jP (frz h (k + 1)) (LV xs)=some (L xs,[]):=by
  induction xs with
  | nil=>rfl
  | cons x xs ih=>
    show jP (frz h (k + 1)) (.d _ :: LV xs)=_;simp only[jP,ih];rfl
@[simp] theorem LV_rep (n:Nat) (y:Int):List.replicate n (V.d (D.int .u32 y))=LV (List.replicate n y):=by simp[LV]
@[simp] theorem L_rep (n:Nat) (y:Int):List.replicate n (D.int .u32 y)=L (List.replicate n y):=by simp[L]
theorem JT (xs:List Int):wl (L xs)≤4:=by
 induction xs with
 | nil=>simp[wl]
 | cons x xs ih=>simp only[zT,wl,wt,IntKind.bits]; omega
@[simp] theorem wl_L4 (xs:List Int):(wl (L xs)≤4)=True:=eq_true (JT xs)
theorem qx4 (xs:List Int):(LV xs).all (fun v=>v.cells.length == 1)=true:=by
 simp[LV,V.cells]
@[simp] theorem fit_L' {n:Nat} {xs:List Int} (h:n≤1099511627776):(n * wl (L xs)≤A5)=True:=eq_true (Nat.le_trans (Nat.mul_le_mul h (JT xs)) (by unfold A5; omega))
@[simp] theorem le_lots {n:Nat} (h:n≤1099511627776 * 64):(n≤A5)=True:=eq_true (by unfold A5; omega)
attribute [simp] qrb q1n
attribute [simp] qxw qtb qt3 qt4 qbh qt2 qy0 zna zbj qx4
attribute [simp] j6 k8
@[simp] theorem lget0 {α:Type} (a:α) (l:List α):(a :: l)[0]? = some a:=rfl
@[simp] theorem lget1 {α:Type} (a b:α) (l:List α):(a :: b :: l)[1]? = some b:=rfl
@[simp] theorem lget2 {α:Type} (a b c:α) (l:List α):(a :: b :: c :: l)[2]? = some c:=rfl
@[simp] theorem lget3 {α:Type} (a b c d:α) (l:List α):(a :: b :: c :: d :: l)[3]? = some d:=rfl
@[simp] theorem lget4 {α:Type} (a b c d e:α) (l:List α):(a :: b :: c :: d :: e :: l)[4]? = some e:=rfl
@[simp] theorem zju {α:Type} (n:Nat):([]:List α)[n]? = none:=by simp
@[simp] theorem lget1' {α:Type} (a:α):[a][1]? = none:=rfl
@[simp] theorem lget2' {α:Type} (a b:α):[a,b][2]? = none:=rfl
@[simp] theorem lget3' {α:Type} (a b c:α):[a,b,c][3]? = none:=rfl
@[simp] theorem lget4' {α:Type} (a b c d:α):[a,b,c,d][4]? = none:=rfl
@[simp] theorem lget21 {α:Type} (a:α):[a][2]? = none:=rfl
@[simp] theorem L_cells (xs:List Int):(∀ x∈L xs,x.cells.length=1)=True:=eq_true (by
  intro x hx;obtain ⟨n,_,rfl⟩:=List.mem_map.1 hx
  rfl)
@[simp] theorem znb (xs:List Int):(∀ x∈LV xs,x.cells.length=1)=True:=eq_true (by
  intro x hx;obtain ⟨n,_,rfl⟩:=List.mem_map.1 hx
  rfl)
theorem qw6 {α:Type} {c:Prop} [Decidable c] {a b:α} (h:c):(if c then a else b)=a:=if_pos h
theorem qw7 {α:Type} {c:Prop} [Decidable c] {a b:α} (h:¬ c):(if c then a else b)=b:=if_neg h
attribute [simp] qw6 qw7 qg7
@[simp] theorem fdiv32 (a:Int):a.fdiv 4294967296=a / 4294967296:=Int.fdiv_eq_ediv_of_nonneg a (by decide)
@[simp] theorem range0:List.range 0=[]:=rfl
@[simp] theorem range1:List.range 1=[0]:=rfl
@[simp] theorem range2:List.range 2=[0,1]:=rfl
@[simp] theorem range3:List.range 3=[0,1,2]:=rfl
@[simp] theorem range4:List.range 4=[0,1,2,3]:=rfl
@[simp] theorem range7:List.range 7=[0,1,2,3,4,5,6]:=rfl
@[simp] theorem range8:List.range 8=[0,1,2,3,4,5,6,7]:=rfl
@[simp] theorem range9:List.range 9=[0,1,2,3,4,5,6,7,8]:=rfl
@[simp] theorem range5:List.range 5=[0,1,2,3,4]:=rfl
@[simp] theorem range6:List.range 6=[0,1,2,3,4,5]:=rfl
@[simp] theorem zmc:IntKind.bits .u64=64:=rfl
@[simp] theorem zmd:IntKind.bits .u32=32:=rfl
@[simp] theorem bits_u8:IntKind.bits .u8=8:=rfl
@[simp] theorem zme:IntKind.bits .i64=64:=rfl
@[simp] theorem zmf:IntKind.bits .i32=32:=rfl
theorem qxj {a b:Int} (h:0≤b):a.fdiv b=a / b:=Int.fdiv_eq_ediv_of_nonneg a h
attribute [simp] qxj
@[simp] theorem min1:min 32 64=32:=rfl
@[simp] theorem min2:min 63 64=63:=rfl
@[simp] theorem min3:min 16 64=16:=rfl
@[simp] theorem min4:min 8 64=8:=rfl
@[simp] theorem p32:(2:Int) ^ (32:Nat)=4294967296:=rfl
@[simp] theorem p63:(2:Int) ^ (63:Nat)=9223372036854775808:=rfl
@[simp] theorem p16:(2:Int) ^ (16:Nat)=65536:=rfl
@[simp] theorem p8:(2:Int) ^ (8:Nat)=256:=rfl
@[simp] theorem zb0 {α:Type} (xs:List α) (y:α):(xs++[y]).take (xs.length + 1)=xs++[y]:=List.take_of_length_le (by simp)
@[simp] theorem q2d (k k' x y):B6 (.d (.int k x)) 0 (.d (.int k' y))=some (.d (.int k' y)):=rfl
@[simp] theorem qzf (x y):B6 (.d (.bool x)) 0 (.d (.bool y))=some (.d (.bool y)):=rfl
@[simp] theorem q2b (x y):B6 (.d (.str x)) 0 (.d (.str y))=some (.d (.str y)):=rfl
@[simp] theorem q5u (x y):B6 (.d (.sl x)) 0 (.d (.sl y))=some (.d (.sl y)):=rfl
@[simp] theorem zgm (a b:Nat):((a:Int) + (b:Int)).toNat=a + b:=by omega
@[simp] theorem zbv (a b c:Nat):((a:Int) + (b:Int) + (c:Int)).toNat=a + b + c:=by omega
@[simp] theorem zbx (a b:Nat):((a:Int) + (b:Int) - 1).toNat=a + b - 1:=by omega
@[simp] theorem zbw (a b:Nat):((a:Int) + (b:Int) - 2).toNat=a + b - 2:=by omega
@[simp] theorem q48 (a b:Nat):((a:Int) + (b:Int) + 1).toNat=a + b + 1:=by omega
@[simp] theorem zgn (a:Nat):((a:Int) + 1).toNat=a + 1:=by omega
@[simp] theorem zbz (a:Nat):((a:Int) - 1).toNat=a - 1:=by omega
@[simp] theorem zby (a:Nat):((a:Int) - 2).toNat=a - 2:=by omega
@[simp] theorem zbu (a b:Nat):((a:Int) - (b:Int)).toNat=a - b:=by omega
@[simp] theorem qze (cs off x):B6 (.d (.agg cs)) off x=if off + x.cells.length≤(V.cells (.d (.agg cs))).length then some (wT (zW (V.cells (.d (.agg cs))) off x.cells)) else none:=rfl
@[simp] theorem q2e (cs off x):B6 (.agg cs) off x=if off + x.cells.length≤(V.cells (.agg cs)).length then some (wT (zW (V.cells (.agg cs)) off x.cells)) else none:=rfl
@[simp] theorem zcm {α β:Type} (x:α) (d:β) (f:α→β):onO (some x) d f=f x:=rfl
@[simp] theorem zcn {α β:Type} (d:β) (f:α→β):onO none d f=d:=rfl
theorem quh {a b:Int} (h:0≤a):a.tdiv b=a / b:=Int.tdiv_eq_ediv_of_nonneg h
theorem quf {a b:Int} (h:0≤a):a.tmod b=a % b:=Int.tmod_eq_emod_of_nonneg h
attribute [simp] quh quf
@[simp] theorem le_long {n:Nat} (h:n≤1099511627776):(n≤long)=True:=eq_true (Nat.le_trans h (by unfold long; omega))
def zh5 (x:D) (o:Option (List V × List Obj × List Loc)):Option (Ex × St):=bnd o fun b=>some (.pan (.d x),{ env:=[],heap:=b.2.1 })
@[simp] theorem zcl (x vs os m):zh5 x (some (vs,os,m))=some (.pan (.d x),{ env:=[],heap:=os }):=rfl
@[simp] theorem endP_d (pin x h):qmf pin (.d x) h=zh5 x (XK (Kt pin) [] (Q7 h [])):=rfl
theorem qqw {g:FuncId} (h:g < fB):wZ g=g:=if_pos h
theorem qge {α:Type} {g:FuncId} (h:g < fB) (vs cs:List α):N2 g vs cs=vs++cs:=if_pos h
end Go.Rf

namespace Go.Rf
def nv:List Int→Int
 | []=>0
 | x :: xs=>x + 4294967296 * nv xs
def n8 (xs:List Int):Prop:=∀ x∈xs,0≤x∧x < 4294967296
def pw:Nat→Int
 | 0=>1
 | n + 1=>4294967296 * pw n
theorem V4:∀ n,0 < pw n
 | 0=>by decide
 | n + 1=>by have:=V4 n; simp only[pw]; omega
theorem Zo (m:Nat):∀ n,pw (n + m)=pw n * pw m
 | 0=>by simp[pw]
 | n + 1=>by rw[Nat.add_right_comm]; simp only[pw,Zo m n,Int.mul_assoc]
theorem QJ {m n:Nat} (h:m≤n):pw m≤pw n:=by
 induction h with
 | refl=>exact Int.le_refl _
 | step _ ih=>have:=V4 ‹_›; simp only[Nat.succ_eq_add_one,pw]; omega
theorem n8.nil:n8 []:=fun x h=>by cases h
theorem V8 {x:Int} {xs:List Int}:n8 (x :: xs)↔(0≤x∧x < 4294967296)∧n8 xs:=by simp[n8]
theorem qc7 {xs ys:List Int}:n8 (xs++ys)↔n8 xs∧n8 ys:=by
 simp only[n8,List.mem_append];exact ⟨fun h=>⟨fun x hx=>h x (.inl hx),fun x hx=>h x (.inr hx)⟩,fun h x hx=>hx.elim (h.1 x) (h.2 x)⟩
theorem n8.take {xs:List Int} (h:n8 xs) (n:Nat):n8 (xs.take n):=fun x hx=>h x (List.mem_of_mem_take hx)
theorem n8.drop {xs:List Int} (h:n8 xs) (n:Nat):n8 (xs.drop n):=fun x hx=>h x (List.mem_of_mem_drop hx)
theorem n8.nth {xs:List Int} (h:n8 xs) (i:Nat):0≤nth xs i∧nth xs i < 4294967296:=by
 unfold Rf.nth
 by_cases hi:i < xs.length
 ·rw[List.getD_eq_getElem?_getD,List.getElem?_eq_getElem hi];exact h _ (List.getElem_mem hi)
 ·rw[List.getD_eq_getElem?_getD,List.getElem?_eq_none (by omega)];simp
theorem qh0:∀ xs ys:List Int,nv (xs++ys)=nv xs + pw xs.length * nv ys
 | [],ys=>by simp[nv,pw]
 | x :: xs,ys=>by
   simp only[List.cons_append,nv,qh0 xs ys,List.length_cons,pw,Int.mul_add,Int.mul_assoc];omega
theorem d7:∀ {xs:List Int},n8 xs→0≤nv xs∧nv xs < pw xs.length
 | [],_=>by decide
 | x :: xs,h=>by
   obtain ⟨h1,h2⟩:=V8.1 h;obtain ⟨k1,k2⟩:=d7 h2;simp only[nv,List.length_cons,pw];omega
def Zw:Nat→Nat→List Int
 | 0,_=>[]
 | f + 1,n=>if n=0 then [] else ((n % 4294967296:Nat):Int) :: Zw f (n / 4294967296)
def d6 (n:Int):List Int:=Zw n.toNat n.toNat
theorem qaj:∀ f n,n8 (Zw f n)
 | 0,_=>n8.nil
 | f + 1,n=>by
   unfold Zw;split
   ·exact n8.nil
   ·refine V8.2 ⟨?_,qaj f _⟩;have:=Nat.mod_lt n (show 0 < 4294967296 by decide);omega
theorem WB:∀ f n,n≤f→nv (Zw f n)=n
 | 0,n,h=>by
   have:n=0:=by omega
   subst this;rfl
 | f + 1,n,h=>by
   unfold Zw;split
   ·rename_i h0; subst h0; rfl
   ·have:n / 4294967296≤f:=by omega
    simp only[nv,WB f _ this];omega
theorem g9 (n:Int):n8 (d6 n):=qaj _ _
theorem q9 {n:Int} (h:0≤n):nv (d6 n)=n:=by
 unfold d6;rw[WB _ _ (Nat.le_refl _)];omega
def Can (xs:List Int):Prop:=xs=[]∨pw (xs.length - 1)≤nv xs
theorem qc0:∀ f n,n≤f→Can (Zw f n)
 | 0,_,_=>.inl rfl
 | f + 1,n,h=>by
   unfold Zw;split
   ·exact .inl rfl
   ·rename_i h0;right
    have hb:n / 4294967296≤f:=by omega
    have hv:=WB f _ hb;rcases qc0 f (n / 4294967296) hb with hc | hc
    ·rw[hc] at hv ⊢;simp only[nv] at hv ⊢;simp only[List.length_singleton,Nat.sub_self,pw];omega
    ·simp only[List.length_cons,Nat.add_sub_cancel,nv]
     cases hl:(Zw f (n / 4294967296)).length with
     | zero=>
       have hnil:=List.eq_nil_of_length_eq_zero hl;rw[hnil] at hv ⊢;simp only[nv] at hv ⊢;simp only[pw];omega
     | succ k=>
       rw[hl] at hc;simp only[Nat.add_sub_cancel] at hc;simp only[pw];omega
theorem S4 (n:Int):Can (d6 n):=qc0 _ _ (Nat.le_refl _)
theorem qdu:∀ {xs ys:List Int},n8 xs→n8 ys→Can xs→Can ys→nv xs=nv ys→xs=ys
 | [],[],_,_,_,_,_=>rfl
 | [],y :: ys,_,hg,_,hc,h=>by
   exfalso
   rcases hc with hc | hc
   ·cases hc
   ·have:=V4 ((y :: ys).length - 1);simp only[nv] at h hc;omega
 | x :: xs,[],hg,_,hc,_,h=>by
   exfalso
   rcases hc with hc | hc
   ·cases hc
   ·have:=V4 ((x :: xs).length - 1);simp only[nv] at h hc;omega
 | x :: xs,y :: ys,hg,hg',hc,hc',h=>by
   obtain ⟨h1,h2⟩:=V8.1 hg;obtain ⟨h3,h4⟩:=V8.1 hg';simp only[nv] at h
   have hxy:x=y:=by omega
   subst hxy
   have hn:nv xs=nv ys:=by omega
   have low:∀ {x:Int} {xs:List Int},(0≤x∧x < 4294967296)→n8 xs→Can (x :: xs)→Can xs:=by
    intro x xs hx hg hc;rcases hc with hc | hc
    ·cases hc
    ·cases xs with
     | nil=>exact .inl rfl
     | cons z zs=>
       right;simp only[List.length_cons,Nat.add_sub_cancel] at hc ⊢;simp only[pw] at hc;rw[nv] at hc;have:=(d7 hg).1;omega
   rw[qdu h2 h4 (low h1 h2 hc) (low h1 h4 hc') hn]
theorem Yv {xs:List Int} (hg:n8 xs) (hc:Can xs):xs=d6 (nv xs):=
 qdu hg (g9 _) hc (S4 _) (q9 (d7 hg).1).symm
theorem zat {xs:List Int} (hg:n8 xs) (hc:Can xs) {k:Nat} (h:nv xs < pw k):xs.length≤k:=by
 rcases hc with hc | hc
 ·rw[hc]; exact Nat.zero_le _
 ·by_cases hk:xs.length≤k
  ·exact hk
  ·exfalso
   have:=QJ (show k≤xs.length - 1 by omega);omega
theorem o6 {n:Int} (h0:0≤n) {k:Nat} (h:n < pw k):(d6 n).length≤k:=zat (g9 n) (S4 n) (by rw[q9 h0]; exact h)
@[simp] theorem wX:d6 0=[]:=rfl
theorem xR {n:Int} (h:0≤n):d6 n=[]↔n=0:=⟨fun e=>by have:=q9 h; rw[e] at this; simpa [nv] using this.symm,fun e=>by rw[e]; rfl⟩
theorem Qk (x:Int) (xs:List Int):nth (x :: xs) 0=x:=rfl
theorem Ql (x:Int) (xs:List Int) (i:Nat):nth (x :: xs) (i + 1)=nth xs i:=by simp[nth]
theorem ko {xs:List Int} {i:Nat} (h:i < xs.length):xs.take (i + 1)=xs.take i++[nth xs i]:=by
 rw[List.take_add_one,List.getElem?_eq_getElem h];simp[nth,h]
theorem zp {xs:List Int} {i:Nat} (h:i < xs.length):nv (xs.take (i + 1))=nv (xs.take i) + pw i * nth xs i:=by
 rw[ko h,qh0,List.length_take,Nat.min_eq_left (by omega)];simp[nv]
theorem qa8 (xs:List Int) (x:Int):nv (xs++[x])=nv xs + pw xs.length * x:=by rw[qh0]; simp[nv]
end Go.Rf
