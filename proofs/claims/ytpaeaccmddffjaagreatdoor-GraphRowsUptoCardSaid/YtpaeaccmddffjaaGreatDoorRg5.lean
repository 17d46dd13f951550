/- Parts of the proof. -/
import Derived.Test.YtpaeaccmddffjaaGreatDoorRg4
set_option linter.all false
set_option linter.unusedSectionVars false
namespace Go.Rf
variable [Prg]
variable {B:Ice} {ds:List Deferred} {fx:List (Nat × Value)}
section
variable {P:Program} {T:Tab} {cf:CF} {o:Oper} {a:Act} {w:World} {ρ:Map} {H:Ice} {h:Loc→Option Obj} {i N:Nat} {env:List (Nat × V)} {r:R}
def qs0 (P:Program) (t tx ty:TypeId) (n:W) (ρ:Map) (H:Ice) (h':Loc→Option Obj) (w:World) (l:Loc) (dead:Option Loc) (need:Nat) (first v:Value):Prop:=
 need * n.w≤w8→∃ v' w',(Builtin.append_ #[t,tx] ty #[first,v]).run P w = .ok v' w' ∧ ∃ ρ',HRel ρ' H h' w'∧Trans ρ H w ρ' H w'∧j4 ρ ρ'∧(∀ l',l'≠l→dead≠some l'→ρ' l' = ρ l')∧A3 (ρ' l) n 0 need v'
structure AppT (P:Program) (t tx:TypeId) (n:W) (el:TypeId) (inf:TypeInfo) (z:Value) (d:TypeDesc):Prop where
 ht:P.underlying t=some (.slice el)
 hi:P.info? el=some inf
 hz:inf.zero=some z
 htx:P.underlying tx=some d
 hd:∀ k,d ≠ .int k
 hsz:inf.size=n.c
 hby:inf.bytes≤n.w
 hb0:0 < inf.bytes
 hzs:z.cells.size=n.c
 hc0:n.c≠0
 hw0:n.w≠0
 hw1:1000000≤n.w→el + 1000000=n.w∧n.c=1
theorem qnq {t tx ty:TypeId} {n:W} {el inf z d} (A:AppT P t tx n el inf z d) {m:List Loc} {ys:List V} {us:List Value} {v:Value} (hH:HRel ρ H h w) (D:Addend P ρ H w n tx m ys us v) {l:Loc} (hl:ρ l = .none) :
 qs0 P t tx ty n ρ H (F5 h l (some (.arr ys n))) w l none ys.length (.slice none 0 0) v:=by
 have hs:=D.src;rw[← A.hsz] at hs;intro hfit0
 have hfit:(0 + ys.length) * inf.bytes≤140737488355328:=by rw[Nat.zero_add]; exact Nat.le_trans (Nat.mul_le_mul_left _ A.hby) hfit0
 by_cases hy:ys=[]
 ·subst hy;refine ⟨_,_,qky t tx ty el inf A.ht A.hi v (flat us) (by simpa using hs),?_⟩;obtain ⟨k1,k2,k3⟩:=hH.virt hl n;refine ⟨_,k1,k2,k3,fun l' hl' _=>n6 hl',?_⟩;rw[m7];exact ⟨rfl,rfl,rfl,rfl⟩
 ·have hpos:0 < ys.length:=List.length_pos_iff.2 hy
  have hg:=run_append_grow_src (P:=P) w t tx ty el inf z A.ht A.hi A.hz none 0 0 [] (run_firstCells_none w.drew inf.size 0 0 0) v ys.length (flat us) hs (by omega)
   (by
    have h1:(0 + ys.length) * 1≤(0 + ys.length) * inf.bytes:=Nat.mul_le_mul_left _ A.hb0
    omega)
   (growslice_fits (by omega) hfit)
  refine ⟨_,_,hg,?_⟩;obtain ⟨ρ',q1,q2,q3,q4,q5⟩:=qea (n:=n) A.hw1 A.hw0 hH hl D.rel D.junk D.size z.cells A.hzs (0 + ys.length) (grownCap w (0 + ys.length) 0 el) (by omega) (grownCap_ge ..) (by rw[Nat.zero_add]; exact hfit0);refine ⟨ρ',?_,?_,q3,fun l' hl' _=>q4 l' hl',?_⟩
  ·simpa using q1
  ·simpa using q2
  ·simpa using q5
theorem zbi {t tx ty:TypeId} {n:W} {el inf z d} (A:AppT P t tx n el inf z d) {m:List Loc} {ys:List V} {us:List Value} {v:Value} (hH:HRel ρ H h w) (D:Addend P ρ H w n tx m ys us v) {l l0:Loc} (hl:ρ l = .none)
 {xs:List V} {b base size off len cap:Nat} (hl0:h l0=some (.arr xs n)) (hp:ρ l0 = .at_ b base n size) (hm:l0 ∉ m) (hle:off + len≤xs.length)
 (h1:len≤cap) (h3:base + (off + cap) * n.c≤size) (h4:1000000≤n.w→off=0∧base=0∧cap * n.c=size) :
 qs0 P t tx ty n ρ H (F5 (F5 h l0 none) l (some (.arr ((xs.drop off).take len++ys) n))) w l (some l0) (len + ys.length) (.slice (some ⟨b,base + off * n.c,Option.none⟩) len cap) v:=by
 have hs:=D.src;rw[← A.hsz] at hs;have hobj:=hH.objs l0 _ hl0;rw[hp] at hobj;obtain ⟨_,arr,elem,fr,vs,hb,hsize,hvs,hj,hvz,hc,hty⟩:=hobj
 have hll:l0≠l:=fun e=>by rw[e,hl] at hp; cases hp
 have holdl:(((vs.drop off).take len)).length=len:=by rw[List.length_take,List.length_drop,← hvs.length]; omega
 have holdz:∀ u∈(vs.drop off).take len,u.cells.size=n.c:=fun u hu=>hvz u (List.mem_of_mem_drop (List.mem_of_mem_take hu))
 have holdr:f9 ρ H ((xs.drop off).take len) ((vs.drop off).take len):=(hvs.drop off).take len;have holdj:=qed (qef hj off) len
 have hxl:((xs.drop off).take len).length=len:=by rw[List.length_take,List.length_drop]; omega
 have hcell:∀ j u,(flat ((vs.drop off).take len))[j]? = some u→w.cell? ⟨b,base + off * n.c + j,Option.none⟩=some u:=fun j u hju=>by
  have q:=Qc hju;rw[Jx off hvz,List.getElem?_drop] at q;have:=hc _ _ q;simp only[World.cell?,hb]
  simpa [Nat.add_assoc] using this
 have holdf:(flat ((vs.drop off).take len)).length=len * inf.size:=by rw[A7 holdz,holdl,A.hsz]
 have hold:(Builtin.firstCells inf.size len (.slice (some ⟨b,base + off * n.c,Option.none⟩) len cap)).run P w.drew = .ok (flat ((vs.drop off).take len)).toArray w.drew:=
  run_firstCells_some w.drew inf.size len _ len cap _ holdf (fun j u hj=>by rw[W3]; exact hcell j u hj)
 have hnew:f9 ρ H ((xs.drop off).take len++ys) ((vs.drop off).take len++us):=holdr.append D.rel
 have hnewj:((xs.drop off).take len++ys).any w5.isJunk=false:=by rw[List.any_append,holdj,D.junk]; rfl
 have hnewz:∀ u∈(vs.drop off).take len++us,u.cells.size=n.c:=fun u hu=>by
  rcases List.mem_append.1 hu with hu | hu
  ·exact holdz u hu
  ·exact D.size u hu
 intro hfit0;have hfit:(len + ys.length) * inf.bytes≤140737488355328:=Nat.le_trans (Nat.mul_le_mul_left _ A.hby) hfit0
 by_cases hroom:len + ys.length≤cap
 ·
  have hbound:base + off * n.c + len * n.c + (flat us).length≤arr.size:=by
   rw[A7 D.size,← D.rel.length];have:(off + (len + ys.length)) * n.c≤(off + cap) * n.c:=Nat.mul_le_mul_right _ (by omega);rw[Nat.add_mul,Nat.add_mul] at this;omega
  have hst:=L9 (P:=P) b (base + off * n.c + len * n.c) elem fr (flat us) 0 arr.toList w hb (by simpa using hbound) (Wi D.rel D.junk);simp only[Nat.add_zero] at hst;have hr:=qbq (P:=P) (w:=w) t tx ty el inf A.ht A.hi b (base + off * n.c) len cap v ys.length (flat us) hs hroom _ (by rw[A.hsz]; exact hst);refine ⟨_,_,hr,?_⟩;have hlt:b < w.heap.size:=(Array.getElem?_eq_some_iff.1 hb).1
  obtain ⟨k1,k2,k3⟩:=hH.move (w':={ w with heap:=w.heap.setIfInBounds b (.cells ⟨putL arr.toList (base + off * n.c + len * n.c) (flat us)⟩ elem (fr,fr)) }) (l:=l0) (l':=l) (b:=b) (by rw[hp]; rfl) hl
   (.arr ((xs.drop off).take len++ys) n) (.at_ b (base + off * n.c) n size) (fun _ h=>h.symm) ⟨rfl,rfl,rfl,by simp⟩ (fun q hq=>by
    show (w.heap.setIfInBounds b _)[q]? = _
    rw[Array.getElem?_setIfInBounds_ne (Ne.symm hq)]) (by
    have hst':j4 ρ (B5 (B5 ρ l0 .dead) l (.at_ b (base + off * n.c) n size)):=(j4.upd .dead (.inr rfl)).trans (j4.upd _ (.inl (by rw[n6 (Ne.symm hll)]; exact hl)));refine ⟨rfl,⟨putL arr.toList (base + off * n.c + len * n.c) (flat us)⟩,elem,fr,(vs.drop off).take len++us,?_,?_,hnew.mono hst' (fun _ _ _ e=>e),hnewj,hnewz,fun k u hk=>?_,fun hw=>⟨(hty hw).1,(hty hw).2.1,by rw[(h4 hw).1,(h4 hw).2.1,Nat.zero_mul],(hty hw).2.2.2⟩⟩
    ·show (w.heap.setIfInBounds b _)[b]? = _;rw[Array.getElem?_setIfInBounds_self];simp[hlt]
    ·rw[← hsize]; simp[qp]
    ·rw[qx] at hk;rw[List.getElem?_toArray,xJ _ _ _ _ (by simpa using hbound)]
     have hfl:(flat ((vs.drop off).take len)).length=len * n.c:=by rw[holdf,A.hsz]
     by_cases hkl:k < len * n.c
     ·rw[List.getElem?_append_left (by omega)] at hk;rw[if_neg (by omega)];have:=hcell k u hk;simp only[World.cell?,hb] at this
      simpa using this
     ·rw[List.getElem?_append_right (by omega),hfl] at hk;have hlt2:=(List.getElem?_eq_some_iff.1 hk).1;rw[if_pos (by omega)]
      have:base + off * n.c + k - (base + off * n.c + len * n.c)=k - len * n.c:=by omega
      rw[this]
      exact hk)
  refine ⟨_,k1,k2,k3,fun l' hl' hl''=>?_,?_⟩
  ·rw[n6 hl',n6 (fun e=>hl'' (by rw[e]))]
  ·rw[m7];refine ⟨rfl,cap,by simp,hroom,hfit0,?_,?_,fun hw=>⟨rfl,by rw[(h4 hw).1,(h4 hw).2.1,Nat.zero_mul],(h4 hw).2.2⟩⟩
   ·rw[Nat.zero_add];rw[Nat.add_mul] at h3;omega
   ·have:(len + ys.length) * 1≤(len + ys.length) * n.w:=Nat.mul_le_mul_left _ (Nat.pos_of_ne_zero A.hw0);omega
 ·
  have hg:=run_append_grow_src (P:=P) w t tx ty el inf z A.ht A.hi A.hz _ len cap _ hold v ys.length (flat us) hs (by omega)
   (by
    have h1:(len + ys.length) * 1≤(len + ys.length) * inf.bytes:=Nat.mul_le_mul_left _ A.hb0
    omega)
   (growslice_fits (by omega) hfit)
  refine ⟨_,_,hg,?_⟩;obtain ⟨k1,k2,k3⟩:=hH.kill l0
  obtain ⟨ρ',q1,q2,q3,q4,q5⟩:=qea (n:=n) A.hw1 A.hw0 k1 (l:=l) (by rw[n6 (Ne.symm hll)]; exact hl) (hnew.mono k3 (fun _ _ _ e=>e)) hnewj hnewz z.cells A.hzs (len + ys.length) (grownCap w (len + ys.length) cap el)
   (by rw[List.length_append,hxl]) (grownCap_ge ..) hfit0
  rw[qx] at q1 q2;exact ⟨ρ',q1,k2.trans q2,k3.trans q3,fun l' hl' hl''=>by rw[q4 l' hl',n6 (fun e=>hl'' (by rw[e]))],q5⟩
theorem f8.grown {c:Call} {x y:Operand} {t tx:TypeId} {n:W} {h':Loc→Option Obj} {dead:Option Loc} {need:Nat} {e:Eff} (hop:o.op = .call c) (hc:c.callee = .builtin .append) (ha:c.args = #[x,y]) (ht:c.argTypes = #[t,tx])
 (g:qs0 P t tx o.type n ρ H h' w (.n i 0) dead need (a.eval x) (a.eval y)) (hf:need * n.w≤w8) (hev:e.v = .ref (.n i 0) n 0 need) (hwr:j8 h e.wr=h') (hdead:∀ l,dead=some l→ρ l ≠ .none) :
 f8 P o a w ρ H h i (.ok e):=by
 obtain ⟨v',w',g1,ρ',g2,g3,g4,g5,g6⟩:=g hf;refine f8.of (qh3 hop hc ha ht g1) ⟨by rw[hwr]; exact g2,g3,g4,fun l h1 h2=>?_,by rw[hev]; exact g6⟩
 by_cases hl:l = .n i 0
 ·exact ⟨0,hl⟩
 ·exfalso
  by_cases hd:dead=some l
  ·exact hdead l hd h1
  ·rw[g5 l hl hd] at h2;exact h2 h1
theorem qwz {n x y} (hH:HRel ρ H h w) (hE:EnvRel B ds fx ρ H N env a) (hN:ρ (.n i 0) = .none) (hok:Kn n x y P o.op=true) (e:exec T cf i (.app n x y) (evO env) h=some r):f8 P o a w ρ H h i r:=by
 unfold Kn at hok;split at hok
 ·rename_i c hop;simp only[Bool.and_eq_true] at hok;obtain ⟨hok1,hok2⟩:=hok
  have hc:c.callee = .builtin .append:=by
   split at hok1
   ·assumption
   ·cases hok1
  split at hok2
  ·rename_i x' y' t tx ha ht;simp only[Bool.and_eq_true,decide_eq_true_eq] at hok2;obtain ⟨⟨⟨⟨⟨⟨h1,h2⟩,h3⟩,h4⟩,h5⟩,h6⟩,h7⟩:=hok2;have ha':c.args = #[x',y']:=Array.toList_inj.1 ha;have ht':c.argTypes = #[t,tx]:=Array.toList_inj.1 ht;obtain ⟨el,inf,hu,hi,hsz,hby,hb0,hsm⟩:=Qv.get h3 h5
   have htx:∃ d,P.underlying tx=some d∧(∀ k,d ≠ .int k)∧((∃ e',P.underlying tx=some (.slice e'))∨P.underlying tx=some .string):=by
    cases hq:P.underlying tx with
    | none=>rw[hq] at h6; cases h6
    | some d=>
      rw[hq] at h6
      cases d <;> first | exact ⟨_,rfl,(fun k h=>by cases h),.inl ⟨_,rfl⟩⟩ | exact ⟨_,rfl,(fun k h=>by cases h),.inr rfl⟩ | cases h6
   obtain ⟨d,hd1,hd2,hd3⟩:=htx;rw[hu] at h7;simp only[hi] at h7
   cases hz:inf.zero with
   | none=>rw[hz] at h7; cases h7
   | some z=>
   rw[hz] at h7;simp only[decide_eq_true_eq] at h7;have A:AppT P t tx n el inf z d:=⟨hu,hi,hz,hd1,hd2,hsz,hby,hb0,h7,h4,h5,hsm⟩
   have main:∀ vy,evO env y=some vy→∀ (fx:Option V),(fx=none∧a.eval x' = .slice Option.none 0 0 ∨ ∃ vx,fx=some vx∧j9 ρ H vx (a.eval x'))→qec h i n fx vy=some r→f8 P o a w ρ H h i r:=by
    intro vy ey fx hfx er;have hy:=i7 hE h2 ey;unfold qec at er;split at er
    ·cases er
    ·rename_i ys m he;split at er
     ·rename_i hall;obtain ⟨us,D⟩:=Wx h4 hH hy he hall hd3;rcases hfx with ⟨rfl,hx⟩ | ⟨vx,rfl,hx⟩
      ·have g:=qnq (ty:=o.type) A hH D hN;rw[← hx] at g;simp only at er;split at er
       ·rename_i hf;cases er;exact f8.grown (h:=h) (i:=i) (e:={ v:=.ref (.n i 0) n 0 ys.length,rd:=m,wr:=[(.n i 0,some (.arr ys n))] }) hop hc ha' ht' g hf rfl rfl (fun l hl=>by cases hl)
       ·cases er
      ·cases vx with
       | ref l sz off len=>
         simp only at er;split at er
         ·rename_i xs sz' hl;split at er
          ·rename_i hcond;obtain ⟨rfl,hle,hm⟩:=hcond;have hx:A3 (ρ l) sz off len (a.eval x'):=hx;have hobj:=hH.objs l _ hl
           have fin:qs0 P t tx o.type sz ρ H (F5 (F5 h l none) (.n i 0) (some (.arr ((xs.drop off).take len++ys) sz))) w (.n i 0) (some l) (len + ys.length) (a.eval x') (a.eval y')→ρ l ≠ .none→f8 P o a w ρ H h i r:=by
            intro g hne;split at er
            ·rename_i hf;cases er;exact f8.grown (h:=h) (i:=i) (e:={ v:=.ref (.n i 0) sz 0 (len + ys.length),rd:=l :: m,wr:=[(l,none),(.n i 0,some (.arr ((xs.drop off).take len++ys) sz))] }) hop hc ha' ht' g hf rfl rfl (fun l' hl'=>by cases hl'; exact hne)
            ·cases er
           cases hp:ρ l with
           | none=>rw[hp] at hx; exact hx.elim
           | dead=>rw[hp] at hobj; exact hobj.elim
           | blk q=>rw[hp] at hx; exact hx.elim
           | gl b1 b2 b3 b4 b5=>rw[hp] at hobj; exact hobj.elim
           | grw b1 b2 b3 b4 b5=>rw[hp] at hobj; exact hobj.elim
           | out _ _ _ _=>rw[hp] at hobj; exact hobj.elim
           | virt s=>
             rw[hp] at hobj hx;obtain ⟨rfl,_⟩:=hobj;obtain ⟨_,rfl,rfl,hx2⟩:=hx
             have hll:l ≠ .n i 0:=fun e=>by rw[e,hN] at hp; cases hp
             refine fin ?_ (by rw[hp]; intro h; cases h);obtain ⟨k1,k2,k3⟩:=hH.kill l;have D':Addend P (B5 ρ l .dead) H w sz tx m ys us (a.eval y'):=⟨D.rel.mono k3 (fun _ _ _ e=>e),D.junk,D.size,D.src,D.len⟩;have g:=qnq (ty:=o.type) A k1 D' (l:=.n i 0) (by rw[n6 (Ne.symm hll)]; exact hN);rw[hx2];intro hf;obtain ⟨v',w',g1,ρ',g2,g3,g4,g5,g6⟩:=g (by simpa using hf);refine ⟨v',w',g1,ρ',?_,k2.trans g3,k3.trans g4,fun l' hl' hl''=>?_,?_⟩
             ·simpa using g2
             ·rw[g5 l' hl' (by intro h; cases h),n6 (fun e=>hl'' (by rw[e]))]
             ·simpa using g6
           | at_ b base s size=>
             rw[hp] at hobj hx;obtain ⟨rfl,_⟩:=hobj;obtain ⟨rfl,cap,hx2,q1,q2,q3,q4,q5⟩:=hx;refine fin ?_ (by rw[hp]; intro h; cases h);rw[hx2];exact zbi (ty:=o.type) A hH D hN hl hp hm hle q1 q3 q5
          ·cases er
         ·cases er
       | _=>cases er
     ·cases er
   cases x with
   | none=>
     obtain ⟨vy,ey,er⟩:=f7 e;refine main vy ey none (.inl ⟨rfl,?_⟩) er;split at h1
     ·rename_i hh; cases hh
     ·split at h1
      ·rfl
      ·cases h1
   | some q=>
     obtain ⟨vx,ex,e2⟩:=f7 e;obtain ⟨vy,ey,er⟩:=f7 e2;refine main vy ey (unN vx) ?_ er;have hx:=i7 hE h1 ex;unfold unN;split
     ·exact .inl ⟨rfl,hx⟩
     ·exact .inr ⟨_,rfl,hx⟩
  ·cases hok2
 ·cases hok
end
end Go.Rf

set_option linter.unusedSectionVars false
namespace Go.Rf
variable [Prg]
variable {B:Ice} {ds:List Deferred} {fx:List (Nat × Value)}
section
variable {P:Program} {T:Tab} {cf:CF} {o:Oper} {a:Act} {w:World} {ρ:Map} {H:Ice} {h:Loc→Option Obj} {i N:Nat} {env:List (Nat × V)} {r:R}
def qrj (P:Program) (t:TypeId):Bool:=match P.underlying t with
 | some (.pointer _)=>false
 | some _=>true
 | none=>false
def qq4 (P:Program) (name:String) (t:TypeId) (f:FuncId) (p:Option (Nat × Nat × Bool)):Bool:=
 S6 P f && match P.info? t with
 | some info=>match info.methods.find? (·.name == name) with
   | some m=>m.func == some (f,false) && match m.path.toList,p with
     | [],none=>qrj P t
     | [s],some (off,n,ag)=>!s.deref && (match P.underlying s.struct with
       | some (.struct fs)=>match fs[s.index]? with
         | some fd=>decide (fd.offset=off) && vV P fd.type n ag && qrj P fd.type
         | none=>false
       | _=>false)
     | _,_=>false
   | none=>false
 | none=>false
def qpe (m:List (TypeId × FuncId × Option (Nat × Nat × Bool))) (x:Opnd) (args:List (Opnd × Bool)) (P:Program):Op→Bool
 | .call c=>(match c.callee with | .invoke x' name=>okO x' x && m.all (fun y=>qq4 P name y.1 y.2.1 y.2.2) | _=>false) && Xz c.args.toList args
 | _=>false
theorem qct:∀ {m:List (TypeId × FuncId × Option (Nat × Nat × Bool))} {t y},XF m t=some y→(t,y)∈m
 | (t',r) :: l,t,y,e=>by
   unfold XF at e;split at e
   ·rename_i h; cases e; subst h; exact List.mem_cons_self ..
   ·exact List.mem_cons_of_mem _ (qct e)
theorem qk5 {t:TypeId} {u:Value} {b:Option String} (h:qrj P t=true):(receiverAt t (.val u) false b).run P w = .ok u w:=by
 unfold qrj at h;unfold receiverAt
 cases hu:P.underlying t with
 | none=>rw[hu] at h; cases h
 | some d=>
   rw[Sem.run_bind,run_underlying hu,Result.andThen_ok];rw[hu] at h
   cases d <;> first | rfl | cases h
theorem Kd {name t f p} {n:Nat} {u u':Value} (h:qq4 P name t f p=true) (h0:p=none→u'=u)
 (h1:∀ off m ag,p=some (off,m,ag)→∃ vs,u = .agg ⟨vs⟩∧(ag=true→off + m≤vs.length∧u' = .agg ⟨(vs.drop off).take m⟩)∧(ag=false→vs[off]? = some u')) :
 (method (n + 1) t u name).run P w = .ok (f,u') w:=by
 unfold qq4 at h;simp only[Bool.and_eq_true] at h;obtain ⟨_,h⟩:=h;split at h
 ·rename_i info hi;split at h
  ·rename_i m hm;simp only[Bool.and_eq_true,beq_iff_eq] at h;obtain ⟨hf,h⟩:=h;unfold method;rw[Sem.run_bind,run_typeInfo w hi,Result.andThen_ok];simp only[hm,hf];split at h
   ·rename_i hp;rw[h0 rfl,hp,Sem.run_bind];unfold follow;rw[Sem.run_pure,Result.andThen_ok];simp only[Sem.run_bind,qk5 h,Result.andThen_ok,Sem.run_pure]
   ·rename_i s off k ag hp;simp only[Bool.and_eq_true,Bool.not_eq_true'] at h;obtain ⟨hd,h⟩:=h;split at h
    ·rename_i fs hu;split at h
     ·rename_i fd hfd;simp only[Bool.and_eq_true,decide_eq_true_eq] at h;obtain ⟨⟨rfl,ht⟩,hn⟩:=h;obtain ⟨vs,rfl,q1,q2⟩:=h1 _ _ _ rfl;rw[hp,Sem.run_bind];unfold follow;simp only[Sem.run_bind,run_underlying hu,Result.andThen_ok,hfd,hd,Bool.false_eq_true,if_false];rw[KN fd.type fd.offset k ag ht vs u' q1 q2,Result.andThen_ok];unfold follow;simp only[Sem.run_pure,Result.andThen_ok,qk5 hn]
     ·cases h
    ·cases h
   ·cases h
  ·cases h
 ·cases h
theorem zgj {m x args} (hcf:Qp B P cf) (hH:HRel ρ H h w) (hE:EnvRel B ds fx ρ H N env a) (hN:∀ k,ρ (.n i k) = .none) (hok:qpe m x args P o.op=true) (e:exec T cf i (.inv m x args) (evO env) h=some r):f8 P o a w ρ H h i r:=by
 unfold qpe at hok;split at hok
 ·rename_i c hop;simp only[Bool.and_eq_true] at hok;obtain ⟨h1,h3⟩:=hok;split at h1
  ·rename_i x' name hc;simp only[Bool.and_eq_true,List.all_eq_true] at h1;obtain ⟨hx',hm⟩:=h1;obtain ⟨v,e1,e2⟩:=f7 e;obtain ⟨vs,e3,e4⟩:=f7 e2;obtain ⟨⟨t,y⟩,e5,e6⟩:=f7 e4;obtain ⟨⟨f,p⟩,e7,e8⟩:=f7 e6;obtain ⟨u,hu,hy⟩:=XN (i7 hE hx' e1) e5;have hrow:=hm _ (qct e7)
   have hf:S6 P f=true:=by
    unfold qq4 at hrow;simp only[Bool.and_eq_true] at hrow;exact hrow.1
   have hrun:∀ u',(method (P.types.size + Made.depth) t u name).run P w = .ok (f,u') w→(execOp a.eval o).run P w = .ok (.enter f ⟨u' :: c.args.toList.map a.eval⟩) w:=fun u' hq=>by
    unfold execOp;simp only[hop,resolve,hc];rw[Sem.run_bind,Sem.run_pure,Result.andThen_ok]
    have h0:(#[a.eval x']++Array.map a.eval c.args)[0]? = some (.iface t u):=by
     rw[Array.getElem?_append_left (by simp)]; simp[hu]
    have h1:(#[a.eval x']++Array.map a.eval c.args).extract 1 (#[a.eval x']++Array.map a.eval c.args).size=Array.map a.eval c.args:=by
     apply Array.toList_inj.1; simp[List.take_of_length_le]
    simp only[invoke,h0,h1,callMethod];rw[Sem.run_bind,run_program,Result.andThen_ok,Sem.run_bind,hq,Result.andThen_ok];rw[V6 hf]
    congr 2
    apply Array.toList_inj.1;simp
   have hd:P.types.size + Made.depth=(P.types.size + 99) + 1:=rfl
   cases p with
   | none=>exact zL (args:=(y,true) :: vs) (us:=u :: c.args.toList.map a.eval) hcf hE.base hH hN ⟨_,_,rfl,hy,qu hE h3 e3⟩ e8 (hrun u (by rw[hd]; exact Kd hrow (fun _=>rfl) (fun _ _ _ h=>by cases h)))
   | some q=>
     obtain ⟨off,n,ag⟩:=q;obtain ⟨y',e9,e10⟩:=f7 e8;unfold qf3 at e9;split at e9
     case isFalse=>cases e9
     rename_i hag
     have hsol:xD y=true:=by cases y <;> first | rfl | cases hag
     obtain ⟨us,rfl⟩:∃ vs,u = .agg ⟨vs⟩:=by
      unfold Rf.isAgg at hag;split at hag
      ·obtain ⟨vs,hv,_⟩:=hy; exact ⟨vs,hv⟩
      ·obtain ⟨vs,hv,_⟩:=hy; exact ⟨vs,hv⟩
      ·cases hag
     obtain ⟨p1,p2,_⟩:=KU hy hsol e9
     cases ag with
     | true=>
       obtain ⟨q1,q2⟩:=p1 rfl;exact zL (args:=(y',true) :: vs) (us:=_ :: c.args.toList.map a.eval) hcf hE.base hH hN ⟨_,_,rfl,q2,qu hE h3 e3⟩ e10 (hrun _ (by rw[hd]; exact Kd hrow (fun h=>by cases h) (fun _ _ _ h=>by cases h; exact ⟨_,rfl,fun _=>⟨by simpa [Value.cells] using q1,rfl⟩,(fun h=>by cases h)⟩)))
     | false=>
       obtain ⟨u',q1,q2,_⟩:=p2 rfl;exact zL (args:=(y',true) :: vs) (us:=_ :: c.args.toList.map a.eval) hcf hE.base hH hN ⟨_,_,rfl,q2,qu hE h3 e3⟩ e10 (hrun _ (by rw[hd]; exact Kd hrow (fun h=>by cases h) (fun _ _ _ h=>by cases h; exact ⟨_,rfl,(fun h=>by cases h),fun _=>q1⟩)))
  ·cases h1
 ·cases hok
def qy0 (P:Program) (t:TypeId) (s:Bool):Bool:=match P.underlying t,s with
 | some .string,true=>true
 | some (.int .i64),false=>true
 | _,_=>false
def WP (s:Bool):TypeDesc:=match s with | true=>.string | false=>.int .i64
theorem qiw {t s} (h:qy0 P t s=true):P.underlying t=some (WP s):=by
 unfold qy0 at h;split at h
 ·rename_i hu; exact hu
 ·rename_i hu; exact hu
 ·cases h
theorem qz3 (a b:List UInt8):((⟨a.toArray⟩:ByteArray) == ⟨b.toArray⟩)=(a == b):=by
 show (a.toArray == b.toArray)=_;simp
theorem qku {s:Bool} {x y:D} {u v:Value} (hx:q0e x u) (hy:q0e y v) (kx:jw s x=true) (ky:jw s y=true):Instr.sameNow (WP s) u v=some (I5 x y):=by
 unfold jw at kx ky;split at kx
 ·split at ky
  ·rename_i a _ b;cases hx; cases hy;simp only[Instr.sameNow,I5,WP];rw[qz3]
  ·rename_i h; cases h
  ·cases ky
 ·split at ky
  ·rename_i h; cases h
  ·cases hx; cases hy;simp[Instr.sameNow,I5,WP]
  ·cases ky
 ·cases kx
theorem qrs {s:Bool} {x:D} {u:Value} (hx:I3 H x u) (k:jw s x=true):q0e x u∧(u.cells = #[u])∧Instr.sameBits 10000 u u=true:=by
 unfold jw at k;split at k
 ·have e:=hx.1;refine ⟨e,by rw[e]; rfl,by rw[e]; simp only[Instr.sameBits,qz3,beq_self_eq_true]⟩
 ·have e:u = .int .i64 _:=hx;refine ⟨e,by rw[e]; rfl,by rw[e]; simp[Instr.sameBits]⟩
 ·cases k
theorem qos {s:Bool} {x y:D} (kx:jw s x=true) (ky:jw s y=true) (h:I5 x y=true):x=y:=by
 unfold jw at kx ky;split at kx
 ·split at ky
  ·simp only[I5,beq_iff_eq] at h; rw[h]
  ·rename_i h; cases h
  ·cases ky
 ·split at ky
  ·rename_i h; cases h
  ·simp only[I5,decide_true,Bool.true_and,beq_iff_eq] at h; rw[h]
  ·cases ky
 ·cases kx
theorem XT {s:Bool} {x:D} {u:Value} (hx:q0e x u) (kx:jw s x=true):∀ {es:List (D × V)} {ents:List MapEntry} (n:Nat),All2 (qeo ρ H) es ents→es.all (fun e=>jw s e.1)=true→
 (∃ j e y,Instr.findNow (WP s) u ents n=some (some (n + j,e.val))∧ents[j]? = some e∧Yq es (I5 x)=some y∧j9 ρ H y e.val∧e.key=u ∧
  ∀ v u',j9 ρ H v u'→J7 v=false→All2 (qeo ρ H) (KQ es x v) (ents.modify j fun e=>{ e with key:=u,val:=u' })) ∨
 (Instr.findNow (WP s) u ents n=some none∧Yq es (I5 x)=none ∧ ∀ v u' c,j9 ρ H v u'→J7 v=false→All2 (qeo ρ H) (KQ es x v) (ents++[{ key:=u,val:=u',born:=c }]))
 | _,_,n,.nil,_=>.inr ⟨rfl,rfl,fun v u' c h1 h2=>.cons ⟨hx,h1,h2⟩ .nil⟩
 | (k,v) :: es,e :: ents,n,.cons hr h,ha=>by
   simp only[List.all_cons,Bool.and_eq_true] at ha;simp only[Yq,KQ,Instr.findNow,qku hx hr.1 kx ha.1]
   cases hs:I5 x k with
   | true=>
     have hk:x=k:=qos kx ha.1 hs
     have hu:e.key=u:=by
      have:=hr.1;subst hk
      cases x <;> first | exact this.trans hx.symm | exact hx.elim
     refine .inl ⟨0,e,v,rfl,rfl,by simp,hr.2.1,hu,fun v' u' h1 h2=>?_⟩;simp only[if_true,List.modify_zero_cons];exact .cons ⟨by subst hk; exact hx,h1,h2⟩ h
   | false=>
     simp only[Bool.false_eq_true,if_false];rcases XT hx kx (n + 1) h ha.2 with ⟨j,e',y,g1,g2,g3,g4,g5,g6⟩ | ⟨g1,g2,g3⟩
     ·exact .inl ⟨j + 1,e',y,by rw[g1]; congr 3; omega,g2,g3,g4,g5,fun v' u' h1 h2=>.cons hr (g6 v' u' h1 h2)⟩
     ·exact .inr ⟨g1,g2,fun v' u' c h1 h2=>.cons hr (g3 v' u' c h1 h2)⟩
def qih (s:Bool) (z:D) (x k:Opnd) (P:Program):Op→Bool
 | .lookup t x' k' false=>okO x' x && okO k' k && (match P.underlying t with
   | some (.map key elem)=>qy0 P key s && T2 P elem z
   | _=>false)
 | _=>false
def qo8 (s:Bool) (x k v:Opnd) (P:Program):Op→Bool
 | .mapUpdate t x' k' v'=>okO x' x && okO k' k && okO v' v && (match P.underlying t with
   | some (.map key _)=>qy0 P key s
   | _=>false)
 | _=>false
theorem qbo {q:Nat} {es:List MapEntry} {clock:Nat} (hb:w.heap[q]? = some (.map ⟨es⟩ clock)):(getObj q).run P w = .ok (.map ⟨es⟩ clock) w:=by simp[getObj,Sem.run,hb]
theorem qkx {q:Nat} {es:List MapEntry} {clock:Nat} (ob:Go.Obj) (hb:w.heap[q]? = some (.map ⟨es⟩ clock)):(setObj q ob).run P w = .ok () { w with heap:=w.heap.setIfInBounds q ob }:=by simp[setObj,Sem.run,hb]
theorem Zd {b:Bool} {t s n} {u:Value} (h:qy0 P t s=true):(Instr.checkKey b (n + 1) t u).run P w = .ok () w:=by
 unfold Instr.checkKey;rw[Sem.run_bind,run_underlying (qiw h),Result.andThen_ok]
 cases s <;> rfl
theorem q68 {s z x k} (hH:HRel ρ H h w) (hE:EnvRel B ds fx ρ H N env a) (hok:qih s z x k P o.op=true) (e:exec T cf i (.look s z x k) (evO env) h=some r):f8 P o a w ρ H h i r:=by
 unfold qih at hok;split at hok
 ·rename_i t x' k' hop;simp only[Bool.and_eq_true] at hok;obtain ⟨⟨h1,h2⟩,h3⟩:=hok;split at h3
  ·rename_i key elem hu;simp only[Bool.and_eq_true] at h3;obtain ⟨h3,h4⟩:=h3;simp only[exec] at e;split at e
   ·rename_i l kd e1 e2;split at e
    ·rename_i es hl;split at e
     ·rename_i hk;simp only[Qb,Bool.and_eq_true] at hk;cases e;have hx:QR (ρ l) (fun r=>.map (some r)) (a.eval x'):=i7 hE h1 e1;have hkey:I3 H kd (a.eval k'):=i7 hE h2 e2;have hobj:=hH.objs l _ hl;obtain ⟨z',hz1,hz2⟩:=T2.run h4 w
      cases hp:ρ l with
      | blk q=>
        rw[hp] at hx hobj;obtain ⟨ents,clock,hb,hall⟩:=hobj;have hx:a.eval x' = .map (some q):=hx
        have pre:∀ v,(Instr.findKey key (a.eval k') ents).run P w = .ok v w→(execOp a.eval o).run P w = .ok (.value ((v.map (·.2)).getD z')) w:=fun v hv=>by
         unfold execOp;simp only[hop,hx,Instr.lookup,Sem.run_bind,run_underlying hu,Result.andThen_ok,qbo hb,Sem.run_pure,Zd h3,hv]
         cases v with
         | none=>simp only[Sem.run_bind,hz1,Result.andThen_ok,Sem.run_pure,Bool.false_eq_true,if_false]; rfl
         | some y=>simp only[Sem.run_pure,Result.andThen_ok,Bool.false_eq_true,if_false]; rfl
        have fk:∀ v,Instr.findNow (WP s) (a.eval k') ents 0=some v→(Instr.findKey key (a.eval k') ents).run P w = .ok v w:=fun v hv=>by
         unfold Instr.findKey;rw[Sem.run_bind,run_underlying (qiw h3),Result.andThen_ok,hv];rfl
        rcases XT (ρ:=ρ) (H:=H) (qrs hkey hk.1).1 hk.1 0 hall hk.2 with ⟨j,en,y,g1,g2,g3,g4,g5,g6⟩ | ⟨g1,g2,g3⟩
        ·rw[g3];exact f8.pure (pre _ (fk _ g1)) hH g4 [l]
        ·rw[g2];exact f8.pure (x:=.d z) (pre _ (fk _ g1)) hH (hz2 H) [l]
      | none=>rw[hp] at hx; exact hx.elim
      | dead=>rw[hp] at hobj; exact hobj.elim
      | virt s=>rw[hp] at hx; exact hx.elim
      | at_ b1 b2 b3 b4=>rw[hp] at hx; exact hx.elim
      | gl b1 b2 b3 b4 b5=>rw[hp] at hx; exact hx.elim
      | grw b1 b2 b3 b4 b5=>rw[hp] at hx; exact hx.elim
      | out _ _ _ _=>rw[hp] at hx; exact hx.elim
     ·cases e
    ·cases e
   ·cases e
  ·cases h3
 ·cases hok
theorem zgc {s x k v} (hH:HRel ρ H h w) (hE:EnvRel B ds fx ρ H N env a) (hok:qo8 s x k v P o.op=true) (e:exec T cf i (.upd s x k v) (evO env) h=some r):f8 P o a w ρ H h i r:=by
 unfold qo8 at hok;split at hok
 ·rename_i t x' k' v' hop;simp only[Bool.and_eq_true] at hok;obtain ⟨⟨⟨h1,h2⟩,h5⟩,h3⟩:=hok;split at h3
  ·rename_i key elem hu;simp only[exec] at e;split at e
   ·rename_i l kd vd e1 e2 e4;split at e
    ·rename_i es hl;split at e
     ·rename_i hk;simp only[Qb,Bool.and_eq_true,Bool.not_eq_true'] at hk;obtain ⟨hk,hag⟩:=hk;cases e;have hx:QR (ρ l) (fun r=>.map (some r)) (a.eval x'):=i7 hE h1 e1;have hkey:I3 H kd (a.eval k'):=i7 hE h2 e2;have hval:j9 ρ H vd (a.eval v'):=i7 hE h5 e4
      have hag':J7 vd=false:=by cases vd <;> first | rfl | cases hag | (rename_i x; cases x <;> first | rfl | cases hag)
      have hobj:=hH.objs l _ hl
      cases hp:ρ l with
      | blk q=>
        rw[hp] at hx hobj;obtain ⟨ents,clock,hb,hall⟩:=hobj;have hx:a.eval x' = .map (some q):=hx;have hlt:q < w.heap.size:=(Array.getElem?_eq_some_iff.1 hb).1;obtain ⟨hkr,_,hbits⟩:=qrs hkey hk.1
        have fk:∀ v,Instr.findNow (WP s) (a.eval k') ents 0=some v→(Instr.findKey key (a.eval k') ents).run P w = .ok v w:=fun v hv=>by
         unfold Instr.findKey;rw[Sem.run_bind,run_underlying (qiw h3),Result.andThen_ok,hv];rfl
        have fin:∀ (ents':List MapEntry) (clock':Nat),All2 (qeo ρ H) (KQ es kd vd) ents'→(execOp a.eval o).run P w = .ok .skip { w with heap:=w.heap.setIfInBounds q (.map ⟨ents'⟩ clock') }→
         f8 P o a w ρ H h i (.ok { v:=.tup [],rd:=[l],wr:=[(l,some (.map (KQ es kd vd)))] }):=fun ents' clock' ha hr=>by
         obtain ⟨k1,k2⟩:=hH.write (w':={ w with heap:=w.heap.setIfInBounds q (.map ⟨ents'⟩ clock') }) (l:=l) (b:=q) (by rw[hp]; rfl) (.map (KQ es kd vd)) ⟨rfl,rfl,rfl,by simp⟩ (fun j hj=>by
          show (w.heap.setIfInBounds q _)[j]? = _
          rw[Array.getElem?_setIfInBounds_ne (Ne.symm hj)]) (by
          rw[hp];refine ⟨ents',clock',?_,ha⟩;show (w.heap.setIfInBounds q _)[q]? = _;rw[Array.getElem?_setIfInBounds_self]
          simp[hlt])
         exact f8.ofU hr ⟨k1,k2,j4.refl _,H8.refl _ _,⟨[],rfl,rfl⟩⟩
        rcases XT (ρ:=ρ) (H:=H) hkr hk.1 0 hall hk.2 with ⟨j,en,y,g1,g2,g3,g4,g5,g6⟩ | ⟨g1,g2,g3⟩
        ·refine fin _ clock (g6 vd _ hval hag') ?_;unfold execOp;simp only[hop,hx,Instr.mapUpdate,Sem.run_bind,run_underlying hu,Result.andThen_ok,qbo hb,Sem.run_pure,Zd h3,fk _ g1]
         have hj:((⟨ents⟩:Array MapEntry)[0 + j]?.map (·.key)).getD (a.eval k')=a.eval k':=by simp[g2,g5]
         simp only[hj,Instr.keyThatStays,hbits,if_true,Sem.run_pure,Result.andThen_ok,qkx _ hb];simp
        ·refine fin _ (clock + 1) (g3 vd _ clock hval hag') ?_;unfold execOp;simp only[hop,hx,Instr.mapUpdate,Sem.run_bind,run_underlying hu,Result.andThen_ok,qbo hb,Sem.run_pure,Zd h3,fk _ g1,qkx _ hb];simp
      | none=>rw[hp] at hx; exact hx.elim
      | dead=>rw[hp] at hobj; exact hobj.elim
      | virt s=>rw[hp] at hx; exact hx.elim
      | at_ b1 b2 b3 b4=>rw[hp] at hx; exact hx.elim
      | gl b1 b2 b3 b4 b5=>rw[hp] at hx; exact hx.elim
      | grw b1 b2 b3 b4 b5=>rw[hp] at hx; exact hx.elim
      | out _ _ _ _=>rw[hp] at hx; exact hx.elim
     ·cases e
    ·cases e
   ·cases e
  ·cases h3
 ·cases hok
end
end Go.Rf

set_option linter.unusedSectionVars false
namespace Go.Rf
variable [Prg]
variable {ρ:Map} {H:Ice} {h:Loc→Option Obj} {w:World}
theorem HRel.none_of (hH:HRel ρ H h w) {l:Loc} (e:ρ l = .none):h l=none:=by
 cases ho:h l with
 | none=>rfl
 | some o=>
   have:=hH.objs l o ho;rw[e] at this
   cases o <;> exact this.elim
theorem HRel.reshape (k:HRel ρ H h w) (S:Loc→Prop) {ρ':Map} {H':Ice} {h':Loc→Option Obj} {w':World}
 (os:w'.os=w.os∧w'.tape=w.tape∧w'.output=w.output∧w.heap.size≤w'.heap.size) (hst:j4 ρ ρ') (hle:H.le H')
 (out:∀ l,¬ S l→ρ' l = ρ l∧h' l=h l)
 (keep:∀ b,b < w.heap.size→(∀ l,S l→¬ (ρ l).has b)→w'.heap[b]? = w.heap[b]? ∧ ∀ o,H' b o=H b o)
 (own:∀ l b,S l→(ρ' l).has b→w.heap.size≤b ∨ ∃ l',S l'∧(ρ l').has b)
 (inj:∀ l l' b,S l→S l'→(ρ' l).has b→(ρ' l').has b→l=l')
 (ice:∀ b o v,(w.heap.size≤b ∨ ∃ l,S l∧(ρ l).has b)→H' b o=some v→w'.cell? ⟨b,o,Option.none⟩=some v)
 (sep:∀ l b o,S l→(ρ' l).owns b o→H' b o=Option.none)
 (objs:∀ l o,S l→h' l=some o→w5 ρ' H' w' o (ρ' l))
 (gone:∀ l,S l→h' l=Option.none→ρ' l = .none ∨ ρ' l = .dead):HRel ρ' H' h' w'∧Trans ρ H w ρ' H' w':=by
 have far:∀ {l b},¬ S l→(ρ l).has b→b < w.heap.size ∧ ∀ l',S l'→¬ (ρ l').has b:=fun {l b} hl hb=>⟨k.lt hb,fun l' h1 h2=>hl (k.inj l' l b h2 hb ▸ h1)⟩
 have two:∀ l l' b,S l→¬ S l'→(ρ' l).has b→(ρ' l').has b→False:=fun l l' b h1 h2 h3 h4=>by
  rw[(out l' h2).1] at h4;rcases own l b h1 h3 with h5 | ⟨l2,h5,h6⟩
  ·have:=k.lt h4; omega
  ·exact (far h2 h4).2 l2 h5 h6
 refine ⟨⟨fun b o v e=>?_,fun l o e=>?_,fun l e=>?_,fun l l' b h1 h2=>?_,fun l b o e=>?_⟩,⟨os.1,os.2.1,os.2.2.1,os.2.2.2,fun b hb hn=>keep b hb (fun l _=>hn l),fun l b e=>?_,hle⟩⟩
 ·by_cases hb:w.heap.size≤b ∨ ∃ l,S l∧(ρ l).has b
  ·exact ice b o v hb e
  ·rw[not_or] at hb;obtain ⟨h1,h2⟩:=keep b (by omega) (fun l hl hh=>hb.2 ⟨l,hl,hh⟩);rw[h2] at e;exact (World.cell?_of_block (w:=w) (a:=⟨b,o,Option.none⟩) (w':=w') h1).trans (k.ice b o v e)
 ·by_cases hl:S l
  ·exact objs l o hl e
  ·rw[(out l hl).2] at e;rw[(out l hl).1]
   exact (k.objs l o e).mono hst hle fun b hb=>(keep b (far hl hb).1 (far hl hb).2).1
 ·by_cases hl:S l
  ·exact gone l hl e
  ·rw[(out l hl).2] at e;rw[(out l hl).1];exact k.gone l e
 ·by_cases hl:S l <;> by_cases hl':S l'
  ·exact inj l l' b hl hl' h1 h2
  ·exact (two l l' b hl hl' h1 h2).elim
  ·exact (two l' l b hl' hl h2 h1).elim
  ·rw[(out l hl).1] at h1;rw[(out l' hl').1] at h2;exact k.inj l l' b h1 h2
 ·by_cases hl:S l
  ·exact sep l b o hl e
  ·rw[(out l hl).1] at e;rw[(keep b (far hl e.has).1 (far hl e.has).2).2 o];exact k.sep l b o e
 ·by_cases hl:S l
  ·exact (own l b hl e).imp id fun ⟨l',_,h⟩=>⟨l',h⟩
  ·rw[(out l hl).1] at e;exact .inr ⟨l,e⟩
def zr (inn:Nat→Option (Nat × Nat)) (k:Nat) (q:Option (Nat × Nat)):Nat→Option (Nat × Nat):=fun j=>if j=k then q else inn j
theorem XO (hH:HRel ρ H h w) {l:Loc} {cs:List GC} {s:W} (hl:h l=some (.gl cs s)):∃ b base size inn,ρ l = .gl b base s size inn:=by
 have hobj:=hH.objs l _ hl
 cases hp:ρ l with
 | gl b base s' size inn=>rw[hp] at hobj; obtain ⟨rfl,_⟩:=hobj; exact ⟨_,_,_,_,rfl⟩
 | _=>rw[hp] at hobj; exact hobj.elim
theorem Wh (hH:HRel ρ H h w) {l:Loc} {xs:List D} {s:W} (hl:h l=some (.grw xs s)):∃ b base size,ρ l = .grw b base s size xs.length:=by
 have hobj:=hH.objs l _ hl
 cases hp:ρ l with
 | grw b base s' size n=>rw[hp] at hobj; obtain ⟨rfl,_,rfl,_⟩:=hobj; exact ⟨_,_,_,rfl⟩
 | _=>rw[hp] at hobj; exact hobj.elim
theorem qiy (hH:HRel ρ H h w) {l:Loc} {cs:List GC} {s:W} {b base size k:Nat} {inn} {c:GC} (hl:h l=some (.gl cs s)) (hp:ρ l = .gl b base s size inn) (hc:cs[k]? = some c) :
 ∃ u,kV H w c (inn k) u∧w.cell? ⟨b,base + k,Option.none⟩=some u:=by
 have hobj:=hH.objs l _ hl;rw[hp] at hobj;obtain ⟨_,_,_,_,_,arr,elem,fr,vs,hb,_,hvl,hi,hg⟩:=hobj;have hlt:=(List.getElem?_eq_some_iff.1 hc).1;have hv:=List.getElem?_eq_getElem (l:=vs) (i:=k) (by omega);exact ⟨_,hg k c _ hc hv,by simp only[World.cell?,hb]; exact hi k _ hv⟩
theorem I3.slice {H:Ice} {xs:List D} {b off len c n:Nat} (h:I3 H (.sl xs) (.slice (some ⟨b,off,Option.none⟩) len c)) (hn:∀ x∈xs,x.cells.length=n) :
 len=xs.length ∧ ∃ us,p9 H xs us∧(∀ u∈us,u.cells.size=n)∧ZU H b off (flat us):=by
 obtain ⟨a,c',e,_,_,k⟩:=h;cases e;refine ⟨rfl,?_⟩
 by_cases hx:xs=[]
 ·subst hx; exact ⟨[],rfl,by simp,fun i v hi=>by simp[flat] at hi⟩
 ·obtain ⟨b',off',sz,us,ea,k1,k2,k3⟩:=k hx;cases ea;refine ⟨us,k1,fun u hu=>?_,k3⟩;obtain ⟨j,hj⟩:=List.getElem?_of_mem hu
  have hjl:j < xs.length:=by rw[k1.length]; exact (List.getElem?_eq_some_iff.1 hj).1
  obtain ⟨u',g1,g2⟩:=k1.get (List.getElem?_eq_getElem hjl);rw[hj] at g1;cases g1;have h1:=(j9.cells (ρ:=fun _=>.none) (x:=.d xs[j]) g2 rfl).1.length
  have h2:xs[j].cells.length=(V.cells (.d xs[j])).length:=by cases xs[j] <;> simp[D.cells,V.cells]
  have:=hn _ (List.getElem_mem hjl);simp at h1;omega
theorem q2o (hH:HRel ρ H h w) {l l':Loc} {cs:List GC} {s n:W} {b base size k:Nat} {inn} {xs:List D} (hl:h l=some (.gl cs s)) (hp:ρ l = .gl b base s size inn) (hc:cs[k]? = some (.g xs)) (hN:ρ l' = .none)
 (hn:∀ x∈xs,x.cells.length=n.c) (hf:xs.length * n.w≤w8) (hw:n.w < 1000000) (hwl:wl xs≤n.w) :
 ∃ ρ' u,w.cell? ⟨b,base + k,Option.none⟩=some u∧one u=true∧HRel ρ' H (F5 (F5 h l (some (.gl (cs.set k (.d (.sl xs))) s))) l' (some (.grw xs n))) w∧Trans ρ H w ρ' H w∧j4 ρ ρ'∧(∀ x,x≠l'→ρ x = .none→ρ' x = .none)∧A3 (ρ' l') n 0 xs.length u:=by
 obtain ⟨u,hg,hu⟩:=qiy hH hl hp hc
 have hll:l'≠l:=fun e=>by rw[e,hp] at hN; cases hN
 cases hq:inn k with
 | none=>rw[hq] at hg; exact hg.elim
 | some q=>
 obtain ⟨b',lo⟩:=q;rw[hq] at hg;obtain ⟨⟨hd,hx⟩,off,c,m,arr',elem',fr',rfl,hle,rfl,hm,hb',hsz⟩:=hg
 obtain rfl:m=n.c:=by
  cases xs with
  | nil=>exact absurd rfl hx
  | cons x xs=>rw[← hm x (List.mem_cons_self ..),hn x (List.mem_cons_self ..)]
 have hobj:=hH.objs l _ hl;rw[hp] at hobj;obtain ⟨_,hs,hi1,hi2,hi3,arr,elem,fr,vs,hb,hsize,hvl,hcs,hgs⟩:=hobj;have hlt:=(List.getElem?_eq_some_iff.1 hc).1
 have hbl:(ρ l).has b':=by rw[hp]; exact .inr ⟨k,_,hq⟩
 let ρ':=B5 (B5 ρ l (.gl b base s size (zr inn k none))) l' (.grw b' off n arr'.size xs.length)
 have e1:ρ' l = .gl b base s size (zr inn k none):=by simp[ρ',Ne.symm hll]
 have e2:ρ' l' = .grw b' off n arr'.size xs.length:=by simp[ρ']
 have hst:j4 ρ ρ':=fun x hx=>by
  by_cases h1:x=l'
  ·subst h1; exact absurd hN hx
  ·by_cases h2:x=l
   ·subst h2; rw[e1,hp]; exact .inl rfl
   ·simp[ρ',h1,h2]
 have own1:∀ {b2},(ρ' l).has b2→b2=b ∨ ∃ j lo,j≠k∧inn j=some (b2,lo):=fun {b2} e=>by
  rw[e1] at e;rcases e with e | ⟨j,lo,e⟩
  ·exact .inl e.symm
  ·unfold zr at e;split at e
   ·cases e
   ·exact .inr ⟨j,lo,by assumption,e⟩
 obtain ⟨k1,k2⟩:=hH.reshape (fun x=>x=l∨x=l') (ρ':=ρ') (H':=H) (h':=F5 (F5 h l (some (.gl (cs.set k (.d (.sl xs))) s))) l' (some (.grw xs n))) (w':=w) ⟨rfl,rfl,rfl,Nat.le_refl _⟩ hst (fun _ _ _ e=>e)
  (fun x hx=>by rw[not_or] at hx; simp[ρ',hx.1,hx.2]) (fun _ _ _=>⟨rfl,fun _=>rfl⟩)
  (fun x b2 hx e=>.inr ⟨l,.inl rfl,by
   rcases hx with rfl | rfl
   ·rw[hp]; rcases own1 e with rfl | ⟨j,lo,_,e⟩
    ·exact .inl rfl
    ·exact .inr ⟨j,lo,e⟩
   ·rw[e2] at e; obtain rfl:b'=b2:=e; exact hbl⟩)
  (fun x y b2 hx hy h1 h2=>by
   have no:(ρ' l).has b2→(ρ' l').has b2→False:=fun h1 h2=>by
    rw[e2] at h2;obtain rfl:b'=b2:=h2;rcases own1 h1 with rfl | ⟨j,lo,hj,e⟩
    ·exact hi2 k _ hq
    ·exact hj (hi1 j k _ _ _ e hq)
   rcases hx with rfl | rfl <;> rcases hy with rfl | rfl
   ·rfl
   ·exact (no h1 h2).elim
   ·exact (no h2 h1).elim
   ·rfl)
  (fun _ _ _ _ e=>hH.ice _ _ _ e)
  (fun x b2 o hx e=>by
   refine hH.sep l b2 o ?_;rw[hp];rcases hx with rfl | rfl
   ·rw[e1] at e;rcases e with e | ⟨j,lo,e,ho⟩
    ·exact .inl e
    ·unfold zr at e;split at e
     ·cases e
     ·exact .inr ⟨j,lo,e,ho⟩
   ·rw[e2] at e;obtain ⟨rfl,ho⟩:=e
    exact .inr ⟨k,_,hq,ho⟩)
  (fun x o hx ho=>by
   rcases hx with rfl | rfl
   ·rw[I4 (Ne.symm hll),m9] at ho;cases ho;rw[e1];refine ⟨rfl,hs,fun j j' b2 lo lo' h1 h2=>?_,fun j lo h=>?_,fun j hj=>?_,arr,elem,fr,vs,hb,hsize,by simpa using hvl,hcs,fun j c v hcj hv=>?_⟩
    ·unfold zr at h1 h2
     split at h1 <;> split at h2 <;> first | (cases h1; done) | (cases h2; done) | exact hi1 j j' _ _ _ h1 h2
    ·unfold zr at h;split at h
     ·cases h
     ·exact hi2 j lo h
    ·unfold zr;split
     ·rfl
     ·exact hi3 j (by simpa using hj)
    ·unfold zr
     by_cases hj:j=k
     ·subst hj;rw[if_pos rfl];rw[List.getElem?_set_self hlt] at hcj;cases hcj;have:=hgs j _ v hc hv;rw[hq] at this;exact ⟨this.1.1,rfl⟩
     ·rw[if_neg hj];rw[List.getElem?_set_ne (Ne.symm hj)] at hcj;exact hgs j c v hcj hv
   ·rw[m9] at ho;cases ho;rw[e2];obtain ⟨_,us,u1,u2,u3⟩:=hd.slice hn
    exact ⟨rfl,hw,rfl,hwl,hf,arr',elem',fr',us,hb',rfl,u1,u2,u3⟩)
  (fun x hx ho=>by
   rcases hx with rfl | rfl
   ·rw[I4 (Ne.symm hll),m9] at ho; cases ho
   ·rw[m9] at ho; cases ho)
 refine ⟨ρ',_,hu,rfl,k1,k2,hst,fun x hx hx0=>?_,?_⟩
 ·by_cases h2:x=l
  ·rw[h2,hp] at hx0; cases hx0
  ·simp[ρ',hx,h2,hx0]
 ·rw[e2];have hl1:xs.length * 1≤xs.length * wl xs:=Nat.mul_le_mul_left _ (qhm xs);obtain ⟨_,_,_,_,hlots,_⟩:=hd;exact ⟨rfl,c,by simp,hle,hf,by simpa using hsz,by omega,fun h=>absurd h (by omega)⟩
theorem q9h {w':World} (hH:HRel ρ H h w) {l dl:Loc} {cs:List GC} {b base size k:Nat} {s:W} {inn} {c':GC} {q:Option (Nat × Nat)} {v:Value}
 (hl:h l=some (.gl cs s)) (hp:ρ l = .gl b base s size inn) (hk:k < cs.length) (hne:dl≠l)
 (hw:w'.os=w.os∧w'.tape=w.tape∧w'.output=w.output∧w'.heap.size=w.heap.size) (hkeep:∀ i,i≠b→w'.heap[i]? = w.heap[i]?)
 (hcell:∀ arr elem fr,w.heap[b]? = some (.cells arr elem (fr,fr))→∃ arr',w'.heap[b]? = some (.cells arr' elem (fr,fr))∧arr'.size=arr.size∧arr'[base + k]? = some v ∧ ∀ j,j≠base + k→arr'[j]? = arr[j]?)
 (hg:kV H w c' q v) (hq:∀ b' lo,q=some (b',lo)→(ρ dl).has b' ∧ ∀ o,lo≤o→(ρ dl).owns b' o) :
 ∃ ρ',HRel ρ' H (F5 (F5 h dl none) l (some (.gl (cs.set k c') s))) w'∧Trans ρ H w ρ' H w'∧j4 ρ ρ' ∧ ∀ x,x≠dl→ρ x = .none→ρ' x = .none:=by
 have hobj:=hH.objs l _ hl;rw[hp] at hobj;obtain ⟨_,hs,hi1,hi2,hi3,arr,elem,fr,vs,hb,hsize,hvl,hcs,hgs⟩:=hobj;obtain ⟨arr',hb',hsz',hv',hold⟩:=hcell _ _ _ hb
 have hbl:(ρ l).has b:=by rw[hp]; exact .inl rfl
 have hba:(ρ l).all b:=by rw[hp]; exact rfl
 let ρ':=B5 (B5 ρ dl .dead) l (.gl b base s size (zr inn k q))
 have e1:ρ' l = .gl b base s size (zr inn k q):=by simp[ρ']
 have e2:ρ' dl = .dead:=by simp[ρ',hne]
 have hst:j4 ρ ρ':=fun x hx=>by
  by_cases h1:x=l
  ·subst h1; rw[e1,hp]; exact .inl rfl
  ·by_cases h2:x=dl
   ·subst h2; exact .inr e2
   ·simp[ρ',h1,h2]
 have far:∀ {b2},(ρ dl).has b2→b2≠b:=fun {b2} h e=>hne (hH.inj _ _ _ h (e ▸ hbl))
 have inb:∀ {j b2 lo},inn j=some (b2,lo)→b2≠b:=fun {j b2 lo} h e=>hi2 j lo (e ▸ h)
 have own1:∀ {b2},(ρ' l).has b2→(ρ l).has b2∨(ρ dl).has b2:=fun {b2} e=>by
  rw[e1] at e;rcases e with e | ⟨j,lo,e⟩
  ·rw[hp]; exact .inl (.inl e)
  ·unfold zr at e;split at e
   ·exact .inr (hq _ _ e).1
   ·rw[hp]; exact .inl (.inr ⟨j,lo,e⟩)
 obtain ⟨k1,k2⟩:=hH.reshape (fun x=>x=l∨x=dl) (ρ':=ρ') (H':=H) (h':=F5 (F5 h dl none) l (some (.gl (cs.set k c') s))) (w':=w') ⟨hw.1,hw.2.1,hw.2.2.1,by omega⟩ hst (fun _ _ _ e=>e)
  (fun x hx=>by rw[not_or] at hx; simp[ρ',hx.1,hx.2]) (fun b2 _ h=>⟨hkeep b2 fun e=>h l (.inl rfl) (e ▸ hbl),fun _=>rfl⟩)
  (fun x b2 hx e=>by
   rcases hx with rfl | rfl
   ·exact .inr ((own1 e).elim (fun h=>⟨_,.inl rfl,h⟩) fun h=>⟨_,.inr rfl,h⟩)
   ·rw[e2] at e; exact e.elim)
  (fun x y b2 hx hy h1 h2=>by
   rcases hx with rfl | rfl <;> rcases hy with rfl | rfl
   ·rfl
   ·rw[e2] at h2; exact h2.elim
   ·rw[e2] at h1; exact h1.elim
   ·rfl)
  (fun b2 o v' _ e=>by
   have hne:b2≠b:=fun h=>by subst h; rw[hH.sepA l _ hba o] at e; cases e
   exact (World.cell?_of_block (w:=w) (a:=⟨b2,o,Option.none⟩) (w':=w') (hkeep b2 hne)).trans (hH.ice _ _ _ e))
  (fun x b2 o hx e=>by
   rcases hx with rfl | rfl
   ·rw[e1] at e;rcases e with e | ⟨j,lo,e,ho⟩
    ·exact hH.sep _ b2 o (by rw[hp]; exact .inl e)
    ·unfold zr at e;split at e
     ·exact hH.sep _ b2 o ((hq _ _ e).2 o ho)
     ·exact hH.sep _ b2 o (by rw[hp]; exact .inr ⟨j,lo,e,ho⟩)
   ·rw[e2] at e; exact e.elim)
  (fun x o hx ho=>by
   rcases hx with rfl | rfl
   ·rw[m9] at ho;cases ho;rw[e1]
    have hin:∀ {b2},b2≠b→w'.heap[b2]? = w.heap[b2]?:=fun h=>hkeep _ h
    have gm:∀ {c q v},(∀ b2 lo,q=some (b2,lo)→b2≠b)→kV H w c q v→kV H w' c q v:=fun {c q v} hb2 g=>by
     cases c with
     | d x=>cases q with
       | none=>exact g
       | some q=>exact g.elim
     | g xs=>cases q with
       | none=>exact g.elim
       | some q=>
         obtain ⟨b2,lo⟩:=q;obtain ⟨g1,off,c',n,arr',elem',fr',g2,g3,g4,g5,g6,g7⟩:=g;exact ⟨g1,off,c',n,arr',elem',fr',g2,g3,g4,g5,(hin (hb2 _ _ rfl)).trans g6,g7⟩
    refine ⟨rfl,hs,fun j j' b2 lo lo' h1 h2=>?_,fun j lo h=>?_,fun j hj=>?_,arr',elem,fr,vs.set k v,hb',by omega,by simpa using hvl,fun j x hx=>?_,fun j c x hcj hx=>?_⟩
    ·unfold zr at h1 h2
     have no:∀ {j lo lo'},q=some (b2,lo)→inn j=some (b2,lo')→False:=fun {j lo lo'} h1 h2=>hne (hH.inj _ _ _ (hq _ _ h1).1 (by rw[hp]; exact .inr ⟨j,lo',h2⟩))
     split at h1 <;> split at h2
     ·omega
     ·exact (no h1 h2).elim
     ·exact (no h2 h1).elim
     ·exact hi1 j j' _ _ _ h1 h2
    ·unfold zr at h;split at h
     ·exact far (hq _ _ h).1 rfl
     ·exact hi2 j lo h
    ·unfold zr
     have:¬ j=k:=by simp at hj; omega
     rw[if_neg this];exact hi3 j (by simpa using hj)
    ·by_cases hj:j=k
     ·subst hj;rw[List.getElem?_set_self (by omega)] at hx;cases hx;exact hv'
     ·rw[List.getElem?_set_ne (Ne.symm hj)] at hx;rw[hold _ (by omega)];exact hcs j x hx
    ·unfold zr
     by_cases hj:j=k
     ·subst hj;rw[if_pos rfl];rw[List.getElem?_set_self hk] at hcj;rw[List.getElem?_set_self (by omega)] at hx;cases hcj; cases hx;exact gm (fun b2 lo e=>far (hq _ _ e).1) hg
     ·rw[if_neg hj];rw[List.getElem?_set_ne (Ne.symm hj)] at hcj hx;exact gm (fun b2 lo e=>inb e) (hgs j c x hcj hx)
   ·rw[I4 hne,m9] at ho; cases ho)
  (fun x hx ho=>by
   rcases hx with rfl | rfl
   ·rw[m9] at ho; cases ho
   ·exact .inr e2)
 refine ⟨ρ',k1,k2,hst,fun x hx hx0=>?_⟩
 by_cases h2:x=l
 ·rw[h2,hp] at hx0; cases hx0
 ·simp[ρ',hx,h2,hx0]
theorem q3j (hH:HRel ρ H h w) {l:Loc} {xs:List D} {n:W} {b base size:Nat} (hl:h l=some (.arr (xs.map .d) n)) (hp:ρ l = .at_ b base n size) (hw:n.w < 1000000) (hwl:wl xs≤n.w) (hf:xs.length * n.w≤w8) :
 ∃ H',HRel (B5 ρ l (.grw b base n size xs.length)) H' (F5 h l (some (.grw xs n))) w∧Trans ρ H w (B5 ρ l (.grw b base n size xs.length)) H' w∧j4 ρ (B5 ρ l (.grw b base n size xs.length))∧H.le H':=by
 have hobj:=hH.objs l _ hl;rw[hp] at hobj;obtain ⟨_,arr,elem,fr,us,hb,hsize,hus,hj,hz,hc,_⟩:=hobj
 have hba:(ρ l).all b:=by rw[hp]; exact rfl
 let H':Ice:=fun b' o=>if b'=b∧o < base + xs.length * n.c then w.cell? ⟨b',o,Option.none⟩ else H b' o
 have hle:H.le H':=fun b' o v e=>by
  simp only[H'];split
  ·exact hH.ice _ _ _ e
  ·exact e
 have e1:B5 ρ l (.grw b base n size xs.length) l = .grw b base n size xs.length:=m7 ..
 have hst:j4 ρ (B5 ρ l (.grw b base n size xs.length)):=fun x hx=>by
  by_cases h1:x=l
  ·subst h1; rw[e1,hp]; exact .inl rfl
  ·simp[h1]
 have hfl:(flat us).length=xs.length * n.c:=by rw[A7 hz,← hus.length,List.length_map]
 obtain ⟨k1,k2⟩:=hH.reshape (fun x=>x=l) (H':=H') (h':=F5 h l (some (.grw xs n))) (w':=w) ⟨rfl,rfl,rfl,Nat.le_refl _⟩ hst hle
  (fun x hx=>by simp[hx]) (fun b2 _ h=>⟨rfl,fun o=>by
   simp only[H'];rw[if_neg]
   exact fun e=>h l rfl (e.1 ▸ hba.has)⟩)
  (fun x b2 hx e=>.inr ⟨l,rfl,by subst hx; rw[e1] at e; rw[hp]; exact e⟩)
  (fun x y b2 hx hy _ _=>by rw[hx,hy])
  (fun b2 o v _ e=>by
   simp only[H'] at e;split at e
   ·exact e
   ·exact hH.ice _ _ _ e)
  (fun x b2 o hx e=>by
   subst hx;rw[e1] at e;obtain ⟨rfl,ho⟩:=e;simp only[H'];rw[if_neg (by omega)]
   exact hH.sepA _ _ hba o)
  (fun x o hx ho=>by
   subst hx;rw[m9] at ho;cases ho;rw[e1];refine ⟨rfl,hw,rfl,hwl,hf,arr,elem,fr,us,hb,hsize,(f9.toD hus).mono hle,hz,fun j v hjv=>?_⟩;have:=(List.getElem?_eq_some_iff.1 hjv).1;simp only[H'];rw[if_pos ⟨trivial,by omega⟩];simp only[World.cell?,hb]
   exact hc j v hjv)
  (fun x hx ho=>by subst hx; rw[m9] at ho; cases ho)
 exact ⟨H',k1,k2,hst,hle⟩
theorem qgm (hH:HRel ρ H h w) {l:Loc} {xs:List D} {n:W} {b base size:Nat} {v:Value} (hl:h l=some (.grw xs n)) (hp:ρ l = .grw b base n size xs.length) (hx:xs≠[]) (hv:A3 (ρ l) n 0 xs.length v) :
 kV H w (.g xs) (some (b,base + xs.length * n.c)) v:=by
 have hobj:=hH.objs l _ hl;have hd:=qry hobj hv;rw[hp] at hobj hv;obtain ⟨_,_,_,_,_,arr,elem,fr,us,hb,rfl,hus,hz,_⟩:=hobj;obtain ⟨_,c,rfl,h1,_,h2,_⟩:=hv;refine ⟨⟨hd,hx⟩,base,c,n.c,arr,elem,fr,by simp,h1,rfl,fun x hxm=>?_,hb,by simpa using h2⟩;obtain ⟨j,hj⟩:=List.getElem?_of_mem hxm;obtain ⟨u,g1,g2⟩:=hus.get hj;have k1:=(j9.cells (ρ:=fun _=>.none) (x:=.d x) g2 rfl).1.length
 have k2:x.cells.length=(V.cells (.d x)).length:=by cases x <;> simp[D.cells,V.cells]
 have:=hz u (List.mem_of_getElem? g1);simp at k1;omega
end Go.Rf
