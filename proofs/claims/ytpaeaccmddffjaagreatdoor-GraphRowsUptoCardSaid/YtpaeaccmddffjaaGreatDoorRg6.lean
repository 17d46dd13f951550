/- Parts of the proof. -/
import Derived.Test.YtpaeaccmddffjaaGreatDoorRg5
set_option linter.all false
set_option linter.unusedSectionVars false
namespace Go.Rf
variable [Prg]
variable {B:Ice} {ds:List Deferred} {fx:List (Nat × Value)}
section
variable {P:Program} {T:Tab} {cf:CF} {o:Oper} {a:Act} {w:World} {ρ:Map} {H:Ice} {h:Loc→Option Obj} {i N:Nat} {env:List (Nat × V)} {r:R}
theorem f8.conv {e1 e2:Eff} (hc:∀ ρ' H' v w',Post ρ H h w i e1 ρ' H' v w'→∃ ρ2 H2,Post ρ H h w i e2 ρ2 H2 v w') (k:f8 P o a w ρ H h i (.ok e1)):f8 P o a w ρ H h i (.ok e2):=
 fun ro K Q hk=>k ro K Q fun ρ' H' v w' p=>let ⟨ρ2,H2,p2⟩:=hc ρ' H' v w' p; hk ρ2 H2 v w' p2
theorem I3.cellsRel {H:Ice} {d:D} {u:Value} (k:I3 H d u):p9 H d.cells u.cells.toList∧d.cells.any Y3=false:=by
 cases d with
 | agg cs=>obtain ⟨vs,rfl,k1,k2⟩:=k; exact ⟨k1,k2⟩
 | _=>
   have:=o5 (j9.one (ρ:=fun _=>.none) (x:=.d _) k rfl);rw[this];exact ⟨⟨u,[],rfl,k,rfl⟩,rfl⟩
theorem p9.append {H:Ice}:∀ {xs ys:List D} {vs us:List Value},p9 H xs vs→p9 H ys us→p9 H (xs++ys) (vs++us)
 | [],_,_,_,k,k'=>by cases k; exact k'
 | _ :: _,_,_,_,k,k'=>by obtain ⟨v,vs',rfl,k1,k2⟩:=k; exact ⟨v,vs'++_,rfl,k1,k2.append k'⟩
theorem p9.cellsRel {H:Ice}:∀ {ds:List D} {us:List Value},p9 H ds us→p9 H (ds.flatMap D.cells) (flat us) ∧ ∀ d∈ds.flatMap D.cells,Y3 d=false
 | [],_,k=>by cases k; exact ⟨rfl,by simp⟩
 | d :: ds,_,k=>by
   obtain ⟨u,us,rfl,k1,k2⟩:=k;obtain ⟨h1,h2⟩:=k1.cellsRel;obtain ⟨h3,h4⟩:=k2.cellsRel;rw[H9,List.flatMap_cons];refine ⟨h1.append h3,fun x hx=>?_⟩;rcases List.mem_append.1 hx with hx | hx
   ·exact (by simpa using h2:∀ x∈d.cells,Y3 x=false) x hx
   ·exact h4 x hx
theorem qad {H:Ice} {w:World} {ds:List D} {us:List Value} (k:p9 H ds us) {j:Nat} {c:GC} {v:Value} (hc:(cellsOf ds)[j]? = some c) (hv:(flat us)[j]? = some v):kV H w c none v:=by
 obtain ⟨k1,k2⟩:=k.cellsRel;unfold cellsOf at hc;rw[List.getElem?_map,Option.map_eq_some_iff] at hc;obtain ⟨d,hd,rfl⟩:=hc;obtain ⟨u,h1,h2⟩:=k1.get hd;rw[hv] at h1;cases h1;exact ⟨h2,k2 d (List.mem_of_getElem? hd)⟩
theorem qac {H:Ice} {ds:List D} {us:List Value} (k:p9 H ds us):(cellsOf ds).length=(flat us).length:=by
 rw[cellsOf,List.length_map,k.cellsRel.1.length]
theorem qz4 (hH:HRel ρ H h w) {l:Loc} {xs:List D} {n:W} {b base size:Nat} (hl:h l=some (.arr (xs.map .d) n)) (hp:ρ l = .at_ b base n size) (hw:n.w < 1000000) :
 ∃ ρ',HRel ρ' H (F5 h l (some (.gl (cellsOf xs) n))) w∧Trans ρ H w ρ' H w∧j4 ρ ρ' ∧ ∀ x,x≠l→ρ' x = ρ x:=by
 have hobj:=hH.objs l _ hl;rw[hp] at hobj;obtain ⟨_,arr,elem,fr,us,hb,hsize,hus,hj,hz,hc,_⟩:=hobj
 have hba:(ρ l).all b:=by rw[hp]; exact rfl
 have e1:B5 ρ l (.gl b base n size fun _=>none) l = .gl b base n size fun _=>none:=m7 ..
 have hst:j4 ρ (B5 ρ l (.gl b base n size fun _=>none)):=fun x hx=>by
  by_cases h1:x=l
  ·subst h1; rw[e1,hp]; exact .inl rfl
  ·simp[h1]
 have hd:p9 H xs us:=f9.toD hus
 obtain ⟨k1,k2⟩:=hH.reshape (fun x=>x=l) (H':=H) (h':=F5 h l (some (.gl (cellsOf xs) n))) (w':=w) ⟨rfl,rfl,rfl,Nat.le_refl _⟩ hst (fun _ _ _ e=>e)
  (fun x hx=>by simp[hx]) (fun b2 _ h=>⟨rfl,fun o=>rfl⟩)
  (fun x b2 hx e=>.inr ⟨l,rfl,by
   subst hx; rw[e1] at e; rw[hp];rcases e with e | ⟨k,lo,e⟩
   ·exact e
   ·cases e⟩)
  (fun x y b2 hx hy _ _=>by rw[hx,hy])
  (fun b2 o v _ e=>hH.ice _ _ _ e)
  (fun x b2 o hx e=>by
   subst hx;rw[e1] at e;rcases e with rfl | ⟨k,lo,e,_⟩
   ·exact hH.sepA _ _ hba o
   ·cases e)
  (fun x o hx ho=>by
   subst hx;rw[m9] at ho;cases ho;rw[e1]
   exact ⟨rfl,hw,fun _ _ _ _ _ e=>(by cases e),fun _ _ e=>(by cases e),fun _ _=>rfl,arr,elem,fr,flat us,hb,hsize,(qac hd).symm,hc,fun k c v hc hv=>qad hd hc hv⟩)
  (fun x hx ho=>by subst hx; rw[m9] at ho; cases ho)
 exact ⟨_,k1,k2,hst,fun x hx=>n6 hx⟩
theorem qoc (hH:HRel ρ H h w) {l:Loc} {xs:List D} {n:W} {v:Value} (hl:h l=some (.arr (xs.map .d) n)) (hv:A3 (ρ l) n 0 xs.length v) (hx:0 < xs.length) (hw:n.w < 1000000) (hwl:wl xs≤n.w) (hf:xs.length * n.w≤w8) :
 ∃ ρ' H',HRel ρ' H' (F5 h l (some (.grw xs n))) w∧Trans ρ H w ρ' H' w∧j4 ρ ρ'∧(∀ x,x≠l→ρ' x = ρ x)∧A3 (ρ' l) n 0 xs.length v∧H.le H':=by
 have hobj:=hH.objs l _ hl
 cases hp:ρ l with
 | at_ b base s size=>
   rw[hp] at hobj hv;obtain ⟨rfl,_⟩:=hobj;obtain ⟨H',k1,k2,k3,k4⟩:=q3j hH hl hp hw hwl hf;exact ⟨_,H',k1,k2,k3,fun x hx=>n6 hx,by rw[m7]; exact hv,k4⟩
 | virt s=>rw[hp] at hv; obtain ⟨_,_,h,_⟩:=hv; omega
 | _=>rw[hp] at hobj; exact hobj.elim
theorem ZM (h:Loc→Option Obj) (l l':Loc) (o o':Option Obj):j8 h [(l,o),(l',o')]=F5 (F5 h l o) l' o':=rfl
theorem qa7 (h:Loc→Option Obj) (l:Loc) (o:Option Obj):j8 h [(l,o)]=F5 h l o:=rfl
theorem qfi {h:Loc→Option Obj} {l l':Loc} (hne:l≠l') (o o':Option Obj):F5 (F5 h l o) l' o'=F5 (F5 h l' o') l o:=by
 funext x
 unfold F5
 by_cases h1:x=l <;> by_cases h2:x=l' <;> simp_all
theorem Qr (h:Loc→Option Obj) (l:Loc) (o o':Option Obj):F5 (F5 h l o) l o'=F5 h l o':=by
 funext x; unfold F5; split <;> rfl
def KW (x:Opnd) (P:Program):Op→Bool:=Zj 1 false x P
theorem qov {x:Opnd} (hok:KW x P o.op=true) (hE:EnvRel B ds fx ρ H N env a) {l:Loc} {e j:Nat} {b base size:Nat} {s:W} {inn} (e1:evO env x=some (.ptr l e j)) (hp:ρ l = .gl b base s size inn) {u:Value}
 (hu:w.cell? ⟨b,base + (e * s.c + j),Option.none⟩=some u):(execOp a.eval o).run P w = .ok (.value u) w:=by
 unfold KW Zj at hok;split at hok
 ·rename_i t x' hop;simp only[Bool.and_eq_true] at hok;have hx:D8 (ρ l) e j (a.eval x'):=i7 hE hok.1 e1;rw[hp] at hx;have hx:a.eval x' = .pointer (some ⟨b,base + e * s.c + j,Option.none⟩):=hx
  have hr:=Q6 (w:=w) t 1 false hok.2 b (base + e * s.c + j) [u] (fun k v hk=>by
   cases k with
   | zero=>simp at hk; subst hk; rw[← Nat.add_assoc] at hu; exact hu
   | succ k=>simp at hk) u (fun h=>by cases h) (fun _=>rfl)
  unfold execOp;simp only[hop,hx,Instr.loadAt,Instr.sureAddr,Sem.run_bind,Sem.run_pure,Result.andThen_ok,hr]
 ·cases hok
theorem q08 {x} (hH:HRel ρ H h w) (hE:EnvRel B ds fx ρ H N env a) (hok:KW x P o.op=true) (e:exec T cf i (.gload x) (evO env) h=some r):f8 P o a w ρ H h i r:=by
 simp only[exec] at e;obtain ⟨v,e1,e2⟩:=f7 e;unfold qp0 at e2;split at e2
 ·rename_i l el j;split at e2
  ·rename_i cs s hl;obtain ⟨c,hc,e3⟩:=f7 e2;cases e3;obtain ⟨b,base,size,inn,hp⟩:=XO hH hl;obtain ⟨u,hg,hu⟩:=qiy hH hl hp hc;exact f8.pure (qov hok hE e1 hp hu) hH (x:=.d c.look) (qlv hg) [l]
  ·cases e2
 ·cases e2
theorem H8.of2 {ρ':Map} (h:∀ x,x ≠ .n i 0→ρ x = .none→ρ' x = .none):H8 i ρ ρ':=fun x h1 h2=>by
 by_cases hx:x = .n i 0
 ·exact ⟨0,hx⟩
 ·exact absurd (h x hx h1) h2
def qll (n:W) (x:Opnd) (P:Program):Op→Bool:=Zj 1 false x P
theorem q07 {n x} (hH:HRel ρ H h w) (hE:EnvRel B ds fx ρ H N env a) (hN:∀ k,ρ (.n i k) = .none) (hok:qll n x P o.op=true) (e:exec T cf i (.lload n x) (evO env) h=some r):f8 P o a w ρ H h i r:=by
 simp only[exec] at e;obtain ⟨v,e1,e2⟩:=f7 e;unfold qit at e2;split at e2
 ·rename_i l el j;split at e2
  ·rename_i cs s hl;obtain ⟨b,base,size,inn,hp⟩:=XO hH hl;unfold Wc at e2;split at e2
   ·rename_i hc;cases e2;obtain ⟨u,hg,hu⟩:=qiy hH hl hp hc;exact f8.pure (qov hok hE e1 hp hu) hH (x:=.d .nils) hg.data.1 [l]
   ·rename_i xs hc;split at e2
    ·rename_i hh;obtain ⟨h1,h2,h3,h4⟩:=hh;cases e2;obtain ⟨ρ',u,q1,q2,q3,q4,q5,q6,q7⟩:=q2o hH hl hp hc (hN 0) (fun x hx=>by simpa using List.all_eq_true.1 h1 x hx) h2 h3 h4;exact f8.of (qov hok hE e1 hp q1) ⟨q3,q4,q5,H8.of2 q6,q7⟩
    ·cases e2
   ·cases e2
  ·cases e2
 ·cases e2
def Jr (x y:Opnd) (P:Program):Op→Bool:=Xy 1 x y P
theorem qh2 {x y:Opnd} (hok:Jr x y P o.op=true) (hE:EnvRel B ds fx ρ H N env a) {l:Loc} {e j:Nat} {b base size:Nat} {s:W} {inn} {vy:V} (e1:evO env x=some (.ptr l e j)) (e2:evO env y=some vy) (hp:ρ l = .gl b base s size inn)
 (hy:∀ v,j9 ρ H vy v→one v=true) {arr:Array Value} {elem fr:Nat} (hb:w.heap[b]? = some (.cells arr elem (fr,fr))) (hlt:base + (e * s.c + j) < arr.size) :
 ∃ v,j9 ρ H vy v∧(execOp a.eval o).run P w = .ok .skip { w with heap:=w.heap.setIfInBounds b (.cells ⟨putL arr.toList (base + (e * s.c + j)) [v]⟩ elem (fr,fr)) }:=by
 unfold Jr Xy at hok;split at hok
 ·rename_i t x' y' hop;simp only[Bool.and_eq_true,decide_eq_true_eq] at hok;obtain ⟨⟨⟨h1,h2⟩,h3⟩,_⟩:=hok;have hx:D8 (ρ l) e j (a.eval x'):=i7 hE h1 e1;rw[hp] at hx;have hx:a.eval x' = .pointer (some ⟨b,base + e * s.c + j,Option.none⟩):=hx;have hv:=i7 hE h2 e2;refine ⟨_,hv,?_⟩;have ho:=o5 (hy _ hv);have q:=L9 (P:=P) b (base + e * s.c + j) elem fr [a.eval y'] 0 arr.toList w hb (by simp; omega) (fun u hu=>by rw[List.mem_singleton.1 hu]; exact WI (hy _ hv))
  have hr:(Instr.storeAt t (a.eval x') (a.eval y')).run P w = .ok () { w with heap:=w.heap.setIfInBounds b (.cells ⟨putL arr.toList (base + (e * s.c + j)) [a.eval y']⟩ elem (fr,fr)) }:=by
   rw[hx];simp only[Instr.storeAt,Instr.sureAddr,Sem.run_bind,Sem.run_pure,Result.andThen_ok,storeVar,Y1.run h3];rw[if_neg (by simp[ho]),ho];simp only[Nat.add_zero] at q;rw[← Nat.add_assoc];exact q
  unfold execOp;simp only[hop,Sem.run_bind,hr,Result.andThen_ok];rfl
 ·cases hok
theorem qww {x y:Opnd} (hH:HRel ρ H h w) (hE:EnvRel B ds fx ρ H N env a) (hN:∀ k,ρ (.n i k) = .none) (hok:Jr x y P o.op=true) (e:exec T cf i (.lstore x y) (evO env) h=some r):f8 P o a w ρ H h i r:=by
 simp only[exec] at e;obtain ⟨v,e1,e2⟩:=f7 e;obtain ⟨vy,e3,e4⟩:=f7 e2;unfold Yb at e4;split at e4
 ·rename_i l el j;split at e4
  ·rename_i cs s hl;split at e4
   ·rename_i hk;obtain ⟨b,base,size,inn,hp⟩:=XO hH hl;have hobj:=hH.objs l _ hl;rw[hp] at hobj;obtain ⟨_,_,_,_,_,arr,elem,fr,vs,hb,_,hvl,hi,_⟩:=hobj
    have hlt:base + (el * s.c + j) < arr.size:=by
     have hv:=List.getElem?_eq_getElem (l:=vs) (i:=el * s.c + j) (by omega);exact (Array.getElem?_eq_some_iff.1 (hi _ _ hv)).1
    have hbs:b < w.heap.size:=(Array.getElem?_eq_some_iff.1 hb).1
    have fin:∀ {dl:Loc} {c':GC} {q:Option (Nat × Nat)} {v:Value} {H1:Ice} {ρ1:Map} {h1:Loc→Option Obj} {e:Eff},HRel ρ1 H1 h1 w→Trans ρ H w ρ1 H1 w→j4 ρ ρ1→(∀ x,ρ x = .none→ρ1 x = .none)→h1 l=some (.gl cs s)→ρ1 l = .gl b base s size inn→dl≠l→kV H1 w c' q v→
     (∀ b' lo,q=some (b',lo)→(ρ1 dl).has b' ∧ ∀ o,lo≤o→(ρ1 dl).owns b' o)→j8 h e.wr=F5 (F5 h1 dl none) l (some (.gl (cs.set (el * s.c + j) c') s))→e.v = .tup []→(dl = .n i 0 ∨ ρ dl ≠ .none)→
     (execOp a.eval o).run P w = .ok .skip { w with heap:=w.heap.setIfInBounds b (.cells ⟨putL arr.toList (base + (el * s.c + j)) [v]⟩ elem (fr,fr)) }→f8 P o a w ρ H h i (.ok e):=by
     intro dl c' q v H1 ρ1 h1 e k1 k2 k3 k4 k5 k6 k7 k8 k9 k10 k11 k12 hr
     obtain ⟨ρ',g1,g2,g3,g4⟩:=q9h (w':={ w with heap:=w.heap.setIfInBounds b (.cells ⟨putL arr.toList (base + (el * s.c + j)) [v]⟩ elem (fr,fr)) }) k1 k5 k6 hk k7 ⟨rfl,rfl,rfl,by simp⟩
      (fun q hq=>by
       show (w.heap.setIfInBounds b _)[q]? = _
       rw[Array.getElem?_setIfInBounds_ne (Ne.symm hq)])
      (fun arr2 elem2 fr2 hb2=>by
       rw[hb] at hb2;cases hb2;refine ⟨⟨putL arr.toList (base + (el * s.c + j)) [v]⟩,?_,by simp[qp],?_,fun m hm=>?_⟩
       ·show (w.heap.setIfInBounds b _)[b]? = _;rw[Array.getElem?_setIfInBounds_self];simp[hbs]
       ·rw[List.getElem?_toArray,xJ _ _ _ _ (by simp; omega),if_pos (by simp)];simp
       ·rw[List.getElem?_toArray,xJ _ _ _ _ (by simp; omega),if_neg (by simp; omega)]
        simp) k8 k9
     refine f8.ofU hr ⟨by rw[k10]; exact g1,k2.trans g2,k3.trans g3,fun x h1 h2=>?_,by rw[k11]; exact ⟨[],rfl,rfl⟩⟩
     by_cases hx:x=dl
     ·rcases k12 with k | k
      ·exact ⟨0,hx.trans k⟩
      ·exact absurd (hx ▸ h1) k
     ·exact absurd (g4 x hx (k4 x h1)) h2
    split at e4
    ·rename_i x0;split at e4
     ·rename_i hag;cases e4
      have hagD:Y3 x0=false:=by cases x0 <;> first | rfl | cases hag
      obtain ⟨v,hv,hr⟩:=qh2 hok hE e1 e3 hp (fun v k=>j9.one k hagD) hb hlt
      have hne:Loc.n i 0≠l:=fun e=>by rw[← e,hN] at hp; cases hp
      exact fin (dl:=.n i 0) (c':=.d x0) (q:=none) hH (Trans.refl ..) (j4.refl _) (fun _ h=>h) hl hp hne ⟨hv,hagD⟩ (fun _ _ e=>by cases e) (by
       rw[qa7]
       congr 1
       funext x
       unfold F5;split
       ·rename_i hx; rw[hx]; exact hH.none_of (hN 0)
       ·rfl) rfl (.inl rfl) hr
     ·cases e4
    ·rename_i l2 n len;unfold Yc at e4
     have href:∀ v,j9 ρ H (.ref l2 n 0 len) v→one v=true:=fun v k=>j9.one k rfl
     split at e4
     ·rename_i xs n' hl2;split at e4
      ·rename_i hc;obtain ⟨rfl,rfl,hx⟩:=hc;cases e4;obtain ⟨v,hv,hr⟩:=qh2 hok hE e1 e3 hp href hb hlt
       have hne:l2≠l:=fun e=>by rw[e,hl] at hl2; cases hl2
       obtain ⟨b2,base2,size2,hp2⟩:=Wh hH hl2
       refine fin (dl:=l2) hH (Trans.refl ..) (j4.refl _) (fun _ h=>h) hl hp hne (qgm hH hl2 hp2 (List.length_pos_iff.1 hx) hv) (fun b' lo e=>by cases e; rw[hp2]; exact ⟨rfl,fun o ho=>⟨rfl,ho⟩⟩)
        (by rw[ZM]; exact qfi (Ne.symm hne) ..) rfl (.inr (by rw[hp2]; intro h; cases h)) hr
      ·cases e4
     ·rename_i ys n' hl2;obtain ⟨xs,e5,e6⟩:=f7 e4;split at e6
      ·rename_i hc;obtain ⟨rfl,hw,rfl,hx,hwl⟩:=hc;cases e6;have hys:=wd e5;subst hys;obtain ⟨v,hv,hr⟩:=qh2 hok hE e1 e3 hp href hb hlt
       have hne:l2≠l:=fun e=>by rw[e,hl] at hl2; cases hl2
       have hv:A3 (ρ l2) n 0 xs.length v:=hv
       have hf:xs.length * n.w≤w8:=by
        cases hp2:ρ l2 with
        | at_ b2 base2 s2 size2=>rw[hp2] at hv; obtain ⟨_,_,_,_,h,_⟩:=hv; exact h
        | virt s2=>rw[hp2] at hv; obtain ⟨_,_,h,_⟩:=hv; omega
        | _=>have:=hH.objs l2 _ hl2; rw[hp2] at this; exact this.elim
       have hl2n:ρ l2 ≠ .none:=fun e=>by rw[hH.none_of e] at hl2; cases hl2
       obtain ⟨ρ1,H1,g1,g2,g3,g4,g5,g6⟩:=qoc hH hl2 hv hx hw hwl hf;have h2:F5 h l2 (some (.grw xs n)) l2=some (.grw xs n):=m9 ..;obtain ⟨b2,base2,size2,hp2⟩:=Wh g1 h2
       refine fin (dl:=l2) g1 g2 g3 (fun x hx=>?_) (by rw[I4 (Ne.symm hne)]; exact hl) (by rw[g4 l (Ne.symm hne)]; exact hp) hne (qgm g1 h2 hp2 (List.length_pos_iff.1 hx) g5) (fun b' lo e=>by cases e; rw[hp2]; exact ⟨rfl,fun o ho=>⟨rfl,ho⟩⟩)
        (by rw[ZM,Qr]; exact qfi (Ne.symm hne) ..) rfl (.inr hl2n) hr
       rw[g4 x (fun e=>hl2n (e ▸ hx))];exact hx
      ·cases e6
     ·cases e4
    ·cases e4
   ·cases e4
  ·cases e4
 ·cases e4
end
end Go.Rf

set_option linter.unusedSectionVars false
namespace Go.Rf
variable [Prg]
variable {B:Ice} {ds:List Deferred} {fx:List (Nat × Value)}
section
variable {P:Program} {T:Tab} {cf:CF} {o:Oper} {a:Act} {w:World} {ρ:Map} {H:Ice} {h:Loc→Option Obj} {i N:Nat} {env:List (Nat × V)} {r:R}
theorem qs7 (xs ys:List D) {n:Nat} (h1:wl xs≤n) (h2:wl ys≤n):wl (xs++ys)≤n:=by
 induction xs with
 | nil=>exact h2
 | cons x xs ih=>simp only[wl,List.cons_append] at h1 ⊢; have:=ih (by omega); omega
theorem ql9 {t tx ty:TypeId} {n:W} {el inf z d} (A:AppT P t tx n el inf z d) {m:List Loc} {ys:List V} {us:List Value} {v:Value} (G:Addend P ρ H w n tx m ys us v) {b base len cap elem fr:Nat} {arr:Array Value} {old:List Value}
 (hb:w.heap[b]? = some (.cells arr elem (fr,fr))) (hold:old.length=len * n.c) (hc:∀ j u,old[j]? = some u→arr[base + j]? = some u) (h1:len≤cap) (h3:base + cap * n.c≤arr.size) (hf:(len + ys.length) * n.w≤w8) :
 ∃ v' w',(Builtin.append_ #[t,tx] ty #[.slice (some ⟨b,base,Option.none⟩) len cap,v]).run P w = .ok v' w' ∧
   ((len + ys.length≤cap∧base + (len + ys.length) * n.c≤arr.size∧v' = .slice (some ⟨b,base,Option.none⟩) (len + ys.length) cap∧w' = { w with heap:=w.heap.setIfInBounds b (.cells ⟨putL arr.toList (base + len * n.c) (flat us)⟩ elem (fr,fr)) }) ∨
    ∃ cap',len + ys.length≤cap'∧v' = .slice (some ⟨w.heap.size,0,Option.none⟩) (len + ys.length) cap'∧w'=w.drew.alloc (.cells ((old++flat us).toArray++Builtin.zeroCells z.cells (cap' - (len + ys.length))) el)):=by
 have hs:=G.src;rw[← A.hsz] at hs
 have hus:(flat us).length=ys.length * n.c:=by rw[A7 G.size,← G.rel.length]
 have hfit:(len + ys.length) * inf.bytes≤140737488355328:=Nat.le_trans (Nat.mul_le_mul_left _ A.hby) hf
 by_cases hroom:len + ys.length≤cap
 ·have hle:(len + ys.length) * n.c≤cap * n.c:=Nat.mul_le_mul_right _ hroom;rw[Nat.add_mul] at hle;have hst:=L9 (P:=P) b (base + len * n.c) elem fr (flat us) 0 arr.toList w hb (by simp; omega) (Wi G.rel G.junk);simp only[Nat.add_zero] at hst;exact ⟨_,_,qbq (P:=P) (w:=w) t tx ty el inf A.ht A.hi b base len cap v ys.length (flat us) hs hroom _ (by rw[A.hsz]; exact hst),.inl ⟨hroom,by rw[Nat.add_mul]; omega,rfl,rfl⟩⟩
 ·have hcell:∀ j u,old[j]? = some u→w.cell? ⟨b,base + j,Option.none⟩=some u:=fun j u hj=>by
   simp only[World.cell?,hb]; exact hc j u hj
  have hold':(Builtin.firstCells inf.size len (.slice (some ⟨b,base,Option.none⟩) len cap)).run P w.drew = .ok old.toArray w.drew:=
   run_firstCells_some w.drew inf.size len _ len cap _ (by rw[A.hsz]; exact hold) (fun j u hj=>by rw[W3]; exact hcell j u hj)
  have hg:=run_append_grow_src (P:=P) w t tx ty el inf z A.ht A.hi A.hz _ len cap _ hold' v ys.length (flat us) hs (by omega)
   (by
    have h1:(len + ys.length) * 1≤(len + ys.length) * inf.bytes:=Nat.mul_le_mul_left _ A.hb0
    omega)
   (growslice_fits (by omega) hfit)
  exact ⟨_,_,hg,.inr ⟨grownCap w (len + ys.length) cap el,grownCap_ge ..,rfl,rfl⟩⟩
theorem q9g {t tx ty:TypeId} {n:W} {el inf z d} (A:AppT P t tx n el inf z d) {m:List Loc} {ks:List D} {us:List Value} {v v0:Value} (hH:HRel ρ H h w) (G:Addend P ρ H w n tx m (ks.map .d) us v) {l l0:Loc} (hl:ρ l = .none)
 {xs:List D} (hl0:h l0=some (.grw xs n)) (hv0:A3 (ρ l0) n 0 xs.length v0) (hwl:wl ks≤n.w) (hpk:0 < ks.length) (hf:(xs.length + ks.length) * n.w≤w8) :
 ∃ v' w',(Builtin.append_ #[t,tx] ty #[v0,v]).run P w = .ok v' w' ∧ ∃ ρ' H',HRel ρ' H' (F5 (F5 h l0 none) l (some (.grw (xs++ks) n))) w'∧Trans ρ H w ρ' H' w'∧j4 ρ ρ'∧(∀ x,x≠l→ρ x = .none→ρ' x = .none)∧A3 (ρ' l) n 0 (xs.length + ks.length) v':=by
 obtain ⟨b,base,size,hp⟩:=Wh hH hl0;have hobj:=hH.objs l0 _ hl0;rw[hp] at hobj hv0;obtain ⟨_,hw,_,hwx,_,arr,elem,fr,us0,hb,rfl,hr0,hz0,hc0⟩:=hobj;obtain ⟨_,cap,rfl,h1,h2,h3,h4,_⟩:=hv0
 have hll:l0≠l:=fun e=>by rw[e,hl] at hp; cases hp
 have hbl:(ρ l0).has b:=by rw[hp]; exact rfl
 have hcell:∀ j u,(flat us0)[j]? = some u→arr[base + j]? = some u:=fun j u hj=>by
  have:=hH.ice _ _ _ (hc0 j u hj);simp only[World.cell?,hb] at this;exact this
 have hfl0:(flat us0).length=xs.length * n.c:=by rw[A7 hz0,← hr0.length]
 have hfl:(flat us).length=ks.length * n.c:=by rw[A7 G.size,← G.rel.length,List.length_map]
 have hks:p9 H ks us:=f9.toD G.rel;have hwl2:=qs7 xs ks hwx hwl;obtain ⟨v',w',hrun,hcase⟩:=ql9 (ty:=ty) A G hb hfl0 hcell h1 (by simpa using h3) (by simpa using hf);rw[List.length_map] at hcase;refine ⟨v',w',by simpa using hrun,?_⟩
 have hlots:xs.length + ks.length≤w8:=by
  have:(xs.length + ks.length) * 1≤(xs.length + ks.length) * n.w:=Nat.mul_le_mul_left _ (Nat.pos_of_ne_zero A.hw0);omega
 rcases hcase with ⟨hroom,hbound,rfl,rfl⟩ | ⟨cap',hcap,rfl,rfl⟩
 ·
  have hlt:b < w.heap.size:=(Array.getElem?_eq_some_iff.1 hb).1
  have hbs:base + xs.length * n.c + (flat us).length≤arr.toList.length:=by rw[Nat.add_mul] at hbound; simp; omega
  let w':World:={ w with heap:=w.heap.setIfInBounds b (.cells ⟨putL arr.toList (base + xs.length * n.c) (flat us)⟩ elem (fr,fr)) }
  have hb':w'.heap[b]? = some (.cells ⟨putL arr.toList (base + xs.length * n.c) (flat us)⟩ elem (fr,fr)):=by
   show (w.heap.setIfInBounds b _)[b]? = _;rw[Array.getElem?_setIfInBounds_self];simp[hlt]
  have hget:∀ o,w'.cell? ⟨b,o,Option.none⟩=if base + xs.length * n.c≤o∧o < base + xs.length * n.c + (flat us).length then (flat us)[o - (base + xs.length * n.c)]? else arr[o]?:=fun o=>by
   simp only[World.cell?,hb',Option.isSome_none,Bool.false_eq_true,if_false];rw[List.getElem?_toArray,xJ _ _ _ _ hbs]
   split <;> simp
  let H':Ice:=fun b' o=>if b'=b∧base + xs.length * n.c≤o∧o < base + xs.length * n.c + (flat us).length then w'.cell? ⟨b',o,Option.none⟩ else H b' o
  have hno:∀ o,base + xs.length * n.c≤o→H b o=Option.none:=fun o ho=>hH.sep l0 b o (by rw[hp]; exact ⟨rfl,ho⟩)
  have hle:H.le H':=fun b' o v e=>by
   simp only[H'];rw[if_neg]
   ·exact e
   ·rintro ⟨rfl,h5,_⟩
    rw[hno o h5] at e;cases e
  let ρ':=B5 (B5 ρ l0 .dead) l (.grw b base n arr.size (xs.length + ks.length))
  have e1:ρ' l = .grw b base n arr.size (xs.length + ks.length):=by simp[ρ']
  have e2:ρ' l0 = .dead:=by simp[ρ',hll]
  have hst:j4 ρ ρ':=fun x hx=>by
   by_cases h5:x=l
   ·exact absurd (h5 ▸ hl) hx
   ·by_cases h6:x=l0
    ·subst h6; exact .inr e2
    ·simp[ρ',h5,h6]
  obtain ⟨k1,k2⟩:=hH.reshape (fun x=>x=l∨x=l0) (ρ':=ρ') (H':=H') (h':=F5 (F5 h l0 none) l (some (.grw (xs++ks) n))) (w':=w') ⟨rfl,rfl,rfl,by simp[w']⟩ hst hle
   (fun x hx=>by rw[not_or] at hx; simp[ρ',hx.1,hx.2])
   (fun b2 _ h=>by
    have hne:b2≠b:=fun e=>h l0 (.inr rfl) (e ▸ hbl)
    refine ⟨?_,fun o=>?_⟩
    ·show (w.heap.setIfInBounds b _)[b2]? = _;rw[Array.getElem?_setIfInBounds_ne (Ne.symm hne)]
    ·simp only[H']; rw[if_neg (fun e=>hne e.1)])
   (fun x b2 hx e=>by
    rcases hx with rfl | rfl
    ·rw[e1] at e; obtain rfl:b=b2:=e; exact .inr ⟨l0,.inr rfl,hbl⟩
    ·rw[e2] at e; exact e.elim)
   (fun x y b2 hx hy h5 h6=>by
    rcases hx with rfl | rfl <;> rcases hy with rfl | rfl
    ·rfl
    ·rw[e2] at h6; exact h6.elim
    ·rw[e2] at h5; exact h5.elim
    ·rfl)
   (fun b2 o v' _ e=>by
    simp only[H'] at e;split at e
    ·exact e
    ·rename_i hn
     by_cases hbb:b2=b
     ·subst hbb;rw[hget,if_neg (fun h=>hn ⟨rfl,h⟩)];have:=hH.ice _ _ _ e;simp only[World.cell?,hb] at this;exact this
     ·refine (World.cell?_of_block (w:=w) (a:=⟨b2,o,Option.none⟩) (w':=w') ?_).trans (hH.ice _ _ _ e);show (w.heap.setIfInBounds b _)[b2]? = _
      rw[Array.getElem?_setIfInBounds_ne (Ne.symm hbb)])
   (fun x b2 o hx e=>by
    rcases hx with rfl | rfl
    ·rw[e1] at e;obtain ⟨rfl,ho⟩:=e;rw[Nat.add_mul] at ho;simp only[H'];rw[if_neg (by omega)];exact hno o (by omega)
    ·rw[e2] at e; exact e.elim)
   (fun x o hx ho=>by
    rcases hx with rfl | rfl
    ·rw[m9] at ho;cases ho;rw[e1];refine ⟨rfl,hw,by simp,hwl2,by simpa using hf,_,elem,fr,us0++us,hb',by simp[qp],(hr0.mono hle).append (hks.mono hle),fun u hu=>?_,fun j u hj=>?_⟩
     ·rcases List.mem_append.1 hu with h5 | h5
      ·exact hz0 u h5
      ·exact G.size u h5
     ·rw[qx] at hj
      by_cases hj2:j < (flat us0).length
      ·rw[List.getElem?_append_left hj2] at hj;exact hle _ _ _ (hc0 j u hj)
      ·rw[List.getElem?_append_right (by omega)] at hj;have:=(List.getElem?_eq_some_iff.1 hj).1;simp only[H'];rw[if_pos (by refine ⟨trivial,?_,?_⟩ <;> omega),hget,if_pos (by omega)];rw[← hj]
       congr 1
       omega
    ·rw[I4 hll,m9] at ho; cases ho)
   (fun x hx ho=>by
    rcases hx with rfl | rfl
    ·rw[m9] at ho; cases ho
    ·exact .inr e2)
  refine ⟨ρ',H',k1,k2,hst,fun x hx hx0=>?_,?_⟩
  ·by_cases h6:x=l0
   ·rw[h6,hp] at hx0; cases hx0
   ·simp[ρ',hx,h6,hx0]
  ·rw[e1];refine ⟨rfl,cap,by simp,hroom,hf,by simpa using h3,hlots,fun h=>absurd h (by omega)⟩
 ·
  obtain ⟨k1,k2,k3⟩:=hH.kill l0
  have hx:xs.length + ks.length=(xs++ks).length:=by simp
  obtain ⟨ρ',q1,q2,q3,q4,q5⟩:=qea (n:=n) A.hw1 A.hw0 k1 (l:=l) (xs:=(xs++ks).map .d) (us:=us0++us) (by rw[n6 (Ne.symm hll)]; exact hl) ((hr0.append hks).toV) (by rw[List.any_eq_false]; intro x hx; obtain ⟨y,_,rfl⟩:=List.mem_map.1 hx; simp[w5.isJunk])
   (fun u hu=>by
    rcases List.mem_append.1 hu with h5 | h5
    ·exact hz0 u h5
    ·exact G.size u h5) z.cells A.hzs (xs.length + ks.length) cap' (by simp) hcap hf
  rw[qx] at q1 q2
  have hpos:0 < (xs++ks).length:=by rw[← hx]; omega
  rw[hx] at q5;obtain ⟨ρ2,H2,g1,g2,g3,g4,g5,g6⟩:=qoc q1 (m9 ..) q5 hpos hw hwl2 (by simpa using hf);rw[Qr] at g1;rw[← hx] at g5;refine ⟨ρ2,H2,g1,(k2.trans q2).trans g2,(k3.trans q3).trans g3,fun x hx hx0=>?_,g5⟩;rw[g4 x hx,q4 x hx]
  by_cases h6:x=l0
  ·rw[h6,hp] at hx0; cases hx0
  ·rw[n6 h6]; exact hx0
theorem qr1 {w':World} (hH:HRel ρ H h w) {l l0:Loc} (hl:ρ l = .none) {cs cs':List GC} {n:W} {b base size bn basen:Nat} {inn} (hl0:h l0=some (.gl cs n)) (hp:ρ l0 = .gl b base n size inn) {arrn:Array Value} {elemn frn:Nat} {vs':List Value}
 (hw:w'.os=w.os∧w'.tape=w.tape∧w'.output=w.output∧w.heap.size≤w'.heap.size) (hkeep:∀ i,i < w.heap.size→i≠b→w'.heap[i]? = w.heap[i]?) (hbn:bn=b∨w.heap.size≤bn)
 (hb':w'.heap[bn]? = some (.cells arrn elemn (frn,frn))) (hlen:vs'.length=cs'.length) (hc:∀ j u,vs'[j]? = some u→arrn[basen + j]? = some u) (hg:∀ (k:Nat) c v,cs'[k]? = some c→vs'[k]? = some v→kV H w c (inn k) v) (hend:∀ k,cs'.length≤k→inn k=Option.none) :
 ∃ ρ',ρ' l = .gl bn basen n arrn.size inn∧HRel ρ' H (F5 (F5 h l0 none) l (some (.gl cs' n))) w'∧Trans ρ H w ρ' H w'∧j4 ρ ρ' ∧ ∀ x,x≠l→ρ x = .none→ρ' x = .none:=by
 have hobj:=hH.objs l0 _ hl0;rw[hp] at hobj;obtain ⟨_,hs,hi1,hi2,hi3,arr,elem,fr,vs,hb,hsize,hvl,hcs,hgs⟩:=hobj
 have hll:l0≠l:=fun e=>by rw[e,hl] at hp; cases hp
 have hbl:(ρ l0).has b:=by rw[hp]; exact .inl rfl
 have hba:(ρ l0).all b:=by rw[hp]; exact rfl
 have hin:∀ {j b2 lo},inn j=some (b2,lo)→(ρ l0).has b2:=fun {j b2 lo} e=>by rw[hp]; exact .inr ⟨j,lo,e⟩
 let ρ':=B5 (B5 ρ l0 .dead) l (.gl bn basen n arrn.size inn)
 have e1:ρ' l = .gl bn basen n arrn.size inn:=by simp[ρ']
 have e2:ρ' l0 = .dead:=by simp[ρ',hll]
 have hst:j4 ρ ρ':=fun x hx=>by
  by_cases h5:x=l
  ·exact absurd (h5 ▸ hl) hx
  ·by_cases h6:x=l0
   ·subst h6; exact .inr e2
   ·simp[ρ',h5,h6]
 have own:∀ {b2},(ρ' l).has b2→w.heap.size≤b2∨(ρ l0).has b2:=fun {b2} e=>by
  rw[e1] at e;rcases e with rfl | ⟨j,lo,e⟩
  ·rcases hbn with h | h
   ·exact .inr (h ▸ hbl)
   ·exact .inl h
  ·exact .inr (hin e)
 have hne:∀ {j b2 lo},inn j=some (b2,lo)→b2≠b∧b2 < w.heap.size:=fun {j b2 lo} e=>⟨fun h=>hi2 j lo (h ▸ e),hH.lt (hin e)⟩
 have ice:∀ b2 o v,H b2 o=some v→w'.cell? ⟨b2,o,Option.none⟩=some v:=fun b2 o v e=>by
  have h1:=hH.iceLt e
  have h2:b2≠b:=fun h=>by subst h; rw[hH.sepA _ _ hba o] at e; cases e
  exact (World.cell?_of_block (w:=w) (a:=⟨b2,o,Option.none⟩) (w':=w') (hkeep b2 h1 h2)).trans (hH.ice _ _ _ e)
 obtain ⟨k1,k2⟩:=hH.reshape (fun x=>x=l∨x=l0) (ρ':=ρ') (H':=H) (h':=F5 (F5 h l0 none) l (some (.gl cs' n))) (w':=w') hw hst (fun _ _ _ e=>e)
  (fun x hx=>by rw[not_or] at hx; simp[ρ',hx.1,hx.2])
  (fun b2 h1 h=>⟨hkeep b2 h1 fun e=>h l0 (.inr rfl) (e ▸ hbl),fun _=>rfl⟩)
  (fun x b2 hx e=>by
   rcases hx with rfl | rfl
   ·exact (own e).imp id fun h=>⟨l0,.inr rfl,h⟩
   ·rw[e2] at e; exact e.elim)
  (fun x y b2 hx hy h5 h6=>by
   rcases hx with rfl | rfl <;> rcases hy with rfl | rfl
   ·rfl
   ·rw[e2] at h6; exact h6.elim
   ·rw[e2] at h5; exact h5.elim
   ·rfl)
  (fun b2 o v _ e=>ice b2 o v e)
  (fun x b2 o hx e=>by
   rcases hx with rfl | rfl
   ·rw[e1] at e;rcases e with rfl | ⟨j,lo,e,ho⟩
    ·rcases hbn with rfl | h
     ·exact hH.sepA _ _ hba o
     ·cases hh:H bn o with
      | none=>rfl
      | some v=>have:=hH.iceLt hh; omega
    ·exact hH.sep l0 b2 o (by rw[hp]; exact .inr ⟨j,lo,e,ho⟩)
   ·rw[e2] at e; exact e.elim)
  (fun x o hx ho=>by
   rcases hx with rfl | rfl
   ·rw[m9] at ho;cases ho;rw[e1];refine ⟨rfl,hs,hi1,fun j lo e=>?_,hend,arrn,elemn,frn,vs',hb',rfl,hlen,hc,fun k c v hk hv=>?_⟩
    ·obtain ⟨h5,h6⟩:=hne e;rcases hbn with h | h
     ·exact h5 h
     ·omega
    ·have g:=hg k c v hk hv
     cases hq:inn k with
     | none=>
       rw[hq] at g
       cases c with
       | d x=>exact g
       | g xs=>exact g.elim
     | some q=>
       obtain ⟨b2,lo⟩:=q;rw[hq] at g
       cases c with
       | d x=>exact g.elim
       | g xs=>
         obtain ⟨g1,off,c',m,arr',elem',fr',g2,g3,g4,g5,g6,g7⟩:=g;exact ⟨g1,off,c',m,arr',elem',fr',g2,g3,g4,g5,(hkeep b2 (hne hq).2 (hne hq).1).trans g6,g7⟩
   ·rw[I4 hll,m9] at ho; cases ho)
  (fun x hx ho=>by
   rcases hx with rfl | rfl
   ·rw[m9] at ho; cases ho
   ·exact .inr e2)
 refine ⟨ρ',e1,k1,k2,hst,fun x hx hx0=>?_⟩
 by_cases h6:x=l0
 ·rw[h6,hp] at hx0; cases hx0
 ·simp[ρ',hx,h6,hx0]
theorem zi9 {t tx ty:TypeId} {n:W} {el inf z d} (A:AppT P t tx n el inf z d) {m:List Loc} {ks:List D} {us:List Value} {v v0:Value} (hH:HRel ρ H h w) (G:Addend P ρ H w n tx m (ks.map .d) us v) {l l0:Loc} (hl:ρ l = .none)
 {cs:List GC} {len:Nat} (hl0:h l0=some (.gl cs n)) (hv0:A3 (ρ l0) n 0 len v0) (hlen:len * n.c=cs.length) (hw:n.w < 1000000) (hf:(len + ks.length) * n.w≤w8) :
 ∃ v' w',(Builtin.append_ #[t,tx] ty #[v0,v]).run P w = .ok v' w' ∧ ∃ ρ',HRel ρ' H (F5 (F5 h l0 none) l (some (.gl (cs++cellsOf ks) n))) w'∧Trans ρ H w ρ' H w'∧j4 ρ ρ'∧(∀ x,x≠l→ρ x = .none→ρ' x = .none)∧A3 (ρ' l) n 0 (len + ks.length) v':=by
 obtain ⟨b,base,size,inn,hp⟩:=XO hH hl0;have hobj:=hH.objs l0 _ hl0;rw[hp] at hobj hv0;obtain ⟨_,hs,hi1,hi2,hi3,arr,elem,fr,vs,hb,rfl,hvl,hcs,hgs⟩:=hobj;obtain ⟨_,cap,rfl,h1,h2,h3,h4,_⟩:=hv0
 have hfl:(flat us).length=ks.length * n.c:=by rw[A7 G.size,← G.rel.length,List.length_map]
 have hks:p9 H ks us:=f9.toD G.rel;obtain ⟨v',w',hrun,hcase⟩:=ql9 (ty:=ty) A G hb (by rw[hvl,hlen]) hcs h1 (by simpa using h3) (by simpa using hf);rw[List.length_map] at hcase
 have hlots:len + ks.length≤w8:=by
  have:(len + ks.length) * 1≤(len + ks.length) * n.w:=Nat.mul_le_mul_left _ (Nat.pos_of_ne_zero A.hw0);omega
 have hco:=qac hks
 have hg:∀ (k:Nat) c v,(cs++cellsOf ks)[k]? = some c→(vs++flat us)[k]? = some v→kV H w c (inn k) v:=fun k c v hk hv=>by
  by_cases hlt:k < cs.length
  ·rw[List.getElem?_append_left hlt] at hk;rw[List.getElem?_append_left (by omega)] at hv;exact hgs k c v hk hv
  ·rw[List.getElem?_append_right (by omega)] at hk;rw[List.getElem?_append_right (by omega),hvl] at hv;rw[hi3 k (by omega)];exact qad hks hk hv
 refine ⟨v',w',by simpa using hrun,?_⟩;rcases hcase with ⟨hroom,hbound,rfl,rfl⟩ | ⟨cap',hcap,rfl,rfl⟩
 ·have hlt:b < w.heap.size:=(Array.getElem?_eq_some_iff.1 hb).1
  have hbs:base + len * n.c + (flat us).length≤arr.toList.length:=by rw[Nat.add_mul] at hbound; simp; omega
  obtain ⟨ρ',e1,k1,k2,k3,k4⟩:=qr1 (w':={ w with heap:=w.heap.setIfInBounds b (.cells ⟨putL arr.toList (base + len * n.c) (flat us)⟩ elem (fr,fr)) }) hH hl hl0 hp (bn:=b) (basen:=base) (vs':=vs++flat us) (cs':=cs++cellsOf ks) ⟨rfl,rfl,rfl,by simp⟩
   (fun q _ hq=>by
    show (w.heap.setIfInBounds b _)[q]? = _
    rw[Array.getElem?_setIfInBounds_ne (Ne.symm hq)]) (.inl rfl)
   (by
    show (w.heap.setIfInBounds b _)[b]? = _;rw[Array.getElem?_setIfInBounds_self];simp only[hlt,if_true]
    rfl) (by simp[hvl,hco])
   (fun j u hj=>by
    rw[List.getElem?_toArray,xJ _ _ _ _ hbs]
    by_cases hj2:j < vs.length
    ·rw[List.getElem?_append_left hj2] at hj;rw[if_neg (by omega)]
     simpa using hcs j u hj
    ·rw[List.getElem?_append_right (by omega)] at hj;have:=(List.getElem?_eq_some_iff.1 hj).1;rw[if_pos (by omega),← hj]
     congr 1
     omega) hg (fun k hk=>hi3 k (by simp at hk; omega))
  refine ⟨ρ',k1,k2,k3,k4,?_⟩;rw[e1];exact ⟨rfl,cap,by simp,hroom,hf,by simpa [qp] using h3,hlots,fun h=>absurd h (by omega)⟩
 ·have hsz:((vs++flat us).toArray++Builtin.zeroCells z.cells (cap' - (len + ks.length))).size=cap' * n.c:=by
   simp only[Array.size_append,List.size_toArray,size_zeroCells,A.hzs,List.length_append,hfl,hvl,← hlen];rw[← Nat.add_mul,← Nat.add_mul]
   congr 1
   omega
  obtain ⟨ρ',e1,k1,k2,k3,k4⟩:=qr1 (w':=w.drew.alloc (.cells ((vs++flat us).toArray++Builtin.zeroCells z.cells (cap' - (len + ks.length))) el)) hH hl hl0 hp (bn:=w.heap.size) (basen:=0) (vs':=vs++flat us) (cs':=cs++cellsOf ks) ⟨rfl,rfl,rfl,by show _≤(w.heap.push _).size; simp⟩
   (fun q h5 _=>by
    show (w.heap.push _)[q]? = _
    rw[Array.getElem?_push,if_neg (by omega)]) (.inr (Nat.le_refl _))
   (by
    show (w.heap.push _)[w.heap.size]? = _
    rw[Array.getElem?_push,if_pos rfl]) (by simp[hvl,hco])
   (fun j u hj=>by
    have:=(List.getElem?_eq_some_iff.1 hj).1;rw[Nat.zero_add,Array.getElem?_append_left (by simpa using this)]
    simpa using hj) hg (fun k hk=>hi3 k (by simp at hk; omega))
  refine ⟨ρ',k1,k2,k3,k4,?_⟩;rw[e1];exact ⟨rfl,cap',by simp,hcap,hf,by rw[hsz]; simp,hlots,fun h=>absurd h (by omega)⟩
def qri (n:W) (x y:Opnd) (P:Program):Op→Bool:=Kn n (some x) y P
def qrh (n:W) (x y:Opnd) (P:Program):Op→Bool:=Kn n (some x) y P
theorem Ww {n:W} {x y:Opnd} (hok:Kn n (some x) y P o.op=true):∃ (c:Call) (x' y':Operand) (t tx:TypeId) (el:TypeId) (inf:TypeInfo) (z:Value) (d:TypeDesc),o.op = .call c∧c.callee = .builtin .append∧c.args = #[x',y']∧c.argTypes = #[t,tx] ∧
 okO x' x=true∧okO y' y=true∧AppT P t tx n el inf z d∧((∃ e',P.underlying tx=some (.slice e'))∨P.underlying tx=some .string):=by
 unfold Kn at hok;split at hok
 ·rename_i c hop;simp only[Bool.and_eq_true] at hok;obtain ⟨hok1,hok2⟩:=hok
  have hc:c.callee = .builtin .append:=by
   split at hok1
   ·assumption
   ·cases hok1
  split at hok2
  ·rename_i x' y' t tx ha ht;simp only[Bool.and_eq_true,decide_eq_true_eq] at hok2;obtain ⟨⟨⟨⟨⟨⟨h1,h2⟩,h3⟩,h4⟩,h5⟩,h6⟩,h7⟩:=hok2;obtain ⟨el,inf,hu,hi,hsz,hby,hb0,hsm⟩:=Qv.get h3 h5
   have htx:∃ d,P.underlying tx=some d∧(∀ k,d ≠ .int k)∧((∃ e',P.underlying tx=some (.slice e'))∨P.underlying tx=some .string):=by
    cases hq:P.underlying tx with
    | none=>rw[hq] at h6; cases h6
    | some d=>
      rw[hq] at h6
      cases d <;> first | exact ⟨_,rfl,(fun k h=>by cases h),.inl ⟨_,rfl⟩⟩ | exact ⟨_,rfl,(fun k h=>by cases h),.inr rfl⟩ | cases h6
   obtain ⟨d,hd1,hd2,hd3⟩:=htx;rw[hu] at h7;simp only[hi] at h7
   cases hz:inf.zero with
   | none=>rw[hz] at h7; cases h7
   | some z=>
   rw[hz] at h7;simp only[decide_eq_true_eq] at h7;exact ⟨c,x',y',t,tx,el,inf,z,d,hop,hc,Array.toList_inj.1 ha,Array.toList_inj.1 ht,h1,h2,⟨hu,hi,hz,hd1,hd2,hsz,hby,hb0,h7,h4,h5,hsm⟩,hd3⟩
  ·cases hok2
 ·cases hok
theorem qhh {n:W} {ks:List D} (h:ks.all (fun d=>d.cells.length == n.c)=true):(ks.map V.d).all (fun v=>v.cells.length == n.c)=true:=by
 rw[List.all_eq_true] at h ⊢;intro v hv;obtain ⟨d,hd,rfl⟩:=List.mem_map.1 hv
 have h2:d.cells.length=(V.cells (.d d)).length:=by cases d <;> simp[D.cells,V.cells]
 rw[← h2];exact h d hd
theorem q7d {n:W} {x y:Opnd} (hH:HRel ρ H h w) (hE:EnvRel B ds fx ρ H N env a) (hN:∀ k,ρ (.n i k) = .none) (hok:qri n x y P o.op=true) (e:exec T cf i (.gapp n x y) (evO env) h=some r):f8 P o a w ρ H h i r:=by
 simp only[exec] at e;obtain ⟨vx,e1,e2⟩:=f7 e;obtain ⟨vy,e3,e4⟩:=f7 e2;unfold qgo at e4;obtain ⟨⟨ys,m⟩,e5,e6⟩:=f7 e4;obtain ⟨ks,e7,e8⟩:=f7 e6;have hys:=wd e7;subst hys;split at e8
 ·rename_i hc;obtain ⟨hall,hw,hwl⟩:=hc;have hall':=qhh hall;split at e8
  ·split at e8
   ·rename_i hf;cases e8
    have hlen:(ks.map V.d).length=ks.length:=by simp
    refine f8.conv (e1:={ v:=.ref (.n i 0) n 0 (ks.map V.d).length,rd:=m,wr:=[(.n i 0,some (.arr (ks.map .d) n))] }) (fun ρ' H' v w' p=>?_)
     (qwz (T:=T) (cf:=cf) (env:=env) (x:=some x) (y:=y) hH hE (hN 0) hok (by simp only[exec,e1,e3,l8,unN,qec,e5,hall',if_true,hlen,hf.1]))
    have h1:j8 h [(.n i 0,some (.arr (ks.map .d) n))] (.n i 0)=some (.arr (ks.map .d) n):=m9 ..
    have hv:A3 (ρ' (.n i 0)) n 0 ks.length v:=by have:=p.val; rw[hlen] at this; exact this
    obtain ⟨ρ2,H2,g1,g2,g3,g4,g5,_⟩:=qoc p.heap h1 hv hf.2 hw hwl hf.1;refine ⟨ρ2,H2,by rw[qa7,Qr] at g1; exact g1,p.trans.trans g2,p.stays.trans g3,fun x h1 h2=>?_,g5⟩
    by_cases hx:x = .n i 0
    ·exact ⟨0,hx⟩
    ·rw[g4 x hx] at h2; exact p.new x h1 h2
   ·cases e8
  ·rename_i l sz len;unfold qmd at e8;split at e8
   ·rename_i xs n' hl;split at e8
    ·rename_i hc;obtain ⟨rfl,rfl,rfl,hpk,hm,hf⟩:=hc;cases e8;obtain ⟨c,x',y',t,tx,el,inf,z,d,hop,hcal,ha,ht,h1,h2,A,hd⟩:=Ww hok;have hx:A3 (ρ l) _ 0 xs.length (a.eval x'):=i7 hE h1 e1;have hy:=i7 hE h2 e3;obtain ⟨us,G⟩:=Wx A.hc0 hH hy e5 hall' hd;obtain ⟨v',w',g1,ρ',H',g2,g3,g4,g5,g6⟩:=q9g (ty:=o.type) A hH G (hN 0) hl hx hwl hpk hf;exact f8.of (qh3 hop hcal ha ht g1) ⟨by rw[ZM]; exact g2,g3,g4,H8.of2 g5,g6⟩
    ·cases e8
   ·cases e8
  ·cases e8
 ·cases e8
theorem q69 {n:W} {x y:Opnd} (hH:HRel ρ H h w) (hE:EnvRel B ds fx ρ H N env a) (hN:∀ k,ρ (.n i k) = .none) (hok:qrh n x y P o.op=true) (e:exec T cf i (.lapp n x y) (evO env) h=some r):f8 P o a w ρ H h i r:=by
 simp only[exec] at e;obtain ⟨vx,e1,e2⟩:=f7 e;obtain ⟨vy,e3,e4⟩:=f7 e2;unfold qrq at e4;split at e4
 ·rename_i l sz len;obtain ⟨cs,e0,e4⟩:=f7 e4;obtain ⟨⟨ys,m⟩,e5,e6⟩:=f7 e4;obtain ⟨ks,e7,e8⟩:=f7 e6;have hys:=wd e7;subst hys;split at e8
  ·rename_i hc;obtain ⟨hall,rfl,hw,hlen,hpk,hm,hf⟩:=hc;cases e8;have hall':=qhh hall;unfold qp1 at e0;split at e0
   ·rename_i cs' n' hl;cases e0;obtain ⟨c,x',y',t,tx,el,inf,z,d,hop,hcal,ha,ht,h1,h2,A,hd⟩:=Ww hok;have hx:A3 (ρ l) sz 0 len (a.eval x'):=i7 hE h1 e1;have hy:=i7 hE h2 e3;obtain ⟨us,G⟩:=Wx A.hc0 hH hy e5 hall' hd;obtain ⟨b,base,size,inn,hp⟩:=XO hH hl
    obtain rfl:sz=n':=by rw[hp] at hx; exact hx.1.symm
    obtain ⟨v',w',g1,ρ',g2,g3,g4,g5,g6⟩:=zi9 (ty:=o.type) A hH G (hN 0) hl hx hlen hw hf;exact f8.of (qh3 hop hcal ha ht g1) ⟨by rw[ZM]; exact g2,g3,g4,H8.of2 g5,g6⟩
   ·rename_i n' hl;cases e0;obtain ⟨c,x',y',t,tx,el,inf,z,d,hop,hcal,ha,ht,h1,h2,A,hd⟩:=Ww hok
    have hlen0:len=0:=by
     rcases Nat.eq_zero_or_pos len with h | h
     ·exact h
     ·have:=Nat.mul_pos h (Nat.pos_of_ne_zero A.hc0); simp at hlen; omega
    subst hlen0;have hsz:sz=n'∨True:=.inr trivial
    have hlk:(ks.map V.d).length=ks.length:=by simp
    refine f8.conv (e1:={ v:=.ref (.n i 0) sz 0 (0 + (ks.map V.d).length),rd:=l :: m,wr:=[(l,none),(.n i 0,some (.arr (ks.map .d) sz))] }) (fun ρ' H' v w' p=>?_)
     (qwz (T:=T) (cf:=cf) (env:=env) (x:=some x) (y:=y) hH hE (hN 0) hok (by simp[exec,e1,e3,l8,unN,qec,e5,hall',hl,hm]; exact ⟨by simpa using hall',by simpa using hf⟩))
    have h1:j8 h [(l,none),(.n i 0,some (.arr (ks.map .d) sz))] (.n i 0)=some (.arr (ks.map .d) sz):=by rw[ZM]; exact m9 ..
    have hobj:=p.heap.objs _ _ h1;have hval:=p.val
    cases hp:ρ' (.n i 0) with
    | at_ b base s size=>
      rw[hp] at hobj;obtain ⟨rfl,_⟩:=hobj;obtain ⟨ρ2,g1,g2,g3,g4⟩:=qz4 p.heap h1 hp hw;refine ⟨ρ2,H',by rw[ZM,Qr] at g1; rw[ZM]; simpa using g1,p.trans.trans g2,p.stays.trans g3,fun x h1 h2=>?_,by simpa using hval.mono g3 (fun _ _ _ e=>e)⟩
      by_cases hx:x = .n i 0
      ·exact ⟨0,hx⟩
      ·rw[g4 x hx] at h2; exact p.new x h1 h2
    | virt s=>
      have hval:A3 (ρ' (.n i 0)) sz 0 (0 + (ks.map V.d).length) v:=hval;rw[hp] at hval;obtain ⟨_,_,h,_⟩:=hval;simp at h;subst h;simp at hpk
    | _=>rw[hp] at hobj; exact hobj.elim
   ·cases e0
  ·cases e8
 ·cases e4
def qpb (n:W) (z:D) (len cap:Opnd) (P:Program) (op:Op):Bool:=qax n z len cap P op && decide (n.w < 1000000)
theorem zgf {n z len cap} (hH:HRel ρ H h w) (hE:EnvRel B ds fx ρ H N env a) (hN:∀ k,ρ (.n i k) = .none) (hok:qpb n z len cap P o.op=true) (e:exec T cf i (.mkG n z len cap) (evO env) h=some r):f8 P o a w ρ H h i r:=by
 simp only[qpb,Bool.and_eq_true,decide_eq_true_eq] at hok;obtain ⟨hok,hw⟩:=hok;simp only[exec] at e;obtain ⟨va,e1,e2⟩:=f7 e;obtain ⟨vb,e3,e4⟩:=f7 e2;split at e4
 ·rename_i l c e5 e6;split at e4
  ·rename_i hc;cases e4
   refine f8.conv (e1:={ v:=.ref (.n i 0) n 0 l,wr:=[(.n i 0,some (.arr (List.replicate l (.d z)) n))] }) (fun ρ' H' v w' p=>?_)
    (qwv (T:=T) (cf:=cf) (env:=env) (len:=len) (cap:=cap) (z:=z) hH hE hN hok (by simp only[exec,e1,e3,l8,e5,e6]; rw[if_pos ⟨hc.1,hc.2.2⟩]))
   have h1:j8 h [(.n i 0,some (.arr (List.replicate l (.d z)) n))] (.n i 0)=some (.arr ((List.replicate l z).map .d) n):=by rw[qa7,List.map_replicate]; exact m9 ..
   have hobj:=p.heap.objs _ _ h1;have hval:=p.val
   cases hp:ρ' (.n i 0) with
   | at_ b base s size=>
     rw[hp] at hobj;obtain ⟨rfl,_⟩:=hobj;obtain ⟨ρ2,g1,g2,g3,g4⟩:=qz4 p.heap h1 hp hw;refine ⟨ρ2,H',by rw[qa7,Qr] at g1; exact g1,p.trans.trans g2,p.stays.trans g3,fun x h1 h2=>?_,hval.mono g3 (fun _ _ _ e=>e)⟩
     by_cases hx:x = .n i 0
     ·exact ⟨0,hx⟩
     ·rw[g4 x hx] at h2; exact p.new x h1 h2
   | virt s=>
     have hval:A3 (ρ' (.n i 0)) n 0 l v:=hval;rw[hp] at hval;obtain ⟨_,_,h,_⟩:=hval;omega
   | _=>rw[hp] at hobj; exact hobj.elim
  ·cases e4
 ·cases e4
end
end Go.Rf

set_option linter.unusedSectionVars false
namespace Go.Rf
variable [Prg]
variable {B:Ice} {ds:List Deferred} {fx:List (Nat × Value)}
section
variable {P:Program} {T:Tab} {cf:CF} {o:Oper} {a:Act} {w:World} {ρ:Map} {H:Ice} {h:Loc→Option Obj} {i N:Nat} {env:List (Nat × V)} {r:R}
def qx2 (x y:Opnd):Op→Bool
 | .call c=>(match c.callee with | .builtin .min=>true | _=>false) && (match c.args.toList with
   | [x',y']=>okO x' x && okO y' y
   | _=>false)
 | _=>false
theorem s_mn {x y} (hH:HRel ρ H h w) (hE:EnvRel B ds fx ρ H N env a) (hok:qx2 x y o.op=true) (e:exec T cf i (.mn x y) (evO env) h=some r):f8 P o a w ρ H h i r:=by
 unfold qx2 at hok;split at hok
 ·rename_i c hop;simp only[Bool.and_eq_true] at hok;obtain ⟨h1,h2⟩:=hok;split at h1
  ·rename_i hc;split at h2
   ·rename_i x' y' ha;simp only[Bool.and_eq_true] at h2;obtain ⟨h3,h4⟩:=h2;simp only[exec] at e;split at e
    ·rename_i k m k' n e1 e2;split at e
     ·rename_i hk;subst hk;rw[w7 e];have hx:a.eval x' = .int k m:=i7 hE h3 e1;have hy:a.eval y' = .int k n:=i7 hE h4 e2;have ha':c.args = #[x',y']:=Array.toList_inj.1 ha;refine f8.pure (x:=.d (.int k (if n < m then n else m))) (v:=.int k (if n < m then n else m)) ?_ hH rfl;unfold execOp;simp only[hop,resolve,hc,ha',invoke,builtin];rw[Sem.run_bind];show Result.andThen (.ok _ w) _=_;rw[Result.andThen_ok];simp only[List.map_toArray,List.map_cons,List.map_nil,hx,hy];simp[Builtin.min_,Builtin.min2]
     ·cases e
    ·cases e
   ·cases h2
  ·cases h1
 ·cases hok
def qlk (x:Opnd) (P:Program):Op→Bool:=Zj 1 false x P
theorem q06 {x} (hH:HRel ρ H h w) (hE:EnvRel B ds fx ρ H N env a) (hok:qlk x P o.op=true) (e:exec T cf i (.loadH x) (evO env) h=some r):f8 P o a w ρ H h i r:=by
 simp only[exec] at e;split at e
 ·rename_i k e1;obtain ⟨v,e2,e3⟩:=f7 e;cases e3;unfold Zu JT at e2;split at e2
  ·rename_i x0 sz hl;have:=qwx (T:=T) (cf:=cf) (env:=env) (i:=i) (n:=1) (ag:=false) hH hE hok (r:=.ok { v,rd:=[.b k] }) (by simp[exec,e1,l8,qw,hl,part,e2])
   exact fun ro K Q hk=>this ro K Q fun ρ' H' u w' p=>hk ρ' H' u w' ⟨p.heap,p.trans,p.stays,p.new,p.val⟩
  ·cases e2
 ·cases e
def qij (n:Nat) (x k:Opnd) (P:Program):Op→Bool
 | .index t x' k'=>okO x' x && okO k' k && (match P.underlying t with | some (.array len e)=>decide (len=n) && vV P e 1 false | _=>false)
 | _=>false
theorem q7b {n x k} (hH:HRel ρ H h w) (hE:EnvRel B ds fx ρ H N env a) (hok:qij n x k P o.op=true) (e:exec T cf i (.idxF n x k) (evO env) h=some r):f8 P o a w ρ H h i r:=by
 unfold qij at hok;split at hok
 ·rename_i t x' k' hop;simp only[Bool.and_eq_true] at hok;obtain ⟨⟨h1,h2⟩,h3⟩:=hok;split at h3
  ·rename_i len el hu;simp only[Bool.and_eq_true,decide_eq_true_eq] at h3;obtain ⟨rfl,h4⟩:=h3;simp only[exec] at e;obtain ⟨v,e1,e2⟩:=f7 e;obtain ⟨m,e3,e4⟩:=f7 e2;obtain ⟨j,e5,e6⟩:=f7 e4;have hx:=i7 hE h1 e1;have hk:=i7 hE h2 e3;obtain ⟨kk,hk'⟩:=xj hk e5;split at e6
   ·rename_i cs;split at e6
    ·rename_i hj;obtain ⟨y,e7,e8⟩:=f7 e6;rw[w7 e8];obtain ⟨vs,hvs,k1,k2⟩:=hx;obtain ⟨u,hu1,hu2⟩:=k1.get e7;refine f8.pure (x:=.d y) (v:=u) ?_ hH hu2;unfold execOp;have hjl:(0:Int)≤(j:Int)∧(j:Int) < (len:Int):=⟨by omega,by omega⟩;have hp:=KN (P:=P) (w:=w) el (j * 1) 1 false h4 vs u (fun h=>by cases h) (fun _=>by rw[Nat.mul_one]; exact hu1);simp only[hop,hvs,hk',Instr.index,asIntOf,Sem.run_bind,Sem.run_pure,run_underlying hu,Result.andThen_ok,if_pos hjl,Y1.run (vV.size h4),Int.toNat_natCast,hp]
    ·cases e6
   ·cases e6
  ·cases h3
 ·cases hok
end
end Go.Rf

set_option linter.unusedSectionVars false
namespace Go.Rf
variable [Prg]
variable {B:Ice} {ds:List Deferred} {fx:List (Nat × Value)}
def Ice.off (H:Ice) (S:Nat→Prop) [DecidablePred S]:Ice:=fun b o=>if S b then none else H b o
mutual
theorem qkn {H:Ice} {S:Nat→Prop} [DecidablePred S] (hS:∀ b o k n,S b→H b o≠some (.int k n)):∀ (x:D) {v:Value},qh0 x=true→I3 H x v→I3 (H.off S) x v
 | .bool _,_,_,k=>k
 | .int _ _,_,_,k=>k
 | .str _,_,_,k=>k
 | .nilp,_,_,k=>k
 | .nili,_,_,k=>k
 | .nilf,_,_,k=>k
 | .nils,_,_,k=>k
 | .agg cs,_,h,k=>by
   obtain ⟨vs,e,k1,k2⟩:=k;exact ⟨vs,e,YK hS cs (by simpa [qh0] using h) k1,k2⟩
 | .sl xs,_,h,k=>by
   obtain ⟨a,c,e,k1,k2,k3⟩:=k;refine ⟨a,c,e,k1,k2,fun hx=>?_⟩;obtain ⟨b,off,sz,us,e1,k4,k5,k6⟩:=k3 hx;simp only[qh0,List.all_eq_true] at h
   have hint:∀ (xs:List D) (us:List Value),(∀ x∈xs,(match x with | .int _ _=>true | _=>false)=true)→p9 H xs us→(∀ u∈us,∃ k n,u = .int k n)∧p9 (H.off S) xs us:=by
    intro xs
    induction xs with
    | nil=>intro us _ hr; cases hr; exact ⟨fun u hu=>(List.not_mem_nil hu).elim,rfl⟩
    | cons x xs ih=>
      intro us hm hr;obtain ⟨u,us',rfl,r1,r2⟩:=hr;have hx:=hm x (List.mem_cons_self ..);obtain ⟨i1,i2⟩:=ih us' (fun y hy=>hm y (List.mem_cons_of_mem _ hy)) r2
      cases x with
      | int k n=>
        have r1:u = .int k n:=r1;subst r1;refine ⟨fun u hu=>?_,⟨_,_,rfl,rfl,i2⟩⟩;rcases List.mem_cons.1 hu with rfl | hu
        ·exact ⟨_,_,rfl⟩
        ·exact i1 u hu
      | _=>cases hx
   obtain ⟨h1,h2⟩:=hint xs us h k4;refine ⟨b,off,sz,us,e1,h2,k5,fun i v hi=>?_⟩;have hv:=k6 i v hi
   have hvi:∃ k n,v = .int k n:=by
    obtain ⟨u,hu,hm⟩:=List.mem_flatMap.1 (List.mem_of_getElem? hi);obtain ⟨k,n,rfl⟩:=h1 u hu;simp[Value.cells] at hm;exact ⟨k,n,hm⟩
   obtain ⟨k,n,rfl⟩:=hvi;unfold Ice.off;rw[if_neg (fun hs=>hS _ _ _ _ hs hv)];exact hv
 | .iface _ _,_,h,_=>by simp[qh0] at h
 | .box _,_,h,_=>by simp[qh0] at h
 | .fn _ _,_,h,_=>by simp[qh0] at h
 | .nilm,_,h,_=>by simp[qh0] at h
theorem YK {H:Ice} {S:Nat→Prop} [DecidablePred S] (hS:∀ b o k n,S b→H b o≠some (.int k n)):∀ (xs:List D) {vs:List Value},WC xs=true→p9 H xs vs→p9 (H.off S) xs vs
 | [],_,_,k=>k
 | x :: xs,_,h,k=>by
   obtain ⟨v,vs',e,k1,k2⟩:=k;simp only[WC,Bool.and_eq_true] at h;exact ⟨v,vs',e,qkn hS x h.1 k1,YK hS xs h.2 k2⟩
end
theorem qf8 {H:Ice} {x:D} {v:Value} (h:qf9 x=true) (k:I3 H x v):∀ kk n,v ≠ .int kk n:=by
 intro kk n e;subst e
 cases x with
 | int _ _=>cases h
 | bool b=>cases k
 | str s=>obtain ⟨k,_⟩:=k; cases k
 | agg cs=>obtain ⟨_,k,_⟩:=k; cases k
 | iface t y=>obtain ⟨_,k,_⟩:=k; cases k
 | sl xs=>obtain ⟨_,_,k,_⟩:=k; cases k
 | box y=>obtain ⟨_,_,_,k,_⟩:=k; cases k
 | fn f cap=>obtain ⟨us,k,_⟩:=k; unfold vI at k; split at k <;> cases k
 | nilp=>cases k
 | nili=>cases k
 | nilf=>cases k
 | nilm=>obtain ⟨_,k⟩:=k; cases k
 | nils=>cases k
theorem qna {H:Ice} {x:D} {u:Value} (h:x.cells.all qf9=true) (k:I3 H x u):∀ v∈u.cells.toList,∀ kk n,v ≠ .int kk n:=by
 have one':Y3 x=false→∀ v∈u.cells.toList,∀ kk n,v ≠ .int kk n:=fun ha v hv=>by
  rw[o5 (I3.one k ha)] at hv;simp at hv;subst hv;refine qf8 (x:=x) ?_ k
  have:x.cells=[x]:=by cases x <;> first | rfl | cases ha
  rw[this] at h
  simpa using h
 cases x with
 | agg cs=>
   obtain ⟨vs,rfl,k1,_⟩:=k
   have:∀ (cs:List D) (vs:List Value),cs.all qf9=true→p9 H cs vs→∀ v∈vs,∀ kk n,v ≠ .int kk n:=by
    intro cs
    induction cs with
    | nil=>intro vs _ k v hv; cases k; cases hv
    | cons c cs ih=>
      intro vs hh k v hv;obtain ⟨u,vs',rfl,r1,r2⟩:=k;simp only[List.all_cons,Bool.and_eq_true] at hh;rcases List.mem_cons.1 hv with rfl | hv
      ·exact qf8 hh.1 r1
      ·exact ih vs' hh.2 r2 v hv
   exact this cs vs (by simpa [D.cells] using h) k1
 | _=>exact one' rfl
section
variable {P:Program} {T:Tab} {cf:CF} {o:Oper} {a:Act} {w:World} {ρ:Map} {H:Ice} {h:Loc→Option Obj} {i N:Nat} {env:List (Nat × V)} {r:R}
open Classical
def qnw (ρ:Map) (fm:List Loc) (b:Nat):Prop:=∃ l∈fm,(ρ l).all b
noncomputable def Z8 (ρ:Map) (H:Ice) (w:World) (fm:List Loc):Ice:=fun b o=>if qnw ρ fm b then (match w.cell? ⟨b,o,Option.none⟩ with | some (.int _ _)=>none | x=>x) else H b o
theorem qa4 (hH:HRel ρ H h w) (fm:List Loc):H.le (Z8 ρ H w fm):=fun b o v e=>by
 unfold Z8;rw[if_neg]
 ·exact e
 ·rintro ⟨l,_,hl⟩
  rw[hH.sepA l b hl o] at e;cases e
theorem qyx (hH:HRel ρ H h w) (fm:List Loc) (b o:Nat) (v:Value) (e:Z8 ρ H w fm b o=some v):w.cell? ⟨b,o,Option.none⟩=some v:=by
 unfold Z8 at e;split at e
 ·split at e
  ·cases e
  ·exact e
 ·exact hH.ice b o v e
theorem q3e (hH:HRel ρ H h w) {x:V × Bool} {d:D} {m fm:List Loc} (e:brw h x=some (d,m)) (hm:∀ l∈m,l∈fm) {u:Value} (hu:j9 ρ H x.1 u):I3 (Z8 ρ H w fm) d u:=by
 obtain ⟨v,fl⟩:=x;unfold brw at e;split at e
 ·rename_i y _ heq;cases heq; cases e;exact I3.mono (qa4 hH fm) _ hu
 ·rename_i l sz off len heq;cases heq;split at e
  ·rename_i xs sz' hl;split at e
   ·rename_i hle;obtain ⟨ds,e1,e2⟩:=f7 e;split at e2
    ·rename_i hc;obtain ⟨hw,hni⟩:=hc;cases e2;have hxs:=wd e1;subst hxs;have hobj:=hH.objs l _ hl;have hu:A3 (ρ l) sz off len u:=hu
     cases hp:ρ l with
     | none=>rw[hp] at hu; exact hu.elim
     | dead=>rw[hp] at hobj; exact hobj.elim
     | blk q=>rw[hp] at hu; exact hu.elim
     | gl b1 b2 b3 b4 b5=>rw[hp] at hobj; exact hobj.elim
     | grw b1 b2 b3 b4 b5=>rw[hp] at hobj; exact hobj.elim
     | out _ _ _ _=>rw[hp] at hobj; exact hobj.elim
     | virt s=>
       rw[hp] at hu;obtain ⟨_,rfl,rfl,rfl⟩:=hu;exact ⟨Option.none,0,by simp,by simp,by simp,fun h=>absurd (by simp) h⟩
     | at_ b base s size=>
       rw[hp] at hobj hu;obtain ⟨rfl,arr,elem,fr,us,hb,hsize,hus,hj,hs,hc,_⟩:=hobj;obtain ⟨rfl,c,rfl,q1,q2,q3,q4,_⟩:=hu;have hd:p9 H ds us:=f9.toD hus;have hr:p9 H ((ds.drop off).take len) ((us.drop off).take len):=(hd.drop off).take len
       have hlen:((ds.drop off).take len).length=len:=by simp at hle; rw[List.length_take,List.length_drop]; omega
       refine ⟨some ⟨b,base + off * s.c,Option.none⟩,c,by rw[hlen],by omega,?_,fun _=>⟨b,base + off * s.c,s.c,_,rfl,p9.mono (qa4 hH fm) _ hr,fun u hu=>hs u (List.mem_of_mem_drop (List.mem_of_mem_take hu)),fun j v hjv=>?_⟩⟩
       ·rw[hlen]; exact Nat.le_trans (Nat.mul_le_mul_left _ hw) q2
       ·have q:=XQ hjv;rw[Kr off hs,List.getElem?_drop] at q;have hcell:=hc _ _ q
        have hcl:w.cell? ⟨b,base + off * s.c + j,Option.none⟩=some v:=by
         simp only[World.cell?,hb]
         simpa [Nat.add_assoc] using hcell
        have hv:∀ kk n,v ≠ .int kk n:=by
         obtain ⟨u,hu,hm⟩:=List.mem_flatMap.1 (List.mem_of_getElem? q);obtain ⟨e',he⟩:=List.getElem?_of_mem hu;obtain ⟨x,hx⟩:∃ x,ds[e']? = some x:=⟨_,List.getElem?_eq_getElem (by rw[hd.length]; exact (List.getElem?_eq_some_iff.1 he).1)⟩;obtain ⟨u',g1,g2⟩:=hd.get hx;rw[he] at g1;cases g1;exact qna (List.all_eq_true.1 hni x (List.mem_of_getElem? hx)) g2 v hm
        unfold Z8;rw[if_pos ⟨l,hm l (List.mem_singleton_self _),by rw[hp]; rfl⟩,hcl]
        cases v <;> first | rfl | exact absurd rfl (hv _ _)
    ·cases e2
   ·cases e
  ·cases e
 ·cases e
theorem qnf (hH:HRel ρ H h w) {fm:List Loc}:∀ {vs:List (V × Bool)} {ds:List D} {m:List Loc},qqq h vs=some (ds,m)→(∀ l∈m,l∈fm)→∀ {us:List Value},f9 ρ H (vs.map (·.1)) us→p9 (Z8 ρ H w fm) ds us
 | [],ds,m,e,_,us,k=>by cases e; exact k
 | x :: vs,ds,m,e,hm,us,k=>by
   simp only[qqq] at e;obtain ⟨⟨d,m1⟩,e1,e2⟩:=f7 e;obtain ⟨⟨ds',m2⟩,e3,e4⟩:=f7 e2;cases e4;obtain ⟨u,us',rfl,k1,k2⟩:=k;exact ⟨u,us',rfl,q3e hH e1 (fun l hl=>hm l (List.mem_append_left _ hl)) k1,qnf hH e3 (fun l hl=>hm l (List.mem_append_right _ hl)) k2⟩
theorem qpt {f:FuncId} {args:List (V × Bool)} {us:List Value} (hcf:Qp B P cf) (hB:B.le H) (hH:HRel ρ H h w) (hv:f9 ρ H (args.map (·.1)) us) (e:Yf cf f h args=some r)
 (hrun:(execOp a.eval o).run P w = .ok (.enter f ⟨us⟩) w):f8 P o a w ρ H h i r:=by
 obtain ⟨⟨ds',fm⟩,e1,e2⟩:=f7 e;have hd:=qnf hH (fm:=fm) e1 (fun _ h=>h) hv;have hHc:HRel (fun _=>.none) (Z8 ρ H w fm) (j5 []) w:=⟨qyx hH fm,fun l o ho=>by cases l <;> simp[j5] at ho,fun _ _=>.inl rfl,fun _ _ _ h=>h.elim,fun _ _ _ h=>h.elim⟩;have hd2:f9 (fun _=>.none) (Z8 ρ H w fm) (ds'.map .d) us:=hd.toV;rw[hd2.fits,j3] at e2;obtain ⟨cr,e3,e4⟩:=f7 e2;have hc:=hcf.2 f _ _ cr e3 (fun _=>.none) (Z8 ρ H w fm) w ⟨us⟩ (fun b o v e=>qa4 hH fm b o v (hB b o v e)) hHc hd2 (fun l hl=>(hl rfl).elim);intro ro K Q hpost;refine ⟨fun _ _=>trivial,?_⟩;rw[show (Qd ro).round=ro from rfl,Qw ro (fun _ h=>by cases h) hrun];refine ⟨fun h=>(by cases h),ZI fun cs=>?_⟩;obtain ⟨en,w',fr,hR,rest⟩:=hc cs;refine ⟨en,w',fr,?_,rest⟩
 cases en with
 | outgrown=>
   have hR:cr = .out:=hR;subst hR;cases e4;exact hpost
 | panicked chain=>
   obtain ⟨x,os',ρ',H',u,rfl,_⟩:=hR;cases e4
 | returned v=>
   obtain ⟨rs,os',ρ',H',rfl,ce,hx⟩:=hR
   cases os' with
   | cons _ _=>cases e4
   | nil=>
     obtain ⟨ds2,e5,e6⟩:=f7 e4;have hrs:=wd e5;subst hrs
     cases hsh:WC ds2 with
     | false=>rw[hsh] at e6; cases e6
     | true=>
     rw[hsh] at e6;cases e6
     have hkeep:∀ b,b < w.heap.size→w'.heap[b]? = w.heap[b]? ∧ ∀ o,H' b o=Z8 ρ H w fm b o:=fun b hb=>ce.trans.keep b hb fun l hl=>hl
     have hle:H.le (H'.off (qnw ρ fm)):=fun b o v e=>by
      unfold Ice.off;rw[if_neg]
      ·rw[(hkeep b (hH.iceLt e)).2 o]; exact qa4 hH fm b o v e
      ·rintro ⟨l,_,hl⟩
       rw[hH.sepA l b hl o] at e;cases e
     have hni:∀ b o k n,qnw ρ fm b→H' b o≠some (.int k n):=fun b o k n hb e=>by
      obtain ⟨l,h1,h2⟩:=hb;rw[(hkeep b (hH.lt h2.has)).2 o] at e;unfold Z8 at e;rw[if_pos ⟨l,h1,h2⟩] at e;split at e
      ·cases e
      ·rename_i hne;exact hne _ _ e
     refine hpost ρ (H'.off (qnw ρ fm)) v w' ⟨⟨?_,?_,hH.gone,hH.inj,?_⟩,⟨ce.trans.os,ce.trans.tape,ce.trans.output,ce.trans.size,?_,fun l b h=>.inr ⟨l,h⟩,hle⟩,j4.refl _,H8.refl _ _,?_⟩
     ·intro b o v e;unfold Ice.off at e;split at e
      ·cases e
      ·exact ce.heap.ice b o v e
     ·intro l o ho
      exact (hH.objs l o ho).mono (j4.refl _) hle fun b hb=>(hkeep b (hH.lt hb)).1
     ·intro l b o hb;unfold Ice.off;split
      ·rfl
      ·rename_i hn;rw[(hkeep b (hH.lt hb.has)).2 o];unfold Z8;rw[if_neg hn];exact hH.sep l b o hb
     ·intro b hb hn;refine ⟨(hkeep b hb).1,fun o=>?_⟩
      have hno:¬ qnw ρ fm b:=fun ⟨l,_,hl⟩=>hn l hl.has
      unfold Ice.off;rw[if_neg hno,(hkeep b hb).2 o];unfold Z8;rw[if_neg hno]
     ·
      cases ds2 with
      | nil=>
        obtain ⟨us2,hv2,hr⟩:=hx;exact ⟨us2,hv2,hr⟩
      | cons d1 ds3=>
        cases ds3 with
        | nil=>exact qkn hni d1 (by simpa [WC] using hsh) hx
        | cons d2 ds4=>
          obtain ⟨us2,hv2,hr⟩:=hx;exact ⟨us2,hv2,(YK hni _ hsh (f9.toD (ds:=d1 :: d2 :: ds4) hr)).toV⟩
def qci (f:FuncId) (args:List (Opnd × Bool)) (P:Program):Op→Bool:=KX f args P
theorem q1d {f args} (hcf:Qp B P cf) (hH:HRel ρ H h w) (hE:EnvRel B ds fx ρ H N env a) (hok:qci f args P o.op=true) (e:exec T cf i (.callB f args) (evO env) h=some r):f8 P o a w ρ H h i r:=by
 unfold qci KX at hok;split at hok
 ·rename_i c hop;simp only[Bool.and_eq_true] at hok;obtain ⟨⟨h1,h2⟩,h3⟩:=hok;obtain ⟨vs,e1,e2⟩:=f7 e;refine qpt hcf hE.base hH (qu hE h3 e1) e2 ?_;split at h1
  ·rename_i g hc;simp only[decide_eq_true_eq] at h1;subst h1;unfold execOp;simp only[hop,resolve,hc,Act.eval,Deferred.ofValue];rw[Sem.run_bind];show Result.andThen (.ok _ w) _=_;rw[Result.andThen_ok];simp only[invoke];rw[V6 h2]
   congr 2
   apply Array.toList_inj.1;simp
  ·cases h1
 ·cases hok
end
end Go.Rf
