/- Parts of the proof. -/
import Derived.Test.YtpaeaccmddffjaaGreatDoorRb2
import Derived.Test.YtpaeaccmddffjaaGreatDoorSp10
import Derived.Test.YtpaeaccmddffjaaGreatDoorSp9
import Derived.Test.YtpaeaccmddffjaaGreatDoorSp8
set_option linter.all false
namespace Go.Rf
set_option maxHeartbeats 8000000
def OOk (n:Nat) (ts:List Tok):Prop:=∀ r:Rd,r.ok→r.ts=ts→4 * (ts.length - r.i) + 1≤n→
 (∀ p (acc:List Bl),acc.length≤r.i→j6 T0 X0 r.heap.length v7 (some (.nrm,qb6 r.heap.length r p r.tok.pos acc))=Zi r.heap.length p acc (vY n r))∧(vY n r).fineS r 0
theorem ql6 {r r':Rd} (h:r'.ly=r.ly):r'.heap.length=r.heap.length:=by unfold Rd.heap; rw[h]; cases r.ly <;> rfl
theorem qvi (acc:List Bl) (p:Pl) (l):LW blL acc++[V.d (.agg [.int .i64 p.b,.int .i64 p.g,.int .i64 p.l,.int .i64 p.c,.sl (LD smL l)])]=LW blL (acc++[.mk p l]):=by
 rw[qhj];simp[LW]
theorem qxv {n:Nat} {ts:List Tok} (ihB:BOk n ts) (ihO:OOk n ts):OOk (n + 1) ts:=by
 intro r h ht hn;have hi:r.i < ts.length:=ht ▸ h.i;have hl:=h.n;have a1:=n7 h [111,114] (by simp);unfold vY
 by_cases c1:r.isT [111,114]=true
 case neg=>
  rw[if_neg c1];rw[show r.isT [111,114]=false by simpa using c1,if_neg (by simp)] at a1;refine ⟨fun p acc ha=>?_,KeptS.refl h,Nat.le_refl _⟩;rw[d5 (l:=v7) rfl];cases hly:r.ly
  all_goals
   simp only[Rd.heap,hly,qb6,Zi,Pl.cs,List.append_nil,List.length_cons,List.length_nil,List.cons_append,List.nil_append,Nat.reduceAdd] at a1 ⊢;generalize r.tok=t at *;simp -implicitDefEqProofs (disch:=omega) [G8,a1]
 rw[if_pos c1];rw[c1,if_pos rfl] at a1;have hk:=A4 c1;have hni:=F8 hk;have k1:=Kept.next h;obtain ⟨s1,f1⟩:=ihB r.next k1.ok (k1.ts.trans ht) (by omega);have l1:=k1.ly;have e1:=(Rz.fineS_ly f1).trans l1;rcases hb:jH n r.next with ⟨l,r1⟩ | ⟨e,p,r1⟩
 all_goals
  rw[hb] at s1 f1 e1;have e0:r1.ly=r.ly:=e1;clear e1
 case bad=>
  refine ⟨fun q acc ha=>?_,e0⟩;rw[d5 (l:=v7) rfl];cases hly:r.ly
  all_goals
   simp only[Rd.heap,hly,l1,e0,qb6,Zi,Rz.bind,Rz.out,Pl.cs,i9,List.append_nil,List.length_cons,List.length_nil,List.cons_append,List.nil_append,Nat.reduceAdd] at a1 s1 ⊢;generalize r.tok=t at *;simp -implicitDefEqProofs (disch:=omega) [G8,a1,s1]
 have k2:=k1.s.trans f1.1;have hi2:=f1.2;obtain ⟨lp,f2⟩:=ihO r1 f1.1.ok (k2.ts.trans ht) (by omega);have s2:=r9 f1.1.ok
 have f3:((vY n r1).bind fun bs r2=>(.ok (.mk r.tok.pos l :: bs) r2:Rz (List Bl))).fineS r 0:=by
  have f4:=Rz.fineS_kept f2 k2 (d:=0) (by omega)
  rcases hq:vY n r1 with ⟨bs,r2⟩ | ⟨e,p,r2⟩ <;> rw[hq] at f4 <;> exact f4
 refine ⟨fun p acc ha=>?_,f3⟩;clear f3;have lp:=lp p (acc++[.mk r.tok.pos l]) (by simp; omega)
 have hre:Zi r1.heap.length p (acc++[.mk r.tok.pos l]) (vY n r1)=Zi r1.heap.length p acc ((vY n r1).bind fun bs r2=>(.ok (.mk r.tok.pos l :: bs) r2:Rz (List Bl))):=by
  rcases vY n r1 with ⟨bs,r2⟩ | ⟨e,p,r2⟩
  ·simp[Zi,Rz.bind]
  ·rfl
 rw[hre,ql6 e0] at lp;refine Eq.trans ?_ lp;clear lp hre
 have ha2:acc.length≤5000:=by rw[ht] at hl; omega
 rw[d5 (l:=v7) rfl];cases hly:r.ly
 all_goals
  simp only[Rd.heap,hly,l1,e0,qb6,Rz.out,lsO,Tok.cs,Pl.cs,List.length_append,List.length_cons,List.length_nil,List.cons_append,List.nil_append,Nat.reduceAdd] at a1 s1 s2 ⊢;generalize r1.tok=t1 at *;generalize r.tok=t at *;simp (maxSteps:=2000000) -implicitDefEqProofs (disch:=omega) [G8,a1,s1,s2,qvi]
theorem qwj {n:Nat} {ts:List Tok} (hnum:∀ t∈ts,t.kind=2→qi t.text) (ihB:BOk n ts) (ihO:OOk n ts):SOk (n + 1) ts:=by
 intro r h ht hn;have hi:r.i < ts.length:=ht ▸ h.i;have k1:=Kept.next h
 have nx:∀ {s},r.isT s=true→r.next.i=r.i + 1:=fun c=>F8 (A4 c)
 have blk:∀ r1:Rd,KeptS r r1→r.i + 1≤r1.i→d6 T0 X0 B9 [.ptr (.b 0) 0 0] r1.heap=(jH n r1).out lsO∧(jH n r1).fineS r 1∧(jH n r1).st.ly=r.ly:=fun r1 k hle=>by
  obtain ⟨s1,f1⟩:=ihB r1 k.ok (k.ts.trans ht) (by omega);exact ⟨s1,Rz.fineS_kept f1 k (by omega),(Rz.fineS_ly f1).trans k.ly⟩
 have fin:∀ {b:Rz (Option Sm)},b.fineS r 1→b.fineS r 0 ∧ ∀ s r',b = .ok (some s) r'→r.i + 1≤r'.i:=fun {b} f=>⟨by
  rcases b with ⟨x,r'⟩ | ⟨e,p,r'⟩
  ·exact ⟨f.1,by have:=f.2; omega⟩
  ·exact f,fun s r' e=>by rw[e] at f; exact f.2⟩
 have mp:∀ {α:Type} {b:Rz α} (g:α→Option Sm),b.fineS r 1→(b.bind fun x r1=>(.ok (g x) r1:Rz (Option Sm))).fineS r 1:=fun {α b} g f=>by
  rcases b with ⟨x,r'⟩ | ⟨e,p,r'⟩ <;> exact f
 have nt:∀ {s},¬ r.isT s=true→r.isT s=false:=fun h=>by simpa using h
 unfold kC
 by_cases c0:r.isName=true
 ·rw[if_pos c0]
  have hk:r.tok.kind≠0:=by unfold Rd.isName at c0; simp at c0; omega
  obtain ⟨s1,f1⟩:=qnp h hk (by rw[ht]; exact hnum) r.tok.pos;exact ⟨q0t h c0 s1 (Rz.fineS_ly f1),fin (mp _ f1)⟩
 rw[if_neg c0]
 have hn0:r.isName=false:=by simpa using c0
 by_cases c1:r.isT [115,107,105,112]=true
 ·rw[if_pos c1];exact ⟨qwk h hn0 c1,fin (Rz.fineS_kept (Jp k1.ok _) k1.s (by have:=nx c1; omega))⟩
 rw[if_neg c1]
 by_cases c2:r.isT [115,116,111,112]=true
 ·rw[if_pos c2];exact ⟨qwi h hn0 (nt c1) c2,fin (Rz.fineS_kept (Jp k1.ok _) k1.s (by have:=nx c2; omega))⟩
 rw[if_neg c2]
 by_cases c3:r.isT [109,97,114,107]=true
 ·rw[if_pos c3];obtain ⟨s1,f1⟩:=qt9 k1.ok r.tok.pos;exact ⟨qwm h hn0 (nt c1) (nt c2) c3 s1 ((Rz.fineS_ly f1).trans k1.ly),fin (mp _ (Rz.fineS_kept f1 k1.s (by have:=nx c3; omega)))⟩
 rw[if_neg c3]
 by_cases c4:r.isT [99,104,111,111,115,101]=true
 ·rw[if_pos c4];obtain ⟨s1,f1,e1⟩:=blk r.next k1.s (by have:=nx c4; omega)
  have hO:∀ l r1,jH n r.next = .ok l r1→KeptS r r1∧r.i + 1≤r1.i∧(vY n r1).fineS r1 0∧j6 T0 X0 r.heap.length v7 (some (.nrm,qb6 r.heap.length r1 r.tok.pos r1.tok.pos [.mk r.tok.pos l]))=Zi r.heap.length r.tok.pos [.mk r.tok.pos l] (vY n r1):=fun l r1 hb=>by
   rw[hb] at f1;obtain ⟨lp,f2⟩:=ihO r1 f1.1.ok (f1.1.ts.trans ht) (by have:=f1.2; omega);have lp:=lp r.tok.pos [.mk r.tok.pos l] (by have:=f1.2; simp; omega);rw[ql6 f1.1.ly] at lp;exact ⟨f1.1,f1.2,f2,lp⟩
  refine ⟨qok h hn0 (nt c1) (nt c2) (nt c3) c4 s1 e1 fun l r1 hb=>?_,fin ?_⟩
  ·obtain ⟨g1,g2,g3,g4⟩:=hO l r1 hb;exact ⟨g1.ok,(Rz.fineS_ly g3).trans g1.ly,g4⟩
  ·rcases hb:jH n r.next with ⟨l,r1⟩ | ⟨e,p,r1⟩
   ·obtain ⟨g1,g2,g3,g4⟩:=hO l r1 hb;have f4:=Rz.fineS_kept g3 g1 (d:=1) (by omega);exact mp (fun bs=>some (.choose r.tok.pos (.mk r.tok.pos l :: bs))) f4
   ·rw[hb] at f1; exact f1
 rw[if_neg c4]
 by_cases c5:r.isT [108,111,111,112]=true
 ·rw[if_pos c5];obtain ⟨s1,f1,e1⟩:=blk r.next k1.s (by have:=nx c5; omega);exact ⟨qwn h hn0 (nt c1) (nt c2) (nt c3) (nt c4) c5 s1 e1,fin (mp _ f1)⟩
 rw[if_neg c5]
 have cnd:∀ {s},r.isT s=true→d6 T0 X0 W0 [.ptr (.b 0) 0 0] r.next.heap=r.next.cond.out cDs∧r.next.cond.st.ly=r.ly∧r.next.cond.fineS r 1:=fun c=>by
  obtain ⟨s1,f1⟩:=quy k1.ok (by rw[k1.ts,ht]; exact hnum);exact ⟨s1,(Rz.fine_ly f1).trans k1.ly,Rz.fineS_kept f1.s k1.s (by have:=nx c; omega)⟩
 by_cases c6:r.isT [105,102]=true
 ·rw[if_pos c6];obtain ⟨s1,e1,f1⟩:=cnd c6
  have hB:∀ c r1,r.next.cond = .ok c r1→KeptS r r1∧r.i + 1≤r1.i:=fun c r1 hb=>by rw[hb] at f1; exact f1
  have hE:∀ l r1 r2,jH n r1 = .ok l r2→KeptS r r1→r.i + 1≤r1.i→KeptS r r2∧r.i + 1≤r2.i∧(r2.isT [101,108,115,101]=true→KeptS r r2.next∧r.i + 1≤r2.next.i):=fun l r1 r2 hb k hle=>by
   obtain ⟨_,f2,_⟩:=blk r1 k hle;rw[hb] at f2;have k3:=Kept.next f2.1.ok;exact ⟨f2.1,f2.2,fun _=>⟨f2.1.trans k3.s,by have:=k3.i; have:=f2.2; omega⟩⟩
  refine ⟨q6s h hn0 (nt c1) (nt c2) (nt c3) (nt c4) (nt c5) c6 s1 e1 fun c r1 hb=>?_,fin ?_⟩
  ·obtain ⟨g1,g2⟩:=hB c r1 hb;obtain ⟨s2,f2,e2⟩:=blk r1 g1 g2;refine ⟨s2,e2,fun l r2 hb2=>?_⟩;obtain ⟨g3,g4,g5⟩:=hE l r1 r2 hb2 g1 g2
   exact ⟨g3.ok,fun c=>by
    obtain ⟨g6,g7⟩:=g5 c;obtain ⟨s3,f3,e3⟩:=blk r2.next g6 g7
    exact ⟨s3,e3⟩⟩
  ·rcases hb:r.next.cond with ⟨c,r1⟩ | ⟨e,p,r1⟩
   ·obtain ⟨g1,g2⟩:=hB c r1 hb;obtain ⟨s2,f2,e2⟩:=blk r1 g1 g2;simp only[Rz.bind];rcases hb2:jH n r1 with ⟨l,r2⟩ | ⟨e,p,r2⟩
    ·obtain ⟨g3,g4,g5⟩:=hE l r1 r2 hb2 g1 g2;simp only[];split
     ·rename_i c;obtain ⟨g6,g7⟩:=g5 c;exact mp _ (blk r2.next g6 g7).2.1
     ·exact ⟨g3,g4⟩
    ·rw[hb2] at f2; exact f2
   ·rw[hb] at f1; exact f1
 rw[if_neg c6]
 by_cases c7:r.isT [119,104,105,108,101]=true
 ·rw[if_pos c7];obtain ⟨s1,e1,f1⟩:=cnd c7
  have hB:∀ c r1,r.next.cond = .ok c r1→KeptS r r1∧r.i + 1≤r1.i:=fun c r1 hb=>by rw[hb] at f1; exact f1
  refine ⟨qtk h hn0 (nt c1) (nt c2) (nt c3) (nt c4) (nt c5) (nt c6) c7 s1 e1 fun c r1 hb=>?_,fin ?_⟩
  ·obtain ⟨g1,g2⟩:=hB c r1 hb;obtain ⟨s2,f2,e2⟩:=blk r1 g1 g2;exact ⟨s2,e2⟩
  ·rcases hb:r.next.cond with ⟨c,r1⟩ | ⟨e,p,r1⟩
   ·obtain ⟨g1,g2⟩:=hB c r1 hb;exact mp _ (blk r1 g1 g2).2.1
   ·rw[hb] at f1; exact f1
 rw[if_neg c7];exact ⟨qwl h hn0 (nt c1) (nt c2) (nt c3) (nt c4) (nt c5) (nt c6) (nt c7),⟨KeptS.refl h,Nat.le_refl _⟩,fun s r' e=>by cases e⟩
theorem YU {ts:List Tok} (hnum:∀ t∈ts,t.kind=2→qi t.text):∀ n,ROk n ts∧BOk n ts∧OOk n ts∧SOk n ts
 | 0=>⟨fun _ _ _ h=>by omega,fun _ _ _ h=>by omega,fun _ _ _ h=>by omega,fun _ _ _ h=>by omega⟩
 | n + 1=>by
   obtain ⟨h1,h2,h3,h4⟩:=YU hnum n;exact ⟨qw6 h4 h1,qz0 h1,qxv h2 h3,qwj hnum h2 h3⟩
def bgL:Lst Bg:=⟨fun b=>.agg b.cs,⟨4,56⟩,fun b=>by simp[Bg.cs,wt,wts],fun b=>by simp[V.cells,Bg.cs],by decide⟩
@[simp] theorem wl_bg (l):(wl (LD bgL l)≤56)=True:=QT bgL l
@[simp] theorem fit_bg {n:Nat} (l) (h:n≤1099511627776):(n * wl (LD bgL l)≤w8)=True:=qdf bgL l (by decide) h
theorem Wy (l:List Bg) (b:Bg):LW bgL l++[.d (.agg b.cs)]=LW bgL (l++[b]):=wq bgL l b
@[simp] theorem Bg.cs_len (b:Bg):b.cs.length=4:=rfl
theorem zbp (b:Bg):LW bgL [b]=[.d (.agg b.cs)]:=rfl
def PX (k:Nat) (r:Rd) (p:Pl) (bs:List Bg) (b:D):List Obj:=match k with
 | 0=>[.arr [.agg [.d (.sl (LT r.ts)),.d (.int .i64 r.i),.d .nils,.d (.int .i64 r.op),.map (.b 2)]] ⟨5,0⟩,.arr [.ptr (.b 3) 0 0] ⟨1,0⟩,.map (ME r.ms),.arr [.agg [.d (.int .i64 p.b),.d (.int .i64 p.g),.d (.int .i64 p.l),.d (.int .i64 p.c),.ref (.b 4) ⟨4,56⟩ 0 0,.d b]] ⟨6,0⟩,.arr [] ⟨4,56⟩]
 | 1=>[.arr [.agg [.d (.sl (LT r.ts)),.d (.int .i64 r.i),.ref (.b 5) ⟨1,16⟩ 0 r.vs.length,.d (.int .i64 r.op),.map (.b 2)]] ⟨5,0⟩,.arr [.ptr (.b 3) 0 0] ⟨1,0⟩,.map (ME r.ms),.arr [.agg [.d (.int .i64 p.b),.d (.int .i64 p.g),.d (.int .i64 p.l),.d (.int .i64 p.c),.ref (.b 4) ⟨4,56⟩ 0 0,.d b]] ⟨6,0⟩,.arr [] ⟨4,56⟩,.arr (SV r.vs) ⟨1,16⟩]
 | _=>[.arr [.agg [.d (.sl (LT r.ts)),.d (.int .i64 r.i),.ref (.b 5) ⟨1,16⟩ 0 r.vs.length,.d (.int .i64 r.op),.map (.b 2)]] ⟨5,0⟩,.arr [.ptr (.b 3) 0 0] ⟨1,0⟩,.map (ME r.ms),.arr [.agg [.d (.int .i64 p.b),.d (.int .i64 p.g),.d (.int .i64 p.l),.d (.int .i64 p.c),.ref (.b 6) ⟨4,56⟩ 0 bs.length,.d b]] ⟨6,0⟩,.dead,.arr (SV r.vs) ⟨1,16⟩,.arr (LW bgL bs) ⟨4,56⟩]
def kOf (bs:List Bg):Nat:=match bs with | []=>0 | _=>2
def Rd.comma (r:Rd) (bs:List Bg):Rz Unit:=match bs with
 | []=>.ok () r
 | _=>if r.isT [44]=true then .ok () r.next else .bad 80 r.tok.pos r
def Rd.declare (r:Rd):Rz Bg:=match r.newName with
 | some e=>.bad e r.tok.pos r
 | none=>(r.next.push r.tok.text).value r.tok.text
def T7:Nat→Rd→List Bg→Rz (List Bg)
 | 0,r,_=>.bad 80 g9 r
 | n + 1,r,bs=>if r.isT [59]=true then .ok bs r.next else (r.comma bs).bind fun _ r1=>r1.declare.bind fun b r2=>T7 n r2 (bs++[b])
structure DOk (r:Rd) (ts:List Tok) (bs:List Bg):Prop where
 ok:r.ok
 ts:r.ts=ts
 own:r.own bs.isEmpty
 vs:r.vs=bs.map Bg.name
theorem qbf {q:Rd} (h:q.ok) (s):(q.value s).fine q 0:=by
 have num:∀ (w:Rd) (p:Bool),Kept q w→(w.num p s).fine q 0:=fun w p k=>by
  unfold Rd.num;split
  ·have k2:=k.trans (Kept.next k.ok);exact ⟨k2,k2.i⟩
  ·exact k.ly
 unfold Rd.value;have k1:=Kept.next h;split
 ·split
  ·exact num _ _ (k1.trans (Kept.next k1.ok))
  ·exact num _ _ k1
 ·exact ⟨Kept.refl h,Nat.le_refl _⟩
theorem KE {q r':Rd} {s b} (h:q.value s = .ok b r'):b.name=s:=by
 unfold Rd.value Rd.num at h
 repeat' split at h
 all_goals first | (cases h; rfl) | cases h
theorem ke {r:Rd} (h:r.newName=none):r.isName=true∧r.vs.length < 8:=by
 unfold Rd.newName at h;split at h
 ·cases h
 ·rename_i h0;split at h
  ·cases h
  ·split at h
   ·cases h
   ·split at h
    ·exact ⟨by simpa using h0,by assumption⟩
    ·cases h
theorem kh {r:Rd} (h:r.isName=true):r.tok.kind=1:=by
 unfold Rd.isName at h;simp only[Bool.and_eq_true,decide_eq_true_eq] at h;exact h.1
theorem wT {r r2:Rd} {ts bs b} (h:DOk r ts bs) (hd:r.declare = .ok b r2):DOk r2 ts (bs++[b])∧r.i + 1≤r2.i∧r2.ly=none:=by
 unfold Rd.declare at hd;split at hd
 ·cases hd
 rename_i hn;obtain ⟨h1,h2⟩:=ke hn;have hk:=kh h1;have k1:=Kept.next h.ok;have hq:=Jq k1.ok (by rw[k1.vs]; exact h2) (Q3 h.ok);have f:=qbf hq r.tok.text;rw[hd] at f;obtain ⟨f1,f2⟩:=f;refine ⟨⟨f1.ok,f1.ts.trans (k1.ts.trans h.ts),?_,?_⟩,?_,f1.ly⟩
 ·have:(bs++[b]).isEmpty=false:=by cases bs <;> rfl
  unfold Rd.own;rw[this,if_neg (by simp)];exact f1.ly
 ·rw[f1.vs];show r.next.vs++[r.tok.text]=_;rw[k1.vs,h.vs];simp[KE hd]
 ·have:=f1.i;have hi:=F8 (r:=r) (by omega);have:(r.next.push r.tok.text).i≤r2.i:=f1.i;have e:(r.next.push r.tok.text).i=r.next.i:=rfl;omega
theorem Yx {r:Rd} {ts bs} (h:DOk r ts bs) (hnum:∀ t∈ts,t.kind=2→qi t.text) :
 (∃ e,r.newName=some e∧d6 T0 X0 P0 [.ptr (.b 0) 0 0] r.heap=some (.pan (.d (i9 e r.tok.pos)) r.heap)∧r.declare = .bad e r.tok.pos r) ∨
 (d6 T0 X0 P0 [.ptr (.b 0) 0 0] r.heap=outN bs.isEmpty r.declare∧r.declare.st.ly=none):=by
 unfold Rd.declare
 cases hn:r.newName with
 | some e=>exact .inl ⟨e,rfl,qzp h.ok hn,rfl⟩
 | none=>
   refine .inr ⟨q25 h.ok hn h.own (by rw[h.ts]; exact hnum),?_⟩;obtain ⟨h1,h2⟩:=ke hn;have k1:=Kept.next h.ok;exact Rz.fine_ly (qbf (Jq k1.ok (by rw[k1.vs]; exact h2) (Q3 h.ok)) r.tok.text)
def q27 (p:Pl):Rz (List Bg)→Option (Ex × St)→Prop
 | .ok bs r,x=>x=some (.exit 0,⟨[(0,.ptr (.b 0) 0 0),(1,.ptr (.b 1) 0 0)],PX (kOf bs) r p bs (.sl [])⟩)
 | .bad e q r,x=>∃ k bs,x=some (.pan (.d (i9 e q)),⟨[],PX k r p bs (.sl [])⟩)
def dSt (r:Rd) (p:Pl) (bs:List Bg):St:=⟨[(0,.ptr (.b 0) 0 0),(1,.ptr (.b 1) 0 0),(3,.d (.bool (!r.isT [59])))],PX (kOf bs) (if r.isT [59]=true then r.next else r) p bs (.sl [])⟩
theorem qqf {ts:List Tok} (hnum:∀ t∈ts,t.kind=2→qi t.text) (p:Pl):∀ n (r:Rd) (bs:List Bg),DOk r ts bs→ts.length - r.i < n→bs.length≤r.i→
 q27 p (T7 n r bs) (j6 T0 X0 5 qf (some (.nrm,dSt r p bs))):=by
 intro n
 induction n with
 | zero=>intro r bs _ h; omega
 | succ n ih=>
   intro r bs h hn hb;have hi:r.i < ts.length:=h.ts ▸ h.ok.i;have hl:=h.ok.n;rw[d5 (l:=qf) rfl];unfold T7 dSt
   by_cases c0:r.isT [59]=true
   ·rw[if_pos c0,if_pos c0,c0]
    cases bs with
    | nil=>
      show _=_;simp only[kOf,PX];simp (maxSteps:=4000000) -implicitDefEqProofs (disch:=omega) [x9]
    | cons b bs=>
      show _=_;simp only[kOf,PX];simp (maxSteps:=4000000) -implicitDefEqProofs (disch:=omega) [x9]
   rw[if_neg c0,if_neg c0,show r.isT [59]=false by simpa using c0]
   have go:∀ (r1:Rd) (b:Bg) (r2:Rd),DOk r1 ts bs→r.i≤r1.i→r1.declare = .ok b r2→∃ a,d6 T0 X0 jE [.ptr (.b 0) 0 0,.d (.str [59])] r2.heap=some (.ret [.d (.bool (r2.isT [59]))] a)∧a=(if r2.isT [59]=true then r2.next else r2).heap ∧
    (if r2.isT [59]=true then r2.next else r2).ly=none∧r2.ly=none∧q27 p (T7 n r2 (bs++[b])) (j6 T0 X0 5 qf (some (.nrm,dSt r2 p (bs++[b])))):=fun r1 b r2 h1 hle hd=>by
    obtain ⟨g1,g2,g3⟩:=wT h1 hd;refine ⟨_,n7 g1.ok [59] (by simp),rfl,?_,g3,ih r2 (bs++[b]) g1 (by omega) (by simp; omega)⟩;split
    ·exact (lys r2).1.trans g3
    ·exact g3
   have hb5:bs.length≤5000:=by rw[h.ts] at hl; omega
   cases bs with
   | nil=>
     obtain ⟨o1,o2⟩:r.ly=some .nils∧r.vs=[]:=by have:=h.own; unfold Rd.own at this; simpa using this
     simp only[Rd.comma,Rz.bind];rcases Yx h hnum with ⟨e,_,s1,hd⟩ | ⟨s1,e1⟩
     ·rw[hd];refine ⟨0,[],?_⟩;simp only[Rd.heap,o1,kOf,PX,i9] at s1 ⊢;simp (maxSteps:=4000000) -implicitDefEqProofs (disch:=omega) [x9,s1]
     rcases hd:r.declare with ⟨b,r2⟩ | ⟨e,q,r2⟩
     all_goals rw[hd] at s1 e1
     ·obtain ⟨a,s2,ha,e2,e3,lp⟩:=go r b r2 h (Nat.le_refl _) hd;simp only[];refine (congrArg (q27 p (T7 n r2 ([]++[b]))) ?_).mpr lp;simp only[dSt];generalize (if r2.isT [59]=true then r2.next else r2)=r3 at *;subst ha;simp only[Rd.heap,Rd.heapN,o1,e2,e3,kOf,PX,outN,List.isEmpty_nil,List.nil_append,List.length_cons,List.length_nil,Nat.zero_add,zbp] at s1 s2 ⊢;simp (maxSteps:=4000000) -implicitDefEqProofs (disch:=omega) [x9,s1,s2,Wy]
     ·refine ⟨1,[],?_⟩;have e3:r2.ly=none:=e1;simp only[Rd.heap,Rd.heapN,o1,kOf,PX,outN,i9,List.isEmpty_nil] at s1 ⊢;simp (maxSteps:=4000000) -implicitDefEqProofs (disch:=omega) [x9,s1]
   | cons b0 bs0=>
     have hbs:(b0 :: bs0).isEmpty=false:=rfl;have hk2:kOf (b0 :: bs0)=2:=rfl
     have hk3:∀ b:Bg,kOf (b0 :: bs0++[b])=2:=fun _=>rfl
     have hcm:r.comma (b0 :: bs0)=if r.isT [44]=true then .ok () r.next else .bad 80 r.tok.pos r:=rfl
     have hlen:0 < (b0 :: bs0).length:=by simp
     rw[hcm,hk2];generalize b0 :: bs0=bs at *
     have o1:r.ly=none:=by have:=h.own; unfold Rd.own at this; rw[hbs] at this; simpa using this
     by_cases c1:r.isT [44]=true
     case neg=>
      rw[if_neg c1];have s0:=S0 h.ok (s:=[44]) (by simp) (by simpa using c1);refine ⟨2,bs,?_⟩;simp only[Rd.heap,o1,PX,i9] at s0 ⊢;generalize r.tok=t at *;simp (maxSteps:=4000000) -implicitDefEqProofs (disch:=omega) [x9,s0]
     rw[if_pos c1];have s0:=X9 h.ok (by simp) c1;have k1:=Kept.next h.ok;have h1:DOk r.next ts bs:=⟨k1.ok,k1.ts.trans h.ts,by have:=h.own; unfold Rd.own at this ⊢; rw[hbs] at this ⊢; simpa [k1.ly] using this,k1.vs.trans h.vs⟩;have o2:r.next.ly=none:=k1.ly.trans o1;have hle:=k1.i;simp only[Rz.bind];generalize r.next=q at *;rcases Yx h1 hnum with ⟨e,_,s1,hd⟩ | ⟨s1,e1⟩
     ·rw[hd];refine ⟨2,bs,?_⟩;simp only[Rd.heap,o1,o2,PX,i9] at s0 s1 ⊢;generalize q.tok=t at *;simp (maxSteps:=4000000) -implicitDefEqProofs (disch:=omega) [x9,s0,s1]
     rw[hbs] at s1;rcases hd:q.declare with ⟨b,r2⟩ | ⟨e,q2,r2⟩
     all_goals rw[hd] at s1 e1
     ·obtain ⟨a,s2,ha,e2,e3,lp⟩:=go q b r2 h1 hle hd;simp only[];refine (congrArg (q27 p (T7 n r2 (bs++[b]))) ?_).mpr lp;simp only[dSt,hk3];generalize (if r2.isT [59]=true then r2.next else r2)=r3 at *;subst ha;simp only[Rd.heap,Rd.heapN,o1,o2,e2,e3,PX,outN,List.length_append,List.length_cons,List.length_nil,Nat.zero_add] at s0 s1 s2 ⊢;simp (maxSteps:=4000000) -implicitDefEqProofs (disch:=omega) [x9,s0,s1,s2,Wy]
     ·refine ⟨2,bs,?_⟩;have e3:r2.ly=none:=e1;simp only[Rd.heap,Rd.heapN,o1,o2,PX,outN,i9] at s0 s1 ⊢;simp (maxSteps:=4000000) -implicitDefEqProofs (disch:=omega) [x9,s0,s1]
structure Pg where
 at_:Pl
 bs:List Bg
 body:List Sm
def Rd.prog (r:Rd):Rz Pg:=
 if r.isT [118,97,114,115]=true then (T7 (r.ts.length + 1) r.next []).bind fun bs r2=>(qT (4 * r2.ts.length + 2) r2).bind fun l r3=>.ok ⟨r.tok.pos,bs,l⟩ r3 else .bad 80 r.tok.pos r
def p1R:Rz Pg→Option CRes→Prop
 | .ok g r,x=>x=some (.ret [] (PX (kOf g.bs) r g.at_ g.bs (.sl (LD smL g.body))))
 | .bad e q _,x=>∃ k r p bs,x=some (.pan (.d (i9 e q)) (PX k r p bs (.sl [])))
theorem Jd {ts:List Tok}:∀ n (r:Rd) (bs bs':List Bg) (r':Rd),DOk r ts bs→T7 n r bs = .ok bs' r'→DOk r' ts bs'
 | 0,_,_,_,_,_,e=>by cases e
 | n + 1,r,bs,bs',r',h,e=>by
   unfold T7 at e;have k1:=Kept.next h.ok;have hnx:DOk r.next ts bs:=⟨k1.ok,k1.ts.trans h.ts,by have:=h.own; unfold Rd.own at this ⊢; rw[k1.ly,k1.vs]; exact this,k1.vs.trans h.vs⟩;split at e
   ·cases e; exact hnx
   ·have hc:∀ r1,r.comma bs = .ok () r1→DOk r1 ts bs:=fun r1 hr=>by
     unfold Rd.comma at hr;split at hr
     ·cases hr; exact h
     ·split at hr
      ·cases hr; exact hnx
      ·cases hr
    cases hr:r.comma bs with
    | bad _ q r1=>rw[hr] at e; cases e
    | ok u r1=>
      rw[hr] at e;simp only[Rz.bind] at e
      cases hd:r1.declare with
      | bad _ q r2=>rw[hd] at e; cases e
      | ok b r2=>
        rw[hd] at e;exact Jd n r2 _ bs' r' (wT (hc r1 hr) hd).1 e
theorem qxu {r:Rd} {bs:List Bg} (h:r.own bs.isEmpty):r.ly=if kOf bs=0 then some .nils else none:=by
 unfold Rd.own at h
 cases bs with
 | nil=>simpa [kOf] using h.1
 | cons b bs=>simpa [kOf] using h
theorem qt1 {r:Rd} {ts:List Tok} (h:DOk r ts []) (hnum:∀ t∈ts,t.kind=2→qi t.text) :
 p1R r.prog (d6 T0 X0 qA [.ptr (.b 0) 0 0,.ptr (.b 1) 0 0] (PX 0 r g9 [] (.sl []))):=by
 rw[c9 (af:=K9) rfl rfl rfl];have s0:=r9 h.ok
 obtain ⟨o1,o2⟩:r.ly=some .nils∧r.vs=[]:=by have:=h.own; unfold Rd.own at this; simpa using this
 unfold Rd.prog
 by_cases c1:r.isT [118,97,114,115]=true
 case neg=>
  rw[if_neg c1];have s1:=S0 h.ok (s:=[118,97,114,115]) (by simp) (by simpa using c1);refine ⟨0,r,r.tok.pos,[],?_⟩;simp only[Rd.heap,o1,PX,i9,g9,Tok.cs] at s0 s1 ⊢;generalize r.tok=t at *;simp -implicitDefEqProofs (disch:=omega) [K9,s0,s1]
 rw[if_pos c1];have s1:=X9 h.ok (by simp) c1;have k1:=Kept.next h.ok;have h1:DOk r.next ts []:=⟨k1.ok,k1.ts.trans h.ts,by have:=h.own; unfold Rd.own at this ⊢; rw[k1.ly,k1.vs]; exact this,k1.vs.trans h.vs⟩;have l1:=k1.ly.trans o1;have s2:=n7 k1.ok [59] (by simp);have lp:=qqf hnum r.tok.pos (r.ts.length + 1) r.next [] h1 (by rw[h.ts]; omega) (Nat.zero_le _)
 have e3:(if r.next.isT [59]=true then r.next.next else r.next).ly=some .nils:=by
  split
  ·exact (lys r.next).1.trans l1
  ·exact l1
 unfold dSt at lp;generalize (if r.next.isT [59]=true then r.next.next else r.next)=r3 at *;rcases hd:T7 (r.ts.length + 1) r.next [] with ⟨bs,r4⟩ | ⟨e,q,r4⟩
 all_goals rw[hd] at lp
 case bad=>
  obtain ⟨k,bs,lp⟩:=lp;refine ⟨k,r4,r.tok.pos,bs,?_⟩;rcases k with _ | _ | k
  all_goals
   simp only[Rd.heap,o1,l1,e3,kOf,PX,i9,g9,Tok.cs] at s0 s1 s2 lp ⊢;generalize r.tok=t at *;simp -implicitDefEqProofs (disch:=omega) [K9,s0,s1,s2,lp]
 have h4:=Jd _ _ _ _ _ h1 hd;obtain ⟨hR,_,_,_⟩:=YU hnum (4 * r4.ts.length + 2);have s4:=qkz hR h4.ok h4.ts (by rw[h4.ts]; omega);have f4:=(hR r4 h4.ok h4.ts (by rw[h4.ts]; omega)).2;have e4:=Rz.fineS_ly f4;have lp:_=_:=lp;have l4:=qxu h4.own;simp only[Rz.bind];rcases hb:qT (4 * r4.ts.length + 2) r4 with ⟨l,r5⟩ | ⟨e,q,r5⟩
 all_goals
  rw[hb] at s4 e4;have e5:=Eq.trans e4 l4
  have e6:r5.ly=if kOf bs=0 then some .nils else none:=e5
  clear e5 e4 f4
 ·show _=_
  cases bs with
  | nil=>
    have e7:r5.ly=some .nils:=e6;have l5:r4.ly=some .nils:=l4;simp only[Rd.heap,o1,l1,e3,e7,l5,kOf,PX,Rz.out,lsO,g9,Tok.cs] at s0 s1 s2 s4 lp ⊢;generalize r.tok=t at *;simp (maxSteps:=4000000) -implicitDefEqProofs (disch:=omega) [K9,s0,s1,s2,s4,lp]
  | cons b0 bs0=>
    have e7:r5.ly=none:=e6;have l5:r4.ly=none:=l4;have hk2:kOf (b0 :: bs0)=2:=rfl;have hk0:kOf ([]:List Bg)=0:=rfl;rw[hk2] at lp ⊢;rw[hk0] at lp;generalize b0 :: bs0=bs at *;simp only[Rd.heap,o1,l1,e3,e7,l5,PX,Rz.out,lsO,g9,Tok.cs] at s0 s1 s2 s4 lp ⊢;generalize r.tok=t at *;simp (maxSteps:=4000000) -implicitDefEqProofs (disch:=omega) [K9,s0,s1,s2,s4,lp]
 ·refine ⟨kOf bs,r5,r.tok.pos,bs,?_⟩
  cases bs with
  | nil=>
    have e7:r5.ly=some .nils:=e6;have l5:r4.ly=some .nils:=l4;simp only[Rd.heap,o1,l1,e3,e7,l5,kOf,PX,Rz.out,i9,g9,Tok.cs] at s0 s1 s2 s4 lp ⊢;generalize r.tok=t at *;simp (maxSteps:=4000000) -implicitDefEqProofs (disch:=omega) [K9,s0,s1,s2,s4,lp]
  | cons b0 bs0=>
    have e7:r5.ly=none:=e6;have l5:r4.ly=none:=l4;have hk2:kOf (b0 :: bs0)=2:=rfl;have hk0:kOf ([]:List Bg)=0:=rfl;rw[hk2] at lp ⊢;rw[hk0] at lp;generalize b0 :: bs0=bs at *;simp only[Rd.heap,o1,l1,e3,e7,l5,PX,Rz.out,i9,g9,Tok.cs] at s0 s1 s2 s4 lp ⊢;generalize r.tok=t at *;simp (maxSteps:=4000000) -implicitDefEqProofs (disch:=omega) [K9,s0,s1,s2,s4,lp]
@[simp] theorem q0v (l e j):zO (.d .nilp) 0 (.ptr l e j)=some (.ptr l e j):=rfl
@[simp] theorem za3:V.cells (.d .nils)=[.d .nils]:=rfl
def Rz.nz {α:Type}:Rz α→Prop
 | .ok _ _=>True
 | .bad e _ _=>e≠0
theorem Rz.nz_bind {α β:Type} {b:Rz α} {f:α→Rd→Rz β} (h:b.nz) (g:∀ x r,(f x r).nz):(b.bind f).nz:=by
 cases b with
 | ok x r=>exact g x r
 | bad e p r=>exact h
theorem qht (r:Rd):r.sum.nz:=by
 unfold Rd.sum
 cases h:rd r.fuel .s r with
 | ok x r'=>trivial
 | bad e p r'=>exact q1m _ _ _ _ _ _ h
theorem qav {α:Type} (r:Rd) (x:α):(r.semi x).nz:=by unfold Rd.semi; split; trivial; exact (by decide:(80:Int)≠0)
theorem qsh (r:Rd):r.cond.nz:=by
 unfold Rd.cond
 refine Rz.nz_bind (qht r) fun x r1=>?_
 split
 ·exact Rz.nz_bind (qht _) fun _ _=>trivial
 ·split
  ·exact Rz.nz_bind (qht _) fun _ _=>trivial
  ·exact (by decide:(80:Int)≠0)
theorem qvc (r:Rd) (p:Pl):(r.assign p).nz:=by
 unfold Rd.assign;split
 ·exact (by decide:(81:Int)≠0)
 ·split
  ·refine Rz.nz_bind ?_ fun _ _=>qav _ _
   unfold Rd.expr;split
   ·trivial
   ·exact Rz.nz_bind (qht _) fun _ _=>trivial
  ·exact (by decide:(80:Int)≠0)
theorem q1z (r:Rd) (p:Pl):(r.mark p).nz:=by
 unfold Rd.mark;split
 ·exact (by decide:(80:Int)≠0)
 ·split
  ·exact (by decide:(42:Int)≠0)
  ·split
   ·exact (by decide:(82:Int)≠0)
   ·exact qav _ _
theorem q17 {r:Rd} {s e} (h:r.into s=some e):e≠0:=by
 unfold Rd.into at h;split at h
 ·split at h
  ·cases h
  ·cases h; decide
 ·cases h; decide
theorem qz6:∀ n,(∀ r,(qT n r).nz)∧(∀ r,(jH n r).nz)∧(∀ r,(vY n r).nz)∧(∀ r,(kC n r).nz)
 | 0=>⟨fun _=>(by decide:(80:Int)≠0),fun _=>(by decide:(80:Int)≠0),fun _=>(by decide:(80:Int)≠0),fun _=>(by decide:(80:Int)≠0)⟩
 | n + 1=>by
   obtain ⟨h1,h2,h3,h4⟩:=qz6 n;refine ⟨fun r=>?_,fun r=>?_,fun r=>?_,fun r=>?_⟩
   ·unfold qT;split
    ·refine Rz.nz_bind (h4 r) fun o r1=>?_
     cases o with
     | none=>trivial
     | some s=>exact Rz.nz_bind (h1 _) fun _ _=>trivial
    ·trivial
   ·unfold jH;split
    ·rename_i e hin; exact q17 hin
    ·refine Rz.nz_bind (h1 _) fun _ _=>?_
     split
     ·trivial
     ·exact (by decide:(80:Int)≠0)
   ·unfold vY;split
    ·exact Rz.nz_bind (h2 _) fun _ _=>Rz.nz_bind (h3 _) fun _ _=>trivial
    ·trivial
   ·unfold kC;split
    ·exact Rz.nz_bind (qvc _ _) fun _ _=>trivial
    split
    ·exact qav _ _
    split
    ·exact qav _ _
    split
    ·exact Rz.nz_bind (q1z _ _) fun _ _=>trivial
    split
    ·exact Rz.nz_bind (h2 _) fun _ _=>Rz.nz_bind (h3 _) fun _ _=>trivial
    split
    ·exact Rz.nz_bind (h2 _) fun _ _=>trivial
    split
    ·refine Rz.nz_bind (qsh _) fun _ _=>Rz.nz_bind (h2 _) fun _ _=>?_
     split
     ·exact Rz.nz_bind (h2 _) fun _ _=>trivial
     ·trivial
    split
    ·exact Rz.nz_bind (qsh _) fun _ _=>Rz.nz_bind (h2 _) fun _ _=>trivial
    trivial
theorem qpo {r:Rd} {e} (h:r.newName=some e):e≠0:=by
 unfold Rd.newName at h;split at h
 ·cases h; decide
 ·split at h
  ·cases h; decide
  ·split at h
   ·cases h; decide
   ·split at h
    ·cases h
    ·cases h; decide
theorem qqg (r:Rd):r.declare.nz:=by
 have num:∀ (w:Rd) p s,(w.num p s).nz:=fun w p s=>by unfold Rd.num; split; trivial; exact (by decide:(80:Int)≠0)
 unfold Rd.declare;split
 ·rename_i e h; exact qpo h
 ·unfold Rd.value;split
  ·split <;> exact num _ _ _
  ·trivial
theorem qm0:∀ n r bs,(T7 n r bs).nz
 | 0,_,_=>(by decide:(80:Int)≠0)
 | n + 1,r,bs=>by
   unfold T7;split
   ·trivial
   ·refine Rz.nz_bind ?_ fun _ _=>Rz.nz_bind (qqg _) fun _ _=>qm0 n _ _
    unfold Rd.comma;split
    ·trivial
    ·split
     ·trivial
     ·exact (by decide:(80:Int)≠0)
theorem q1q (r:Rd):r.prog.nz:=by
 unfold Rd.prog;split
 ·exact Rz.nz_bind (qm0 _ _ _) fun _ _=>Rz.nz_bind ((qz6 _).1 _) fun _ _=>trivial
 ·exact (by decide:(80:Int)≠0)
def rp (ts:List Tok):Rd:=⟨ts,0,[],0,some .nils,[]⟩
def PR (k:Nat) (p:Pl) (bs:List Bg) (b:D):List Obj:=match k with
 | 0=>[.arr [.ptr (.b 1) 0 0] ⟨1,0⟩,.arr [.agg [.d (.int .i64 p.b),.d (.int .i64 p.g),.d (.int .i64 p.l),.d (.int .i64 p.c),.ref (.b 2) ⟨4,56⟩ 0 0,.d b]] ⟨6,0⟩,.arr [] ⟨4,56⟩]
 | 1=>[.arr [.ptr (.b 1) 0 0] ⟨1,0⟩,.arr [.agg [.d (.int .i64 p.b),.d (.int .i64 p.g),.d (.int .i64 p.l),.d (.int .i64 p.c),.ref (.b 2) ⟨4,56⟩ 0 0,.d b]] ⟨6,0⟩,.arr [] ⟨4,56⟩]
 | _=>[.arr [.ptr (.b 1) 0 0] ⟨1,0⟩,.arr [.agg [.d (.int .i64 p.b),.d (.int .i64 p.g),.d (.int .i64 p.l),.d (.int .i64 p.c),.ref (.b 3) ⟨4,56⟩ 0 bs.length,.d b]] ⟨6,0⟩,.dead,.arr (LW bgL bs) ⟨4,56⟩]
def P5 (s:List UInt8):Option Pg × Int × Pl:=match wD s with
 | (none,e,p)=>(none,e,p)
 | (some ts,_,_)=>match (rp ts).prog with
   | .bad e q _=>(none,e,q)
   | .ok g r'=>if r'.tok.kind=0 then (some g,0,g9) else (none,80,r'.tok.pos)
theorem qq3 {ts:List Tok} (h:TsOk ts):DOk (rp ts) ts []:=by
 have:=h.rd [] (by simp) (fun k=>by simp[tx]);exact ⟨⟨this.i,this.n,this.mid,this.fin,this.vs,this.op,this.tx,this.tv,fun x e=>.inr ⟨by cases e; rfl,rfl⟩⟩,rfl,by unfold Rd.own; simp[rp],rfl⟩
noncomputable def qny (s:List UInt8):Option CRes:=d6 T0 X0 qmr [.d (.str s),.d .nils,.fn qA [.ptr (.b 0) 0 0]] (PR 0 g9 [] (.sl []))
theorem qo1 (s:List UInt8) (hs:s.length≤100000000) (he:(wD s).2.1≠0):qny s=some (.ret [.d (.int .i64 (wD s).2.1),.d (.agg (wD s).2.2.cs)] (PR 0 g9 [] (.sl []))):=by
 unfold qny;rw[qha (r:=N5) rfl rfl rfl];unfold qal;have s1:=qfn s (by omega);simp only[qsi];simp only[Pl.cs,PR] at s1 ⊢;simp -implicitDefEqProofs (disch:=omega) [N5,L7,s1]
theorem qxn {ts:List Tok} (hnum:∀ t∈ts,t.kind=2→qi t.text) {r r':Rd} {g:Pg} (h:DOk r ts []) (hp:r.prog = .ok g r'):DOk r' ts g.bs:=by
 unfold Rd.prog at hp;split at hp
 ·have k1:=Kept.next h.ok;have h1:DOk r.next ts []:=⟨k1.ok,k1.ts.trans h.ts,by have:=h.own; unfold Rd.own at this ⊢; rw[k1.ly,k1.vs]; exact this,k1.vs.trans h.vs⟩
  cases hd:T7 (r.ts.length + 1) r.next [] with
  | bad e q r4=>rw[hd] at hp; cases hp
  | ok bs r4=>
    rw[hd] at hp;simp only[Rz.bind] at hp;have h4:=Jd _ _ _ _ _ h1 hd;have f4:=((YU hnum (4 * r4.ts.length + 2)).1 r4 h4.ok h4.ts (by rw[h4.ts]; omega)).2
    cases hb:qT (4 * r4.ts.length + 2) r4 with
    | bad e q r5=>rw[hb] at hp; cases hp
    | ok l r5=>
      rw[hb] at hp f4;cases hp;obtain ⟨k,_⟩:=f4;exact ⟨k.ok,k.ts.trans h4.ts,by have:=h4.own; unfold Rd.own at this ⊢; rw[k.ly,k.vs]; exact this,k.vs.trans h4.vs⟩
 ·cases hp
theorem q7r (s:List UInt8) (hs:s.length≤100000000):∃ k p bs b,qny s=some (.ret [.d (.int .i64 (P5 s).2.1),.d (.agg (P5 s).2.2.cs)] (PR k p bs b))∧((P5 s).2.1=0→(P5 s).2.2=g9 ∧ ∃ g,(P5 s).1=some g∧k=kOf g.bs∧p=g.at_∧bs=g.bs∧b = .sl (LD smL g.body)):=by
 unfold P5;rcases hsc:wD s with ⟨o,e,p⟩
 cases o with
 | none=>
   have hne:=qfo hsc;have:=qo1 s hs (by rw[hsc]; exact hne);rw[hsc] at this;exact ⟨0,g9,[],.sl [],this,fun h=>absurd h hne⟩
 | some ts=>
   obtain ⟨rfl,ht⟩:=jz hsc;have hd:=qq3 ht;have s1:=qfn s (by omega);rw[hsc] at s1;have s2:=qt1 hd ht.num;unfold qny;rw[qha (r:=N5) rfl rfl rfl];unfold qal;simp only[qsi];rcases hp:(rp ts).prog with ⟨g,r'⟩ | ⟨e,q,r'⟩
   all_goals rw[hp] at s2
   case bad=>
    obtain ⟨k,r2,p2,bs2,s2⟩:=s2;refine ⟨k,p2,bs2,.sl [],?_,fun h=>?_⟩
    ·rcases k with _ | _ | _ | k
     all_goals
      simp only[Pl.cs,PX,PR,rp,qem,i9,g9,Option.getD_some,Int.cast_ofNat_Int] at s1 s2 ⊢;simp (maxSteps:=4000000) -implicitDefEqProofs (disch:=omega) [N5,L7,N9,N8,s1,s2,Zb,jB,l8,ARes.slot]
    ·have:=q1q (rp ts);rw[hp] at this;exact absurd h this
   have hd':=qxn ht.num hd hp;have h':=hd'.ok;have s3:=r9 h';have s4:=C3 r' 80;have s5:=F9 h' 80;have l4:=qxu hd'.own;have hs2:_=_:=s2;simp only[]
   by_cases hk:r'.tok.kind=0
   ·rw[if_pos hk];refine ⟨kOf g.bs,g.at_,g.bs,.sl (LD smL g.body),?_,fun _=>⟨rfl,g,rfl,rfl,rfl,rfl,rfl⟩⟩;clear s5 s2;obtain ⟨gp,bs,body⟩:=g
    cases bs with
    | nil=>
      have l5:r'.ly=some .nils:=l4;simp only[Pl.cs,Tok.cs,Rd.heap,kOf,l5,PX,PR,rp,qem,i9,g9,Option.getD_some,Int.cast_ofNat_Int] at s1 hs2 s3 s4 ⊢;generalize r'.tok=t at *;simp (maxSteps:=4000000) -implicitDefEqProofs (disch:=omega) [N5,L7,N9,N8,s1,hs2,s3,s4,hk,Zb,jB,l8,ARes.slot]
    | cons b0 bs0=>
      have l5:r'.ly=none:=l4;have hk2:kOf (b0 :: bs0)=2:=rfl;simp only[hk2] at hs2 ⊢;generalize b0 :: bs0=bs at *;simp only[Pl.cs,Tok.cs,Rd.heap,l5,PX,PR,rp,qem,i9,g9,Option.getD_some,Int.cast_ofNat_Int] at s1 hs2 s3 s4 ⊢;generalize r'.tok=t at *;simp (maxSteps:=4000000) -implicitDefEqProofs (disch:=omega) [N5,L7,N9,N8,s1,hs2,s3,s4,hk,Zb,jB,l8,ARes.slot]
   ·rw[if_neg hk];refine ⟨kOf g.bs,g.at_,g.bs,.sl (LD smL g.body),?_,fun h=>absurd h (by decide:(80:Int)≠0)⟩;clear s4 s2;obtain ⟨gp,bs,body⟩:=g
    cases bs with
    | nil=>
      have l5:r'.ly=some .nils:=l4;simp only[Pl.cs,Tok.cs,Rd.heap,kOf,l5,PX,PR,rp,qem,i9,g9,Option.getD_some,Int.cast_ofNat_Int] at s1 hs2 s3 s5 ⊢;generalize r'.tok=t at *;simp (maxSteps:=4000000) -implicitDefEqProofs (disch:=omega) [N5,L7,N9,N8,s1,hs2,s3,s5,hk,Zb,jB,l8,ARes.slot]
    | cons b0 bs0=>
      have l5:r'.ly=none:=l4;have hk2:kOf (b0 :: bs0)=2:=rfl;simp only[hk2] at hs2 ⊢;generalize b0 :: bs0=bs at *;simp only[Pl.cs,Tok.cs,Rd.heap,l5,PX,PR,rp,qem,i9,g9,Option.getD_some,Int.cast_ofNat_Int] at s1 hs2 s3 s5 ⊢;generalize r'.tok=t at *;simp (maxSteps:=4000000) -implicitDefEqProofs (disch:=omega) [N5,L7,N9,N8,s1,hs2,s3,s5,hk,Zb,jB,l8,ARes.slot]
def Pg.cs (g:Pg):List D:=[.int .i64 g.at_.b,.int .i64 g.at_.g,.int .i64 g.at_.l,.int .i64 g.at_.c,.sl (LD bgL g.bs),.sl (LD smL g.body)]
def oG:Option Pg→D
 | none=>.nilp
 | some g=>.box (.agg g.cs)
theorem qb2 {s:List UInt8} (h:(P5 s).2.1≠0):(P5 s).1=none:=by
 unfold P5 at h ⊢;split
 ·rfl
 ·split
  ·rfl
  ·split
   ·rename_i hk;simp_all
   ·rfl
theorem xL (s:List UInt8) (hs:s.length≤100000000):d6 T0 X0 qjg [.d (.str s)] []=some (.ret [.d (oG (P5 s).1),.d (.int .i64 (P5 s).2.1),.d (.agg (P5 s).2.2.cs)] []):=by
 obtain ⟨k,p,bs,b,s1,h1⟩:=q7r s hs;have h2:=qb2 (s:=s);rw[c9 (af:=jk) rfl rfl rfl];unfold qny at s1;generalize P5 s=q at *;obtain ⟨o,e,q⟩:=q;simp only[Pl.cs] at s1 h1 h2 ⊢
 by_cases h0:e=0
 ·obtain ⟨rfl,g,rfl,rfl,rfl,rfl,rfl⟩:=h1 h0;subst h0;obtain ⟨gp,bs,body⟩:=g;clear h1 h2
  cases bs with
  | nil=>
    simp only[kOf,PR,g9,oG,Pg.cs] at s1 ⊢;simp (maxSteps:=4000000) -implicitDefEqProofs (disch:=omega) [jk,s1,kZ,O2,wl]
  | cons b0 bs0=>
    have hk2:kOf (b0 :: bs0)=2:=rfl;simp only[hk2] at s1;generalize b0 :: bs0=bs at *;simp only[PR,g9,oG,Pg.cs] at s1 ⊢;simp (maxSteps:=4000000) -implicitDefEqProofs (disch:=omega) [jk,s1,kZ,O2]
 ·have ho:o=none:=h2 h0;subst ho;clear h1 h2;rcases k with _ | _ | k
  all_goals
   simp only[PR,g9,oG] at s1 ⊢;simp (maxSteps:=4000000) -implicitDefEqProofs (disch:=omega) [jk,s1,h0,kZ,O2]
structure Xok (vs:List (List UInt8)) (x:Nd):Prop where
 fine:x.fine vs.length
 pr:x.pr vs
 sz:x.sz≤5000
 w:x.w≤4000000
 dp:Rf.dp x≤16
structure Tks (ts:List Tok):Prop where
 num:∀ t∈ts,t.kind=2→qi t.text
 val:∀ t∈ts,t.kind=2→∃ v:Int,0≤v∧(d7 v).length≤32∧t.text=B2 456 v
 name:∀ t∈ts,t.kind=1→NameOk t.text
theorem qkp {s:List UInt8} {ts e p} (h:wD s=(some ts,e,p)):Tks ts:=⟨(jz h).2.num,qwt h,qtq h⟩
theorem qau {r r':Rd} {x:Nd} (h:r.ok) (ht:Tks r.ts) (hv:∀ w∈r.vs,NameOk w) (e:r.sum = .ok x r'):Xok r.vs x∧x.sz + r.i≤r'.i∧Kept r r':=by
 unfold Rd.sum at e
 cases hb:rd r.fuel .s r with
 | bad _ p r2=>rw[hb] at e; cases e
 | ok y r2=>
   rw[hb] at e;cases e;have a:=qxi r.fuel .s r h ht.num trivial;have b:=zg4 r.fuel .s r h ht.num trivial;have c:=q4e r.fuel .s r h ht.num trivial trivial
   have d:=q7o (ts:=r.ts) (vs:=r.vs) (Nd.pr r.vs) ht.num (fun t hm hk=>by
    obtain ⟨v,h0,h32,hv⟩:=ht.val t hm hk;rw[hv,(QE h0 (Zp h0 h32)).2]
    exact ⟨h0,h32⟩) (fun w hw hd=>⟨by
     obtain ⟨j,hj,_,e⟩:=qas r.vs w _ _ hw
     have hj:j < r.vs.length:=by omega
     rw[← e]
     have:tx r.vs j=r.vs[j]:=by simp[tx,hj]
     rw[this]
     exact hv _ (List.getElem_mem hj),rfl,hw,hd⟩) (fun _ h=>h) (fun _ _ _ ho hx hy=>⟨ho,hx,hy⟩) r.fuel .s r h rfl rfl trivial trivial
   rw[hb] at a b c d;obtain ⟨k,f1,f2⟩:=a;obtain ⟨_,_,f3⟩:=b;have f3:x.sz + r.i≤0 + r'.i:=f3;have f2:x.w + 457 * r.i≤0 + 457 * r'.i:=f2;have c:((dp x:Nat):Int) + r.op≤16:=c;have hi:=k.ok.i;have hn:=k.ok.n;have ho:=h.op;exact ⟨⟨f1,d,by omega,by omega,by omega⟩,by omega,k⟩
def oX (vs:List (List UInt8)):Option Nd→Prop
 | none=>True
 | some x=>Xok vs x
mutual
def Sm.fit (vs:List (List UInt8)):Sm→Prop
 | .set _ v s e=>NameOk s∧zF vs s vs.length 0=v∧0≤v∧Y2 s=false∧oX vs e
 | .skip _=>True
 | .stop _=>True
 | .mark _ s=>NameOk s∧Y2 s=false∧zq s=true
 | .choose _ bs=>bs≠[]∧Bls.fit vs bs
 | .loop _ b=>Sms.fit vs b
 | .ifs _ x y _ b=>Xok vs x∧Xok vs y∧Sms.fit vs b
 | .ife _ x y _ b _ e=>Xok vs x∧Xok vs y∧Sms.fit vs b∧Sms.fit vs e
 | .while _ x y _ b=>Xok vs x∧Xok vs y∧Sms.fit vs b
def Bl.fit (vs:List (List UInt8)):Bl→Prop
 | .mk _ b=>Sms.fit vs b
def Sms.fit (vs:List (List UInt8)):List Sm→Prop
 | []=>True
 | s :: l=>s.fit vs∧Sms.fit vs l
def Bls.fit (vs:List (List UInt8)):List Bl→Prop
 | []=>True
 | b :: l=>b.fit vs∧Bls.fit vs l
end
mutual
def Sm.sz:Sm→Nat
 | .choose _ bs=>1 + Bls.sz bs
 | .loop _ b=>1 + Sms.sz b
 | .ifs _ _ _ _ b=>1 + Sms.sz b
 | .ife _ _ _ _ b _ e=>2 + Sms.sz b + Sms.sz e
 | .while _ _ _ _ b=>1 + Sms.sz b
 | _=>1
def Bl.sz:Bl→Nat
 | .mk _ b=>1 + Sms.sz b
def Sms.sz:List Sm→Nat
 | []=>0
 | s :: l=>s.sz + Sms.sz l
def Bls.sz:List Bl→Nat
 | []=>0
 | b :: l=>b.sz + Bls.sz l
end
theorem Q8 {r:Rd} (h:r.ok) {s} (c:r.isT s=true):Kept r r.next∧r.next.i=r.i + 1:=⟨Kept.next h,F8 (A4 c)⟩
theorem zH {α:Type} {r r':Rd} {x y:α} (e:r.semi x = .ok y r'):y=x∧r.isT [59]=true∧r'=r.next:=by
 unfold Rd.semi at e;split at e
 ·rename_i c; cases e; exact ⟨rfl,c,rfl⟩
 ·cases e
theorem qqt {r r':Rd} {p:Pl} {s:Sm} (h:r.ok) (ht:Tks r.ts) (hv:∀ w∈r.vs,NameOk w) (hn:r.isName=true) (e:r.assign p = .ok s r'):s.fit r.vs∧s.sz=1∧r.i + 1≤r'.i:=by
 unfold Rd.assign at e;split at e
 ·cases e
 rename_i c0;split at e
 case isFalse=>cases e
 rename_i c1;have hk:=kh hn;have k1:=Kept.next h;have i1:=F8 (r:=r) (by omega);obtain ⟨k2,i2⟩:=Q8 k1.ok c1;have k3:=k1.trans k2
 cases hx:r.next.next.expr with
 | bad _ p r3=>rw[hx] at e; cases e
 | ok o r3=>
   rw[hx] at e;simp only[Rz.bind] at e;obtain ⟨rfl,c2,rfl⟩:=zH e
   have hw:Y2 r.tok.text=false:=by
    unfold Rd.isName at hn;simp only[Bool.and_eq_true,Bool.not_eq_true'] at hn;exact hn.2
   have hnm:=ht.name r.tok (QV h) hk;unfold Rd.expr at hx;split at hx
   ·cases hx;have:=(Kept.next k3.ok).i;have k4:=Kept.next k3.ok;have:=(Kept.next k4.ok).i;exact ⟨by simp only[Sm.fit,oX]; exact ⟨hnm,rfl,by unfold Rd.var at c0 ⊢; omega,hw,trivial⟩,by simp[Sm.sz],by omega⟩
   ·cases hs:r.next.next.sum with
    | bad _ p r4=>rw[hs] at hx; cases hx
    | ok x r4=>
      rw[hs] at hx;cases hx;obtain ⟨q1,q2,q3⟩:=qau k3.ok (by rw[k3.ts]; exact ht) (by rw[k3.vs]; exact hv) hs;rw[k3.vs] at q1;have:=(Kept.next q3.ok).i;exact ⟨by simp only[Sm.fit,oX]; exact ⟨hnm,rfl,by unfold Rd.var at c0 ⊢; omega,hw,q1⟩,by simp[Sm.sz],by omega⟩
theorem qm5 {r r':Rd} {c:Nd × Nd × Bool} (h:r.ok) (ht:Tks r.ts) (hv:∀ w∈r.vs,NameOk w) (e:r.cond = .ok c r'):Xok r.vs c.1∧Xok r.vs c.2.1∧Kept r r':=by
 unfold Rd.cond at e
 cases hx:r.sum with
 | bad _ p r1=>rw[hx] at e; cases e
 | ok x r1=>
   rw[hx] at e;obtain ⟨q1,q2,q3⟩:=qau h ht hv hx;have k1:=q3.trans (Kept.next q3.ok)
   have go:∀ b,(r1.next.sum.bind fun y r3=>(.ok (x,y,b) r3:Rz (Nd × Nd × Bool))) = .ok c r'→Xok r.vs c.1∧Xok r.vs c.2.1∧Kept r r':=fun b e=>by
    cases hy:r1.next.sum with
    | bad _ p r3=>rw[hy] at e; cases e
    | ok y r3=>
      rw[hy] at e;cases e;obtain ⟨p1,p2,p3⟩:=qau k1.ok (by rw[k1.ts]; exact ht) (by rw[k1.vs]; exact hv) hy;rw[k1.vs] at p1;exact ⟨q1,p1,k1.trans p3⟩
   simp only[Rz.bind] at e;split at e
   ·exact go true e
   ·split at e
    ·exact go false e
    ·cases e
theorem qyh {r r':Rd} {p:Pl} {s:Sm} {vs} (h:r.ok) (ht:Tks r.ts) (e:r.mark p = .ok s r'):s.fit vs∧s.sz=1∧r.i≤r'.i:=by
 unfold Rd.mark at e;split at e
 ·cases e
 rename_i c0;split at e
 ·cases e
 rename_i c1;split at e
 ·cases e
 obtain ⟨rfl,c2,rfl⟩:=zH e
 have hn:r.isName=true:=by simpa using c0
 have hw:Y2 r.tok.text=false:=by
  unfold Rd.isName at hn;simp only[Bool.and_eq_true,Bool.not_eq_true'] at hn;exact hn.2
 have k1:=Kept.next (KY h r.tok.text);have:=k1.i;have k2:=(Kept.next k1.ok).i;have:(r.named r.tok.text).i=r.i:=rfl;refine ⟨by simp only[Sm.fit]; exact ⟨ht.name r.tok (QV h) (kh hn),hw,by simpa using c1⟩,by simp[Sm.sz],by omega⟩
structure Goods (n:Nat) (ts:List Tok) (vs:List (List UInt8)):Prop where
 R:∀ r:Rd,r.ok→r.ts=ts→r.vs=vs→4 * (ts.length - r.i) + 2≤n→∀ l r',qT n r = .ok l r'→Sms.fit vs l∧Sms.sz l + r.i≤r'.i
 B:∀ r:Rd,r.ok→r.ts=ts→r.vs=vs→4 * (ts.length - r.i) + 1≤n→∀ l r',jH n r = .ok l r'→Sms.fit vs l∧Sms.sz l + 1 + r.i≤r'.i
 O:∀ r:Rd,r.ok→r.ts=ts→r.vs=vs→4 * (ts.length - r.i) + 1≤n→∀ l r',vY n r = .ok l r'→Bls.fit vs l∧Bls.sz l + r.i≤r'.i
 S:∀ r:Rd,r.ok→r.ts=ts→r.vs=vs→4 * (ts.length - r.i) + 1≤n→∀ s r',kC n r = .ok (some s) r'→s.fit vs∧s.sz + r.i≤r'.i
theorem m8 {α β:Type} {b:Rz α} {f:α→Rd→Rz β} {y:β} {r':Rd} (e:b.bind f = .ok y r'):∃ x r1,b = .ok x r1∧f x r1 = .ok y r':=by
 cases b with
 | ok x r=>exact ⟨x,r,rfl,e⟩
 | bad _ p r=>cases e
theorem q46 {ts:List Tok} {vs:List (List UInt8)} (ht:Tks ts) (hv:∀ w∈vs,NameOk w):∀ n,Goods n ts vs
 | 0=>⟨fun _ _ _ _ h=>by omega,fun _ _ _ _ h=>by omega,fun _ _ _ _ h=>by omega,fun _ _ _ _ h=>by omega⟩
 | n + 1=>by
   have ih:=q46 ht hv n;obtain ⟨hR,hB,hO,hS⟩:=YU ht.num n;refine ⟨fun r h h1 h2 hn l r' e=>?_,fun r h h1 h2 hn l r' e=>?_,fun r h h1 h2 hn l r' e=>?_,fun r h h1 h2 hn s r' e=>?_⟩
   ·have hi:r.i < ts.length:=h1 ▸ h.i;unfold qT at e;split at e
    case isFalse=>cases e; exact ⟨by simp[Sms.fit],by simp[Sms.sz]⟩
    obtain ⟨o,r1,e1,e2⟩:=m8 e;obtain ⟨_,f1,g1⟩:=hS r h h1 (by omega);rw[e1] at f1
    cases o with
    | none=>cases e2; exact ⟨by simp[Sms.fit],by have:=f1.2; simp[Sms.sz]; omega⟩
    | some s=>
      have gi:=g1 s r1 e1;obtain ⟨l2,r2,e3,e4⟩:=m8 e2;cases e4;obtain ⟨a1,a2⟩:=ih.S r h h1 h2 (by omega) s r1 e1;obtain ⟨b1,b2⟩:=ih.R r1 f1.1.ok (f1.1.ts.trans h1) (f1.1.vs.trans h2) (by omega) _ _ e3;exact ⟨by simp only[Sms.fit]; exact ⟨a1,b1⟩,by simp only[Sms.sz]; omega⟩
   ·have hi:r.i < ts.length:=h1 ▸ h.i;unfold jH at e;split at e
    ·cases e
    rename_i hin;obtain ⟨hk,ho⟩:=qc3 hin;have hop:=Rd.opened_ok h ho;have hni:r.opened.next.i=r.i + 1:=F8 (r:=r.opened) (by rw[show r.opened.tok=r.tok from rfl]; omega);have k1:=Kept.next hop;obtain ⟨l1,r1,e1,e2⟩:=m8 e;split at e2
    case isFalse=>cases e2
    rename_i c;cases e2;obtain ⟨b1,b2⟩:=ih.R _ k1.ok (k1.ts.trans h1) (k1.vs.trans h2) (by omega) _ _ e1;have f1:=(hR _ k1.ok (k1.ts.trans h1) (by omega)).2;rw[e1] at f1;have:=(Q8 f1.1.ok c).2;exact ⟨b1,by show Sms.sz l + 1 + r.i≤r1.next.i; omega⟩
   ·have hi:r.i < ts.length:=h1 ▸ h.i;unfold vY at e;split at e
    case isFalse=>cases e; exact ⟨by simp[Bls.fit],by simp[Bls.sz]⟩
    rename_i c;obtain ⟨k1,i1⟩:=Q8 h c;obtain ⟨l1,r1,e1,e2⟩:=m8 e;obtain ⟨bs,r2,e3,e4⟩:=m8 e2;cases e4;obtain ⟨b1,b2⟩:=ih.B _ k1.ok (k1.ts.trans h1) (k1.vs.trans h2) (by omega) _ _ e1;have f1:=(hB _ k1.ok (k1.ts.trans h1) (by omega)).2;rw[e1] at f1;obtain ⟨c1,c2⟩:=ih.O r1 f1.1.ok (f1.1.ts.trans (k1.ts.trans h1)) (f1.1.vs.trans (k1.vs.trans h2)) (by omega) _ _ e3;exact ⟨by simp only[Bls.fit,Bl.fit]; exact ⟨b1,c1⟩,by simp only[Bls.sz,Bl.sz]; omega⟩
   ·have hi:r.i < ts.length:=h1 ▸ h.i;have htr:Tks r.ts:=h1 ▸ ht;have hvr:∀ w∈r.vs,NameOk w:=h2 ▸ hv
    have blk:∀ r1 l r2,KeptS r r1→r.i + 1≤r1.i→jH n r1 = .ok l r2→Sms.fit vs l∧Sms.sz l + 1 + r1.i≤r2.i∧KeptS r r2:=fun r1 l r2 k hle e=>by
     obtain ⟨b1,b2⟩:=ih.B r1 k.ok (k.ts.trans h1) (k.vs.trans h2) (by omega) _ _ e;have f1:=(hB r1 k.ok (k.ts.trans h1) (by omega)).2;rw[e] at f1;exact ⟨b1,b2,k.trans f1.1⟩
    have k1:=Kept.next h;unfold kC at e;split at e
    ·rename_i c;obtain ⟨s1,r1,e1,e2⟩:=m8 e;cases e2;obtain ⟨a1,a2,a3⟩:=qqt h htr hvr c e1;exact ⟨h2 ▸ a1,by omega⟩
    split at e
    ·rename_i c;obtain ⟨k1,i1⟩:=Q8 h c;obtain ⟨e1,c2,rfl⟩:=zH e;cases e1;have:=(Q8 k1.ok c2).2;exact ⟨by simp[Sm.fit],by simp only[Sm.sz]; omega⟩
    split at e
    ·rename_i c;obtain ⟨k1,i1⟩:=Q8 h c;obtain ⟨e1,c2,rfl⟩:=zH e;cases e1;have:=(Q8 k1.ok c2).2;exact ⟨by simp[Sm.fit],by simp only[Sm.sz]; omega⟩
    split at e
    ·rename_i c;obtain ⟨k1,i1⟩:=Q8 h c;obtain ⟨s1,r1,e1,e2⟩:=m8 e;cases e2;obtain ⟨a1,a2,a3⟩:=qyh (vs:=vs) k1.ok (k1.ts ▸ htr) e1;exact ⟨a1,by omega⟩
    split at e
    ·rename_i c;obtain ⟨k1,i1⟩:=Q8 h c;obtain ⟨l1,r1,e1,e2⟩:=m8 e;obtain ⟨bs,r2,e3,e4⟩:=m8 e2;cases e4;obtain ⟨b1,b2,b3⟩:=blk _ _ _ k1.s (by omega) e1;obtain ⟨c1,c2⟩:=ih.O r1 b3.ok (b3.ts.trans h1) (b3.vs.trans h2) (by omega) _ _ e3;exact ⟨by simp only[Sm.fit,Bls.fit,Bl.fit]; exact ⟨by simp,b1,c1⟩,by simp only[Sm.sz,Bls.sz,Bl.sz]; omega⟩
    split at e
    ·rename_i c;obtain ⟨k1,i1⟩:=Q8 h c;obtain ⟨l1,r1,e1,e2⟩:=m8 e;cases e2;obtain ⟨b1,b2,b3⟩:=blk _ _ _ k1.s (by omega) e1;exact ⟨by simp only[Sm.fit]; exact b1,by simp only[Sm.sz]; omega⟩
    split at e
    ·rename_i c;obtain ⟨k1,i1⟩:=Q8 h c;obtain ⟨cd,r1,e1,e2⟩:=m8 e;obtain ⟨q1,q2,q3⟩:=qm5 k1.ok (k1.ts ▸ htr) (k1.vs ▸ hvr) e1;rw[k1.vs,h2] at q1 q2;have k2:=k1.trans q3;have i2:=q3.i;obtain ⟨l1,r2,e3,e4⟩:=m8 e2;obtain ⟨b1,b2,b3⟩:=blk _ _ _ k2.s (by omega) e3;split at e4
     ·rename_i c2;obtain ⟨l2,r3,e5,e6⟩:=m8 e4;cases e6;obtain ⟨k4,i4⟩:=Q8 b3.ok c2;obtain ⟨d1,d2,d3⟩:=blk _ _ _ (b3.trans k4.s) (by omega) e5;exact ⟨by simp only[Sm.fit]; exact ⟨q1,q2,b1,d1⟩,by simp only[Sm.sz]; omega⟩
     ·cases e4;exact ⟨by simp only[Sm.fit]; exact ⟨q1,q2,b1⟩,by simp only[Sm.sz]; omega⟩
    split at e
    ·rename_i c;obtain ⟨k1,i1⟩:=Q8 h c;obtain ⟨cd,r1,e1,e2⟩:=m8 e;obtain ⟨q1,q2,q3⟩:=qm5 k1.ok (k1.ts ▸ htr) (k1.vs ▸ hvr) e1;rw[k1.vs,h2] at q1 q2;have k2:=k1.trans q3;have i2:=q3.i;obtain ⟨l1,r2,e3,e4⟩:=m8 e2;cases e4;obtain ⟨b1,b2,b3⟩:=blk _ _ _ k2.s (by omega) e3;exact ⟨by simp only[Sm.fit]; exact ⟨q1,q2,b1⟩,by simp only[Sm.sz]; omega⟩
    cases e
structure BgOk (b:Bg):Prop where
 name:NameOk b.name
 word:Y2 b.name=false
 val:nl b.n≤32
structure Pok (g:Pg):Prop where
 n:g.bs.length≤8
 bs:∀ b∈g.bs,BgOk b
 fit:Sms.fit (g.bs.map Bg.name) g.body
 sz:Sms.sz g.body≤5000
theorem qqi {r r2:Rd} {ts bs b} (h:DOk r ts bs) (ht:Tks ts) (hd:r.declare = .ok b r2):BgOk b∧bs.length < 8:=by
 have hd0:=hd;unfold Rd.declare at hd;split at hd
 ·cases hd
 rename_i hn;obtain ⟨h1,h2⟩:=ke hn;have hk:=kh h1
 have hw:Y2 r.tok.text=false:=by
  unfold Rd.isName at h1;simp only[Bool.and_eq_true,Bool.not_eq_true'] at h1;exact h1.2
 have hnm:b.name=r.tok.text:=KE hd;have k1:=Kept.next h.ok;have hq:=Jq k1.ok (by rw[k1.vs]; exact h2) (Q3 h.ok);have hts:(r.next.push r.tok.text).ts=ts:=k1.ts.trans h.ts;refine ⟨⟨by rw[hnm]; exact ht.name _ (h.ts ▸ QV h.ok) hk,by rw[hnm]; exact hw,?_⟩,by rw[h.vs] at h2; simpa using h2⟩
 have num:∀ (w:Rd) p,w.ok→w.ts=ts→w.num p r.tok.text = .ok b r2→nl b.n≤32:=fun w p hw hwt e=>by
  unfold Rd.num at e;split at e
  ·rename_i c;cases e;obtain ⟨v,h0,h32,hv⟩:=ht.val w.tok (hwt ▸ QV hw) c
   have e1:qW w.tok.text=v:=by rw[hv]; exact (QE h0 (Zp h0 h32)).2
   have e2:nl (qW w.tok.text)≤32:=by rw[e1]; unfold nl; rw[Int.natAbs_of_nonneg h0]; exact h32
   show nl (sg p (qW w.tok.text))≤32;unfold sg;split
   ·unfold nl at *; rw[Int.natAbs_neg]; exact e2
   ·exact e2
  ·cases e
 generalize r.next.push r.tok.text=q at *;have k3:=Kept.next hq;unfold Rd.value at hd;split at hd
 ·split at hd
  ·have k4:=k3.trans (Kept.next k3.ok);exact num _ _ k4.ok (k4.ts.trans hts) hd
  ·exact num _ _ k3.ok (k3.ts.trans hts) hd
 ·cases hd; simp[nl]
theorem qdv {ts:List Tok} (ht:Tks ts):∀ n (r:Rd) (bs bs':List Bg) (r':Rd),DOk r ts bs→(∀ b∈bs,BgOk b)→bs.length≤8→T7 n r bs = .ok bs' r'→(∀ b∈bs',BgOk b)∧bs'.length≤8∧r.i≤r'.i
 | 0,_,_,_,_,_,_,_,e=>by cases e
 | n + 1,r,bs,bs',r',h,h1,h2,e=>by
   unfold T7 at e;have k1:=Kept.next h.ok;have hnx:DOk r.next ts bs:=⟨k1.ok,k1.ts.trans h.ts,by have:=h.own; unfold Rd.own at this ⊢; rw[k1.ly,k1.vs]; exact this,k1.vs.trans h.vs⟩;split at e
   ·cases e; exact ⟨h1,h2,k1.i⟩
   ·obtain ⟨u,r1,e1,e2⟩:=m8 e
    have hc:DOk r1 ts bs∧r.i≤r1.i:=by
     unfold Rd.comma at e1;split at e1
     ·cases e1; exact ⟨h,Nat.le_refl _⟩
     ·split at e1
      ·cases e1; exact ⟨hnx,k1.i⟩
      ·cases e1
    obtain ⟨b,r2,e3,e4⟩:=m8 e2;obtain ⟨a1,a2⟩:=qqi hc.1 ht e3;obtain ⟨g1,g2,_⟩:=wT hc.1 e3
    obtain ⟨b1,b2,b3⟩:=qdv ht n r2 _ bs' r' g1 (fun x hx=>by
     rcases List.mem_append.1 hx with hx | hx
     ·exact h1 x hx
     ·rw[List.mem_singleton.1 hx]; exact a1) (by simp; omega) e4
    exact ⟨b1,b2,by omega⟩
theorem Xs {s:List UInt8} {g:Pg} (h:(P5 s).1=some g):Pok g:=by
 unfold P5 at h;split at h
 ·cases h
 rename_i ts e p hsc;have ht:=qkp hsc;have hd:=qq3 (jz hsc).2;split at h
 ·cases h
 rename_i g' r' hp;split at h
 case isFalse=>cases h
 cases h;unfold Rd.prog at hp;split at hp
 case isFalse=>cases hp
 have k1:=Kept.next hd.ok;have h1:DOk (rp ts).next ts []:=⟨k1.ok,k1.ts.trans hd.ts,by have:=hd.own; unfold Rd.own at this ⊢; rw[k1.ly,k1.vs]; exact this,k1.vs.trans hd.vs⟩;obtain ⟨bs,r2,e1,e2⟩:=m8 hp;obtain ⟨l,r3,e3,e4⟩:=m8 e2;cases e4;have h4:=Jd _ _ _ _ _ h1 e1;obtain ⟨b1,b2,b3⟩:=qdv ht _ _ _ _ _ h1 (fun _ h=>by cases h) (by simp) e1
 have hv:∀ w∈bs.map Bg.name,NameOk w:=fun w hw=>by
  obtain ⟨b,hb,rfl⟩:=List.mem_map.1 hw;exact (b1 b hb).name
 obtain ⟨c1,c2⟩:=(q46 ht hv (4 * r2.ts.length + 2)).R r2 h4.ok h4.ts h4.vs (by rw[h4.ts]; omega) _ _ e3;have f3:=((YU ht.num (4 * r2.ts.length + 2)).1 r2 h4.ok h4.ts (by rw[h4.ts]; omega)).2;rw[e3] at f3;have hi:=f3.1.ok.i;have hn:=f3.1.ok.n;exact ⟨b2,b1,c1,(by omega:Sms.sz l≤5000)⟩
def JQ:List Obj:=[.arr [.agg [.d .nilp,.ref (.b 1) ⟨1,1000005⟩ 0 0]] ⟨2,wSB⟩,.arr (B8 []) ⟨1,1000005⟩]
def bld (s:List UInt8):List Obj:=[.arr [.agg [.ptr (.b 0) 0 0,.ref (.b 1) ⟨1,1000005⟩ 0 s.length]] ⟨2,wSB⟩,.arr (B8 s) ⟨1,1000005⟩]
def M7 (s:List UInt8):List Obj:=[.arr [.agg [.ptr (.b 0) 0 0,.ref (.b 2) ⟨1,1000005⟩ 0 s.length]] ⟨2,wSB⟩,.dead,.arr (B8 s) ⟨1,1000005⟩]
theorem cc0:d6 T0 X0 A8 [.ptr (.b 0) 0 0] JQ=some (.ret [] (bld [])):=xU (n:=1) rfl
theorem cc1 (s:List UInt8):d6 T0 X0 A8 [.ptr (.b 0) 0 0] (bld s)=some (.ret [] (bld s)):=xU (n:=1) rfl
@[simp] theorem B8_app (a b:List UInt8):B8 a++B8 b=B8 (a++b):=by simp[B8]
@[simp] theorem B8_map (s:List UInt8):(s.map fun b=>V.d (D.int .u8 b.toNat))=B8 s:=rfl
theorem fitK {n:Nat} (h:n≤100000000):(n * 1000005≤w8)=True:=eq_true (by unfold w8; omega)
attribute [simp] fitK
theorem ws0 (t:List UInt8) (h:t.length≤100000000):d6 T0 X0 A0 [.ptr (.b 0) 0 0,.d (.str t)] JQ=some (.ret [.d (.int .i64 t.length),.d .nili] (M7 t)):=by
 have s1:=cc0;rw[c9 (af:=A1) rfl rfl rfl];simp only[JQ,bld,M7,List.length_nil,vn] at s1 ⊢;simp -implicitDefEqProofs (disch:=omega) [A1,s1]
theorem ws1 (s t:List UInt8) (h:s.length + t.length≤100000000):d6 T0 X0 A0 [.ptr (.b 0) 0 0,.d (.str t)] (bld s)=some (.ret [.d (.int .i64 t.length),.d .nili] (M7 (s++t))):=by
 have s1:=cc1 s;rw[c9 (af:=A1) rfl rfl rfl];have ht:s.take s.length=s:=List.take_length;simp only[bld,M7,List.length_append] at s1 ⊢;simp -implicitDefEqProofs (disch:=omega) [A1,s1,ht]
theorem wb0 (c:UInt8):d6 T0 X0 Z9 [.ptr (.b 0) 0 0,.d (.int .u8 c.toNat)] JQ=some (.ret [.d .nili] (M7 [c])):=by
 have s1:=cc0;rw[c9 (af:=A9) rfl rfl rfl];have e:B8 [c]=[V.d (D.int .u8 c.toNat)]:=rfl;simp only[JQ,bld,M7,List.length_nil,vn,e] at s1 ⊢;simp -implicitDefEqProofs (disch:=omega) [A9,s1]
theorem wb1 (s:List UInt8) (c:UInt8) (h:s.length + 1≤100000000):d6 T0 X0 Z9 [.ptr (.b 0) 0 0,.d (.int .u8 c.toNat)] (bld s)=some (.ret [.d .nili] (M7 (s++[c]))):=by
 have s1:=cc1 s;rw[c9 (af:=A9) rfl rfl rfl];have ht:s.take s.length=s:=List.take_length;simp only[bld,M7,List.length_append] at s1 ⊢;simp -implicitDefEqProofs (disch:=omega) [A9,s1,ht]
theorem qba {v:Int} (h0:0≤v) (h:(d7 v).length≤32):d6 T0 X0 Yr [.d (Wd v)] []=some (.ret [.d (.str (B2 456 v))] []):=by
 have e:((v.natAbs:Nat):Int)=v:=by omega
 have s1:=YG (g8 v) 456 (by omega) (by omega) (by rw[o9 h0]; exact Zp h0 h);rw[o9 h0] at s1;have s2:=KC (m:=v) (by unfold nl; rw[e]; omega)
 have hs:0≤v.sign:=by
  rcases Int.lt_or_eq_of_le h0 with h | h
  ·rw[Int.sign_eq_one_of_pos h]; decide
  ·rw[← h]; decide
 rw[c9 (af:=xW) rfl rfl rfl];have hd:decide (v < 0)=false:=decide_eq_false (by omega);simp only[Wd,e,hd] at s2 ⊢;simp -implicitDefEqProofs (disch:=omega) [xW,s1,s2]
theorem Wb (op:Int):d6 T0 X0 Ks [.d (.int .u8 op)] []=some (.ret [.d (.bool (C2 op))] []):=by
 rw[c9 (af:=vg) rfl rfl rfl];unfold C2
 by_cases h:op=43
 ·subst h;simp -implicitDefEqProofs (disch:=omega) [vg]
 ·by_cases h2:op=45
  ·subst h2;simp -implicitDefEqProofs (disch:=omega) [vg]
  ·simp -implicitDefEqProofs (disch:=omega) [vg,h,h2]
theorem Xk (x:Nd):d6 T0 X0 Qh [.d x.d] []=some (.ret [.d (.bool x.single)] []):=by
 rw[c9 (af:=Qm) rfl rfl rfl]
 cases x <;> simp only[Nd.d,Nd.single] <;> simp -implicitDefEqProofs (disch:=omega) [Qm]
theorem JF (x:Nd):d6 T0 X0 ko [.d x.d] []=some (.ret [.d (.bool x.adds)] []):=by
 rw[c9 (af:=xy) rfl rfl rfl]
 cases x with
 | two op x y=>
   have s1:=Wb op;simp only[Nd.d,Nd.adds];simp -implicitDefEqProofs (disch:=omega) [xy,s1]
 | num k=>simp only[Nd.d,Nd.adds]; simp -implicitDefEqProofs (disch:=omega) [xy]
 | name v s=>simp only[Nd.d,Nd.adds]; simp -implicitDefEqProofs (disch:=omega) [xy]
 | minus x=>simp only[Nd.d,Nd.adds]; simp -implicitDefEqProofs (disch:=omega) [xy]
structure Wrote (f:FuncId) (a:List V) (w:List UInt8):Prop where
 z:w.length≤100000000→d6 T0 X0 f (.ptr (.b 0) 0 0 :: a) JQ=some (.ret [] (M7 w))
 s:∀ s:List UInt8,s.length + w.length≤100000000→d6 T0 X0 f (.ptr (.b 0) 0 0 :: a) (bld s)=some (.ret [] (M7 (s++w)))
theorem qic {x:Nd} {w:List UInt8} (h:Wrote D7 [.d x.d] w) (b:Bool):Wrote km [.d x.d,.d (.bool b)] (wrB b w):=by
 refine ⟨fun hl=>?_,fun s hl=>?_⟩
 ·rw[c9 (af:=qK) rfl rfl rfl]
  cases b with
  | false=>
    have s1:=h.z hl;simp only[wrB,JQ,bld,M7,vn,Bool.false_eq_true,if_false] at s1 ⊢;simp -implicitDefEqProofs (disch:=omega) [qK,s1]
  | true=>
    have hl2:w.length + 2≤100000000:=by simpa [wrB] using hl
    have s1:=wb0 40;have s2:=h.s [40] (by simp; omega);have s3:=wb1 ([40]++w) 41 (by simp; omega)
    have e:[40]++w++[41]=wrB true w:=by simp[wrB]
    rw[e] at s3;simp only[JQ,bld,M7,vn] at s1 s2 s3 ⊢;generalize wrB true w=w2 at *;generalize ([40]:List UInt8)=w0 at s1 s2 s3;generalize w0++w=w1 at *;simp only[show (((40:UInt8).toNat:Nat):Int)=40 from rfl,show (((41:UInt8).toNat:Nat):Int)=41 from rfl] at s1 s3;simp -implicitDefEqProofs (disch:=omega) [qK,s1,s2,s3]
 ·rw[c9 (af:=qK) rfl rfl rfl]
  cases b with
  | false=>
    have s1:=h.s s hl;simp only[wrB,bld,M7,Bool.false_eq_true,if_false] at s1 ⊢;simp -implicitDefEqProofs (disch:=omega) [qK,s1]
  | true=>
    have hl2:s.length + w.length + 2≤100000000:=by have:=hl; simp[wrB] at this; omega
    have s1:=wb1 s 40 (by omega);have s2:=h.s (s++[40]) (by simp; omega);have s3:=wb1 (s++[40]++w) 41 (by simp; omega)
    have e:s++[40]++w++[41]=s++wrB true w:=by simp[wrB]
    rw[e] at s3;simp only[bld,M7] at s1 s2 s3 ⊢;generalize s++wrB true w=w3 at *;generalize (s++[40]++w:List UInt8)=w2 at *;generalize (s++[40]:List UInt8)=w1 at *;simp only[show (((40:UInt8).toNat:Nat):Int)=40 from rfl,show (((41:UInt8).toNat:Nat):Int)=41 from rfl] at s1 s3;simp -implicitDefEqProofs (disch:=omega) [qK,s1,s2,s3]
end Go.Rf
