/- Parts of the proof. -/
import Derived.Test.YtpaeaccmddffjaaGreatDoorRb2
import Derived.Test.YtpaeaccmddffjaaGreatDoorSp9
set_option linter.all false
namespace Go.Rf
set_option maxHeartbeats 8000000
@[simp] theorem q4u (t cs):Ju t (.agg cs) = .iface t (.agg cs):=rfl
theorem q0t {r:Rd} (h:r.ok) (hn:r.isName=true) {B:Rz Sm} (s5:d6 T0 X0 kj [.ptr (.b 0) 0 0,.d (.agg r.tok.pos.cs)] r.heap=B.out smO) (e5:B.st.ly=r.ly) :
 d6 T0 X0 o7 [.ptr (.b 0) 0 0] r.heap=(B.bind fun s r1=>(.ok (some s) r1:Rz (Option Sm))).out osO:=by
 have s0:=r9 h;have s1:=B3 h;rw[hn] at s1;have l1:=(lys r).1;rw[c9 (af:=d9) rfl rfl rfl];rcases B with ⟨s,r1⟩ | ⟨e,p,r1⟩
 all_goals
  have e0:r1.ly=r.ly:=e5;clear e5;cases hly:r.ly
  all_goals
   simp only[Rd.heap,hly,e0,Rz.bind,Rz.out,osO,Sm.d,Tok.cs,Pl.cs,smO,i9] at s0 s1 s5 ⊢;generalize r.tok=t0 at *;simp (maxSteps:=2000000) -implicitDefEqProofs (disch:=omega) [d9,s0,s1,s5]
theorem qwk {r:Rd} (h:r.ok) (hn:r.isName=false) (y_skip:r.isT [115,107,105,112]=true) :
 d6 T0 X0 o7 [.ptr (.b 0) 0 0] r.heap=(r.next.semi (some (Sm.skip r.tok.pos))).out osO:=by
 have s0:=r9 h;have s1:=B3 h;rw[hn] at s1;have l1:=(lys r).1;have a0:=n7 h [115,107,105,112] (by simp);rw[y_skip,if_pos rfl] at a0;rw[c9 (af:=d9) rfl rfl rfl];have h1:=Rd.next_ok h;have l2:=(lys r.next).1.trans l1;unfold Rd.semi
 by_cases c:r.next.isT [59]=true
 ·rw[if_pos c];have n1:=X9 h1 (by simp) c;cases hly:r.ly
  all_goals
   simp only[Rd.heap,hly,l1,l2,Rz.bind,Rz.out,osO,Sm.d,Tok.cs,Pl.cs] at s0 s1 a0 n1 ⊢;generalize r.tok=t0 at *;simp (maxSteps:=2000000) -implicitDefEqProofs (disch:=omega) [d9,s0,s1,a0,n1]
 ·rw[if_neg c];have n1:=S0 h1 (s:=[59]) (by simp) (by simpa using c);cases hly:r.ly
  all_goals
   simp only[Rd.heap,hly,l1,Rz.bind,Rz.out,osO,Sm.d,Tok.cs,Pl.cs,i9] at s0 s1 a0 n1 ⊢;generalize r.next.tok=t0 at *;generalize r.tok=t1 at *;simp (maxSteps:=2000000) -implicitDefEqProofs (disch:=omega) [d9,s0,s1,a0,n1]
theorem qwi {r:Rd} (h:r.ok) (hn:r.isName=false) (n_skip:r.isT [115,107,105,112]=false) (y_stop:r.isT [115,116,111,112]=true) :
 d6 T0 X0 o7 [.ptr (.b 0) 0 0] r.heap=(r.next.semi (some (Sm.stop r.tok.pos))).out osO:=by
 have s0:=r9 h;have s1:=B3 h;rw[hn] at s1;have l1:=(lys r).1;have a0:=n7 h [115,107,105,112] (by simp);rw[n_skip,if_neg (by simp)] at a0;have a1:=n7 h [115,116,111,112] (by simp);rw[y_stop,if_pos rfl] at a1;rw[c9 (af:=d9) rfl rfl rfl];have h1:=Rd.next_ok h;have l2:=(lys r.next).1.trans l1;unfold Rd.semi
 by_cases c:r.next.isT [59]=true
 ·rw[if_pos c];have n1:=X9 h1 (by simp) c;cases hly:r.ly
  all_goals
   simp only[Rd.heap,hly,l1,l2,Rz.bind,Rz.out,osO,Sm.d,Tok.cs,Pl.cs] at s0 s1 a0 a1 n1 ⊢;generalize r.tok=t0 at *;simp (maxSteps:=2000000) -implicitDefEqProofs (disch:=omega) [d9,s0,s1,a0,a1,n1]
 ·rw[if_neg c];have n1:=S0 h1 (s:=[59]) (by simp) (by simpa using c);cases hly:r.ly
  all_goals
   simp only[Rd.heap,hly,l1,Rz.bind,Rz.out,osO,Sm.d,Tok.cs,Pl.cs,i9] at s0 s1 a0 a1 n1 ⊢;generalize r.next.tok=t0 at *;generalize r.tok=t1 at *;simp (maxSteps:=2000000) -implicitDefEqProofs (disch:=omega) [d9,s0,s1,a0,a1,n1]
theorem qwm {r:Rd} (h:r.ok) (hn:r.isName=false) (n_skip:r.isT [115,107,105,112]=false) (n_stop:r.isT [115,116,111,112]=false) (y_mark:r.isT [109,97,114,107]=true) {B:Rz Sm} (s5:d6 T0 X0 wQ [.ptr (.b 0) 0 0,.d (.agg r.tok.pos.cs)] r.next.heap=B.out smO) (e5:B.st.ly=r.ly) :
 d6 T0 X0 o7 [.ptr (.b 0) 0 0] r.heap=(B.bind fun s r1=>(.ok (some s) r1:Rz (Option Sm))).out osO:=by
 have s0:=r9 h;have s1:=B3 h;rw[hn] at s1;have l1:=(lys r).1;have a0:=n7 h [115,107,105,112] (by simp);rw[n_skip,if_neg (by simp)] at a0;have a1:=n7 h [115,116,111,112] (by simp);rw[n_stop,if_neg (by simp)] at a1;have a2:=n7 h [109,97,114,107] (by simp);rw[y_mark,if_pos rfl] at a2;rw[c9 (af:=d9) rfl rfl rfl];rcases B with ⟨s,r1⟩ | ⟨e,p,r1⟩
 all_goals
  have e0:r1.ly=r.ly:=e5;clear e5;cases hly:r.ly
  all_goals
   simp only[Rd.heap,hly,l1,e0,Rz.bind,Rz.out,osO,Sm.d,Tok.cs,Pl.cs,smO,i9] at s0 s1 a0 a1 a2 s5 ⊢;generalize r.tok=t0 at *;simp (maxSteps:=2000000) -implicitDefEqProofs (disch:=omega) [d9,s0,s1,a0,a1,a2,s5]
theorem qwn {r:Rd} (h:r.ok) (hn:r.isName=false) (n_skip:r.isT [115,107,105,112]=false) (n_stop:r.isT [115,116,111,112]=false) (n_mark:r.isT [109,97,114,107]=false) (n_choose:r.isT [99,104,111,111,115,101]=false) (y_loop:r.isT [108,111,111,112]=true) {B:Rz (List Sm)} (s5:d6 T0 X0 B9 [.ptr (.b 0) 0 0] r.next.heap=B.out lsO) (e5:B.st.ly=r.ly) :
 d6 T0 X0 o7 [.ptr (.b 0) 0 0] r.heap=(B.bind fun l r1=>(.ok (some (.loop r.tok.pos l)) r1:Rz (Option Sm))).out osO:=by
 have s0:=r9 h;have s1:=B3 h;rw[hn] at s1;have l1:=(lys r).1;have a0:=n7 h [115,107,105,112] (by simp);rw[n_skip,if_neg (by simp)] at a0;have a1:=n7 h [115,116,111,112] (by simp);rw[n_stop,if_neg (by simp)] at a1;have a2:=n7 h [109,97,114,107] (by simp);rw[n_mark,if_neg (by simp)] at a2;have a3:=n7 h [99,104,111,111,115,101] (by simp);rw[n_choose,if_neg (by simp)] at a3;have a4:=n7 h [108,111,111,112] (by simp);rw[y_loop,if_pos rfl] at a4;rw[c9 (af:=d9) rfl rfl rfl];rcases B with ⟨l,r1⟩ | ⟨e,p,r1⟩
 all_goals
  have e0:r1.ly=r.ly:=e5;clear e5;cases hly:r.ly
  all_goals
   simp only[Rd.heap,hly,l1,e0,Rz.bind,Rz.out,osO,Sm.d,Tok.cs,Pl.cs,lsO,Sms.d_LD,i9] at s0 s1 a0 a1 a2 a3 a4 s5 ⊢;generalize r.tok=t0 at *;simp (maxSteps:=2000000) -implicitDefEqProofs (disch:=omega) [d9,s0,s1,a0,a1,a2,a3,a4,s5]
theorem qtk {r:Rd} (h:r.ok) (hn:r.isName=false) (n_skip:r.isT [115,107,105,112]=false) (n_stop:r.isT [115,116,111,112]=false) (n_mark:r.isT [109,97,114,107]=false) (n_choose:r.isT [99,104,111,111,115,101]=false) (n_loop:r.isT [108,111,111,112]=false) (n_if:r.isT [105,102]=false) (y_while:r.isT [119,104,105,108,101]=true) {C:Rz (Nd × Nd × Bool)} (s5:d6 T0 X0 W0 [.ptr (.b 0) 0 0] r.next.heap=C.out cDs) (e5:C.st.ly=r.ly)
 {B:Rd→Rz (List Sm)} (s6:∀ c r1,C = .ok c r1→d6 T0 X0 B9 [.ptr (.b 0) 0 0] r1.heap=(B r1).out lsO∧(B r1).st.ly=r.ly) :
 d6 T0 X0 o7 [.ptr (.b 0) 0 0] r.heap=(C.bind fun c r1=>(B r1).bind fun l r2=>(.ok (some (.while r.tok.pos c.1 c.2.1 c.2.2 l)) r2:Rz (Option Sm))).out osO:=by
 have s0:=r9 h;have s1:=B3 h;rw[hn] at s1;have l1:=(lys r).1;have a0:=n7 h [115,107,105,112] (by simp);rw[n_skip,if_neg (by simp)] at a0;have a1:=n7 h [115,116,111,112] (by simp);rw[n_stop,if_neg (by simp)] at a1;have a2:=n7 h [109,97,114,107] (by simp);rw[n_mark,if_neg (by simp)] at a2;have a3:=n7 h [99,104,111,111,115,101] (by simp);rw[n_choose,if_neg (by simp)] at a3;have a4:=n7 h [108,111,111,112] (by simp);rw[n_loop,if_neg (by simp)] at a4;have a5:=n7 h [105,102] (by simp);rw[n_if,if_neg (by simp)] at a5;have a6:=n7 h [119,104,105,108,101] (by simp);rw[y_while,if_pos rfl] at a6;rw[c9 (af:=d9) rfl rfl rfl];rcases C with ⟨c,r1⟩ | ⟨e,p,r1⟩
 all_goals
  have e0:r1.ly=r.ly:=e5;clear e5
 case bad=>
  cases hly:r.ly
  all_goals
   simp only[Rd.heap,hly,l1,e0,Rz.bind,Rz.out,osO,Sm.d,Tok.cs,Pl.cs,i9] at s0 s1 a0 a1 a2 a3 a4 a5 a6 s5 ⊢;generalize r.tok=t0 at *;simp (maxSteps:=2000000) -implicitDefEqProofs (disch:=omega) [d9,s0,s1,a0,a1,a2,a3,a4,a5,a6,s5]
 obtain ⟨s7,e7⟩:=s6 c r1 rfl;clear s6;simp only[Rz.bind];generalize B r1=D at s7 e7 ⊢;rcases D with ⟨l,r2⟩ | ⟨e,p,r2⟩
 all_goals
  have e8:r2.ly=r.ly:=e7;clear e7;cases hly:r.ly
  all_goals
   simp only[Rd.heap,hly,l1,e0,e8,Rz.bind,Rz.out,osO,Sm.d,Tok.cs,Pl.cs,cDs,cD,lsO,Sms.d_LD,i9] at s0 s1 a0 a1 a2 a3 a4 a5 a6 s5 s7 ⊢;generalize r.tok=t0 at *;simp (maxSteps:=2000000) -implicitDefEqProofs (disch:=omega) [d9,s0,s1,a0,a1,a2,a3,a4,a5,a6,s5,s7]
theorem q6s {r:Rd} (h:r.ok) (hn:r.isName=false) (n_skip:r.isT [115,107,105,112]=false) (n_stop:r.isT [115,116,111,112]=false) (n_mark:r.isT [109,97,114,107]=false) (n_choose:r.isT [99,104,111,111,115,101]=false) (n_loop:r.isT [108,111,111,112]=false) (y_if:r.isT [105,102]=true) {C:Rz (Nd × Nd × Bool)} (s5:d6 T0 X0 W0 [.ptr (.b 0) 0 0] r.next.heap=C.out cDs) (e5:C.st.ly=r.ly)
 {B:Rd→Rz (List Sm)} (s6:∀ c r1,C = .ok c r1→d6 T0 X0 B9 [.ptr (.b 0) 0 0] r1.heap=(B r1).out lsO∧(B r1).st.ly=r.ly ∧ ∀ l r2,B r1 = .ok l r2→r2.ok ∧
  (r2.isT [101,108,115,101]=true→d6 T0 X0 B9 [.ptr (.b 0) 0 0] r2.next.heap=(B r2.next).out lsO∧(B r2.next).st.ly=r.ly)) :
 d6 T0 X0 o7 [.ptr (.b 0) 0 0] r.heap=(C.bind fun c r1=>(B r1).bind fun l r2=>if r2.isT [101,108,115,101]=true then (B r2.next).bind fun e r3=>(.ok (some (.ife r.tok.pos c.1 c.2.1 c.2.2 l r2.tok.pos e)) r3:Rz (Option Sm)) else .ok (some (.ifs r.tok.pos c.1 c.2.1 c.2.2 l)) r2).out osO:=by
 have s0:=r9 h;have s1:=B3 h;rw[hn] at s1;have l1:=(lys r).1;have a0:=n7 h [115,107,105,112] (by simp);rw[n_skip,if_neg (by simp)] at a0;have a1:=n7 h [115,116,111,112] (by simp);rw[n_stop,if_neg (by simp)] at a1;have a2:=n7 h [109,97,114,107] (by simp);rw[n_mark,if_neg (by simp)] at a2;have a3:=n7 h [99,104,111,111,115,101] (by simp);rw[n_choose,if_neg (by simp)] at a3;have a4:=n7 h [108,111,111,112] (by simp);rw[n_loop,if_neg (by simp)] at a4;have a5:=n7 h [105,102] (by simp);rw[y_if,if_pos rfl] at a5;rw[c9 (af:=d9) rfl rfl rfl];rcases C with ⟨c,r1⟩ | ⟨e,p,r1⟩
 all_goals
  have e0:r1.ly=r.ly:=e5;clear e5
 case bad=>
  cases hly:r.ly
  all_goals
   simp only[Rd.heap,hly,l1,e0,Rz.bind,Rz.out,osO,Sm.d,Tok.cs,Pl.cs,i9] at s0 s1 a0 a1 a2 a3 a4 a5 s5 ⊢;generalize r.tok=t0 at *;simp (maxSteps:=2000000) -implicitDefEqProofs (disch:=omega) [d9,s0,s1,a0,a1,a2,a3,a4,a5,s5]
 obtain ⟨s7,e7,s8⟩:=s6 c r1 rfl;clear s6;simp only[Rz.bind];rcases hB:B r1 with ⟨l,r2⟩ | ⟨e,p,r2⟩
 all_goals
  rw[hB] at s7 e7;have e8:r2.ly=r.ly:=e7;clear e7
 case bad=>
  clear s8;cases hly:r.ly
  all_goals
   simp only[Rd.heap,hly,l1,e0,e8,Rz.bind,Rz.out,osO,Sm.d,Tok.cs,Pl.cs,cDs,cD,i9] at s0 s1 a0 a1 a2 a3 a4 a5 s5 s7 ⊢;generalize r.tok=t0 at *;simp (maxSteps:=2000000) -implicitDefEqProofs (disch:=omega) [d9,s0,s1,a0,a1,a2,a3,a4,a5,s5,s7]
 obtain ⟨k2,s9⟩:=s8 l r2 hB;clear s8 hB;have s10:=r9 k2;have b1:=n7 k2 [101,108,115,101] (by simp);have l2:=(lys r2).1.trans e8;simp only[]
 by_cases c5:r2.isT [101,108,115,101]=true
 ·rw[if_pos c5];rw[c5,if_pos rfl] at b1;obtain ⟨s11,e11⟩:=s9 c5;clear s9;generalize B r2.next=D at s11 e11 ⊢;rcases D with ⟨l',r3⟩ | ⟨e,p,r3⟩
  all_goals
   have e12:r3.ly=r.ly:=e11;clear e11;cases hly:r.ly
   all_goals
    simp only[Rd.heap,hly,l1,l2,e0,e8,e12,Rz.bind,Rz.out,osO,Sm.d,Tok.cs,Pl.cs,cDs,cD,lsO,Sms.d_LD,i9] at s0 s1 a0 a1 a2 a3 a4 a5 s5 s7 s10 s11 b1 ⊢;generalize r2.tok=t0 at *;generalize r.tok=t1 at *;simp (maxSteps:=2000000) -implicitDefEqProofs (disch:=omega) [d9,s0,s1,a0,a1,a2,a3,a4,a5,s5,s7,s10,s11,b1]
 ·rw[if_neg c5];rw[show r2.isT [101,108,115,101]=false by simpa using c5,if_neg (by simp)] at b1;clear s9;cases hly:r.ly
  all_goals
   simp only[Rd.heap,hly,l1,l2,e0,e8,Rz.bind,Rz.out,osO,Sm.d,Tok.cs,Pl.cs,cDs,cD,lsO,Sms.d_LD] at s0 s1 a0 a1 a2 a3 a4 a5 s5 s7 s10 b1 ⊢;generalize r2.tok=t0 at *;generalize r.tok=t1 at *;simp (maxSteps:=2000000) -implicitDefEqProofs (disch:=omega) [d9,s0,s1,a0,a1,a2,a3,a4,a5,s5,s7,s10,b1]
def qb6 (k:Nat) (r:Rd) (p q:Pl) (acc:List Bl):St:=⟨[(0,.ptr (.b 0) 0 0),(5,.ptr (.b k) 0 0),(6,.ptr (.b (k + 1)) 0 0)],r.heap++[.arr [.agg [.d (.int .i64 p.b),.d (.int .i64 p.g),.d (.int .i64 p.l),.d (.int .i64 p.c),.ref (.b (k + 2)) ⟨5,56⟩ 0 acc.length]] ⟨5,0⟩,.arr [.d (.agg q.cs)] ⟨4,0⟩,.arr (LW blL acc) ⟨5,56⟩]⟩
def Zi (k:Nat) (p:Pl) (acc:List Bl):Rz (List Bl)→Option (Ex × St)
 | .ok bs r=>some (.exit 1,⟨[(5,.ptr (.b k) 0 0)],r.heap++[.arr [.agg [.d (.int .i64 p.b),.d (.int .i64 p.g),.d (.int .i64 p.l),.d (.int .i64 p.c),.ref (.b (k + 1)) ⟨5,56⟩ 0 (acc++bs).length]] ⟨5,0⟩,.arr (LW blL (acc++bs)) ⟨5,56⟩]⟩)
 | .bad e p r=>some (.pan (.d (i9 e p)),⟨[],r.heap⟩)
theorem qhj (p:Pl) (l):[V.d (.agg [.int .i64 p.b,.int .i64 p.g,.int .i64 p.l,.int .i64 p.c,.sl (LD smL l)])]=LW blL [.mk p l]:=by
 show _=[V.d (Bl.d (.mk p l))];simp only[Bl.d,Sms.d_LD]
theorem qok {r:Rd} (h:r.ok) (hn:r.isName=false) (n_skip:r.isT [115,107,105,112]=false) (n_stop:r.isT [115,116,111,112]=false) (n_mark:r.isT [109,97,114,107]=false) (y_choose:r.isT [99,104,111,111,115,101]=true) {B:Rz (List Sm)} (s5:d6 T0 X0 B9 [.ptr (.b 0) 0 0] r.next.heap=B.out lsO) (e5:B.st.ly=r.ly)
 {O:Rd→Rz (List Bl)} (s6:∀ l r1,B = .ok l r1→r1.ok∧(O r1).st.ly=r.ly∧j6 T0 X0 r.heap.length v7 (some (.nrm,qb6 r.heap.length r1 r.tok.pos r1.tok.pos [.mk r.tok.pos l]))=Zi r.heap.length r.tok.pos [.mk r.tok.pos l] (O r1)) :
 d6 T0 X0 o7 [.ptr (.b 0) 0 0] r.heap=(B.bind fun l r1=>(O r1).bind fun bs r2=>(.ok (some (.choose r.tok.pos (.mk r.tok.pos l :: bs))) r2:Rz (Option Sm))).out osO:=by
 have s0:=r9 h;have s1:=B3 h;rw[hn] at s1;have l1:=(lys r).1;have a0:=n7 h [115,107,105,112] (by simp);rw[n_skip,if_neg (by simp)] at a0;have a1:=n7 h [115,116,111,112] (by simp);rw[n_stop,if_neg (by simp)] at a1;have a2:=n7 h [109,97,114,107] (by simp);rw[n_mark,if_neg (by simp)] at a2;have a3:=n7 h [99,104,111,111,115,101] (by simp);rw[y_choose,if_pos rfl] at a3;rw[c9 (af:=d9) rfl rfl rfl];rcases B with ⟨l,r1⟩ | ⟨e,p,r1⟩
 all_goals
  have e0:r1.ly=r.ly:=e5;clear e5
 case bad=>
  cases hly:r.ly
  all_goals
   simp only[Rd.heap,hly,l1,e0,Rz.bind,Rz.out,osO,Sm.d,Tok.cs,Pl.cs,i9] at s0 s1 a0 a1 a2 a3 s5 ⊢;generalize r.tok=t0 at *;simp (maxSteps:=2000000) -implicitDefEqProofs (disch:=omega) [d9,s0,s1,a0,a1,a2,a3,s5,kZ,O2]
 obtain ⟨k1,e6,s7⟩:=s6 l r1 rfl;clear s6;have s8:=r9 k1;simp only[Rz.bind];generalize O r1=D at s7 e6 ⊢
 have hone:∀ bs,LW blL ([.mk r.tok.pos l]++bs)=LW blL (.mk r.tok.pos l :: bs):=fun _=>rfl
 rcases D with ⟨bs,r2⟩ | ⟨e,p,r2⟩
 all_goals
  have e7:r2.ly=r.ly:=e6;clear e6;cases hly:r.ly
  all_goals
   simp only[Rd.heap,hly,l1,e0,e7,Rz.bind,Rz.out,osO,Sm.d,Tok.cs,Pl.cs,lsO,Bls.d_LD,i9,qb6,Zi,hone,← qhj,List.length_cons,List.length_nil,List.length_append,List.cons_append,List.nil_append,Nat.reduceAdd] at s0 s1 a0 a1 a2 a3 s5 s7 s8 ⊢;generalize r1.tok=t0 at *;generalize r.tok=t1 at *;simp (maxSteps:=2000000) -implicitDefEqProofs (disch:=omega) [d9,s0,s1,a0,a1,a2,a3,s5,s7,s8,kZ,O2]
theorem qwl {r:Rd} (h:r.ok) (hn:r.isName=false) (n_skip:r.isT [115,107,105,112]=false) (n_stop:r.isT [115,116,111,112]=false) (n_mark:r.isT [109,97,114,107]=false) (n_choose:r.isT [99,104,111,111,115,101]=false) (n_loop:r.isT [108,111,111,112]=false) (n_if:r.isT [105,102]=false) (n_while:r.isT [119,104,105,108,101]=false) :
 d6 T0 X0 o7 [.ptr (.b 0) 0 0] r.heap=some (.ret (osO none) r.heap):=by
 have s0:=r9 h;have s1:=B3 h;rw[hn] at s1;have l1:=(lys r).1;have a0:=n7 h [115,107,105,112] (by simp);rw[n_skip,if_neg (by simp)] at a0;have a1:=n7 h [115,116,111,112] (by simp);rw[n_stop,if_neg (by simp)] at a1;have a2:=n7 h [109,97,114,107] (by simp);rw[n_mark,if_neg (by simp)] at a2;have a3:=n7 h [99,104,111,111,115,101] (by simp);rw[n_choose,if_neg (by simp)] at a3;have a4:=n7 h [108,111,111,112] (by simp);rw[n_loop,if_neg (by simp)] at a4;have a5:=n7 h [105,102] (by simp);rw[n_if,if_neg (by simp)] at a5;have a6:=n7 h [119,104,105,108,101] (by simp);rw[n_while,if_neg (by simp)] at a6;rw[c9 (af:=d9) rfl rfl rfl];cases hly:r.ly
 all_goals
  simp only[Rd.heap,hly,l1,Rz.bind,Rz.out,osO,Sm.d,Tok.cs,Pl.cs] at s0 s1 a0 a1 a2 a3 a4 a5 a6 ⊢;generalize r.tok=t0 at *;simp (maxSteps:=2000000) -implicitDefEqProofs (disch:=omega) [d9,s0,s1,a0,a1,a2,a3,a4,a5,a6]
end Go.Rf
