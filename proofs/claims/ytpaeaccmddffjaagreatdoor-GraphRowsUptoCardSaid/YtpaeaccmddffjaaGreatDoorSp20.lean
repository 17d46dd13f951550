/- Parts of the proof. -/
import Derived.Test.YtpaeaccmddffjaaGreatDoorRb2
import Derived.Test.YtpaeaccmddffjaaGreatDoorSp19
set_option linter.all false
namespace Go.Rf
set_option maxHeartbeats 32000000
theorem q2e (n:Nat) (p pe:Pl) (x y:Nd) (q:Bool) (b e:List Sm) (P2 E2 M2:Bool) (hc:E2=true→P2=true):IfC n p pe x y q b e false false false P2 E2 M2:=by
 intro g gp g1 rp g2 gq g3 g4 r r2 a hlb hle h1 h2 h3 s1 s2 s3 s4 s5 s9 s6 s7 s8;rw[c9 (af:=j0) rfl rfl rfl];simp only[ifd,cD] at s2 s5 s7 s8 ⊢
 cases P2 <;> cases E2 <;> (try (exfalso; simp at hc; done)) <;> cases M2
 all_goals
  simp only[GH,j3,j7,List.cons_append,List.nil_append,List.append_nil,Bool.or_true,Bool.or_false,Bool.true_or,Bool.false_or,Bool.or_self] at s1 s2 s3 s4 s5 s6 s7 s8 s9 ⊢;simp (maxSteps:=4000000) -implicitDefEqProofs (disch:=omega) [j0,s1,s2,s3,s4,s5,s6,s7,s8,s9]
theorem q2d (n:Nat) (p pe:Pl) (x y:Nd) (q:Bool) (b e:List Sm) (P2 E2 M2:Bool) (hc:E2=true→P2=true):IfC n p pe x y q b e false false true P2 E2 M2:=by
 intro g gp g1 rp g2 gq g3 g4 r r2 a hlb hle h1 h2 h3 s1 s2 s3 s4 s5 s9 s6 s7 s8;rw[c9 (af:=j0) rfl rfl rfl];simp only[ifd,cD] at s2 s5 s7 s8 ⊢
 cases P2 <;> cases E2 <;> (try (exfalso; simp at hc; done)) <;> cases M2
 all_goals
  simp only[GH,j3,j7,List.cons_append,List.nil_append,List.append_nil,Bool.or_true,Bool.or_false,Bool.true_or,Bool.false_or,Bool.or_self] at s1 s2 s3 s4 s5 s6 s7 s8 s9 ⊢;simp (maxSteps:=4000000) -implicitDefEqProofs (disch:=omega) [j0,s1,s2,s3,s4,s5,s6,s7,s8,s9]
end Go.Rf
