/- Parts of the proof. -/
import Derived.Test.YtpaeaccmddffjaaGreatDoorRb2
import Derived.Test.YtpaeaccmddffjaaGreatDoorSp16
set_option linter.all false
namespace Go.Rf
set_option maxHeartbeats 32000000
def IfC (n:Nat) (p pe:Pl) (x y:Nd) (q:Bool) (b e:List Sm) (P E M P2 E2 M2:Bool):Prop:=∀ (g gp g1 rp g2 gq g3 g4:Gb) (r r2:Gb × Int) (a:Int),b.length≤1000000→e.length≤1000000→g.out.length≤1000000→r.1.out.length≤1000000→r2.1.out.length≤1000000→
 d6 T0 X0 J3 [.ptr (.b 0) 0 0] (GH g false false false)=some (.ret [.d (.int .i64 g.out.length)] (GH gp true false false))→
 d6 T0 X0 qB [.ptr (.b 0) 0 0,.d (.int .i64 a),.d (.int .i64 g.out.length),.d (cD x y q),.d (.bool true),.d (Sm.ife p x y q b pe e).d] (GH gp false false false)=some (.ret [] (GH g1 false true false))→
 d6 T0 X0 zu [.ptr (.b 0) 0 0,.d (.sl (LD smL b)),.d (.int .i64 g.out.length)] (GH g1 false false false)=some (.ret [.d (.int .i64 r.2)] (GH r.1 P E M))→
 d6 T0 X0 J3 [.ptr (.b 0) 0 0] (GH r.1 false false false)=some (.ret [.d (.int .i64 r.1.out.length)] (GH rp true false false))→
 d6 T0 X0 qB [.ptr (.b 0) 0 0,.d (.int .i64 a),.d (.int .i64 r.1.out.length),.d (cD x y q),.d (.bool false),.d (Sm.ife p x y q b pe e).d] (GH rp false false false)=some (.ret [] (GH g2 false true false))→
 d6 T0 X0 zu [.ptr (.b 0) 0 0,.d (.sl (LD smL e)),.d (.int .i64 r.1.out.length)] (GH g2 false false false)=some (.ret [.d (.int .i64 r2.2)] (GH r2.1 P2 E2 M2))→
 d6 T0 X0 J3 [.ptr (.b 0) 0 0] (GH r2.1 false false false)=some (.ret [.d (.int .i64 r2.1.out.length)] (GH gq true false false))→
 d6 T0 X0 Y5 [.ptr (.b 0) 0 0,.d (.int .i64 r.2),.d (.int .i64 r2.1.out.length),.d (.int .i64 1),.d (Sm.ife p x y q b pe e).d] (GH gq false false false)=some (.ret [] (GH g3 false true false))→
 d6 T0 X0 Y5 [.ptr (.b 0) 0 0,.d (.int .i64 r2.2),.d (.int .i64 r2.1.out.length),.d (.int .i64 1),.d (Sm.ife p x y q b pe e).d] (GH g3 false false false)=some (.ret [] (GH g4 false true false))→
 d6 T0 X0 w9 [.ptr (.b 0) 0 0,.d (Sm.ife p x y q b pe e).d,.d (.int .i64 a)] (GH g false false false)=some (.ret [.d (.int .i64 r2.1.out.length)] (GH g4 true true (M || M2)))
theorem ifd (p x y q b pe e):(Sm.ife p x y q b pe e).d = .iface T3 (.agg [.int .i64 p.b,.int .i64 p.g,.int .i64 p.l,.int .i64 p.c,x.d,y.d,.bool q,.sl (LD smL b),.box (.agg [.int .i64 pe.b,.int .i64 pe.g,.int .i64 pe.l,.int .i64 pe.c,.sl (LD smL e)])]):=by simp only[Sm.d,Sms.d_LD]
end Go.Rf
