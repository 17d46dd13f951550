/- The digests stand for the functions. -/
import Derived.Test.YtjlnfdabdhkgcaaGreatDoorRg9
import Derived.Test.YtjlnfdabdhkgcaaGreatDoorRg8
import Derived.Test.YtjlnfdabdhkgcaaGreatDoorSp3
import Derived.Test.YtjlnfdabdhkgcaaGreatDoorProg

set_option linter.unusedSimpArgs false
set_option linter.unusedVariables false
set_option linter.unnecessarySimpa false
set_option linter.unusedSectionVars false
set_option linter.all false
namespace Go.Rf
set_option maxHeartbeats 8000000
noncomputable def QP (f:Nat):Bool:=match T0.funs f with | some a=>qfy Go.Proofs.Tryz.prog f a | none=>true
theorem zir:(List.range' 0 20).all QP=true:=by decide +kernel
theorem ziq:(List.range' 20 20).all QP=true:=by decide +kernel
theorem zio:(List.range' 40 20).all QP=true:=by decide +kernel
theorem zin:(List.range' 60 20).all QP=true:=by decide +kernel
theorem zim:(List.range' 80 20).all QP=true:=by decide +kernel
theorem zil:(List.range' 100 20).all QP=true:=by decide +kernel
theorem zik:(List.range' 120 20).all QP=true:=by decide +kernel
theorem zij:(List.range' 140 20).all QP=true:=by decide +kernel
theorem zii:(List.range' 160 20).all QP=true:=by decide +kernel
theorem zih:(List.range' 180 20).all QP=true:=by decide +kernel
theorem q66:(List.range' 200 20).all QP=true:=by decide +kernel
theorem q65:(List.range' 220 20).all QP=true:=by decide +kernel
theorem q64:(List.range' 240 20).all QP=true:=by decide +kernel
theorem q63:(List.range' 260 20).all QP=true:=by decide +kernel
theorem q62:(List.range' 280 20).all QP=true:=by decide +kernel
theorem q61:(List.range' 300 20).all QP=true:=by decide +kernel
theorem q60:(List.range' 320 20).all QP=true:=by decide +kernel
set_option maxRecDepth 100000 in
theorem zis:(List.range' 0 340).all QP=true:=by
 rw[show List.range' 0 340=List.range' 0 20++(List.range' 20 20++(List.range' 40 20++(List.range' 60 20++(List.range' 80 20++(List.range' 100 20++(List.range' 120 20++(List.range' 140 20++(List.range' 160 20++(List.range' 180 20++(List.range' 200 20++(List.range' 220 20++(List.range' 240 20++(List.range' 260 20++(List.range' 280 20++(List.range' 300 20++(List.range' 320 20)))))))))))))))) from by decide];simp only[List.all_append,zir,ziq,zio,zin,zim,zil,zik,zij,zii,zih,q66,q65,q64,q63,q62,q61,q60,Bool.and_self]
theorem okT0:∀ f af,T0.funs f=some af→qfy Go.Proofs.Tryz.prog f af=true:=by
 intro f af h
 by_cases hf:f < 330
 ·have k:QP f=true:=List.all_eq_true.1 zis f (List.mem_range'_1.2 ⟨Nat.zero_le _,Nat.lt_of_lt_of_le (m:=330) hf (by decide)⟩);unfold QP at k;rw[h] at k;exact k
 ·have:T0.funs f=none:=if_pos (Nat.not_lt.1 hf);rw[this] at h;cases h
theorem qem:Kx Go.Proofs.Tryz.prog 71 P3=true:=by decide +kernel
set_option maxRecDepth 20000 in
theorem okR0:∀ f r,T0.recs f=some r→Kx Go.Proofs.Tryz.prog f r=true:=by
 intro f r h;unfold T0 at h;dsimp only at h;split at h
 ·cases h; exact qem
 ·cases h
end Go.Rf
