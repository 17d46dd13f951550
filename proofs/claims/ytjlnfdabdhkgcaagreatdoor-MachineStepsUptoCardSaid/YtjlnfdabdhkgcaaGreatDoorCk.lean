/- The digests stand for the functions. -/
import Derived.Test.YtjlnfdabdhkgcaaGreatDoorRg9
import Derived.Test.YtjlnfdabdhkgcaaGreatDoorRg8
import Derived.Test.YtjlnfdabdhkgcaaGreatDoorSp3
import Derived.Test.YtjlnfdabdhkgcaaGreatDoorProg

set_option linter.unusedSimpArgs false
set_option linter.unusedVariables false
set_option linter.unnecessarySimpa false
set_option linter.unusedSectionVars false
set_option linter.all false
namespace Go.Rf
set_option maxHeartbeats 8000000
noncomputable def ZA (f:Nat):Bool:=match T0.funs f with | some a=>qg7 Go.Proofs.Tryz.prog f a | none=>true
theorem zhz:(List.range' 0 20).all ZA=true:=by decide +kernel
theorem zhy:(List.range' 20 20).all ZA=true:=by decide +kernel
theorem zhx:(List.range' 40 20).all ZA=true:=by decide +kernel
theorem zhw:(List.range' 60 20).all ZA=true:=by decide +kernel
theorem zhv:(List.range' 80 20).all ZA=true:=by decide +kernel
theorem zhu:(List.range' 100 20).all ZA=true:=by decide +kernel
theorem zht:(List.range' 120 20).all ZA=true:=by decide +kernel
theorem zhs:(List.range' 140 20).all ZA=true:=by decide +kernel
theorem zhr:(List.range' 160 20).all ZA=true:=by decide +kernel
theorem zhq:(List.range' 180 20).all ZA=true:=by decide +kernel
theorem q7y:(List.range' 200 20).all ZA=true:=by decide +kernel
theorem q7x:(List.range' 220 20).all ZA=true:=by decide +kernel
theorem q7w:(List.range' 240 20).all ZA=true:=by decide +kernel
theorem q7v:(List.range' 260 20).all ZA=true:=by decide +kernel
theorem q7u:(List.range' 280 20).all ZA=true:=by decide +kernel
theorem q7t:(List.range' 300 20).all ZA=true:=by decide +kernel
theorem q7s:(List.range' 320 20).all ZA=true:=by decide +kernel
set_option maxRecDepth 100000 in
theorem zh0:(List.range' 0 340).all ZA=true:=by
 rw[show List.range' 0 340=List.range' 0 20++(List.range' 20 20++(List.range' 40 20++(List.range' 60 20++(List.range' 80 20++(List.range' 100 20++(List.range' 120 20++(List.range' 140 20++(List.range' 160 20++(List.range' 180 20++(List.range' 200 20++(List.range' 220 20++(List.range' 240 20++(List.range' 260 20++(List.range' 280 20++(List.range' 300 20++(List.range' 320 20)))))))))))))))) from by decide];simp only[List.all_append,zhz,zhy,zhx,zhw,zhv,zhu,zht,zhs,zhr,zhq,q7y,q7x,q7w,q7v,q7u,q7t,q7s,Bool.and_self]
theorem qt9:∀ f af,T0.funs f=some af→qg7 Go.Proofs.Tryz.prog f af=true:=by
 intro f af h
 by_cases hf:f < 330
 ·have k:ZA f=true:=List.all_eq_true.1 zh0 f (List.mem_range'_1.2 ⟨Nat.zero_le _,Nat.lt_of_lt_of_le (m:=330) hf (by decide)⟩);unfold ZA at k;rw[h] at k;exact k
 ·have:T0.funs f=none:=if_pos (Nat.not_lt.1 hf);rw[this] at h;cases h
theorem qfw:Yv Go.Proofs.Tryz.prog 71 R0=true:=by decide +kernel
set_option maxRecDepth 20000 in
theorem qua:∀ f r,T0.recs f=some r→Yv Go.Proofs.Tryz.prog f r=true:=by
 intro f r h;unfold T0 at h;dsimp only at h;split at h
 ·cases h; exact qfw
 ·cases h
end Go.Rf
